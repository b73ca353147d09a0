/-
  P43.4: the walk of LemmaTexts.
-/
import Derived.Test.YtmbehkanhefcpaaGreatDoorLParse
namespace Go.Proofs.YtmbehkanhefcpaaGreatDoor
open Go.RowKit

theorem printT_len (f l : ByteArray) (n : Int) : (printT f l n).size = f.size + ((if l.size = 0 then 0 else 3 + l.size) + (if n = 0 then 0 else 1 + (itoaB n).size)) := by
  have h := congrArg List.length (printT_data f l n)
  rw [ba_len, List.length_append, List.length_append, ba_len] at h
  rw [h]
  congr 2
  · split
    · rfl
    · rw [List.length_append, ba_len]; rfl
  · split
    · rfl
    · rw [List.length_cons, ba_len]; omega
theorem itoaB_small {n : Int} (h0 : 0 ≤ n) (h1 : n ≤ 65536) : (itoaB n).size ≤ 9 := by
  rw [← ba_len, itoaB_data h0, Lib.decDigits_length]
  exact nDigits_9 _ (by omega)

set_option maxRecDepth 100000 in
set_option maxHeartbeats 1000000 in
theorem printE_any (f l : ByteArray) (n : Int) (w : World) (he : Env w) (hf : f.size ≤ 65536) (hl : l.size ≤ 65536) (hck : lemCk f l n ≠ 0) :
    Calls Tryz.prog 6 #[.agg #[.string f, .string l, .int .i64 n]] w fun e w' => e = .returned (.tuple #[.string ⟨#[]⟩, .int .i64 (lemCk f l n)]) ∧ Below w.heap.size w w' := by
  have hb0 := below_al w (.cells #[.string f, .string l, .int .i64 n] 23)
  have HC := hid (lck_any f l n (w.alloc (.cells #[.string f, .string l, .int .i64 n] 23)) (he.below hb0) hf hl)
  have hcb : (lemCk f l n == 0) = false := beq_eq_false_iff_ne.2 hck
  generalize lemCk f l n = ck at *
  go_enter Tryz.func6, Tryz.ntmps6
  go_wp2_with fail
  refine HC.out.mono ?_
  rintro e w1 ⟨rfl, hB1⟩
  go_wp2
  go_ret2
  exact ⟨rfl, below_tr hb0 hB1⟩

end Go.Proofs.YtmbehkanhefcpaaGreatDoor
