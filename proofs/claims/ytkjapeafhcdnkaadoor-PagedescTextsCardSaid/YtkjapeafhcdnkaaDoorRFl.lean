/-
  The reference's fields.
-/
import Derived.Test.YtkjapeafhcdnkaaDoorRDc
import Derived.Test.YtkjapeafhcdnkaaDoorMov
import Derived.Deep.RegionHeld3
import Derived.Deep.QuietTactic
import Derived.BigQuiet
import Derived.BigRegion
import Derived.RegionTactic
import Derived.ChangeAlike
import Derived.IntWalk
namespace Go.Proofs.YtkjapeafhcdnkaaDoor
open Go.RowKit

theorem infoStrF : (Tryd.prog.info? 9).map (fun i => (i.zero, i.size, i.bytes)) = some (some (.string ⟨#[]⟩), 1, 16) := by kernel_rfl
theorem strs_set (init : List ByteArray) (last x : ByteArray) : ((init ++ [last]).map Value.string).set init.length (.string x) = (init ++ [x]).map Value.string := by
  rw [List.map_append, List.map_append, set_app _ _ 0 _ _ (by simp)]
  rfl
theorem ext_one (s : ByteArray) (k : Nat) (h : k < s.size) : (s.extract k (k + 1)).data.toList = [s[k]] := by
  rw [ByteArray.data_extract, Array.toList_extract]
  have hk : k < s.data.toList.length := by rw [data_size]; exact h
  rw [List.extract_eq_take_drop, List.drop_eq_getElem_cons hk, show k + 1 - k = 1 by omega]
  rfl

set_option maxRecDepth 100000 in
set_option maxHeartbeats 4000000 in
theorem rfields_any (s : ByteArray) (w : World) (hs : s.size ≤ 1000000) :
    Calls Tryd.prog 80 #[.string s] w fun e w' => ∃ v, e = .returned v ∧ RdS w' v (splitS s) ∧ Below w.heap.size w w' := by
  have HOW0 : Hid ((w.alloc (.cells #[.string ⟨#[]⟩] 9)).ownsRow w.heap.size 9 1 (.slice (some ⟨w.heap.size, 0, none⟩) 1 1) 1 [.string ⟨#[]⟩]) := World.ownsRow_lit w #[.string ⟨#[]⟩] 1 (Nat.le_refl _) (by unfold maxLen; omega) rfl
  have HB0 := hid (below_al w (.cells #[.string ⟨#[]⟩] 9))
  go_enter Tryd.func80, Tryd.ntmps80
  go_wp2_with fail
  generalize w.alloc (.cells #[.string ⟨#[]⟩] 9) = w0 at *
  go_loopw [3, 4] (fun ov i wr => ∃ (k : Nat) (init : List ByteArray) (last : ByteArray) (g c : Nat), k ≤ s.size ∧ i = .int .i64 k ∧ ov = .slice (some ⟨g, 0, none⟩) (init.length + 1) c ∧ init.length ≤ k ∧ last.size ≤ k ∧ Hid ((32 : UInt8) ∉ last.data.toList) ∧
      Hid (cutL 32 s.data.toList = init.map (·.data.toList) ++ cutL 32 (last.data.toList ++ s.data.toList.drop k)) ∧ Hid (wr.ownsRow w.heap.size 9 1 (.slice (some ⟨g, 0, none⟩) (init.length + 1) c) (init.length + 1) ((init ++ [last]).map Value.string)) ∧ Hid (Below w.heap.size w wr)) (fun _ i _ => s.size - (intOf i).toNat)
  case atStart => exact ⟨0, [], ⟨#[]⟩, _, _, by omega, rfl, rfl, Nat.le_refl _, Nat.le_refl _, by simp [Hid], by simp [Hid], HOW0.out, HB0.out⟩
  case round =>
    obtain ⟨k, init, last, g, c, hk, rfl, rfl, hil, hll, HN, HC, HOW, HB⟩ := hrel
    clear HOW0 HB0
    by_cases hlt : k < s.size
    · have hki : (k : Int) < (s.size : Int) := by omega
      have hbk := rnum_byte s k hlt
      have HD : Hid (s.data.toList.drop k = s[k] :: s.data.toList.drop (k + 1)) := by
        obtain ⟨h1, h2⟩ := List.getElem?_eq_some_iff.1 hbk
        show _ = _
        rw [List.drop_eq_getElem_cons h1, h2]
      clear hbk
      by_cases h32 : s[k] = 32
      · have h32i : ((s[k].toNat : Int) == 32) = true := by rw [h32]; rfl
        have HC2 : Hid (cutL 32 s.data.toList = (init ++ [last]).map (·.data.toList) ++ cutL 32 ((⟨#[]⟩ : ByteArray).data.toList ++ s.data.toList.drop (k + 1))) := by
          show _ = _
          rw [HC.out, HD.out, h32, cutL_app _ HN.out]
          simp
        have HL : Hid ((init ++ [last]).length = init.length + 1) := by show _ = _; simp
        clear h32 HC HN HD
        go_wp2_with (at_builtin; refine wpList_ap2 rfl _ _ 78 rfl w.heap.size 9 Tryd.underlying78 infoStrF rfl (by decide) (by decide) _ (init.length + 1) _ rfl HOW.out [.string ⟨#[]⟩] rfl (by simp [Value.oneCell']) rfl rfl (by omega) HB.out.size ?_; intro g2 c2 w9 hown2 hb2 hg2 hat hlt2)
        have HOW2 : Hid (w9.ownsRow w.heap.size 9 1 (.slice (some ⟨g2, 0, none⟩) ((init ++ [last]).length + 1) c2) ((init ++ [last]).length + 1) (((init ++ [last]) ++ [(⟨#[]⟩ : ByteArray)]).map Value.string)) := by
          rw [HL.out, List.map_append]; exact hown2
        have HB9 := hid (HB.out.trans hb2)
        have hl1 := HL.out
        clear HOW HB hown2 hg2 hb2 HL
        go_roundw
        case rel => exact ⟨k + 1, init ++ [last], ⟨#[]⟩, g2, c2, by omega, by go_num, by rw [hl1], by omega, Nat.zero_le _, by simp [Hid], HC2.out, HOW2.out, HB9.out⟩
        case measure => simp [intOf]; omega
      · have h32i : ((s[k].toNat : Int) == 32) = false := beq_eq_false_iff_ne.2 (fun e => h32 (UInt8.toNat_inj.1 (by have : (32 : UInt8).toNat = 32 := rfl; omega)))
        have e0 : wr.cell? ⟨g, init.length, none⟩ = some (.string last) := by
          rw [World.ownsRow.cellAt HOW.out init.length (by omega)]
          simp
        have f0 := own_frozen HOW.out init.length
        have hx1 := ext_one s k hlt
        have HS1 : Hid ((last ++ s.extract k (k + 1)).data.toList = last.data.toList ++ [s[k]]) := by
          show _ = _
          rw [← hx1]; simp
        have hz1 : (last ++ s.extract k (k + 1)).size = last.size + 1 := by
          have h := congrArg List.length HS1.out
          rw [data_size, List.length_append, data_size, List.length_singleton] at h
          exact h
        have HN2 : Hid ((32 : UInt8) ∉ (last ++ s.extract k (k + 1)).data.toList) := by
          show ¬ _
          rw [HS1.out, List.mem_append, not_or]
          exact ⟨HN.out, by simpa using fun e => h32 e.symm⟩
        have HC2 : Hid (cutL 32 s.data.toList = init.map (·.data.toList) ++ cutL 32 ((last ++ s.extract k (k + 1)).data.toList ++ s.data.toList.drop (k + 1))) := by
          show _ = _
          rw [HC.out, HD.out, HS1.out]; simp
        have HOW2 : Hid ((wr.setCell ⟨g, init.length, none⟩ (.string (last ++ s.extract k (k + 1)))).drew.ownsRow w.heap.size 9 1 (.slice (some ⟨g, 0, none⟩) (init.length + 1) c) (init.length + 1) ((init ++ [last ++ s.extract k (k + 1)]).map Value.string)) := by
          have h := (World.ownsRow.stored HOW.out init.length (.string (last ++ s.extract k (k + 1)))).1
          rw [strs_set] at h
          exact own_belowT h (below_drewN (Below.refl _ _) 1)
        have hwg : w.heap.size ≤ g := (HOW.out.lt g rfl).1
        have HB2 : Hid (Below w.heap.size w (wr.setCell ⟨g, init.length, none⟩ (.string (last ++ s.extract k (k + 1)))).drew) := (HB.out.setCell (p := ⟨g, init.length, none⟩) hwg _).drew
        clear hx1 h32 HN HC HD HOW HB
        generalize hnl : init.length = n at *
        have HNL := hid hnl
        clear hnl
        have hw1 : IntKind.i64.wrap (((n + 1 : Nat) : Int) - 1) = (n : Int) := by rw [IntWalk.i64_in _ (by omega)]; omega
        have hw2 : IntKind.i64.wrap ((n : Int) + 1 - 1) = (n : Int) := by rw [IntWalk.i64_in _ (by omega)]; omega
        have hw3 : IntKind.i64.wrap ((k : Int) + 1) = (k : Int) + 1 := by rw [IntWalk.i64_in _ (by omega)]
        have hw4 : (0 : Int) ≤ (n : Int) := by omega
        have hwa : IntKind.i64.wrap (n : Int) = (n : Int) := by rw [IntWalk.i64_in _ (by omega)]
        have hwb : (n : Int) < ((n + 1 : Nat) : Int) := by omega
        have hw5 : (n : Int) < (n : Int) + 1 := by omega
        have hw6 : (0 : Int) ≤ (k : Int) + 1 := by omega
        have hw7 : ((k : Int) + 1).toNat = k + 1 := by omega
        have hw8 : (k : Int) + 1 ≤ (s.size : Int) := by omega
        have hw9 : (k : Int) ≤ (k : Int) + 1 := by omega
        go_wp2_with fail
        have hz2 : (s.extract k (k + 1)).size = 1 := by rw [ByteArray.size_extract]; omega
        have hz3 : ¬ 9223372036854775807 < last.size + (s.extract k (k + 1)).size := by omega
        have hz4 : ¬ 9223372036854775807 < last.size + 1 := by omega
        go_region
        go_wp2_with fail
        go_roundw
        case rel => exact ⟨k + 1, init, last ++ s.extract k (k + 1), g, c, by omega, by go_num, by rw [HNL.out], by rw [HNL.out]; omega, by omega, HN2.out, HC2.out, by rw [HNL.out]; exact HOW2.out, HB2.out⟩
        case measure => simp [intOf]; omega
    · have hki : ¬ (k : Int) < (s.size : Int) := by omega
      have HR : Hid (RdS wr (.slice (some ⟨g, 0, none⟩) (init.length + 1) c) (splitS s)) := by
        have h := HC.out
        rw [List.drop_of_length_le (by rw [data_size]; omega), List.append_nil, cutL_none HN.out] at h
        have e : splitS s = init ++ [last] := by
          apply map_data_inj
          rw [splitS_data, h]; simp
        rw [e]
        have h2 := HOW.out
        have h3 : (init ++ [last]).length = init.length + 1 := by simp
        rw [← h3] at h2
        have h4 := Rd.of_own h2
        rw [h3] at h4
        exact h4
      go_wp2_with fail
      go_ret
      exact ⟨_, rfl, HR.out, HB.out⟩
end Go.Proofs.YtkjapeafhcdnkaaDoor
