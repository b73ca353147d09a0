/-
  The example of facing pages.
-/
import Derived.Test.YtlneimjenjpbnaaFbl
import Derived.Test.YtlneimjenjpbnaaJ02
namespace Go.Proofs.Ytlneimjenjpbnaa
open Go.RowKit

theorem rdI_row {W : World} {B : Nat} {l : List Int} {cs : Array Value} {t : TypeId} (h : Row W B cs t) (hc : cs = (l.map (Value.int .i64)).toArray) (hl : l.length ≤ 1000000) : RdI W (.slice (some ⟨B, 0, none⟩) l.length l.length) l := by
  refine ⟨some ⟨B, 0, none⟩, l.length, rfl, Nat.le_refl _, by unfold maxLen; omega, fun i x hx => ⟨B, 0, rfl, ?_⟩⟩
  rw [Nat.zero_add]
  exact h.cell i (by rw [hc]; simp [hx])
theorem rdM_row {W : World} {B : Nat} {M : List (List Int)} {vs : List Value} {t : TypeId} (h : Row W B vs.toArray t) (hl : M.length ≤ 1000000) (hv : ∀ (i : Nat) (r : List Int), M[i]? = some r → ∃ u, vs[i]? = some u ∧ RdI W u r) : RdM W (.slice (some ⟨B, 0, none⟩) M.length M.length) M := by
  refine ⟨some ⟨B, 0, none⟩, M.length, rfl, Nat.le_refl _, by unfold maxLen; omega, fun i x hx => ?_⟩
  obtain ⟨u, h1, h2⟩ := hv i x hx
  refine ⟨B, 0, u, rfl, ?_, h2⟩
  rw [Nat.zero_add]
  exact h.cell i (by simpa using h1)
def p52 : PP := ⟨[10, 10], [[], []], [0, 0], 10, 0⟩
def s52 : FS := ⟨p52, p52, [[1, 0]]⟩
theorem s52_ok : fcI s52 = 0 := by decide +kernel
theorem s52_pot : fpot s52 (0, 0) = 0 := by decide +kernel
theorem s52_len : (spM (fbr s52)).length = 3 := by decide +kernel
theorem s52_tog : togB (spM (fbr s52)) [[1, 0]] = true := by decide +kernel
theorem spM_two (l : List (Nat × Nat)) : ∀ x ∈ spM l, x.length = 2 := by
  intro x hx
  unfold spM at hx
  obtain ⟨y, _, rfl⟩ := List.mem_map.1 hx
  rfl
theorem fbrF_len (s : FS) : ∀ (k : Nat) (f : Nat × Nat), (fbrF s k f).length ≤ k
  | 0, _ => Nat.le_refl _
  | k + 1, f => by
    rw [fbrF]
    by_cases h : f = s.e
    · rw [if_pos h]; exact Nat.zero_le _
    · rw [if_neg h]
      cases (fpg s f).find? (fbrP s f) with
      | none => exact Nat.zero_le _
      | some x =>
        have := fbrF_len s k x.1
        simp only [List.length_cons]
        omega
theorem fbr_len (s : FS) : (fbr s).length ≤ totF s := fbrF_len s _ _
theorem rows6 (w : World) (c1 c2 c3 c4 c5 c6 : Array Value) (t1 t2 t3 t4 t5 t6 : TypeId) :
    Row ((((((w.alloc (.cells c1 t1)).alloc (.cells c2 t2)).alloc (.cells c3 t3)).alloc (.cells c4 t4)).alloc (.cells c5 t5)).alloc (.cells c6 t6)) w.heap.size c1 t1 ∧
    Row ((((((w.alloc (.cells c1 t1)).alloc (.cells c2 t2)).alloc (.cells c3 t3)).alloc (.cells c4 t4)).alloc (.cells c5 t5)).alloc (.cells c6 t6)) (w.heap.size + 1) c2 t2 ∧
    Row ((((((w.alloc (.cells c1 t1)).alloc (.cells c2 t2)).alloc (.cells c3 t3)).alloc (.cells c4 t4)).alloc (.cells c5 t5)).alloc (.cells c6 t6)) (w.heap.size + 1 + 1) c3 t3 ∧
    Row ((((((w.alloc (.cells c1 t1)).alloc (.cells c2 t2)).alloc (.cells c3 t3)).alloc (.cells c4 t4)).alloc (.cells c5 t5)).alloc (.cells c6 t6)) (w.heap.size + 1 + 1 + 1 + 1) c5 t5 ∧
    Row ((((((w.alloc (.cells c1 t1)).alloc (.cells c2 t2)).alloc (.cells c3 t3)).alloc (.cells c4 t4)).alloc (.cells c5 t5)).alloc (.cells c6 t6)) (w.heap.size + 1 + 1 + 1 + 1 + 1) c6 t6 ∧
    Below w.heap.size w ((((((w.alloc (.cells c1 t1)).alloc (.cells c2 t2)).alloc (.cells c3 t3)).alloc (.cells c4 t4)).alloc (.cells c5 t5)).alloc (.cells c6 t6)) :=
  ⟨(((((row_nw w c1 t1 rfl).al _).al _).al _).al _).al _, (((((row_nw (w.alloc (.cells c1 t1)) c2 t2 (by simp)).al _).al _).al _).al _), ((((row_nw ((w.alloc (.cells c1 t1)).alloc (.cells c2 t2)) c3 t3 (by simp)).al _).al _).al _),
    (row_nw ((((w.alloc (.cells c1 t1)).alloc (.cells c2 t2)).alloc (.cells c3 t3)).alloc (.cells c4 t4)) c5 t5 (by simp)).al _, row_nw _ c6 t6 (by simp),
    below_tr (below_tr (below_tr (below_tr (below_tr (below_al _ _) (below_al _ _)) (below_al _ _)) (below_al _ _)) (below_al _ _)) (below_al _ _)⟩
set_option maxRecDepth 100000 in
set_option maxHeartbeats 4000000 in
theorem awake52_any (w : World) : Calls Try.prog 5 #[] w fun e w' => e = .returned (.bool true) ∧ Below w.heap.size w w' := by
  have HF := hid (fun x w' (h : FaR w' x s52) => fbk_any s52 x w' h s52_ok (by rw [s52_pot]; exact Int.le_refl _))
  have HT := hid (fun ve va w' h1 h2 => tog_any (spM (fbr s52)) [[1, 0]] ve va w' h1 h2 (spM_two _) (by decide) (by rw [s52_len]; omega) (by decide))
  rw [s52_pot] at HF
  rw [s52_tog] at HT
  have h6 := rows6 w #[.int .i64 10, .int .i64 10] #[.slice none 0 0, .slice none 0 0] #[.int .i64 0, .int .i64 0] #[.slice (some ⟨w.heap.size, 0, none⟩) 2 2, .slice (some ⟨w.heap.size + 1, 0, none⟩) 2 2, .slice (some ⟨w.heap.size + 1 + 1, 0, none⟩) 2 2, .int .i64 10, .int .i64 0] #[.int .i64 1, .int .i64 0] #[.slice (some ⟨w.heap.size + 1 + 1 + 1 + 1, 0, none⟩) 2 2] 3 22 3 25 3 22
  have H6 := hid h6
  clear h6
  go_enter Try.func5, Try.ntmps5
  go_wp2_with fail
  generalize (((((w.alloc (.cells #[.int .i64 10, .int .i64 10] 3)).alloc (.cells #[.slice none 0 0, .slice none 0 0] 22)).alloc (.cells #[.int .i64 0, .int .i64 0] 3)).alloc (.cells #[.slice (some ⟨w.heap.size, 0, none⟩) 2 2, .slice (some ⟨w.heap.size + 1, 0, none⟩) 2 2, .slice (some ⟨w.heap.size + 1 + 1, 0, none⟩) 2 2, .int .i64 10, .int .i64 0] 25)).alloc (.cells #[.int .i64 1, .int .i64 0] 3)).alloc (.cells #[.slice (some ⟨w.heap.size + 1 + 1 + 1 + 1, 0, none⟩) 2 2] 22) = W6 at *
  obtain ⟨r1, r2, r3, r5, r6, hb6⟩ := H6.out
  have hR : RdP5 W6 (.slice (some ⟨w.heap.size, 0, none⟩) 2 2) (.slice (some ⟨w.heap.size + 1, 0, none⟩) 2 2) (.slice (some ⟨w.heap.size + 1 + 1, 0, none⟩) 2 2) p52 :=
    ⟨rdI_row (l := [10, 10]) r1 rfl (by decide), rdM_row (M := [[], []]) (vs := [.slice none 0 0, .slice none 0 0]) r2 (by decide) (fun i r hi => by
      match i, hi with
      | 0, hi => cases hi; exact ⟨_, rfl, Rd.nil _⟩
      | 1, hi => cases hi; exact ⟨_, rfl, Rd.nil _⟩), rdI_row (l := [0, 0]) r3 rfl (by decide)⟩
  have hA : RdM W6 (.slice (some ⟨w.heap.size + 1 + 1 + 1 + 1 + 1, 0, none⟩) 1 1) [[1, 0]] := rdM_row (M := [[1, 0]]) (vs := [.slice (some ⟨w.heap.size + 1 + 1 + 1 + 1, 0, none⟩) 2 2]) r6 (by decide) (fun i r hi => by
      match i, hi with
      | 0, hi => cases hi; exact ⟨_, rfl, rdI_row (l := [1, 0]) r5 rfl (by decide)⟩)
  have HC := hid (HF.out ⟨_, _, _, _, _, _, _, .slice none 0 0, .slice none 0 0⟩ W6 ⟨hR, hR, hA⟩)
  have HB6 := hid hb6
  clear r1 r2 r3 r5 r6 hR hA HF H6 hb6
  refine HC.out.mono ?_
  rintro e w2 ⟨v, rfl, hv, hb2⟩
  obtain ⟨a2, c2, rfl, _⟩ := hv.open
  have HV := hid hv
  clear hv
  rw [s52_len] at HV ⊢
  have HB2 := hid (below_tr HB6.out hb2)
  clear hb2 HC
  have HV8 := hid ((HV.out.below (below_al w2 (.cells #[.int .i64 1, .int .i64 0] 3))).below (below_al _ (.cells #[.slice (some ⟨w2.heap.size, 0, none⟩) 2 2] 22)))
  have HB8 := hid (below_tr (below_tr HB2.out (below_al w2 (.cells #[.int .i64 1, .int .i64 0] 3))) (below_al _ (.cells #[.slice (some ⟨w2.heap.size, 0, none⟩) 2 2] 22)))
  have HR8 := hid ((row_nw w2 #[.int .i64 1, .int .i64 0] 3 rfl).al (.cells #[.slice (some ⟨w2.heap.size, 0, none⟩) 2 2] 22))
  have HR9 := hid (row_nw (w2.alloc (.cells #[.int .i64 1, .int .i64 0] 3)) #[.slice (some ⟨w2.heap.size, 0, none⟩) 2 2] 22 (n := w2.heap.size + 1) (by simp))
  go_wp2_with fail
  generalize (w2.alloc (.cells #[.int .i64 1, .int .i64 0] 3)).alloc (.cells #[.slice (some ⟨w2.heap.size, 0, none⟩) 2 2] 22) = W8 at *
  have hA8 : RdM W8 (.slice (some ⟨w2.heap.size + 1, 0, none⟩) 1 1) [[1, 0]] := rdM_row (M := [[1, 0]]) (vs := [.slice (some ⟨w2.heap.size, 0, none⟩) 2 2]) HR9.out (by decide) (fun i r hi => by
      match i, hi with
      | 0, hi => cases hi; exact ⟨_, rfl, rdI_row (l := [1, 0]) HR8.out rfl (by decide)⟩)
  refine (HT.out _ _ W8 HV8.out hA8).mono ?_
  rintro e w9 ⟨rfl, hb9⟩
  have HB9 := hid (below_tr HB8.out hb9)
  clear hb9 hA8
  go_wp2_with fail
  go_ret
  exact ⟨rfl, HB9.out⟩
end Go.Proofs.Ytlneimjenjpbnaa
