/-
  The example of the chapter; awake.
-/
import Derived.Test.YtkjapeafhcdnkaaDoorPrs
import Derived.Test.YtkjapeafhcdnkaaDoorPrt
import Derived.Test.YtkjapeafhcdnkaaDoorSm53
namespace Go.Proofs.YtkjapeafhcdnkaaDoor
open Go.RowKit

deriving instance DecidableEq for Bx
deriving instance DecidableEq for Pg
def deusE : ByteArray := ⟨#[100, 101, 117, 115, 32, 101, 115, 116]⟩
def exB : Bx := ⟨1, 0, 14000, 90000, 0, deusE⟩
def exP : List Pg := [⟨2, [exB]⟩]
def exT : ByteArray := ⟨#[112, 97, 103, 101, 32, 50, 10, 116, 101, 120, 116, 32, 48, 32, 49, 52, 48, 48, 48, 32, 57, 48, 48, 48, 48, 32, 48, 124, 100, 101, 117, 115, 32, 101, 115, 116, 10]⟩
theorem exP_first : firstP exP = 0 := by decide +kernel
theorem exP_print : (⟨(printL exP).toArray⟩ : ByteArray) = exT := by decide +kernel
theorem exP_len : (printL exP).length ≤ 1000000 := by decide +kernel
theorem exP_par : parR exT = some exP := by decide +kernel
theorem exP_sz : SzPg exP := by
  intro p hp b hb
  have : p = ⟨2, [exB]⟩ := by simpa [exP] using hp
  subst this
  have : b = exB := by simpa using hb
  subst this
  decide

/-- One box, one page, in blocks of their own. -/
theorem rdB_one {W : World} {r : Nat} {b : Bx} (h : ∀ i v, b.cells[i]? = some v → W.cell? ⟨r, i, none⟩ = some v) : RdB W (.slice (some ⟨r, 0, none⟩) 1 1) [b] := by
  refine ⟨some ⟨r, 0, none⟩, 1, rfl, Nat.le_refl _, by unfold maxLen; omega, fun i x hx => ?_⟩
  match i, hx with
  | 0, hx => cases hx; exact ⟨r, 0, rfl, h 0 _ rfl, h 1 _ rfl, h 2 _ rfl, h 3 _ rfl, h 4 _ rfl, h 5 _ rfl⟩
theorem rdPg_one {W : World} {r : Nat} {p : Pg} {u : Value} (h0 : W.cell? ⟨r, 0, none⟩ = some (.int .i64 p.num)) (h1 : W.cell? ⟨r, 1, none⟩ = some u) (hu : RdB W u p.bx) : RdPg W (.slice (some ⟨r, 0, none⟩) 1 1) [p] := by
  refine ⟨some ⟨r, 0, none⟩, 1, rfl, Nat.le_refl _, by unfold maxLen; omega, fun i x hx => ?_⟩
  match i, hx with
  | 0, hx => cases hx; exact ⟨r, 0, u, rfl, h0, h1, hu⟩

set_option maxRecDepth 100000 in
set_option maxHeartbeats 1000000 in
theorem example_any (w : World) : Calls Tryd.prog 42 #[] w fun e w' => ∃ u, e = .returned (.agg #[.int .i64 2, u]) ∧ RdB w' u [exB] ∧ Below w.heap.size w w' := by
  go_enter Tryd.func42, Tryd.ntmps42
  go_wp2
  refine bodyPost_ret (v := .agg #[.int .i64 2, .slice (some ⟨w.heap.size + 1, 0, none⟩) 1 1]) (by simp [results, Tryd.results42, go_sem]) rfl ⟨_, rfl, ?_, ?_⟩
  · have hR : Row _ (w.heap.size + 1) exB.cells 42 := row_nw (w.alloc (.cells #[.int .i64 2, .slice (some ⟨w.heap.size + 1, 0, none⟩) 1 1] 34)) exB.cells 42 (by simp)
    exact rdB_one (b := exB) (fun i v h => hR.cell i h)
  · exact below_tr (below_al _ _) (below_al _ _)

set_option maxRecDepth 100000 in
set_option maxHeartbeats 1000000 in
theorem awake53_any (m : Int) (w : World) (he : Env w) (hm : w.cell? ⟨0, 0, none⟩ = some (.int .i64 m)) :
    Calls Tryd.prog 12 #[] w fun e w' => e = .returned (.bool true) ∧ Below w.heap.size w w' := by
  have HE := fun w' (h : Below w.heap.size w w') => hid (he.below h)
  have HM := fun w' (h : Below w.heap.size w w') => hid (Below.keeps h _ _ hm)
  clear he hm
  go_enter Tryd.func12, Tryd.ntmps12
  go_wp2_with fail
  refine (example_any _).mono ?_
  rintro e w1 ⟨u1, rfl, hr1, hB1⟩
  have hb2 := below_tr hB1 (below_al w1 (.cells #[.int .i64 2, u1] 34))
  have hR2 := row_nw w1 #[.int .i64 2, u1] 34 rfl
  have hP2 : RdPg _ _ exP := rdPg_one (p := ⟨2, [exB]⟩) (hR2.cell 0 rfl) (hR2.cell 1 rfl) (hr1.below (below_al w1 (.cells #[.int .i64 2, u1] 34)))
  have HPR := hid (pprint_any exP _ _ (HE _ hb2).out hP2 exP_sz (by decide) (fun _ => exP_len))
  clear hR2 hP2 hr1
  unfold pprV at HPR
  rw [if_pos exP_first, exP_print] at HPR
  unfold exT at HPR
  go_wp2_with fail
  refine HPR.out.mono ?_
  rintro e w3 ⟨rfl, hB3⟩
  have HB3 := hid (below_tr hb2 hB3)
  clear hb2 hB3 HPR
  generalize hw3 : w3 = w3' at *
  clear hw3
  have HPA := hid (pparse_any exT m w3' (HE _ HB3.out) (HM _ HB3.out).out (by decide))
  unfold exT at HPA
  go_wp2_with fail
  refine HPA.out.mono ?_
  rintro e w4 ⟨v4, x4, rfl, hcase, hB4⟩
  have hex : (⟨#[112, 97, 103, 101, 32, 50, 10, 116, 101, 120, 116, 32, 48, 32, 49, 52, 48, 48, 48, 32, 57, 48, 48, 48, 48, 32, 48, 124, 100, 101, 117, 115, 32, 101, 115, 116, 10]⟩ : ByteArray) = exT := rfl
  rw [hex, exP_par] at hcase
  have HB4 := hid (below_tr HB3.out hB4)
  clear hex HPA HB3 hB4
  obtain ⟨hrd, rfl⟩ : RdPg w4 v4 exP ∧ x4 = 0 := by
    rcases hcase with ⟨ps, h1, h2, h3⟩ | ⟨h1, _⟩
    · cases h1; exact ⟨h2, h3⟩
    · cases h1
  have HR4 := hid hrd
  clear hcase hrd
  go_wp2_with fail
  refine (example_any _).mono ?_
  rintro e w5 ⟨u5, rfl, hr5, hB5⟩
  have hb6 := below_tr hB5 (below_al w5 (.cells #[.int .i64 2, u5] 34))
  have hR6 := row_nw w5 #[.int .i64 2, u5] 34 rfl
  have hP6 : RdPg _ _ exP := rdPg_one (p := ⟨2, [exB]⟩) (hR6.cell 0 rfl) (hR6.cell 1 rfl) (hr5.below (below_al w5 (.cells #[.int .i64 2, u5] 34)))
  have HSM := hid (samePg_any _ _ exP _ (HR4.out.below hb6) hP6)
  have HB6 := hid (below_tr HB4.out hb6)
  clear hR6 hP6 hr5 hB5 hb6 HR4 HB4
  go_wp2_with fail
  refine HSM.out.mono ?_
  rintro e w7 ⟨rfl, hB7⟩
  go_wp2
  go_ret
  exact ⟨rfl, below_tr HB6.out hB7⟩
end Go.Proofs.YtkjapeafhcdnkaaDoor
