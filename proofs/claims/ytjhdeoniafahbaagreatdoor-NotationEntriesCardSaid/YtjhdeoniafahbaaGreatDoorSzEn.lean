/-
  Sizes of entries and notes that the statements examine.
-/
import Derived.Test.YtjhdeoniafahbaaGreatDoorJ08
import Derived.Test.YtjhdeoniafahbaaGreatDoorJ07
namespace Go.Proofs.YtjhdeoniafahbaaGreatDoor
open Go.RowKit

theorem gv_ok2 {v : Vr} (h : gvB v = false) : (v.ws.length ≤ 6 ∧ ∀ s ∈ v.ws, s.size ≤ 20) ∧ v.sg.length ≤ 6 ∧ ∀ s ∈ v.sg, s.size ≤ 20 := by
  unfold gvB at h
  rw [Bool.or_eq_false_iff] at h
  have ha := gw_ok h.1
  have hb := gw_ok h.2
  exact ⟨⟨by omega, ha.2⟩, by omega, hb.2⟩
theorem en_sz2 {x : En} (h : grB x.sup x.vs = false) : SzE x := by
  unfold grB at h
  simp only [Bool.or_eq_false_iff, decide_eq_false_iff_not] at h
  obtain ⟨h1, h2, h3⟩ := h
  have hs := gw_ok h3
  have hv : ∀ v ∈ x.vs, _ := fun v hv => gv_ok2 (Bool.eq_false_iff.2 (List.any_eq_false.1 h1 v hv))
  exact ⟨fun s hm => by have := hs.2 s hm; omega, fun v hm => ⟨fun s hm2 => by have := (hv v hm).1.2 s hm2; omega, fun s hm2 => by have := (hv v hm).2.2 s hm2; omega⟩, by omega, by omega, fun v hm => ⟨by have := (hv v hm).1.1; omega, by have := (hv v hm).2.1; omega⟩⟩
theorem nt_sz2 {x : Nt} (h : NtSm x) : SzN x := by
  refine ⟨by have := h.lf; omega, by have := h.ll; omega, fun s hs => by have := h.sup.2 s hs; omega, fun v hv => ⟨fun s hs => ?_, fun s hs => ?_⟩⟩
  · have := (h.vs v hv).1.2 s hs; omega
  · have := (h.vs v hv).2.2 s hs; omega
end Go.Proofs.YtjhdeoniafahbaaGreatDoor
