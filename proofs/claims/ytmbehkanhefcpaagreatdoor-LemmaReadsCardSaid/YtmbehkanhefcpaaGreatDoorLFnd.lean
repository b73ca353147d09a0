/-
  P43.1: the walk of LemmaFinds.
-/
import Derived.Test.YtmbehkanhefcpaaGreatDoorRFnd
namespace Go.Proofs.YtmbehkanhefcpaaGreatDoor
open Go.RowKit

theorem great_not {ws : List ByteArray} (h : greatW ws = false) : (lcheckI ws = 0 → ws.length ≤ 13) ∧ (∀ s ∈ ws, s.size ≤ 65536) ∧ ws.length ≤ 65536 := by
  unfold greatW at h
  simp only [Bool.or_eq_false_iff, Bool.and_eq_false_iff, decide_eq_false_iff_not] at h
  obtain ⟨⟨h1, h2⟩, h3⟩ := h
  refine ⟨fun hc => ?_, fun s hs => ?_, by omega⟩
  · unfold lcheckI at hc
    split at hc
    · cases hc
    · omega
  · have := List.any_eq_false.1 h3 s hs
    unfold bigS at this
    simp only [Bool.or_eq_true, Bool.and_eq_true, decide_eq_true_eq] at this
    omega

end Go.Proofs.YtmbehkanhefcpaaGreatDoor
