/-
  A slice of bytes that came in.
-/
import Derived.Test.YtlneimjenjpbnaaDoorJ04
import Derived.Test.YtlneimjenjpbnaaDoorT51
namespace Go.Proofs.YtlneimjenjpbnaaDoor
open Go.ChangeShapes Go.WideShapes Go.ChangeAt Go.RowKit Go.Deep

section
variable {H : Type} {enc : TypeId × Value → H} {P : Program} {W : World} {base : Nat} {spare : Nat → Bool} {held : Bool}
theorem rdU8_of {t e : TypeId} {fuel : Nat} {v : Value} {x : DataW H × List MemPlace} (ht : P.underlying t = some (.slice e)) (he : P.underlying e = some (.int .u8)) (hc : P.cellsOf e = 1)
    (hf : DataW.trod enc P W base spare held fuel t [v] = some x) : ∃ l : List Int, RdU8 W v l ∧ ∀ x ∈ l, 0 ≤ x ∧ x ≤ 255 := by
  rcases open_slice1 ht hc hf with ⟨hcs, _⟩ | ⟨a, len, cap, m, n, V, D, Pl, hcs, _, hl, hm, hmm, _, hcell⟩
  · simp only [List.cons.injEq, and_true] at hcs
    subst hcs
    exact ⟨[], Rd.nil W, fun x hx => by cases hx⟩
  · simp only [List.cons.injEq, and_true] at hcs
    subst hcs
    have hlen : len ≤ m := by rw [hmm]; split <;> omega
    obtain ⟨b, off, spot⟩ := a
    have hex : ∀ i, i < len → ∃ z : Int, W.cell? ((⟨b, off, spot⟩ : Addr).add i) = some (.int .u8 z) ∧ 0 ≤ z ∧ z ≤ 255 := by
      intro i hi
      obtain ⟨h1, h2⟩ := hcell i (by omega)
      obtain ⟨z, hz, _, hw⟩ := DataW.trod_int he h2
      simp only [List.cons.injEq, and_true] at hz
      refine ⟨z, by rw [h1, hz], ?_⟩
      simpa [Lit.wf, IntKind.min, IntKind.max, IntKind.signed, IntKind.bits] using hw
    obtain ⟨f, hf⟩ := choose_lt hex
    refine ⟨(List.range len).map f, ⟨some ⟨b, off, spot⟩, cap, by simp, by simpa using hl, hm, fun i x hx => ?_⟩, fun x hx => ?_⟩
    · have hi : i < len := by have := (List.getElem?_eq_some_iff.1 hx).1; simpa using this
      obtain rfl := spot_of (hf 0 (by omega)).1
      refine ⟨b, off, rfl, ?_⟩
      rw [plain_of (hf i hi).1]
      simp only [List.getElem?_map, List.getElem?_range hi, Option.map_some, Option.some.injEq] at hx
      rw [hx]
    · obtain ⟨i, hi, rfl⟩ := List.mem_map.1 hx
      exact (hf i (List.mem_range.1 hi)).2
end
end Go.Proofs.YtlneimjenjpbnaaDoor
