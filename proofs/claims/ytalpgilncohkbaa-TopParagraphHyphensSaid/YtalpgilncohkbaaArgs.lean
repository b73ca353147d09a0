/-
  Arguments that came in, read as lists.
-/
import Derived.Test.YtalpgilncohkbaaJ01
import Derived.ProofKit
import Derived.SliceStrings
import Derived.Deep.SlicePairs
namespace Go.Proofs.Ytalpgilncohkbaa
open Go.ChangeShapes Go.WideShapes Go.ChangeAt Go.RowKit Go.Deep

section
variable {H : Type} {enc : TypeId × Value → H} {P : Program} {W : World} {base : Nat} {spare : Nat → Bool} {held : Bool}

theorem spot_of {b off : Nat} {spot : Option Nat} {y : Value} (h : W.cell? ((⟨b, off, spot⟩ : Addr).add 0) = some y) : spot = none := by
  have h1 := World.cell?_spot h
  simpa [Addr.add] using h1
theorem plain_of {b off i : Nat} {x : Value} (h : W.cell? ((⟨b, off, none⟩ : Addr).add i) = some x) : W.cell? ⟨b, off + i, none⟩ = some x := by
  rwa [Go.WideShapes.add_plain] at h

theorem rdS_of {t e : TypeId} {fuel : Nat} {v : Value} {x : DataW H × List MemPlace} (ht : P.underlying t = some (.slice e)) (he : P.underlying e = some .string) (hc : P.cellsOf e = 1)
    (hf : DataW.trod enc P W base spare held fuel t [v] = some x) : ∃ l, RdS W v l ∧ Szs l := by
  rcases open_strings ht he hc hf with ⟨hcs, _⟩ | ⟨a, len, cap, ss, hcs, _, hl, hm, hz, _, hcell, hsz⟩
  · simp only [List.cons.injEq, and_true] at hcs
    subst hcs
    exact ⟨[], Rd.nil W, fun s h => by cases h⟩
  · simp only [List.cons.injEq, and_true] at hcs
    subst hcs
    have hlen : len ≤ ss.length := by rw [hz]; split <;> omega
    have hlt : (ss.take len).length = len := by rw [List.length_take]; omega
    obtain ⟨b, off, spot⟩ := a
    refine ⟨ss.take len, ⟨some ⟨b, off, spot⟩, cap, by rw [hlt], by rw [hlt]; exact hl, hm, fun i x hx => ?_⟩, fun s hs => hsz s (List.mem_of_mem_take hs)⟩
    have hi : i < len := by have := (List.getElem?_eq_some_iff.1 hx).1; omega
    obtain rfl := spot_of (hcell 0 (by omega))
    refine ⟨b, off, rfl, ?_⟩
    rw [plain_of (hcell i (by omega))]
    rw [List.getElem?_take_of_lt hi] at hx
    simp [List.getD, hx]

theorem rdI_of {t e : TypeId} {fuel : Nat} {v : Value} {x : DataW H × List MemPlace} (ht : P.underlying t = some (.slice e)) (he : P.underlying e = some (.int .i64)) (hc : P.cellsOf e = 1)
    (hf : DataW.trod enc P W base spare held fuel t [v] = some x) : ∃ l, RdI W v l := by
  rcases open_slice1 ht hc hf with ⟨hcs, _⟩ | ⟨a, len, cap, m, n, V, D, Pl, hcs, _, hl, hm, hmm, _, hcell⟩
  · simp only [List.cons.injEq, and_true] at hcs
    subst hcs
    exact ⟨[], Rd.nil W⟩
  · simp only [List.cons.injEq, and_true] at hcs
    subst hcs
    have hlen : len ≤ m := by rw [hmm]; split <;> omega
    obtain ⟨b, off, spot⟩ := a
    have hex : ∀ i, i < len → ∃ z : Int, W.cell? ((⟨b, off, spot⟩ : Addr).add i) = some (.int .i64 z) := by
      intro i hi
      obtain ⟨h1, h2⟩ := hcell i (by omega)
      obtain ⟨z, hz, _⟩ := DataW.trod_int he h2
      simp only [List.cons.injEq, and_true] at hz
      exact ⟨z, by rw [h1, hz]⟩
    obtain ⟨f, hf⟩ := choose_lt hex
    refine ⟨(List.range len).map f, ⟨some ⟨b, off, spot⟩, cap, by simp, by simpa using hl, hm, fun i x hx => ?_⟩⟩
    have hi : i < len := by have := (List.getElem?_eq_some_iff.1 hx).1; simpa using this
    obtain rfl := spot_of (hf 0 (by omega))
    refine ⟨b, off, rfl, ?_⟩
    rw [plain_of (hf i hi)]
    simp only [List.getElem?_map, List.getElem?_range hi, Option.map_some, Option.some.injEq] at hx
    rw [hx]

instance : Inhabited Grp := ⟨⟨ByteArray.empty, []⟩⟩

theorem rdG_of {t e : TypeId} {f0 f1 : Field} {q : TypeId} {fuel : Nat} {v : Value} {x : DataW H × List MemPlace} (ht : P.underlying t = some (.slice e)) (he : P.underlying e = some (.struct #[f0, f1]))
    (ce : P.cellsOf e = 2) (o0 : f0.offset = 0) (o1 : f1.offset = 1) (c0 : P.cellsOf f0.type = 1) (c1 : P.cellsOf f1.type = 1)
    (h0 : P.underlying f0.type = some .string) (h1 : P.underlying f1.type = some (.slice q)) (hq : P.underlying q = some (.int .i64)) (cq : P.cellsOf q = 1)
    (hf : DataW.trod enc P W base spare held fuel t [v] = some x) : ∃ l, RdG W v l ∧ SzG l := by
  rcases open_slice_pairs ht he ce o0 o1 c0 c1 hf with ⟨hcs, _⟩ | ⟨a, len, cap, m, n, V0, V1, D0, D1, P0, P1, hcs, _, hl, hm, hmm, _, hcell⟩
  · simp only [List.cons.injEq, and_true] at hcs
    subst hcs
    exact ⟨[], RdG.nil W, fun s h => by cases h⟩
  · simp only [List.cons.injEq, and_true] at hcs
    subst hcs
    have hlen : len ≤ m := by rw [hmm]; split <;> omega
    obtain ⟨b, off, spot⟩ := a
    have hex : ∀ i, i < len → ∃ g : Grp, W.cell? ((⟨b, off, spot⟩ : Addr).add (i * 2)) = some (.string g.name) ∧ W.cell? ((⟨b, off, spot⟩ : Addr).add (i * 2 + 1)) = some (V1 i) ∧ RdI W (V1 i) g.mem ∧ g.name.size ≤ maxLen := by
      intro i hi
      obtain ⟨a0, a1, b0, b1⟩ := hcell i (by omega)
      obtain ⟨s, hs, _, hw⟩ := DataW.trod_string h0 b0
      simp only [List.cons.injEq, and_true] at hs
      obtain ⟨l, hl⟩ := rdI_of h1 hq cq b1
      exact ⟨⟨s, l⟩, by rw [a0, hs], a1, hl, hw⟩
    obtain ⟨f, hf⟩ := choose_lt hex
    refine ⟨(List.range len).map f, ⟨some ⟨b, off, spot⟩, cap, by simp, by simpa using hl, hm, fun i x hx => ?_⟩, fun g hg => ?_⟩
    · have hi : i < len := by have := (List.getElem?_eq_some_iff.1 hx).1; simpa using this
      obtain ⟨a0, a1, a2, _⟩ := hf i hi
      obtain rfl := spot_of (by simpa using (hf 0 (by omega)).1)
      have e0 := plain_of a0
      have e1 := plain_of a1
      simp only [List.getElem?_map, List.getElem?_range hi, Option.map_some, Option.some.injEq] at hx
      subst hx
      exact ⟨b, off, V1 i, rfl, e0, by rw [Nat.add_assoc]; exact e1, a2⟩
    · obtain ⟨i, hi, rfl⟩ := List.mem_map.1 hg
      exact (hf i (List.mem_range.1 hi)).2.2.2
end
end Go.Proofs.Ytalpgilncohkbaa
