/-
  A lemma that came in by value.
-/
import Derived.Test.YtmbehkanhefcpaaGreatDoorArgs
import Derived.Test.YtmbehkanhefcpaaGreatDoorCharset
import Derived.Lib.SmallJoins
namespace Go.Proofs.YtmbehkanhefcpaaGreatDoor
open Go.ChangeShapes Go.WideShapes Go.ChangeAt Go.RowKit Go.Deep

theorem lm_array3 {α : Type} {cs : Array α} (h : cs.size = 3) : ∃ c0 c1 c2, cs = #[c0, c1, c2] := by
  obtain ⟨l⟩ := cs
  match l, h with
  | [c0, c1, c2], _ => exact ⟨c0, c1, c2, rfl⟩
theorem lm_cellsInt : (Tryz.prog).cellsOf 3 = 1 := by kernel_rfl
theorem lm_cellsStr : (Tryz.prog).cellsOf 9 = 1 := by kernel_rfl
theorem lm_cellsLm : (Tryz.prog).cellsOf 23 = 3 := by kernel_rfl
section
variable {H : Type} {enc : TypeId × Value → H} {W : World} {base : Nat} {spare : Nat → Bool} {held : Bool}

set_option maxRecDepth 100000 in
theorem lm_of {r : Reach} {b0 : Nat} {v : Value} {d : DataW H} {p : List MemPlace} (hv : Value.okWide Tryz.prog W r b0 23 v) (h : DataW.Trod enc Tryz.prog W base spare held 23 v d p) :
    ∃ (f l : ByteArray) (n : Int), v = .agg #[.string f, .string l, .int .i64 n] ∧ f.size ≤ maxLen ∧ l.size ≤ maxLen ∧ -9223372036854775808 ≤ n ∧ n ≤ 9223372036854775807 := by
  obtain ⟨cs, rfl, hsz⟩ := okWide_struct Tryz.underlying23 hv
  rw [lm_cellsLm] at hsz
  obtain ⟨c0, c1, c2, rfl⟩ := lm_array3 hsz
  obtain ⟨fuel, hf⟩ := h
  obtain ⟨xs, n, _, _, _, hlen, hx⟩ := DataW.trod_struct Tryz.underlying23 hf
  have hy : ∀ i, i < 3 → ∃ y, xs[i]? = some y := fun i hi => ⟨xs[i]'(by rw [hlen]; exact hi), List.getElem?_eq_getElem _⟩
  obtain ⟨f, rfl, hfz⟩ : ∃ f : ByteArray, c0 = .string f ∧ f.size ≤ maxLen := by
    obtain ⟨y, hy⟩ := hy 0 (by decide)
    have h : DataW.trod enc Tryz.prog W base spare held n 9 (([c0, c1, c2].drop 0).take (Tryz.prog.cellsOf 9)) = xs[0]? := hx 0 _ rfl
    rw [hy, lm_cellsStr] at h
    obtain ⟨s, hs, _, hz⟩ := DataW.trod_string Tryz.underlying9 h
    exact ⟨s, (List.cons.inj hs).1, hz⟩
  obtain ⟨l, rfl, hlz⟩ : ∃ f : ByteArray, c1 = .string f ∧ f.size ≤ maxLen := by
    obtain ⟨y, hy⟩ := hy 1 (by decide)
    have h : DataW.trod enc Tryz.prog W base spare held n 9 (([.string f, c1, c2].drop 1).take (Tryz.prog.cellsOf 9)) = xs[1]? := hx 1 _ rfl
    rw [hy, lm_cellsStr] at h
    obtain ⟨s, hs, _, hz⟩ := DataW.trod_string Tryz.underlying9 h
    exact ⟨s, (List.cons.inj hs).1, hz⟩
  obtain ⟨z, rfl, hz⟩ : ∃ z, c2 = .int .i64 z ∧ (Lit.int .i64 z).wf = true := by
    obtain ⟨y, hy⟩ := hy 2 (by decide)
    have h : DataW.trod enc Tryz.prog W base spare held n 3 (([.string f, .string l, c2].drop 2).take (Tryz.prog.cellsOf 3)) = xs[2]? := hx 2 _ rfl
    rw [hy, lm_cellsInt] at h
    obtain ⟨z, hz, _, hw⟩ := DataW.trod_int Tryz.underlying3 h
    exact ⟨z, (List.cons.inj hz).1, hw⟩
  have hb : -9223372036854775808 ≤ z ∧ z ≤ 9223372036854775807 := by simpa [Lit.wf, IntKind.min, IntKind.max, IntKind.signed, IntKind.bits] using hz
  exact ⟨f, l, z, rfl, hfz, hlz, hb.1, hb.2⟩
end
end Go.Proofs.YtmbehkanhefcpaaGreatDoor
