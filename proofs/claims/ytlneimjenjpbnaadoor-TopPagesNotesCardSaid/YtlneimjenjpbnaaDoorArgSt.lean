/-
  A style that came in.
-/
import Derived.Test.YtlneimjenjpbnaaDoorNoteB
import Derived.Test.YtlneimjenjpbnaaDoorJ04
import Derived.Lib.SmallJoins
namespace Go.Proofs.YtlneimjenjpbnaaDoor
open Go.ChangeShapes Go.WideShapes Go.ChangeAt Go.RowKit Go.Deep

theorem array13 {α : Type} {cs : Array α} (h : cs.size = 13) : ∃ c0 c1 c2 c3 c4 c5 c6 c7 c8 c9 c10 c11 c12, cs = #[c0, c1, c2, c3, c4, c5, c6, c7, c8, c9, c10, c11, c12] := by
  obtain ⟨l⟩ := cs
  match l, h with
  | [c0, c1, c2, c3, c4, c5, c6, c7, c8, c9, c10, c11, c12], _ => exact ⟨c0, c1, c2, c3, c4, c5, c6, c7, c8, c9, c10, c11, c12, rfl⟩
theorem cellsInt : (Tryd.prog).cellsOf 3 = 1 := by kernel_rfl
theorem cellsBs : (Tryd.prog).cellsOf 22 = 1 := by kernel_rfl
theorem cellsSs : (Tryd.prog).cellsOf 23 = 1 := by kernel_rfl
theorem cellsSt : (Tryd.prog).cellsOf 25 = 13 := by kernel_rfl
section
variable {H : Type} {enc : TypeId × Value → H} {W : World} {base : Nat} {spare : Nat → Bool} {held : Bool}

set_option maxRecDepth 100000 in
set_option maxHeartbeats 1000000 in
theorem st_of {r : Reach} {b0 : Nat} {v : Value} {d : DataW H} {p : List MemPlace} (hv : Value.okWide Tryd.prog W r b0 25 v) (h : DataW.Trod enc Tryd.prog W base spare held 25 v d p) : ∃ st : St, v = .agg st.cells := by
  obtain ⟨cs, rfl, hsz⟩ := okWide_struct Tryd.underlying25 hv
  rw [cellsSt] at hsz
  obtain ⟨c0, c1, c2, c3, c4, c5, c6, c7, c8, c9, c10, c11, c12, rfl⟩ := array13 hsz
  obtain ⟨fuel, hf⟩ := h
  obtain ⟨xs, n, _, _, _, hlen, hx⟩ := DataW.trod_struct Tryd.underlying25 hf
  have hy : ∀ i, i < 13 → ∃ y, xs[i]? = some y := fun i hi => ⟨xs[i]'(by rw [hlen]; exact hi), List.getElem?_eq_getElem _⟩
  obtain ⟨z0, rfl⟩ : ∃ z, c0 = .int .i64 z := by
    obtain ⟨y, hy⟩ := hy 0 (by decide)
    have h : DataW.trod enc Tryd.prog W base spare held n 3 (([c0, c1, c2, c3, c4, c5, c6, c7, c8, c9, c10, c11, c12].drop 0).take (Tryd.prog.cellsOf 3)) = xs[0]? := hx 0 _ rfl
    rw [hy, cellsInt] at h
    obtain ⟨z, hz, _⟩ := DataW.trod_int Tryd.underlying3 h
    exact ⟨z, (List.cons.inj hz).1⟩
  obtain ⟨z1, rfl⟩ : ∃ z, c1 = .int .i64 z := by
    obtain ⟨y, hy⟩ := hy 1 (by decide)
    have h : DataW.trod enc Tryd.prog W base spare held n 3 (([.int .i64 z0, c1, c2, c3, c4, c5, c6, c7, c8, c9, c10, c11, c12].drop 1).take (Tryd.prog.cellsOf 3)) = xs[1]? := hx 1 _ rfl
    rw [hy, cellsInt] at h
    obtain ⟨z, hz, _⟩ := DataW.trod_int Tryd.underlying3 h
    exact ⟨z, (List.cons.inj hz).1⟩
  obtain ⟨z2, rfl⟩ : ∃ z, c2 = .int .i64 z := by
    obtain ⟨y, hy⟩ := hy 2 (by decide)
    have h : DataW.trod enc Tryd.prog W base spare held n 3 (([.int .i64 z0, .int .i64 z1, c2, c3, c4, c5, c6, c7, c8, c9, c10, c11, c12].drop 2).take (Tryd.prog.cellsOf 3)) = xs[2]? := hx 2 _ rfl
    rw [hy, cellsInt] at h
    obtain ⟨z, hz, _⟩ := DataW.trod_int Tryd.underlying3 h
    exact ⟨z, (List.cons.inj hz).1⟩
  obtain ⟨z3, rfl⟩ : ∃ z, c3 = .int .i64 z := by
    obtain ⟨y, hy⟩ := hy 3 (by decide)
    have h : DataW.trod enc Tryd.prog W base spare held n 3 (([.int .i64 z0, .int .i64 z1, .int .i64 z2, c3, c4, c5, c6, c7, c8, c9, c10, c11, c12].drop 3).take (Tryd.prog.cellsOf 3)) = xs[3]? := hx 3 _ rfl
    rw [hy, cellsInt] at h
    obtain ⟨z, hz, _⟩ := DataW.trod_int Tryd.underlying3 h
    exact ⟨z, (List.cons.inj hz).1⟩
  obtain ⟨z4, rfl⟩ : ∃ z, c4 = .int .i64 z := by
    obtain ⟨y, hy⟩ := hy 4 (by decide)
    have h : DataW.trod enc Tryd.prog W base spare held n 3 (([.int .i64 z0, .int .i64 z1, .int .i64 z2, .int .i64 z3, c4, c5, c6, c7, c8, c9, c10, c11, c12].drop 4).take (Tryd.prog.cellsOf 3)) = xs[4]? := hx 4 _ rfl
    rw [hy, cellsInt] at h
    obtain ⟨z, hz, _⟩ := DataW.trod_int Tryd.underlying3 h
    exact ⟨z, (List.cons.inj hz).1⟩
  obtain ⟨z5, rfl⟩ : ∃ z, c5 = .int .i64 z := by
    obtain ⟨y, hy⟩ := hy 5 (by decide)
    have h : DataW.trod enc Tryd.prog W base spare held n 3 (([.int .i64 z0, .int .i64 z1, .int .i64 z2, .int .i64 z3, .int .i64 z4, c5, c6, c7, c8, c9, c10, c11, c12].drop 5).take (Tryd.prog.cellsOf 3)) = xs[5]? := hx 5 _ rfl
    rw [hy, cellsInt] at h
    obtain ⟨z, hz, _⟩ := DataW.trod_int Tryd.underlying3 h
    exact ⟨z, (List.cons.inj hz).1⟩
  obtain ⟨z6, rfl⟩ : ∃ z, c6 = .int .i64 z := by
    obtain ⟨y, hy⟩ := hy 6 (by decide)
    have h : DataW.trod enc Tryd.prog W base spare held n 3 (([.int .i64 z0, .int .i64 z1, .int .i64 z2, .int .i64 z3, .int .i64 z4, .int .i64 z5, c6, c7, c8, c9, c10, c11, c12].drop 6).take (Tryd.prog.cellsOf 3)) = xs[6]? := hx 6 _ rfl
    rw [hy, cellsInt] at h
    obtain ⟨z, hz, _⟩ := DataW.trod_int Tryd.underlying3 h
    exact ⟨z, (List.cons.inj hz).1⟩
  obtain ⟨z7, rfl⟩ : ∃ z, c7 = .int .i64 z := by
    obtain ⟨y, hy⟩ := hy 7 (by decide)
    have h : DataW.trod enc Tryd.prog W base spare held n 3 (([.int .i64 z0, .int .i64 z1, .int .i64 z2, .int .i64 z3, .int .i64 z4, .int .i64 z5, .int .i64 z6, c7, c8, c9, c10, c11, c12].drop 7).take (Tryd.prog.cellsOf 3)) = xs[7]? := hx 7 _ rfl
    rw [hy, cellsInt] at h
    obtain ⟨z, hz, _⟩ := DataW.trod_int Tryd.underlying3 h
    exact ⟨z, (List.cons.inj hz).1⟩
  obtain ⟨z8, rfl⟩ : ∃ z, c8 = .int .i64 z := by
    obtain ⟨y, hy⟩ := hy 8 (by decide)
    have h : DataW.trod enc Tryd.prog W base spare held n 3 (([.int .i64 z0, .int .i64 z1, .int .i64 z2, .int .i64 z3, .int .i64 z4, .int .i64 z5, .int .i64 z6, .int .i64 z7, c8, c9, c10, c11, c12].drop 8).take (Tryd.prog.cellsOf 3)) = xs[8]? := hx 8 _ rfl
    rw [hy, cellsInt] at h
    obtain ⟨z, hz, _⟩ := DataW.trod_int Tryd.underlying3 h
    exact ⟨z, (List.cons.inj hz).1⟩
  obtain ⟨z9, rfl⟩ : ∃ z, c9 = .int .i64 z := by
    obtain ⟨y, hy⟩ := hy 9 (by decide)
    have h : DataW.trod enc Tryd.prog W base spare held n 3 (([.int .i64 z0, .int .i64 z1, .int .i64 z2, .int .i64 z3, .int .i64 z4, .int .i64 z5, .int .i64 z6, .int .i64 z7, .int .i64 z8, c9, c10, c11, c12].drop 9).take (Tryd.prog.cellsOf 3)) = xs[9]? := hx 9 _ rfl
    rw [hy, cellsInt] at h
    obtain ⟨z, hz, _⟩ := DataW.trod_int Tryd.underlying3 h
    exact ⟨z, (List.cons.inj hz).1⟩
  obtain ⟨z10, rfl⟩ : ∃ z, c10 = .int .i64 z := by
    obtain ⟨y, hy⟩ := hy 10 (by decide)
    have h : DataW.trod enc Tryd.prog W base spare held n 3 (([.int .i64 z0, .int .i64 z1, .int .i64 z2, .int .i64 z3, .int .i64 z4, .int .i64 z5, .int .i64 z6, .int .i64 z7, .int .i64 z8, .int .i64 z9, c10, c11, c12].drop 10).take (Tryd.prog.cellsOf 3)) = xs[10]? := hx 10 _ rfl
    rw [hy, cellsInt] at h
    obtain ⟨z, hz, _⟩ := DataW.trod_int Tryd.underlying3 h
    exact ⟨z, (List.cons.inj hz).1⟩
  obtain ⟨a11, l11, cc11, rfl⟩ : ∃ a l c, c11 = .slice a l c := by
    obtain ⟨y, hy⟩ := hy 11 (by decide)
    have h : DataW.trod enc Tryd.prog W base spare held n 22 (([.int .i64 z0, .int .i64 z1, .int .i64 z2, .int .i64 z3, .int .i64 z4, .int .i64 z5, .int .i64 z6, .int .i64 z7, .int .i64 z8, .int .i64 z9, .int .i64 z10, c11, c12].drop 11).take (Tryd.prog.cellsOf 22)) = xs[11]? := hx 11 _ rfl
    rw [hy, cellsBs] at h
    obtain ⟨a, l, c, hz⟩ := Go.Joins.slice_form Tryd.underlying22 h
    exact ⟨a, l, c, (List.cons.inj hz).1⟩
  obtain ⟨a12, l12, cc12, rfl⟩ : ∃ a l c, c12 = .slice a l c := by
    obtain ⟨y, hy⟩ := hy 12 (by decide)
    have h : DataW.trod enc Tryd.prog W base spare held n 23 (([.int .i64 z0, .int .i64 z1, .int .i64 z2, .int .i64 z3, .int .i64 z4, .int .i64 z5, .int .i64 z6, .int .i64 z7, .int .i64 z8, .int .i64 z9, .int .i64 z10, .slice a11 l11 cc11, c12].drop 12).take (Tryd.prog.cellsOf 23)) = xs[12]? := hx 12 _ rfl
    rw [hy, cellsSs] at h
    obtain ⟨a, l, c, hz⟩ := Go.Joins.slice_form Tryd.underlying23 h
    exact ⟨a, l, c, (List.cons.inj hz).1⟩
  exact ⟨⟨z0, z1, z2, z3, z4, z5, z6, z7, z8, z9, z10, (a11, l11, cc11), (a12, l12, cc12)⟩, rfl⟩
end
end Go.Proofs.YtlneimjenjpbnaaDoor
