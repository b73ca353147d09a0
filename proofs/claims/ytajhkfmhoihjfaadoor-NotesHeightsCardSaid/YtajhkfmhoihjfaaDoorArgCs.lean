/-
  A case that came in, by value.
-/
import Derived.Test.YtajhkfmhoihjfaaDoorCase
import Derived.Test.YtajhkfmhoihjfaaDoorArgSt
namespace Go.Proofs.YtajhkfmhoihjfaaDoor
open Go.ChangeShapes Go.WideShapes Go.ChangeAt Go.RowKit Go.Deep

theorem array18 {α : Type} {cs : Array α} (h : cs.size = 18) : ∃ c0 c1 c2 c3 c4 c5 c6 c7 c8 c9 c10 c11 c12 c13 c14 c15 c16 c17, cs = #[c0, c1, c2, c3, c4, c5, c6, c7, c8, c9, c10, c11, c12, c13, c14, c15, c16, c17] := by
  obtain ⟨l⟩ := cs
  match l, h with
  | [c0, c1, c2, c3, c4, c5, c6, c7, c8, c9, c10, c11, c12, c13, c14, c15, c16, c17], _ => exact ⟨c0, c1, c2, c3, c4, c5, c6, c7, c8, c9, c10, c11, c12, c13, c14, c15, c16, c17, rfl⟩
theorem cellsIs : (Tryd.prog).cellsOf 50 = 1 := by kernel_rfl
theorem cellsCs : (Tryd.prog).cellsOf 56 = 18 := by kernel_rfl
section
variable {H : Type} {enc : TypeId × Value → H} {W : World} {base : Nat} {spare : Nat → Bool} {held : Bool}

set_option maxRecDepth 100000 in
set_option maxHeartbeats 1000000 in
theorem case_of {r : Reach} {b0 : Nat} {v : Value} {d : DataW H} {p : List MemPlace} (hv : Value.okWide Tryd.prog W r b0 56 v) (h : DataW.Trod enc Tryd.prog W base spare held 56 v d p) : ∃ (x : Cs) (l1 l2 : List Int) (l3 : List ByteArray), v = .agg x.cells ∧ CsR W x l1 l2 l3 ∧ Szs l3 := by
  obtain ⟨cs, rfl, hsz⟩ := okWide_struct Tryd.underlying56 hv
  rw [cellsCs] at hsz
  obtain ⟨c0, c1, c2, c3, c4, c5, c6, c7, c8, c9, c10, c11, c12, c13, c14, c15, c16, c17, rfl⟩ := array18 hsz
  obtain ⟨fuel, hf⟩ := h
  obtain ⟨ys, n1, _, _, _, hlen1, hx1⟩ := DataW.trod_struct Tryd.underlying56 hf
  have hy1 : ∀ i, i < 6 → ∃ y, ys[i]? = some y := fun i hi => ⟨ys[i]'(by rw [hlen1]; exact hi), List.getElem?_eq_getElem _⟩
  obtain ⟨yS, hyS⟩ := hy1 0 (by decide)
  have hS : DataW.trod enc Tryd.prog W base spare held n1 25 (([c0, c1, c2, c3, c4, c5, c6, c7, c8, c9, c10, c11, c12, c13, c14, c15, c16, c17].drop 0).take (Tryd.prog.cellsOf 25)) = ys[0]? := hx1 0 _ rfl
  rw [hyS, cellsSt] at hS
  obtain ⟨xs, n, _, _, _, hlen, hx⟩ := DataW.trod_struct Tryd.underlying25 hS
  have hy : ∀ i, i < 13 → ∃ y, xs[i]? = some y := fun i hi => ⟨xs[i]'(by rw [hlen]; exact hi), List.getElem?_eq_getElem _⟩
  obtain ⟨z0, rfl⟩ : ∃ z, c0 = .int .i64 z := by
    obtain ⟨y, hy⟩ := hy 0 (by decide)
    have h : DataW.trod enc Tryd.prog W base spare held n 3 (([c0, c1, c2, c3, c4, c5, c6, c7, c8, c9, c10, c11, c12].drop 0).take (Tryd.prog.cellsOf 3)) = xs[0]? := hx 0 _ rfl
    rw [hy, cellsInt] at h
    obtain ⟨z, hz, _⟩ := DataW.trod_int Tryd.underlying3 h
    exact ⟨z, (List.cons.inj hz).1⟩
  obtain ⟨z1, rfl⟩ : ∃ z, c1 = .int .i64 z := by
    obtain ⟨y, hy⟩ := hy 1 (by decide)
    have h : DataW.trod enc Tryd.prog W base spare held n 3 (([.int .i64 z0, c1, c2, c3, c4, c5, c6, c7, c8, c9, c10, c11, c12].drop 1).take (Tryd.prog.cellsOf 3)) = xs[1]? := hx 1 _ rfl
    rw [hy, cellsInt] at h
    obtain ⟨z, hz, _⟩ := DataW.trod_int Tryd.underlying3 h
    exact ⟨z, (List.cons.inj hz).1⟩
  obtain ⟨z2, rfl⟩ : ∃ z, c2 = .int .i64 z := by
    obtain ⟨y, hy⟩ := hy 2 (by decide)
    have h : DataW.trod enc Tryd.prog W base spare held n 3 (([.int .i64 z0, .int .i64 z1, c2, c3, c4, c5, c6, c7, c8, c9, c10, c11, c12].drop 2).take (Tryd.prog.cellsOf 3)) = xs[2]? := hx 2 _ rfl
    rw [hy, cellsInt] at h
    obtain ⟨z, hz, _⟩ := DataW.trod_int Tryd.underlying3 h
    exact ⟨z, (List.cons.inj hz).1⟩
  obtain ⟨z3, rfl⟩ : ∃ z, c3 = .int .i64 z := by
    obtain ⟨y, hy⟩ := hy 3 (by decide)
    have h : DataW.trod enc Tryd.prog W base spare held n 3 (([.int .i64 z0, .int .i64 z1, .int .i64 z2, c3, c4, c5, c6, c7, c8, c9, c10, c11, c12].drop 3).take (Tryd.prog.cellsOf 3)) = xs[3]? := hx 3 _ rfl
    rw [hy, cellsInt] at h
    obtain ⟨z, hz, _⟩ := DataW.trod_int Tryd.underlying3 h
    exact ⟨z, (List.cons.inj hz).1⟩
  obtain ⟨z4, rfl⟩ : ∃ z, c4 = .int .i64 z := by
    obtain ⟨y, hy⟩ := hy 4 (by decide)
    have h : DataW.trod enc Tryd.prog W base spare held n 3 (([.int .i64 z0, .int .i64 z1, .int .i64 z2, .int .i64 z3, c4, c5, c6, c7, c8, c9, c10, c11, c12].drop 4).take (Tryd.prog.cellsOf 3)) = xs[4]? := hx 4 _ rfl
    rw [hy, cellsInt] at h
    obtain ⟨z, hz, _⟩ := DataW.trod_int Tryd.underlying3 h
    exact ⟨z, (List.cons.inj hz).1⟩
  obtain ⟨z5, rfl⟩ : ∃ z, c5 = .int .i64 z := by
    obtain ⟨y, hy⟩ := hy 5 (by decide)
    have h : DataW.trod enc Tryd.prog W base spare held n 3 (([.int .i64 z0, .int .i64 z1, .int .i64 z2, .int .i64 z3, .int .i64 z4, c5, c6, c7, c8, c9, c10, c11, c12].drop 5).take (Tryd.prog.cellsOf 3)) = xs[5]? := hx 5 _ rfl
    rw [hy, cellsInt] at h
    obtain ⟨z, hz, _⟩ := DataW.trod_int Tryd.underlying3 h
    exact ⟨z, (List.cons.inj hz).1⟩
  obtain ⟨z6, rfl⟩ : ∃ z, c6 = .int .i64 z := by
    obtain ⟨y, hy⟩ := hy 6 (by decide)
    have h : DataW.trod enc Tryd.prog W base spare held n 3 (([.int .i64 z0, .int .i64 z1, .int .i64 z2, .int .i64 z3, .int .i64 z4, .int .i64 z5, c6, c7, c8, c9, c10, c11, c12].drop 6).take (Tryd.prog.cellsOf 3)) = xs[6]? := hx 6 _ rfl
    rw [hy, cellsInt] at h
    obtain ⟨z, hz, _⟩ := DataW.trod_int Tryd.underlying3 h
    exact ⟨z, (List.cons.inj hz).1⟩
  obtain ⟨z7, rfl⟩ : ∃ z, c7 = .int .i64 z := by
    obtain ⟨y, hy⟩ := hy 7 (by decide)
    have h : DataW.trod enc Tryd.prog W base spare held n 3 (([.int .i64 z0, .int .i64 z1, .int .i64 z2, .int .i64 z3, .int .i64 z4, .int .i64 z5, .int .i64 z6, c7, c8, c9, c10, c11, c12].drop 7).take (Tryd.prog.cellsOf 3)) = xs[7]? := hx 7 _ rfl
    rw [hy, cellsInt] at h
    obtain ⟨z, hz, _⟩ := DataW.trod_int Tryd.underlying3 h
    exact ⟨z, (List.cons.inj hz).1⟩
  obtain ⟨z8, rfl⟩ : ∃ z, c8 = .int .i64 z := by
    obtain ⟨y, hy⟩ := hy 8 (by decide)
    have h : DataW.trod enc Tryd.prog W base spare held n 3 (([.int .i64 z0, .int .i64 z1, .int .i64 z2, .int .i64 z3, .int .i64 z4, .int .i64 z5, .int .i64 z6, .int .i64 z7, c8, c9, c10, c11, c12].drop 8).take (Tryd.prog.cellsOf 3)) = xs[8]? := hx 8 _ rfl
    rw [hy, cellsInt] at h
    obtain ⟨z, hz, _⟩ := DataW.trod_int Tryd.underlying3 h
    exact ⟨z, (List.cons.inj hz).1⟩
  obtain ⟨z9, rfl⟩ : ∃ z, c9 = .int .i64 z := by
    obtain ⟨y, hy⟩ := hy 9 (by decide)
    have h : DataW.trod enc Tryd.prog W base spare held n 3 (([.int .i64 z0, .int .i64 z1, .int .i64 z2, .int .i64 z3, .int .i64 z4, .int .i64 z5, .int .i64 z6, .int .i64 z7, .int .i64 z8, c9, c10, c11, c12].drop 9).take (Tryd.prog.cellsOf 3)) = xs[9]? := hx 9 _ rfl
    rw [hy, cellsInt] at h
    obtain ⟨z, hz, _⟩ := DataW.trod_int Tryd.underlying3 h
    exact ⟨z, (List.cons.inj hz).1⟩
  obtain ⟨z10, rfl⟩ : ∃ z, c10 = .int .i64 z := by
    obtain ⟨y, hy⟩ := hy 10 (by decide)
    have h : DataW.trod enc Tryd.prog W base spare held n 3 (([.int .i64 z0, .int .i64 z1, .int .i64 z2, .int .i64 z3, .int .i64 z4, .int .i64 z5, .int .i64 z6, .int .i64 z7, .int .i64 z8, .int .i64 z9, c10, c11, c12].drop 10).take (Tryd.prog.cellsOf 3)) = xs[10]? := hx 10 _ rfl
    rw [hy, cellsInt] at h
    obtain ⟨z, hz, _⟩ := DataW.trod_int Tryd.underlying3 h
    exact ⟨z, (List.cons.inj hz).1⟩
  obtain ⟨a11, l11, cc11, rfl⟩ : ∃ a l c, c11 = .slice a l c := by
    obtain ⟨y, hy⟩ := hy 11 (by decide)
    have h : DataW.trod enc Tryd.prog W base spare held n 22 (([.int .i64 z0, .int .i64 z1, .int .i64 z2, .int .i64 z3, .int .i64 z4, .int .i64 z5, .int .i64 z6, .int .i64 z7, .int .i64 z8, .int .i64 z9, .int .i64 z10, c11, c12].drop 11).take (Tryd.prog.cellsOf 22)) = xs[11]? := hx 11 _ rfl
    rw [hy, cellsBs] at h
    obtain ⟨a, l, c, hz⟩ := Go.Joins.slice_form Tryd.underlying22 h
    exact ⟨a, l, c, (List.cons.inj hz).1⟩
  obtain ⟨a12, l12, cc12, rfl⟩ : ∃ a l c, c12 = .slice a l c := by
    obtain ⟨y, hy⟩ := hy 12 (by decide)
    have h : DataW.trod enc Tryd.prog W base spare held n 23 (([.int .i64 z0, .int .i64 z1, .int .i64 z2, .int .i64 z3, .int .i64 z4, .int .i64 z5, .int .i64 z6, .int .i64 z7, .int .i64 z8, .int .i64 z9, .int .i64 z10, .slice a11 l11 cc11, c12].drop 12).take (Tryd.prog.cellsOf 23)) = xs[12]? := hx 12 _ rfl
    rw [hy, cellsSs] at h
    obtain ⟨a, l, c, hz⟩ := Go.Joins.slice_form Tryd.underlying23 h
    exact ⟨a, l, c, (List.cons.inj hz).1⟩
  obtain ⟨z13, rfl⟩ : ∃ z, c13 = .int .i64 z := by
    obtain ⟨y, hy⟩ := hy1 1 (by decide)
    have h : DataW.trod enc Tryd.prog W base spare held n1 3 (([.int .i64 z0, .int .i64 z1, .int .i64 z2, .int .i64 z3, .int .i64 z4, .int .i64 z5, .int .i64 z6, .int .i64 z7, .int .i64 z8, .int .i64 z9, .int .i64 z10, .slice a11 l11 cc11, .slice a12 l12 cc12, c13, c14, c15, c16, c17].drop 13).take (Tryd.prog.cellsOf 3)) = ys[1]? := hx1 1 _ rfl
    rw [hy, cellsInt] at h
    obtain ⟨z, hz, _⟩ := DataW.trod_int Tryd.underlying3 h
    exact ⟨z, (List.cons.inj hz).1⟩
  obtain ⟨z14, rfl⟩ : ∃ z, c14 = .int .i64 z := by
    obtain ⟨y, hy⟩ := hy1 2 (by decide)
    have h : DataW.trod enc Tryd.prog W base spare held n1 3 (([.int .i64 z0, .int .i64 z1, .int .i64 z2, .int .i64 z3, .int .i64 z4, .int .i64 z5, .int .i64 z6, .int .i64 z7, .int .i64 z8, .int .i64 z9, .int .i64 z10, .slice a11 l11 cc11, .slice a12 l12 cc12, .int .i64 z13, c14, c15, c16, c17].drop 14).take (Tryd.prog.cellsOf 3)) = ys[2]? := hx1 2 _ rfl
    rw [hy, cellsInt] at h
    obtain ⟨z, hz, _⟩ := DataW.trod_int Tryd.underlying3 h
    exact ⟨z, (List.cons.inj hz).1⟩
  obtain ⟨a15, l15, cc15, li15, rfl, hr15⟩ : ∃ a l c li, c15 = .slice a l c ∧ RdI W (.slice a l c) li := by
    obtain ⟨y, hy⟩ := hy1 3 (by decide)
    have h : DataW.trod enc Tryd.prog W base spare held n1 50 (([.int .i64 z0, .int .i64 z1, .int .i64 z2, .int .i64 z3, .int .i64 z4, .int .i64 z5, .int .i64 z6, .int .i64 z7, .int .i64 z8, .int .i64 z9, .int .i64 z10, .slice a11 l11 cc11, .slice a12 l12 cc12, .int .i64 z13, .int .i64 z14, c15, c16, c17].drop 15).take (Tryd.prog.cellsOf 50)) = ys[3]? := hx1 3 _ rfl
    rw [hy, cellsIs] at h
    obtain ⟨a, l, c, hz⟩ := Go.Joins.slice_form Tryd.underlying50 h
    have hz1 : c15 = .slice a l c := (List.cons.inj hz).1
    subst hz1
    obtain ⟨li, hr⟩ := rdI_of Tryd.underlying50 Tryd.underlying3 (by kernel_rfl) h
    exact ⟨a, l, c, li, rfl, hr⟩
  obtain ⟨a16, l16, cc16, li16, rfl, hr16⟩ : ∃ a l c li, c16 = .slice a l c ∧ RdI W (.slice a l c) li := by
    obtain ⟨y, hy⟩ := hy1 4 (by decide)
    have h : DataW.trod enc Tryd.prog W base spare held n1 50 (([.int .i64 z0, .int .i64 z1, .int .i64 z2, .int .i64 z3, .int .i64 z4, .int .i64 z5, .int .i64 z6, .int .i64 z7, .int .i64 z8, .int .i64 z9, .int .i64 z10, .slice a11 l11 cc11, .slice a12 l12 cc12, .int .i64 z13, .int .i64 z14, .slice a15 l15 cc15, c16, c17].drop 16).take (Tryd.prog.cellsOf 50)) = ys[4]? := hx1 4 _ rfl
    rw [hy, cellsIs] at h
    obtain ⟨a, l, c, hz⟩ := Go.Joins.slice_form Tryd.underlying50 h
    have hz1 : c16 = .slice a l c := (List.cons.inj hz).1
    subst hz1
    obtain ⟨li, hr⟩ := rdI_of Tryd.underlying50 Tryd.underlying3 (by kernel_rfl) h
    exact ⟨a, l, c, li, rfl, hr⟩
  obtain ⟨a17, l17, cc17, li17, rfl, hr17, hz17⟩ : ∃ a l c li, c17 = .slice a l c ∧ RdS W (.slice a l c) li ∧ Szs li := by
    obtain ⟨y, hy⟩ := hy1 5 (by decide)
    have h : DataW.trod enc Tryd.prog W base spare held n1 23 (([.int .i64 z0, .int .i64 z1, .int .i64 z2, .int .i64 z3, .int .i64 z4, .int .i64 z5, .int .i64 z6, .int .i64 z7, .int .i64 z8, .int .i64 z9, .int .i64 z10, .slice a11 l11 cc11, .slice a12 l12 cc12, .int .i64 z13, .int .i64 z14, .slice a15 l15 cc15, .slice a16 l16 cc16, c17].drop 17).take (Tryd.prog.cellsOf 23)) = ys[5]? := hx1 5 _ rfl
    rw [hy, cellsSs] at h
    obtain ⟨a, l, c, hz⟩ := Go.Joins.slice_form Tryd.underlying23 h
    have hz1 : c17 = .slice a l c := (List.cons.inj hz).1
    subst hz1
    obtain ⟨li, hr, hzz⟩ := rdS_of Tryd.underlying23 Tryd.underlying9 (by kernel_rfl) h
    exact ⟨a, l, c, li, rfl, hr, hzz⟩
  exact ⟨⟨⟨z0, z1, z2, z3, z4, z5, z6, z7, z8, z9, z10, (a11, l11, cc11), (a12, l12, cc12)⟩, z13, z14, (a15, l15, cc15), (a16, l16, cc16), (a17, l17, cc17)⟩, li15, li16, li17, rfl, ⟨hr15, hr16, hr17⟩, hz17⟩
end
end Go.Proofs.YtajhkfmhoihjfaaDoor
