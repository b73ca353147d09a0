/-
  Words and a setting of paragraph that came in, by value.
-/
import Derived.Test.YtalpgilncohkbaaArgs
import Derived.Test.YtalpgilncohkbaaIta
import Derived.Lib.SmallJoins
namespace Go.Proofs.Ytalpgilncohkbaa
open Go.ChangeShapes Go.WideShapes Go.ChangeAt Go.RowKit Go.Deep

theorem a48_cellsInt : (Try.prog).cellsOf 3 = 1 := by kernel_rfl
theorem a48_cellsStr : (Try.prog).cellsOf 9 = 1 := by kernel_rfl
theorem a48_cellsBool : (Try.prog).cellsOf 4 = 1 := by kernel_rfl
theorem a48_cellsS : (Try.prog).cellsOf 29 = 15 := by kernel_rfl
theorem a48_cellsSt : (Try.prog).cellsOf 25 = 13 := by kernel_rfl
theorem a48_cellsW : (Try.prog).cellsOf 35 = 7 := by kernel_rfl
theorem a48_cellsPs : (Try.prog).cellsOf 26 = 1 := by kernel_rfl
theorem a48_cellsWs : (Try.prog).cellsOf 27 = 1 := by kernel_rfl
theorem a48_cellsBs : (Try.prog).cellsOf 22 = 1 := by kernel_rfl
theorem a48_cellsSs : (Try.prog).cellsOf 23 = 1 := by kernel_rfl
theorem a48_seven {α : Type} {cs : List α} (h : cs.length = 7) : ∃ c0 c1 c2 c3 c4 c5 c6, cs = [c0, c1, c2, c3, c4, c5, c6] := by
  match cs, h with
  | [c0, c1, c2, c3, c4, c5, c6], _ => exact ⟨c0, c1, c2, c3, c4, c5, c6, rfl⟩
theorem a48_thirteen {α : Type} {cs : List α} (h : cs.length = 13) : ∃ c0 c1 c2 c3 c4 c5 c6 c7 c8 c9 c10 c11 c12, cs = [c0, c1, c2, c3, c4, c5, c6, c7, c8, c9, c10, c11, c12] := by
  match cs, h with
  | [c0, c1, c2, c3, c4, c5, c6, c7, c8, c9, c10, c11, c12], _ => exact ⟨c0, c1, c2, c3, c4, c5, c6, c7, c8, c9, c10, c11, c12, rfl⟩
theorem a48_fifteen {α : Type} {cs : List α} (h : cs.length = 15) : ∃ c0 c1 c2 c3 c4 c5 c6 c7 c8 c9 c10 c11 c12 c13 c14, cs = [c0, c1, c2, c3, c4, c5, c6, c7, c8, c9, c10, c11, c12, c13, c14] := by
  match cs, h with
  | [c0, c1, c2, c3, c4, c5, c6, c7, c8, c9, c10, c11, c12, c13, c14], _ => exact ⟨c0, c1, c2, c3, c4, c5, c6, c7, c8, c9, c10, c11, c12, c13, c14, rfl⟩
instance : Inhabited Wd := ⟨⟨⟨#[]⟩, 0, 0, 0, false, false, ⟨#[]⟩⟩⟩
section
variable {H : Type} {enc : TypeId × Value → H} {W : World} {base : Nat} {spare : Nat → Bool} {held : Bool}

set_option maxRecDepth 100000 in
theorem wd_of {fuel : Nat} {cs : List Value} {x : DataW H × List MemPlace} (hl : cs.length = 7) (hf : DataW.trod enc Try.prog W base spare held fuel 35 cs = some x) : ∃ b : Wd, cs = encWd b := by
  obtain ⟨c0, c1, c2, c3, c4, c5, c6, rfl⟩ := a48_seven hl
  obtain ⟨xs, n, _, _, _, hlen, hx⟩ := DataW.trod_struct Try.underlying35 hf
  have hy : ∀ i, i < 7 → ∃ y, xs[i]? = some y := fun i hi => ⟨xs[i]'(by rw [hlen]; exact hi), List.getElem?_eq_getElem _⟩
  obtain ⟨s0, rfl, hsz0⟩ : ∃ f : ByteArray, c0 = .string f ∧ f.size ≤ maxLen := by
    obtain ⟨y, hy⟩ := hy 0 (by decide)
    have h : DataW.trod enc Try.prog W base spare held n 9 (([c0, c1, c2, c3, c4, c5, c6].drop 0).take (Try.prog.cellsOf 9)) = xs[0]? := hx 0 _ rfl
    rw [hy, a48_cellsStr] at h
    obtain ⟨s, hs, _, hz⟩ := DataW.trod_string Try.underlying9 h
    exact ⟨s, (List.cons.inj hs).1, hz⟩
  obtain ⟨z1, rfl⟩ : ∃ z, c1 = .int .i64 z := by
    obtain ⟨y, hy⟩ := hy 1 (by decide)
    have h : DataW.trod enc Try.prog W base spare held n 3 (([.string s0, c1, c2, c3, c4, c5, c6].drop 1).take (Try.prog.cellsOf 3)) = xs[1]? := hx 1 _ rfl
    rw [hy, a48_cellsInt] at h
    obtain ⟨z, hz, _⟩ := DataW.trod_int Try.underlying3 h
    exact ⟨z, (List.cons.inj hz).1⟩
  obtain ⟨z2, rfl⟩ : ∃ z, c2 = .int .i64 z := by
    obtain ⟨y, hy⟩ := hy 2 (by decide)
    have h : DataW.trod enc Try.prog W base spare held n 3 (([.string s0, .int .i64 z1, c2, c3, c4, c5, c6].drop 2).take (Try.prog.cellsOf 3)) = xs[2]? := hx 2 _ rfl
    rw [hy, a48_cellsInt] at h
    obtain ⟨z, hz, _⟩ := DataW.trod_int Try.underlying3 h
    exact ⟨z, (List.cons.inj hz).1⟩
  obtain ⟨z3, rfl⟩ : ∃ z, c3 = .int .i64 z := by
    obtain ⟨y, hy⟩ := hy 3 (by decide)
    have h : DataW.trod enc Try.prog W base spare held n 3 (([.string s0, .int .i64 z1, .int .i64 z2, c3, c4, c5, c6].drop 3).take (Try.prog.cellsOf 3)) = xs[3]? := hx 3 _ rfl
    rw [hy, a48_cellsInt] at h
    obtain ⟨z, hz, _⟩ := DataW.trod_int Try.underlying3 h
    exact ⟨z, (List.cons.inj hz).1⟩
  obtain ⟨b4, rfl⟩ : ∃ z, c4 = .bool z := by
    obtain ⟨y, hy⟩ := hy 4 (by decide)
    have h : DataW.trod enc Try.prog W base spare held n 4 (([.string s0, .int .i64 z1, .int .i64 z2, .int .i64 z3, c4, c5, c6].drop 4).take (Try.prog.cellsOf 4)) = xs[4]? := hx 4 _ rfl
    rw [hy, a48_cellsBool] at h
    obtain ⟨z, hz, _⟩ := DataW.trod_bool Try.underlying4 h
    exact ⟨z, (List.cons.inj hz).1⟩
  obtain ⟨b5, rfl⟩ : ∃ z, c5 = .bool z := by
    obtain ⟨y, hy⟩ := hy 5 (by decide)
    have h : DataW.trod enc Try.prog W base spare held n 4 (([.string s0, .int .i64 z1, .int .i64 z2, .int .i64 z3, .bool b4, c5, c6].drop 5).take (Try.prog.cellsOf 4)) = xs[5]? := hx 5 _ rfl
    rw [hy, a48_cellsBool] at h
    obtain ⟨z, hz, _⟩ := DataW.trod_bool Try.underlying4 h
    exact ⟨z, (List.cons.inj hz).1⟩
  obtain ⟨s6, rfl, hsz6⟩ : ∃ f : ByteArray, c6 = .string f ∧ f.size ≤ maxLen := by
    obtain ⟨y, hy⟩ := hy 6 (by decide)
    have h : DataW.trod enc Try.prog W base spare held n 9 (([.string s0, .int .i64 z1, .int .i64 z2, .int .i64 z3, .bool b4, .bool b5, c6].drop 6).take (Try.prog.cellsOf 9)) = xs[6]? := hx 6 _ rfl
    rw [hy, a48_cellsStr] at h
    obtain ⟨s, hs, _, hz⟩ := DataW.trod_string Try.underlying9 h
    exact ⟨s, (List.cons.inj hs).1, hz⟩
  exact ⟨⟨s0, z1, z2, z3, b4, b5, s6⟩, rfl⟩
theorem rdWd_of {fuel : Nat} {v : Value} {x : DataW H × List MemPlace} (hf : DataW.trod enc Try.prog W base spare held fuel 27 [v] = some x) : ∃ l, RdWd W v l := by
  rcases open_slice Try.underlying27 hf with ⟨hcs, _⟩ | ⟨a, len, cap, m, n, D, Pl, hcs, _, hl, hm, hmm, _, hcell⟩
  · simp only [List.cons.injEq, and_true] at hcs
    subst hcs
    exact ⟨[], none, 0, rfl, Nat.le_refl _, by decide, fun i x hx => by cases hx⟩
  · simp only [List.cons.injEq, and_true] at hcs
    subst hcs
    have hlen : len ≤ m := by rw [hmm]; split <;> omega
    obtain ⟨b, off, spot⟩ := a
    have hex : ∀ i, i < len → ∃ x : Wd, ∀ j, j < 7 → W.cell? (((⟨b, off, spot⟩ : Addr).add (i * 7)).add j) = (encWd x)[j]? := by
      intro i hi
      obtain ⟨cs, h1, h2⟩ := hcell i (by omega)
      rw [a48_cellsW] at h1
      obtain ⟨_, hl6, hc⟩ := World.cells?_some h1
      obtain ⟨x, rfl⟩ := wd_of hl6 h2
      exact ⟨x, hc⟩
    obtain ⟨f, hf⟩ := choose_lt hex
    refine ⟨(List.range len).map f, some ⟨b, off, spot⟩, cap, by simp, by simpa using hl, hm, fun i x hx => ?_⟩
    have hi : i < len := by have := (List.getElem?_eq_some_iff.1 hx).1; simpa using this
    have a0 := hf i hi
    obtain rfl : spot = none := by
      have h0 := hf 0 (by omega) 0 (by decide)
      have h1 := World.cell?_spot (h0.trans rfl)
      simpa [Addr.add] using h1
    simp only [List.getElem?_map, List.getElem?_range hi, Option.map_some, Option.some.injEq] at hx
    subst hx
    refine ⟨b, off, rfl, fun j u hu => ?_⟩
    have hj : j < 7 := (List.getElem?_eq_some_iff.1 hu).1
    have h := a0 j hj
    rw [Go.WideShapes.add_plain, Go.WideShapes.add_plain] at h
    rw [h]; exact hu

set_option maxRecDepth 100000 in
theorem sty_of {fuel : Nat} {cs : List Value} {x : DataW H × List MemPlace} (hl : cs.length = 13) (hf : DataW.trod enc Try.prog W base spare held fuel 25 cs = some x) : ∃ st : St, cs = st.cells.toList := by
  obtain ⟨c0, c1, c2, c3, c4, c5, c6, c7, c8, c9, c10, c11, c12, rfl⟩ := a48_thirteen hl
  obtain ⟨xs, n, _, _, _, hlen, hx⟩ := DataW.trod_struct Try.underlying25 hf
  have hy : ∀ i, i < 13 → ∃ y, xs[i]? = some y := fun i hi => ⟨xs[i]'(by rw [hlen]; exact hi), List.getElem?_eq_getElem _⟩
  obtain ⟨z0, rfl⟩ : ∃ z, c0 = .int .i64 z := by
    obtain ⟨y, hy⟩ := hy 0 (by decide)
    have h : DataW.trod enc Try.prog W base spare held n 3 (([c0, c1, c2, c3, c4, c5, c6, c7, c8, c9, c10, c11, c12].drop 0).take (Try.prog.cellsOf 3)) = xs[0]? := hx 0 _ rfl
    rw [hy, a48_cellsInt] at h
    obtain ⟨z, hz, _⟩ := DataW.trod_int Try.underlying3 h
    exact ⟨z, (List.cons.inj hz).1⟩
  obtain ⟨z1, rfl⟩ : ∃ z, c1 = .int .i64 z := by
    obtain ⟨y, hy⟩ := hy 1 (by decide)
    have h : DataW.trod enc Try.prog W base spare held n 3 (([.int .i64 z0, c1, c2, c3, c4, c5, c6, c7, c8, c9, c10, c11, c12].drop 1).take (Try.prog.cellsOf 3)) = xs[1]? := hx 1 _ rfl
    rw [hy, a48_cellsInt] at h
    obtain ⟨z, hz, _⟩ := DataW.trod_int Try.underlying3 h
    exact ⟨z, (List.cons.inj hz).1⟩
  obtain ⟨z2, rfl⟩ : ∃ z, c2 = .int .i64 z := by
    obtain ⟨y, hy⟩ := hy 2 (by decide)
    have h : DataW.trod enc Try.prog W base spare held n 3 (([.int .i64 z0, .int .i64 z1, c2, c3, c4, c5, c6, c7, c8, c9, c10, c11, c12].drop 2).take (Try.prog.cellsOf 3)) = xs[2]? := hx 2 _ rfl
    rw [hy, a48_cellsInt] at h
    obtain ⟨z, hz, _⟩ := DataW.trod_int Try.underlying3 h
    exact ⟨z, (List.cons.inj hz).1⟩
  obtain ⟨z3, rfl⟩ : ∃ z, c3 = .int .i64 z := by
    obtain ⟨y, hy⟩ := hy 3 (by decide)
    have h : DataW.trod enc Try.prog W base spare held n 3 (([.int .i64 z0, .int .i64 z1, .int .i64 z2, c3, c4, c5, c6, c7, c8, c9, c10, c11, c12].drop 3).take (Try.prog.cellsOf 3)) = xs[3]? := hx 3 _ rfl
    rw [hy, a48_cellsInt] at h
    obtain ⟨z, hz, _⟩ := DataW.trod_int Try.underlying3 h
    exact ⟨z, (List.cons.inj hz).1⟩
  obtain ⟨z4, rfl⟩ : ∃ z, c4 = .int .i64 z := by
    obtain ⟨y, hy⟩ := hy 4 (by decide)
    have h : DataW.trod enc Try.prog W base spare held n 3 (([.int .i64 z0, .int .i64 z1, .int .i64 z2, .int .i64 z3, c4, c5, c6, c7, c8, c9, c10, c11, c12].drop 4).take (Try.prog.cellsOf 3)) = xs[4]? := hx 4 _ rfl
    rw [hy, a48_cellsInt] at h
    obtain ⟨z, hz, _⟩ := DataW.trod_int Try.underlying3 h
    exact ⟨z, (List.cons.inj hz).1⟩
  obtain ⟨z5, rfl⟩ : ∃ z, c5 = .int .i64 z := by
    obtain ⟨y, hy⟩ := hy 5 (by decide)
    have h : DataW.trod enc Try.prog W base spare held n 3 (([.int .i64 z0, .int .i64 z1, .int .i64 z2, .int .i64 z3, .int .i64 z4, c5, c6, c7, c8, c9, c10, c11, c12].drop 5).take (Try.prog.cellsOf 3)) = xs[5]? := hx 5 _ rfl
    rw [hy, a48_cellsInt] at h
    obtain ⟨z, hz, _⟩ := DataW.trod_int Try.underlying3 h
    exact ⟨z, (List.cons.inj hz).1⟩
  obtain ⟨z6, rfl⟩ : ∃ z, c6 = .int .i64 z := by
    obtain ⟨y, hy⟩ := hy 6 (by decide)
    have h : DataW.trod enc Try.prog W base spare held n 3 (([.int .i64 z0, .int .i64 z1, .int .i64 z2, .int .i64 z3, .int .i64 z4, .int .i64 z5, c6, c7, c8, c9, c10, c11, c12].drop 6).take (Try.prog.cellsOf 3)) = xs[6]? := hx 6 _ rfl
    rw [hy, a48_cellsInt] at h
    obtain ⟨z, hz, _⟩ := DataW.trod_int Try.underlying3 h
    exact ⟨z, (List.cons.inj hz).1⟩
  obtain ⟨z7, rfl⟩ : ∃ z, c7 = .int .i64 z := by
    obtain ⟨y, hy⟩ := hy 7 (by decide)
    have h : DataW.trod enc Try.prog W base spare held n 3 (([.int .i64 z0, .int .i64 z1, .int .i64 z2, .int .i64 z3, .int .i64 z4, .int .i64 z5, .int .i64 z6, c7, c8, c9, c10, c11, c12].drop 7).take (Try.prog.cellsOf 3)) = xs[7]? := hx 7 _ rfl
    rw [hy, a48_cellsInt] at h
    obtain ⟨z, hz, _⟩ := DataW.trod_int Try.underlying3 h
    exact ⟨z, (List.cons.inj hz).1⟩
  obtain ⟨z8, rfl⟩ : ∃ z, c8 = .int .i64 z := by
    obtain ⟨y, hy⟩ := hy 8 (by decide)
    have h : DataW.trod enc Try.prog W base spare held n 3 (([.int .i64 z0, .int .i64 z1, .int .i64 z2, .int .i64 z3, .int .i64 z4, .int .i64 z5, .int .i64 z6, .int .i64 z7, c8, c9, c10, c11, c12].drop 8).take (Try.prog.cellsOf 3)) = xs[8]? := hx 8 _ rfl
    rw [hy, a48_cellsInt] at h
    obtain ⟨z, hz, _⟩ := DataW.trod_int Try.underlying3 h
    exact ⟨z, (List.cons.inj hz).1⟩
  obtain ⟨z9, rfl⟩ : ∃ z, c9 = .int .i64 z := by
    obtain ⟨y, hy⟩ := hy 9 (by decide)
    have h : DataW.trod enc Try.prog W base spare held n 3 (([.int .i64 z0, .int .i64 z1, .int .i64 z2, .int .i64 z3, .int .i64 z4, .int .i64 z5, .int .i64 z6, .int .i64 z7, .int .i64 z8, c9, c10, c11, c12].drop 9).take (Try.prog.cellsOf 3)) = xs[9]? := hx 9 _ rfl
    rw [hy, a48_cellsInt] at h
    obtain ⟨z, hz, _⟩ := DataW.trod_int Try.underlying3 h
    exact ⟨z, (List.cons.inj hz).1⟩
  obtain ⟨z10, rfl⟩ : ∃ z, c10 = .int .i64 z := by
    obtain ⟨y, hy⟩ := hy 10 (by decide)
    have h : DataW.trod enc Try.prog W base spare held n 3 (([.int .i64 z0, .int .i64 z1, .int .i64 z2, .int .i64 z3, .int .i64 z4, .int .i64 z5, .int .i64 z6, .int .i64 z7, .int .i64 z8, .int .i64 z9, c10, c11, c12].drop 10).take (Try.prog.cellsOf 3)) = xs[10]? := hx 10 _ rfl
    rw [hy, a48_cellsInt] at h
    obtain ⟨z, hz, _⟩ := DataW.trod_int Try.underlying3 h
    exact ⟨z, (List.cons.inj hz).1⟩
  obtain ⟨a11, l11, k11, rfl⟩ : ∃ a l c, c11 = .slice a l c := by
    obtain ⟨y, hy⟩ := hy 11 (by decide)
    have h : DataW.trod enc Try.prog W base spare held n 22 (([.int .i64 z0, .int .i64 z1, .int .i64 z2, .int .i64 z3, .int .i64 z4, .int .i64 z5, .int .i64 z6, .int .i64 z7, .int .i64 z8, .int .i64 z9, .int .i64 z10, c11, c12].drop 11).take (Try.prog.cellsOf 22)) = xs[11]? := hx 11 _ rfl
    rw [hy, a48_cellsBs] at h
    obtain ⟨a, l, c, hz⟩ := Go.Joins.slice_form Try.underlying22 h
    exact ⟨a, l, c, (List.cons.inj hz).1⟩
  obtain ⟨a12, l12, k12, rfl⟩ : ∃ a l c, c12 = .slice a l c := by
    obtain ⟨y, hy⟩ := hy 12 (by decide)
    have h : DataW.trod enc Try.prog W base spare held n 23 (([.int .i64 z0, .int .i64 z1, .int .i64 z2, .int .i64 z3, .int .i64 z4, .int .i64 z5, .int .i64 z6, .int .i64 z7, .int .i64 z8, .int .i64 z9, .int .i64 z10, .slice a11 l11 k11, c12].drop 12).take (Try.prog.cellsOf 23)) = xs[12]? := hx 12 _ rfl
    rw [hy, a48_cellsSs] at h
    obtain ⟨a, l, c, hz⟩ := Go.Joins.slice_form Try.underlying23 h
    exact ⟨a, l, c, (List.cons.inj hz).1⟩
  exact ⟨⟨z0, z1, z2, z3, z4, z5, z6, z7, z8, z9, z10, (a11, l11, k11), (a12, l12, k12)⟩, rfl⟩

set_option maxRecDepth 100000 in
theorem set48_of {r : Reach} {b0 : Nat} {v : Value} {d : DataW H} {p : List MemPlace} (hv : Value.okWide Try.prog W r b0 29 v) (h : DataW.Trod enc Try.prog W base spare held 29 v d p) :
    ∃ (st : St) (ap : Option Addr) (cp : Nat) (aw : Option Addr) (cw : Nat) (P : List Grp) (ws : List Wd), v = .agg (st.cells ++ #[.slice ap P.length cp, .slice aw ws.length cw]) ∧ RdG W (.slice ap P.length cp) P ∧ SzG P ∧ RdWd W (.slice aw ws.length cw) ws := by
  obtain ⟨cs, rfl, hsz⟩ := okWide_struct Try.underlying29 hv
  rw [a48_cellsS] at hsz
  obtain ⟨fuel, hf⟩ := h
  obtain ⟨l⟩ := cs
  obtain ⟨c0, c1, c2, c3, c4, c5, c6, c7, c8, c9, c10, c11, c12, c13, c14, rfl⟩ := a48_fifteen (cs := l) hsz
  obtain ⟨xs, n, _, _, _, hlen, hx⟩ := DataW.trod_struct Try.underlying29 hf
  have hy : ∀ i, i < 3 → ∃ y, xs[i]? = some y := fun i hi => ⟨xs[i]'(by rw [hlen]; exact hi), List.getElem?_eq_getElem _⟩
  obtain ⟨y0, hy0⟩ := hy 0 (by decide)
  have h0 : DataW.trod enc Try.prog W base spare held n 25 (([c0, c1, c2, c3, c4, c5, c6, c7, c8, c9, c10, c11, c12, c13, c14].drop 0).take (Try.prog.cellsOf 25)) = xs[0]? := hx 0 _ rfl
  rw [hy0, a48_cellsSt] at h0
  obtain ⟨st, e0⟩ := sty_of (by rfl) h0
  obtain ⟨y1, hy1⟩ := hy 1 (by decide)
  have h1 : DataW.trod enc Try.prog W base spare held n 26 (([c0, c1, c2, c3, c4, c5, c6, c7, c8, c9, c10, c11, c12, c13, c14].drop 13).take (Try.prog.cellsOf 26)) = xs[1]? := hx 1 _ rfl
  rw [hy1, a48_cellsPs] at h1
  obtain ⟨P, hP, hzP⟩ := rdG_of Try.underlying26 Try.underlying50 (by kernel_rfl) rfl rfl (by kernel_rfl) (by kernel_rfl) Try.underlying9 Try.underlying38 Try.underlying3 (by kernel_rfl) h1
  obtain ⟨y2, hy2⟩ := hy 2 (by decide)
  have h2 : DataW.trod enc Try.prog W base spare held n 27 (([c0, c1, c2, c3, c4, c5, c6, c7, c8, c9, c10, c11, c12, c13, c14].drop 14).take (Try.prog.cellsOf 27)) = xs[2]? := hx 2 _ rfl
  rw [hy2, a48_cellsWs] at h2
  obtain ⟨ws, hw⟩ := rdWd_of h2
  obtain ⟨ap, cp, rfl, _, _, _⟩ := hP.open
  obtain ⟨aw, cw, rfl, _, _, _⟩ := hw.open
  refine ⟨st, ap, cp, aw, cw, P, ws, ?_, hP, hzP, hw⟩
  have e1 : [c0, c1, c2, c3, c4, c5, c6, c7, c8, c9, c10, c11, c12] = st.cells.toList := e0
  have e2 : (#[c0, c1, c2, c3, c4, c5, c6, c7, c8, c9, c10, c11, c12] : Array Value) = st.cells := by rw [← Array.toList_inj]; exact e1
  rw [← e2]; rfl
end
end Go.Proofs.Ytalpgilncohkbaa
