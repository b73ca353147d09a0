/-
  Two sides that came in, by value; matrices of numbers that came in.
-/
import Derived.Test.YtlneimjenjpbnaaArgs
import Derived.Test.YtlneimjenjpbnaaMat0
import Derived.Test.YtlneimjenjpbnaaFpt
import Derived.Lib.SmallJoins
namespace Go.Proofs.Ytlneimjenjpbnaa
open Go.ChangeShapes Go.WideShapes Go.ChangeAt Go.RowKit Go.Deep

theorem a52_cellsInt : (Try.prog).cellsOf 3 = 1 := by kernel_rfl
theorem a52_cellsIs : (Try.prog).cellsOf 22 = 1 := by kernel_rfl
theorem a52_cellsIss : (Try.prog).cellsOf 23 = 1 := by kernel_rfl
theorem a52_cellsP : (Try.prog).cellsOf 25 = 5 := by kernel_rfl
theorem a52_cellsS : (Try.prog).cellsOf 27 = 11 := by kernel_rfl
theorem a52_five {α : Type} {cs : List α} (h : cs.length = 5) : ∃ c0 c1 c2 c3 c4, cs = [c0, c1, c2, c3, c4] := by
  match cs, h with
  | [c0, c1, c2, c3, c4], _ => exact ⟨c0, c1, c2, c3, c4, rfl⟩
theorem a52_eleven {α : Type} {cs : List α} (h : cs.length = 11) : ∃ c0 c1 c2 c3 c4 c5 c6 c7 c8 c9 c10, cs = [c0, c1, c2, c3, c4, c5, c6, c7, c8, c9, c10] := by
  match cs, h with
  | [c0, c1, c2, c3, c4, c5, c6, c7, c8, c9, c10], _ => exact ⟨c0, c1, c2, c3, c4, c5, c6, c7, c8, c9, c10, rfl⟩

section
variable {H : Type} {enc : TypeId × Value → H} {W : World} {base : Nat} {spare : Nat → Bool} {held : Bool}

instance : Inhabited (Value × List Int) := ⟨⟨.slice none 0 0, []⟩⟩
theorem rdM_of {fuel : Nat} {v : Value} {x : DataW H × List MemPlace} (hf : DataW.trod enc Try.prog W base spare held fuel 23 [v] = some x) : ∃ l, RdM W v l := by
  rcases open_slice1 Try.underlying23 a52_cellsIs hf with ⟨hcs, _⟩ | ⟨a, len, cap, m, n, V, D, Pl, hcs, _, hl, hm, hmm, _, hcell⟩
  · simp only [List.cons.injEq, and_true] at hcs
    subst hcs
    exact ⟨[], RdM.nil W⟩
  · simp only [List.cons.injEq, and_true] at hcs
    subst hcs
    have hlen : len ≤ m := by rw [hmm]; split <;> omega
    obtain ⟨b, off, spot⟩ := a
    have hex : ∀ i, i < len → ∃ p : Value × List Int, W.cell? ((⟨b, off, spot⟩ : Addr).add i) = some p.1 ∧ RdI W p.1 p.2 := by
      intro i hi
      obtain ⟨h1, h2⟩ := hcell i (by omega)
      obtain ⟨l, hl⟩ := rdI_of Try.underlying22 Try.underlying3 (by kernel_rfl) h2
      exact ⟨(V i, l), h1, hl⟩
    obtain ⟨f, hf⟩ := choose_lt hex
    refine ⟨(List.range len).map fun i => (f i).2, ⟨some ⟨b, off, spot⟩, cap, by simp, by simpa using hl, hm, fun i x hx => ?_⟩⟩
    have hi : i < len := by have := (List.getElem?_eq_some_iff.1 hx).1; simpa using this
    obtain rfl := spot_of (hf 0 (by omega)).1
    simp only [List.getElem?_map, List.getElem?_range hi, Option.map_some, Option.some.injEq] at hx
    subst hx
    exact ⟨b, off, (f i).1, rfl, plain_of (hf i hi).1, (hf i hi).2⟩

set_option maxRecDepth 100000 in
theorem pp_of {fuel : Nat} {cs : List Value} {x : DataW H × List MemPlace} (hl : cs.length = 5) (hf : DataW.trod enc Try.prog W base spare held fuel 25 cs = some x) : ∃ (p : PP) (vl vn vp : Value), cs = [vl, vn, vp, .int .i64 p.h, .int .i64 p.gap] ∧ RdP5 W vl vn vp p := by
  obtain ⟨c0, c1, c2, c3, c4, rfl⟩ := a52_five hl
  obtain ⟨xs, n, _, _, _, hlen, hx⟩ := DataW.trod_struct Try.underlying25 hf
  have hy : ∀ i, i < 5 → ∃ y, xs[i]? = some y := fun i hi => ⟨xs[i]'(by rw [hlen]; exact hi), List.getElem?_eq_getElem _⟩
  obtain ⟨y0, hy0⟩ := hy 0 (by decide)
  have h0 : DataW.trod enc Try.prog W base spare held n 22 (([c0, c1, c2, c3, c4].drop 0).take (Try.prog.cellsOf 22)) = xs[0]? := hx 0 _ rfl
  rw [hy0, a52_cellsIs] at h0
  obtain ⟨la, ha⟩ := rdI_of Try.underlying22 Try.underlying3 (by kernel_rfl) h0
  obtain ⟨y1, hy1⟩ := hy 1 (by decide)
  have h1 : DataW.trod enc Try.prog W base spare held n 23 (([c0, c1, c2, c3, c4].drop 1).take (Try.prog.cellsOf 23)) = xs[1]? := hx 1 _ rfl
  rw [hy1, a52_cellsIss] at h1
  obtain ⟨lb, hb⟩ := rdM_of h1
  obtain ⟨y2, hy2⟩ := hy 2 (by decide)
  have h2 : DataW.trod enc Try.prog W base spare held n 22 (([c0, c1, c2, c3, c4].drop 2).take (Try.prog.cellsOf 22)) = xs[2]? := hx 2 _ rfl
  rw [hy2, a52_cellsIs] at h2
  obtain ⟨lc, hc⟩ := rdI_of Try.underlying22 Try.underlying3 (by kernel_rfl) h2
  obtain ⟨z3, rfl⟩ : ∃ z, c3 = .int .i64 z := by
    obtain ⟨y, hy⟩ := hy 3 (by decide)
    have h : DataW.trod enc Try.prog W base spare held n 3 (([c0, c1, c2, c3, c4].drop 3).take (Try.prog.cellsOf 3)) = xs[3]? := hx 3 _ rfl
    rw [hy, a52_cellsInt] at h
    obtain ⟨z, hz, _⟩ := DataW.trod_int Try.underlying3 h
    exact ⟨z, (List.cons.inj hz).1⟩
  obtain ⟨z4, rfl⟩ : ∃ z, c4 = .int .i64 z := by
    obtain ⟨y, hy⟩ := hy 4 (by decide)
    have h : DataW.trod enc Try.prog W base spare held n 3 (([c0, c1, c2, .int .i64 z3, c4].drop 4).take (Try.prog.cellsOf 3)) = xs[4]? := hx 4 _ rfl
    rw [hy, a52_cellsInt] at h
    obtain ⟨z, hz, _⟩ := DataW.trod_int Try.underlying3 h
    exact ⟨z, (List.cons.inj hz).1⟩
  exact ⟨⟨la, lb, lc, z3, z4⟩, c0, c1, c2, rfl, ⟨ha, hb, hc⟩⟩
set_option maxRecDepth 100000 in
theorem sides_of {r : Reach} {b0 : Nat} {v : Value} {d : DataW H} {p : List MemPlace} (hv : Value.okWide Try.prog W r b0 27 v) (h : DataW.Trod enc Try.prog W base spare held 27 v d p) :
    ∃ (s : FS) (l1 l2 l3 r1 r2 r3 va : Value), v = .agg #[l1, l2, l3, .int .i64 s.L.h, .int .i64 s.L.gap, r1, r2, r3, .int .i64 s.R.h, .int .i64 s.R.gap, va] ∧ FaR W ⟨l1, l2, l3, r1, r2, r3, va, .slice none 0 0, .slice none 0 0⟩ s := by
  obtain ⟨cs, rfl, hsz⟩ := okWide_struct Try.underlying27 hv
  rw [a52_cellsS] at hsz
  obtain ⟨fuel, hf⟩ := h
  obtain ⟨l⟩ := cs
  obtain ⟨c0, c1, c2, c3, c4, c5, c6, c7, c8, c9, c10, rfl⟩ := a52_eleven (cs := l) hsz
  obtain ⟨xs, n, _, _, _, hlen, hx⟩ := DataW.trod_struct Try.underlying27 hf
  have hy : ∀ i, i < 3 → ∃ y, xs[i]? = some y := fun i hi => ⟨xs[i]'(by rw [hlen]; exact hi), List.getElem?_eq_getElem _⟩
  obtain ⟨y0, hy0⟩ := hy 0 (by decide)
  have h0 : DataW.trod enc Try.prog W base spare held n 25 (([c0, c1, c2, c3, c4, c5, c6, c7, c8, c9, c10].drop 0).take (Try.prog.cellsOf 25)) = xs[0]? := hx 0 _ rfl
  rw [hy0, a52_cellsP] at h0
  obtain ⟨pl, vl, vn, vp, e0, hL⟩ := pp_of (by rfl) h0
  obtain ⟨y1, hy1⟩ := hy 1 (by decide)
  have h1 : DataW.trod enc Try.prog W base spare held n 25 (([c0, c1, c2, c3, c4, c5, c6, c7, c8, c9, c10].drop 5).take (Try.prog.cellsOf 25)) = xs[1]? := hx 1 _ rfl
  rw [hy1, a52_cellsP] at h1
  obtain ⟨pr, wl, wn, wp, e1, hR⟩ := pp_of (by rfl) h1
  obtain ⟨y2, hy2⟩ := hy 2 (by decide)
  have h2 : DataW.trod enc Try.prog W base spare held n 23 (([c0, c1, c2, c3, c4, c5, c6, c7, c8, c9, c10].drop 10).take (Try.prog.cellsOf 23)) = xs[2]? := hx 2 _ rfl
  rw [hy2, a52_cellsIss] at h2
  obtain ⟨la, ha⟩ := rdM_of h2
  simp only [List.drop_zero, List.drop_succ_cons, List.take_succ_cons, List.take_zero, List.cons.injEq, and_true] at e0 e1
  obtain ⟨rfl, rfl, rfl, rfl, rfl⟩ := e0
  obtain ⟨rfl, rfl, rfl, rfl, rfl⟩ := e1
  exact ⟨⟨pl, pr, la⟩, _, _, _, _, _, _, _, rfl, ⟨hL, hR, ha⟩⟩
end
end Go.Proofs.Ytlneimjenjpbnaa
