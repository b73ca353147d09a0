/-
  Pages and boxes that came in.
-/
import Derived.Test.YtkjapeafhcdnkaaDoorArgs
import Derived.Test.YtkjapeafhcdnkaaDoorPg
import Derived.Lib.SmallJoins
namespace Go.Proofs.YtkjapeafhcdnkaaDoor
open Go.ChangeShapes Go.WideShapes Go.ChangeAt Go.RowKit Go.Deep

theorem pg_cellsInt : (Tryd.prog).cellsOf 3 = 1 := by kernel_rfl
theorem pg_cellsStr : (Tryd.prog).cellsOf 9 = 1 := by kernel_rfl
theorem pg_cellsBs : (Tryd.prog).cellsOf 32 = 1 := by kernel_rfl
theorem pg_cellsB : (Tryd.prog).cellsOf 42 = 6 := by kernel_rfl
theorem pg_cellsP : (Tryd.prog).cellsOf 34 = 2 := by kernel_rfl
theorem pg_six {α : Type} {cs : List α} (h : cs.length = 6) : ∃ c0 c1 c2 c3 c4 c5, cs = [c0, c1, c2, c3, c4, c5] := by
  match cs, h with
  | [c0, c1, c2, c3, c4, c5], _ => exact ⟨c0, c1, c2, c3, c4, c5, rfl⟩
theorem pg_two {α : Type} {cs : List α} (h : cs.length = 2) : ∃ c0 c1, cs = [c0, c1] := by
  match cs, h with
  | [c0, c1], _ => exact ⟨c0, c1, rfl⟩
instance : Inhabited Bx := ⟨⟨0, 0, 0, 0, 0, ⟨#[]⟩⟩⟩
instance : Inhabited Pg := ⟨⟨0, []⟩⟩
section
variable {H : Type} {enc : TypeId × Value → H} {W : World} {base : Nat} {spare : Nat → Bool} {held : Bool}

set_option maxRecDepth 100000 in
theorem bx_of {fuel : Nat} {cs : List Value} {x : DataW H × List MemPlace} (hl : cs.length = 6) (hf : DataW.trod enc Tryd.prog W base spare held fuel 42 cs = some x) : ∃ b : Bx, cs = b.cells.toList ∧ b.text.size ≤ maxLen := by
  obtain ⟨c0, c1, c2, c3, c4, c5, rfl⟩ := pg_six hl
  obtain ⟨xs, n, _, _, _, hlen, hx⟩ := DataW.trod_struct Tryd.underlying42 hf
  have hy : ∀ i, i < 6 → ∃ y, xs[i]? = some y := fun i hi => ⟨xs[i]'(by rw [hlen]; exact hi), List.getElem?_eq_getElem _⟩
  obtain ⟨z0, rfl⟩ : ∃ z, c0 = .int .i64 z := by
    obtain ⟨y, hy⟩ := hy 0 (by decide)
    have h : DataW.trod enc Tryd.prog W base spare held n 3 (([c0, c1, c2, c3, c4, c5].drop 0).take (Tryd.prog.cellsOf 3)) = xs[0]? := hx 0 _ rfl
    rw [hy, pg_cellsInt] at h
    obtain ⟨z, hz, _⟩ := DataW.trod_int Tryd.underlying3 h
    exact ⟨z, (List.cons.inj hz).1⟩
  obtain ⟨z1, rfl⟩ : ∃ z, c1 = .int .i64 z := by
    obtain ⟨y, hy⟩ := hy 1 (by decide)
    have h : DataW.trod enc Tryd.prog W base spare held n 3 (([.int .i64 z0, c1, c2, c3, c4, c5].drop 1).take (Tryd.prog.cellsOf 3)) = xs[1]? := hx 1 _ rfl
    rw [hy, pg_cellsInt] at h
    obtain ⟨z, hz, _⟩ := DataW.trod_int Tryd.underlying3 h
    exact ⟨z, (List.cons.inj hz).1⟩
  obtain ⟨z2, rfl⟩ : ∃ z, c2 = .int .i64 z := by
    obtain ⟨y, hy⟩ := hy 2 (by decide)
    have h : DataW.trod enc Tryd.prog W base spare held n 3 (([.int .i64 z0, .int .i64 z1, c2, c3, c4, c5].drop 2).take (Tryd.prog.cellsOf 3)) = xs[2]? := hx 2 _ rfl
    rw [hy, pg_cellsInt] at h
    obtain ⟨z, hz, _⟩ := DataW.trod_int Tryd.underlying3 h
    exact ⟨z, (List.cons.inj hz).1⟩
  obtain ⟨z3, rfl⟩ : ∃ z, c3 = .int .i64 z := by
    obtain ⟨y, hy⟩ := hy 3 (by decide)
    have h : DataW.trod enc Tryd.prog W base spare held n 3 (([.int .i64 z0, .int .i64 z1, .int .i64 z2, c3, c4, c5].drop 3).take (Tryd.prog.cellsOf 3)) = xs[3]? := hx 3 _ rfl
    rw [hy, pg_cellsInt] at h
    obtain ⟨z, hz, _⟩ := DataW.trod_int Tryd.underlying3 h
    exact ⟨z, (List.cons.inj hz).1⟩
  obtain ⟨z4, rfl⟩ : ∃ z, c4 = .int .i64 z := by
    obtain ⟨y, hy⟩ := hy 4 (by decide)
    have h : DataW.trod enc Tryd.prog W base spare held n 3 (([.int .i64 z0, .int .i64 z1, .int .i64 z2, .int .i64 z3, c4, c5].drop 4).take (Tryd.prog.cellsOf 3)) = xs[4]? := hx 4 _ rfl
    rw [hy, pg_cellsInt] at h
    obtain ⟨z, hz, _⟩ := DataW.trod_int Tryd.underlying3 h
    exact ⟨z, (List.cons.inj hz).1⟩
  obtain ⟨s, rfl, hsz⟩ : ∃ f : ByteArray, c5 = .string f ∧ f.size ≤ maxLen := by
    obtain ⟨y, hy⟩ := hy 5 (by decide)
    have h : DataW.trod enc Tryd.prog W base spare held n 9 (([.int .i64 z0, .int .i64 z1, .int .i64 z2, .int .i64 z3, .int .i64 z4, c5].drop 5).take (Tryd.prog.cellsOf 9)) = xs[5]? := hx 5 _ rfl
    rw [hy, pg_cellsStr] at h
    obtain ⟨s, hs, _, hz⟩ := DataW.trod_string Tryd.underlying9 h
    exact ⟨s, (List.cons.inj hs).1, hz⟩
  exact ⟨⟨z0, z1, z2, z3, z4, s⟩, rfl, hsz⟩

theorem rdB_of {fuel : Nat} {v : Value} {x : DataW H × List MemPlace} (hf : DataW.trod enc Tryd.prog W base spare held fuel 32 [v] = some x) : ∃ l, RdB W v l ∧ SzB l := by
  rcases open_slice Tryd.underlying32 hf with ⟨hcs, _⟩ | ⟨a, len, cap, m, n, D, Pl, hcs, _, hl, hm, hmm, _, hcell⟩
  · simp only [List.cons.injEq, and_true] at hcs
    subst hcs
    exact ⟨[], RdB.nil W, fun s h => by cases h⟩
  · simp only [List.cons.injEq, and_true] at hcs
    subst hcs
    have hlen : len ≤ m := by rw [hmm]; split <;> omega
    obtain ⟨b, off, spot⟩ := a
    have hex : ∀ i, i < len → ∃ x : Bx, (∀ j, j < 6 → W.cell? (((⟨b, off, spot⟩ : Addr).add (i * 6)).add j) = x.cells.toList[j]?) ∧ x.text.size ≤ maxLen := by
      intro i hi
      obtain ⟨cs, h1, h2⟩ := hcell i (by omega)
      rw [pg_cellsB] at h1
      obtain ⟨_, hl6, hc⟩ := World.cells?_some h1
      obtain ⟨x, rfl, hz⟩ := bx_of hl6 h2
      exact ⟨x, hc, hz⟩
    obtain ⟨f, hf⟩ := choose_lt hex
    refine ⟨(List.range len).map f, ⟨some ⟨b, off, spot⟩, cap, by simp, by simpa using hl, hm, fun i x hx => ?_⟩, fun g hg => ?_⟩
    · have hi : i < len := by have := (List.getElem?_eq_some_iff.1 hx).1; simpa using this
      have a0 := (hf i hi).1
      obtain rfl : spot = none := by
        have h0 := (hf 0 (by omega)).1 0 (by decide)
        have h1 := World.cell?_spot (h0.trans rfl)
        simpa [Addr.add] using h1
      simp only [List.getElem?_map, List.getElem?_range hi, Option.map_some, Option.some.injEq] at hx
      subst hx
      have hp : ∀ j, j < 6 → W.cell? ⟨b, off + i * 6 + j, none⟩ = (f i).cells.toList[j]? := fun j hj => by
        have h := a0 j hj
        rwa [Go.WideShapes.add_plain, Go.WideShapes.add_plain] at h
      exact ⟨b, off, rfl, hp 0 (by decide), hp 1 (by decide), hp 2 (by decide), hp 3 (by decide), hp 4 (by decide), hp 5 (by decide)⟩
    · obtain ⟨i, hi, rfl⟩ := List.mem_map.1 hg
      exact (hf i (List.mem_range.1 hi)).2

set_option maxRecDepth 100000 in
theorem pgc_of {fuel : Nat} {cs : List Value} {x : DataW H × List MemPlace} (hl : cs.length = 2) (hf : DataW.trod enc Tryd.prog W base spare held fuel 34 cs = some x) : ∃ (p : Pg) (u : Value), cs = [.int .i64 p.num, u] ∧ RdB W u p.bx ∧ SzB p.bx := by
  obtain ⟨c0, c1, rfl⟩ := pg_two hl
  obtain ⟨xs, n, _, _, _, hlen, hx⟩ := DataW.trod_struct Tryd.underlying34 hf
  have hy : ∀ i, i < 2 → ∃ y, xs[i]? = some y := fun i hi => ⟨xs[i]'(by rw [hlen]; exact hi), List.getElem?_eq_getElem _⟩
  obtain ⟨z0, rfl⟩ : ∃ z, c0 = .int .i64 z := by
    obtain ⟨y, hy⟩ := hy 0 (by decide)
    have h : DataW.trod enc Tryd.prog W base spare held n 3 (([c0, c1].drop 0).take (Tryd.prog.cellsOf 3)) = xs[0]? := hx 0 _ rfl
    rw [hy, pg_cellsInt] at h
    obtain ⟨z, hz, _⟩ := DataW.trod_int Tryd.underlying3 h
    exact ⟨z, (List.cons.inj hz).1⟩
  obtain ⟨l, hr, hz⟩ : ∃ l, RdB W c1 l ∧ SzB l := by
    obtain ⟨y, hy⟩ := hy 1 (by decide)
    have h : DataW.trod enc Tryd.prog W base spare held n 32 (([.int .i64 z0, c1].drop 1).take (Tryd.prog.cellsOf 32)) = xs[1]? := hx 1 _ rfl
    rw [hy, pg_cellsBs] at h
    exact rdB_of h
  exact ⟨⟨z0, l⟩, c1, rfl, hr, hz⟩

set_option maxRecDepth 100000 in
/-- A page that came in by value. -/
theorem pg_of {r : Reach} {b0 : Nat} {v : Value} {d : DataW H} {p : List MemPlace} (hv : Value.okWide Tryd.prog W r b0 34 v) (h : DataW.Trod enc Tryd.prog W base spare held 34 v d p) :
    ∃ (q : Pg) (u : Value), v = .agg #[.int .i64 q.num, u] ∧ RdB W u q.bx ∧ SzB q.bx := by
  obtain ⟨cs, rfl, hsz⟩ := okWide_struct Tryd.underlying34 hv
  rw [pg_cellsP] at hsz
  obtain ⟨fuel, hf⟩ := h
  obtain ⟨l⟩ := cs
  obtain ⟨q, u, h1, h2, h3⟩ := pgc_of (cs := l) hsz hf
  subst h1
  exact ⟨q, u, rfl, h2, h3⟩
/-- Pages that came in. -/
theorem rdPg_of {fuel : Nat} {v : Value} {x : DataW H × List MemPlace} (hf : DataW.trod enc Tryd.prog W base spare held fuel 22 [v] = some x) : ∃ l, RdPg W v l ∧ SzPg l := by
  rcases open_slice Tryd.underlying22 hf with ⟨hcs, _⟩ | ⟨a, len, cap, m, n, D, Pl, hcs, _, hl, hm, hmm, _, hcell⟩
  · simp only [List.cons.injEq, and_true] at hcs
    subst hcs
    exact ⟨[], RdPg.nil W, fun s h => by cases h⟩
  · simp only [List.cons.injEq, and_true] at hcs
    subst hcs
    have hlen : len ≤ m := by rw [hmm]; split <;> omega
    obtain ⟨b, off, spot⟩ := a
    have hex : ∀ i, i < len → ∃ x : Pg, (∃ u, W.cell? (((⟨b, off, spot⟩ : Addr).add (i * 2)).add 0) = some (.int .i64 x.num) ∧ W.cell? (((⟨b, off, spot⟩ : Addr).add (i * 2)).add 1) = some u ∧ RdB W u x.bx) ∧ SzB x.bx := by
      intro i hi
      obtain ⟨cs, h1, h2⟩ := hcell i (by omega)
      rw [pg_cellsP] at h1
      obtain ⟨_, hl2, hc⟩ := World.cells?_some h1
      obtain ⟨x, u, rfl, hr, hz⟩ := pgc_of hl2 h2
      exact ⟨x, ⟨u, hc 0 (by decide), hc 1 (by decide), hr⟩, hz⟩
    obtain ⟨f, hf⟩ := choose_lt hex
    refine ⟨(List.range len).map f, ⟨some ⟨b, off, spot⟩, cap, by simp, by simpa using hl, hm, fun i x hx => ?_⟩, fun g hg => ?_⟩
    · have hi : i < len := by have := (List.getElem?_eq_some_iff.1 hx).1; simpa using this
      obtain ⟨u, a0, a1, a2⟩ := (hf i hi).1
      obtain rfl : spot = none := by
        obtain ⟨_, e0, _⟩ := (hf 0 (by omega)).1
        have h1 := World.cell?_spot e0
        simpa [Addr.add] using h1
      simp only [List.getElem?_map, List.getElem?_range hi, Option.map_some, Option.some.injEq] at hx
      subst hx
      rw [Go.WideShapes.add_plain, Go.WideShapes.add_plain] at a0 a1
      exact ⟨b, off, u, rfl, a0, a1, a2⟩
    · obtain ⟨i, hi, rfl⟩ := List.mem_map.1 hg
      exact (hf i (List.mem_range.1 hi)).2
end
end Go.Proofs.YtkjapeafhcdnkaaDoor
