/-
  P43.5: the walk of LemmaNumbers.
-/
import Derived.Test.YtjhdeoniafahbaaGreatDoorJ05
import Derived.Test.YtjhdeoniafahbaaGreatDoorSame43
import Derived.Test.YtjhdeoniafahbaaGreatDoorPlNum
namespace Go.Proofs.YtjhdeoniafahbaaGreatDoor
open Go.RowKit

/-- A further row of two, in a block of its own. -/
theorem tws_push {W w1 : World} {base : Nat} {pre : List (Nat × Nat)} {v : Value} {vs : List Value} (hown : W.ownsRow base 22 1 v pre.length vs) (htw : Tws W base pre vs) (hsz : base ≤ W.heap.size) (x : Nat × Nat)
    (hgr : (W.alloc (.cells #[.int .i64 (x.1 : Int), .int .i64 (x.2 : Int)] 3)).grownBy w1 v.ownBlock) : Tws w1 base (pre ++ [x]) (vs ++ [.slice (some ⟨W.heap.size, 0, none⟩) 2 2]) := by
  have hs1 : (W.alloc (.cells #[.int .i64 (x.1 : Int), .int .i64 (x.2 : Int)] 3)).heap.size = W.heap.size + 1 := by simp
  have hal := below_al W (.cells #[.int .i64 (x.1 : Int), .int .i64 (x.2 : Int)] 3)
  have hvs : vs.length = pre.length := by have := hown.1; omega
  have hty : ∀ r cs, W.heap[r]? = some (.cells cs 3 (0, 0)) → v.ownBlock ≠ some r := fun r cs hh e => by
    rcases hown.2 with ⟨rfl, _⟩ | ⟨g', cap', cur, rfl, _, hgb, _⟩
    · cases e
    · cases e
      rw [hh] at hgb; cases hgb
  intro i p hi
  rcases Nat.lt_or_ge i pre.length with h5 | h5
  · rw [List.getElem?_append_left h5] at hi
    obtain ⟨r, g1, g2, g3⟩ := htw i p hi
    have hlt := (Array.getElem?_eq_some_iff.1 g3).1
    refine ⟨r, by rw [List.getElem?_append_left (by omega)]; exact g1, g2, ?_⟩
    exact ((hgr.block r (by omega) (fun e => hty r _ g3 e.symm)).trans (hal.block r hlt)).trans g3
  · rw [List.getElem?_append_right h5] at hi
    have hz : i - pre.length = 0 := by
      have := (List.getElem?_eq_some_iff.1 hi).1
      simp at this; omega
    rw [hz] at hi
    have hi' : x = p := by simpa using hi
    subst hi'
    refine ⟨W.heap.size, by rw [List.getElem?_append_right (by omega), hvs, hz]; rfl, hsz, ?_⟩
    refine (hgr.block W.heap.size (by omega) (fun e => ?_)).trans (heap_alloc_new W _)
    have := (hown.lt _ e.symm).2
    omega
/-- What the loops keep: the pairs ahead of the place q are collected, and where p came. -/
structure NumI (w : World) (oc : List (Nat × Nat)) (p q : Nat × Nat) (ov av : Value) (W : World) : Prop where
  own : ∃ vs, W.ownsRow w.heap.size 22 1 ov (ahead oc q).length vs ∧ Tws W w.heap.size (ahead oc q) vs
  at_ : av = .int .i64 ((numP p (ahead oc q) : Int) - 1)
  bel : Below w.heap.size w W
theorem NumI.open {w W : World} {oc : List (Nat × Nat)} {p q : Nat × Nat} {ov av : Value} (h : NumI w oc p q ov av W) : ∃ ad cp vs, ov = .slice ad (ahead oc q).length cp ∧ av = .int .i64 ((numP p (ahead oc q) : Int) - 1) ∧
    W.ownsRow w.heap.size 22 1 (.slice ad (ahead oc q).length cp) (ahead oc q).length vs ∧ Tws W w.heap.size (ahead oc q) vs := by
  obtain ⟨⟨vs, h1, h2⟩, h3, h4⟩ := h
  rcases h1.2 with ⟨rfl, h0⟩ | ⟨g, c, cur, rfl, _⟩
  · rw [h0] at h1 ⊢; exact ⟨_, _, vs, rfl, h3, h1, h2⟩
  · exact ⟨_, _, vs, rfl, h3, h1, h2⟩
theorem tws_below {W W' : World} {n₀ : Nat} {pre : List (Nat × Nat)} {vs : List Value} (h : Tws W n₀ pre vs) (hb : Below W.heap.size W W') : Tws W' n₀ pre vs := fun i x hx =>
  let ⟨r, g1, g2, g3⟩ := h i x hx
  ⟨r, g1, g2, (hb.block r (Array.getElem?_eq_some_iff.1 g3).1).trans g3⟩
theorem NumI.below {w W W' : World} {oc : List (Nat × Nat)} {p q : Nat × Nat} {ov av : Value} (h : NumI w oc p q ov av W) (hb : Below W.heap.size W W') : NumI w oc p q ov av W' := by
  obtain ⟨⟨vs, h1, h2⟩, h3, h4⟩ := h
  exact ⟨⟨vs, own_below h1 hb, tws_below h2 hb⟩, h3, below_tr h4 hb⟩
theorem NumI.skip {w W : World} {oc : List (Nat × Nat)} (hs : oc.Pairwise pLt) {p : Nat × Nat} {i j : Nat} {ov av : Value} (h : NumI w oc p (i, j) ov av W) (hn : (i, j) ∉ oc) : NumI w oc p (i, j + 1) ov av W := by
  have e : ahead oc (i, j + 1) = ahead oc (i, j) := by rw [ahead_step i j hs, if_neg hn, List.append_nil]
  obtain ⟨h1, h2, h3⟩ := h
  rw [← e] at h1 h2
  exact ⟨h1, h2, h3⟩
theorem NumI.row {w W : World} {oc : List (Nat × Nat)} {n : Nat} (hin : ∀ p ∈ oc, p.1 ≤ p.2 ∧ p.2 < n) {p : Nat × Nat} {i : Nat} {ov av : Value} (h : NumI w oc p (i, n) ov av W) : NumI w oc p (i + 1, i + 1) ov av W := by
  obtain ⟨h1, h2, h3⟩ := h
  rw [← ahead_row hin i] at h1 h2
  exact ⟨h1, h2, h3⟩
theorem NumI.push {w W w1 : World} {oc : List (Nat × Nat)} (hs : oc.Pairwise pLt) {p : Nat × Nat} {i j g cap : Nat} {v : Value} {vs : List Value} (hB : Below w.heap.size w W) (hn : (i, j) ∈ oc)
    (hown : W.ownsRow w.heap.size 22 1 v (ahead oc (i, j)).length vs) (htw : Tws W w.heap.size (ahead oc (i, j)) vs)
    (hown' : w1.ownsRow w.heap.size 22 1 (.slice (some ⟨g, 0, none⟩) ((ahead oc (i, j)).length + 1) cap) ((ahead oc (i, j)).length + 1) (vs ++ [.slice (some ⟨W.heap.size, 0, none⟩) 2 2]))
    (hgr : (W.alloc (.cells #[.int .i64 (i : Int), .int .i64 (j : Int)] 3)).grownBy w1 v.ownBlock) :
    NumI w oc p (i, j + 1) (.slice (some ⟨g, 0, none⟩) ((ahead oc (i, j)).length + 1) cap) (.int .i64 (if (i, j) = p then ((ahead oc (i, j)).length : Int) else (numP p (ahead oc (i, j)) : Int) - 1)) w1 := by
  have e : ahead oc (i, j + 1) = ahead oc (i, j) ++ [(i, j)] := by rw [ahead_step i j hs, if_pos hn]
  have hal := below_al W (.cells #[.int .i64 (i : Int), .int .i64 (j : Int)] 3)
  refine ⟨⟨vs ++ [.slice (some ⟨W.heap.size, 0, none⟩) 2 2], ?_, ?_⟩, ?_, ?_⟩
  · rw [e, List.length_append, List.length_singleton]; exact hown'
  · rw [e]; exact tws_push hown htw hB.size (i, j) hgr
  · rw [e, numP_snoc]
    split <;> simp
  · exact (below_tr hB hal).grown hgr (below_tr hB hal).size (fun k hk => (hown.lt k hk).1)
theorem NumI.start (w : World) (oc : List (Nat × Nat)) (p : Nat × Nat) : NumI w oc p (0, 0) (.slice none 0 0) (.int .i64 (-1)) w := by
  refine ⟨⟨[], ?_, ?_⟩, ?_, Below.refl _ _⟩
  · rw [ahead_zero]; exact World.ownsRow_nil _ _ _ _
  · rw [ahead_zero]; intro i x hx; simp at hx
  · rw [ahead_zero]; rfl
theorem NumI.fin {w W : World} {oc : List (Nat × Nat)} {n : Nat} (hin : ∀ p ∈ oc, p.1 ≤ p.2 ∧ p.2 < n) {p : Nat × Nat} {ov av : Value} (h : NumI w oc p (n, n) ov av W) : RdP W ov oc ∧ av = .int .i64 ((numP p oc : Int) - 1) := by
  obtain ⟨⟨vs, h1, h2⟩, h3, _⟩ := h
  rw [ahead_all hin] at h1 h2 h3
  exact ⟨rdP_of h1 h2, h3⟩

end Go.Proofs.YtjhdeoniafahbaaGreatDoor
