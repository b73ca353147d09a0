/-
  Tables of pairs of numbers: how they read, and how a call gathers them; the plain list of the boxes that meet.
-/
import Derived.Test.YtkjapeafhcdnkaaDoorPg
import Derived.Test.YtkjapeafhcdnkaaDoorAp
import Derived.Lib.OwnKind
import Derived.Laws.OwnMore
namespace Go.Proofs.YtkjapeafhcdnkaaDoor
open Go.RowKit

/-- The slice value v reads as rows of two. -/
def RdP (W : World) (v : Value) (l : List (Nat × Nat)) : Prop :=
  ∃ a cap, v = .slice a l.length cap ∧ l.length ≤ cap ∧ cap ≤ maxLen ∧ ∀ i p, l[i]? = some p → ∃ b off r, a = some ⟨b, off, none⟩ ∧ W.cell? ⟨b, off + i, none⟩ = some (.slice (some ⟨r, 0, none⟩) 2 2) ∧ W.cell? ⟨r, 0, none⟩ = some (.int .i64 (p.1 : Int)) ∧ W.cell? ⟨r, 1, none⟩ = some (.int .i64 (p.2 : Int))
theorem RdP.below {W W' : World} {v : Value} {l : List (Nat × Nat)} (h : RdP W v l) (hb : Below W.heap.size W W') : RdP W' v l := by
  obtain ⟨a, cap, h1, h2, h3, h4⟩ := h
  refine ⟨a, cap, h1, h2, h3, fun i p hi => ?_⟩
  obtain ⟨b, off, r, e, hc, h5, h6⟩ := h4 i p hi
  exact ⟨b, off, r, e, Below.keeps hb _ _ hc, Below.keeps hb _ _ h5, Below.keeps hb _ _ h6⟩
theorem RdP.nil (W : World) : RdP W (.slice none 0 0) [] := ⟨none, 0, rfl, Nat.le_refl _, by unfold maxLen; omega, fun i x h => by simp at h⟩
theorem RdP.open {W : World} {v : Value} {l : List (Nat × Nat)} (h : RdP W v l) : ∃ a cap, v = .slice a l.length cap ∧ l.length ≤ cap ∧ cap ≤ 9223372036854775807 ∧ ∀ i, i < l.length → ∃ p b off r, l[i]? = some p ∧ a = some ⟨b, off, none⟩ ∧ W.cell? ⟨b, off + i, none⟩ = some (.slice (some ⟨r, 0, none⟩) 2 2) ∧ W.cell? ⟨r, 0, none⟩ = some (.int .i64 (p.1 : Int)) ∧ W.cell? ⟨r, 1, none⟩ = some (.int .i64 (p.2 : Int)) := by
  obtain ⟨a, cap, h1, h2, h3, h4⟩ := h
  refine ⟨a, cap, h1, h2, h3, fun i hi => ?_⟩
  obtain ⟨b, off, r, e, hc, hr⟩ := h4 i l[i] (by simp [hi])
  exact ⟨l[i], b, off, r, by simp [hi], e, hc, hr⟩

/-- The rows that came, each in a block of its own. -/
def Tws (W : World) (n₀ : Nat) (pre : List (Nat × Nat)) (vs : List Value) : Prop :=
  ∀ (i : Nat) (p : Nat × Nat), pre[i]? = some p → ∃ r, vs[i]? = some (Value.slice (some ⟨r, 0, none⟩) 2 2) ∧ n₀ ≤ r ∧ W.heap[r]? = some (.cells #[.int .i64 (p.1 : Int), .int .i64 (p.2 : Int)] 3 (0, 0))
theorem rdP_of {W : World} {n₀ base : Nat} {pre : List (Nat × Nat)} {vs : List Value} {v : Value} (hown : W.ownsRow base 53 1 v pre.length vs) (ht : Tws W n₀ pre vs) : RdP W v pre := by
  have hl : vs.length = pre.length := by have := hown.1; omega
  have hr : Rd id W v vs := Rd.of_own (by rw [hl, List.map_id]; exact hown)
  obtain ⟨a, cap, h1, h2, h3, h4⟩ := hr
  refine ⟨a, cap, by rw [h1, hl], by omega, h3, fun i p hi => ?_⟩
  obtain ⟨r, g1, _, g3⟩ := ht i p hi
  obtain ⟨b, off, e, hc⟩ := h4 i _ g1
  exact ⟨b, off, r, e, hc, by rw [cell_of_row W r 0 _ _ _ g3]; rfl, by rw [cell_of_row W r 1 _ _ _ g3]; rfl⟩

/-- v is a row of pairs of the call's own, from block base on. -/
structure PrI (W : World) (base : Nat) (v : Value) (M : List (Nat × Nat)) : Prop where
  ex : ∃ vs, W.ownsRow base 53 1 v M.length vs ∧ Tws W base M vs
theorem PrI.nil (W : World) (base : Nat) : PrI W base (.slice none 0 0) [] := ⟨⟨[], ⟨rfl, .inl ⟨rfl, rfl⟩⟩, fun i p h => by simp at h⟩⟩
theorem PrI.rd {W : World} {base : Nat} {v : Value} {M : List (Nat × Nat)} (h : PrI W base v M) : RdP W v M := by
  obtain ⟨vs, h1, h2⟩ := h.ex
  exact rdP_of h1 h2
theorem own_belowT {W W' : World} {B : Nat} {e : TypeId} {s n : Nat} {v : Value} {xs : List Value} (h : W.ownsRow B e s v n xs) (hb : Below W.heap.size W W') : W'.ownsRow B e s v n xs := by
  refine ⟨h.1, ?_⟩
  rcases h.2 with h2 | ⟨g, cap, cur, h1, h2, h3, h4⟩
  · exact .inl h2
  · exact .inr ⟨g, cap, cur, h1, h2, (hb.block g (Array.getElem?_eq_some_iff.1 h3).1).trans h3, h4⟩
theorem PrI.below {W W' : World} {base : Nat} {v : Value} {M : List (Nat × Nat)} (h : PrI W base v M) (hb : Below W.heap.size W W') : PrI W' base v M := by
  obtain ⟨vs, h1, h2⟩ := h.ex
  refine ⟨⟨vs, own_belowT h1 hb, fun i p hi => ?_⟩⟩
  obtain ⟨r, g1, g2, g3⟩ := h2 i p hi
  exact ⟨r, g1, g2, (hb.block r (Array.getElem?_eq_some_iff.1 g3).1).trans g3⟩
/-- Behind 'out = append(out, []int{i, k})'. -/
theorem PrI.push {W w1 : World} {base : Nat} {v v' : Value} {M : List (Nat × Nat)} {vs : List Value} {x : Nat × Nat} {y z : Int} (hy : y = (x.1 : Int)) (hz : z = (x.2 : Int)) (hbase : base ≤ W.heap.size) (hown : W.ownsRow base 53 1 v M.length vs) (htw : Tws W base M vs)
    (hown' : w1.ownsRow base 53 1 v' (M.length + 1) (vs ++ [.slice (some ⟨W.heap.size, 0, none⟩) 2 2])) (hgr : (W.alloc (.cells #[.int .i64 y, .int .i64 z] 3)).grownBy w1 v.ownBlock) : PrI w1 base v' (M ++ [x]) := by
  subst hy hz
  have hal := below_al W (.cells #[.int .i64 (x.1 : Int), .int .i64 (x.2 : Int)] 3)
  have hs1 : (W.alloc (.cells #[.int .i64 (x.1 : Int), .int .i64 (x.2 : Int)] 3)).heap.size = W.heap.size + 1 := by simp
  have hvs : vs.length = M.length := by have := hown.1; omega
  refine ⟨⟨vs ++ [.slice (some ⟨W.heap.size, 0, none⟩) 2 2], by rw [List.length_append]; exact hown', fun i p hi => ?_⟩⟩
  rcases Nat.lt_or_ge i M.length with h5 | h5
  · rw [List.getElem?_append_left h5] at hi
    obtain ⟨r, g1, g2, g3⟩ := htw i p hi
    refine ⟨r, by rw [List.getElem?_append_left (by omega)]; exact g1, g2, ?_⟩
    have hlt := (Array.getElem?_eq_some_iff.1 g3).1
    refine (hgr.block r (by omega) (fun e => ?_)).trans ((hal.block r hlt).trans g3)
    rcases hown.2 with ⟨rfl, _⟩ | ⟨g', cap', cur, rfl, _, hgb, _⟩
    · cases e
    · cases e
      rw [g3] at hgb; cases hgb
  · rw [List.getElem?_append_right h5] at hi
    have hz : i - M.length = 0 := by
      have := (List.getElem?_eq_some_iff.1 hi).1
      simp at this; omega
    rw [hz] at hi
    have hi' : x = p := by simpa using hi
    subst hi'
    refine ⟨W.heap.size, by rw [List.getElem?_append_right (by omega), hvs, hz]; rfl, hbase, ?_⟩
    refine (hgr.block W.heap.size (by omega) (fun e => ?_)).trans (heap_alloc_new W _)
    have := (hown.lt _ e.symm).2
    omega
theorem infoSlT : (Tryd.prog.info? 53).map (fun i => (i.zero, i.size, i.bytes)) = some (some (.slice none 0 0), 1, 24) := by kernel_rfl

def meetB (h : Int) (a b : Bx) : Bool := decide (max a.x b.x < min (a.x + a.wd) (b.x + b.wd)) && decide (max a.y b.y < min a.y b.y + h)
def meetAt (h : Int) (l : List Bx) (i j : Nat) : Bool :=
  match l[i]?, l[j]? with
  | some a, some b => meetB h a b
  | _, _ => false
def ovRow (h : Int) (l : List Bx) (i : Nat) : Nat → List (Nat × Nat)
  | 0 => []
  | m + 1 => ovRow h l i m ++ (if meetAt h l i (i + 1 + m) = true then [(i, i + 1 + m)] else [])
def ovAll (h : Int) (l : List Bx) : Nat → List (Nat × Nat)
  | 0 => []
  | k + 1 => ovAll h l k ++ ovRow h l k (l.length - (k + 1))
theorem ovRow_len (h : Int) (l : List Bx) (i : Nat) : ∀ m, (ovRow h l i m).length ≤ m
  | 0 => Nat.le_refl _
  | m + 1 => by
    have := ovRow_len h l i m
    rw [ovRow, List.length_append]
    split <;> simp <;> omega
theorem ovAll_len (h : Int) (l : List Bx) : ∀ k, (ovAll h l k).length ≤ k * l.length
  | 0 => by simp [ovAll]
  | k + 1 => by
    have h1 := ovAll_len h l k
    have h2 := ovRow_len h l k (l.length - (k + 1))
    rw [ovAll, List.length_append, Nat.succ_mul]
    omega
/-- What stands behind k rows and m places of the next one. -/
def ovTo (h : Int) (l : List Bx) (k m : Nat) : List (Nat × Nat) := ovAll h l k ++ ovRow h l k m
theorem ovTo_zero (h : Int) (l : List Bx) (k : Nat) : ovTo h l k 0 = ovAll h l k := by simp [ovTo, ovRow]
theorem ovTo_end (h : Int) (l : List Bx) (k : Nat) : ovTo h l k (l.length - (k + 1)) = ovAll h l (k + 1) := rfl
theorem ovTo_yes {h : Int} {l : List Bx} {k m : Nat} {a b : Bx} (ha : l[k]? = some a) (hb : l[k + 1 + m]? = some b) (hm : meetB h a b = true) : ovTo h l k (m + 1) = ovTo h l k m ++ [(k, k + 1 + m)] := by
  have : meetAt h l k (k + 1 + m) = true := by unfold meetAt; rw [ha, hb]; exact hm
  rw [ovTo, ovTo, ovRow, if_pos this, List.append_assoc]
theorem ovTo_no {h : Int} {l : List Bx} {k m : Nat} {a b : Bx} (ha : l[k]? = some a) (hb : l[k + 1 + m]? = some b) (hm : meetB h a b = false) : ovTo h l k (m + 1) = ovTo h l k m := by
  have : ¬ meetAt h l k (k + 1 + m) = true := by unfold meetAt; rw [ha, hb]; simp [hm]
  rw [ovTo, ovTo, ovRow, if_neg this, List.append_nil]
theorem ovTo_len (h : Int) (l : List Bx) (k m : Nat) (hl : l.length ≤ 4096) (hk : k ≤ l.length) (hm : m ≤ l.length) : (ovTo h l k m).length ≤ 20000000 := by
  have h1 := ovAll_len h l k
  have h2 := ovRow_len h l k m
  have h3 : k * l.length ≤ 4096 * 4096 := Nat.mul_le_mul (by omega) hl
  rw [ovTo, List.length_append]; omega
end Go.Proofs.YtkjapeafhcdnkaaDoor
