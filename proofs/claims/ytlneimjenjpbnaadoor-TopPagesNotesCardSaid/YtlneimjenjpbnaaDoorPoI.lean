/-
  (*sums).potentials: what is kept while it runs.
-/
import Derived.Test.YtlneimjenjpbnaaDoorPgs
import Derived.Test.YtlneimjenjpbnaaDoorJ01
namespace Go.Proofs.YtlneimjenjpbnaaDoor
open Go.RowKit

structure PoI (w : World) (p : PP) (O Bo : Nat) (cs : List Int) (W : World) : Prop where
  bel : Below w.heap.size w W
  ob : Row W O (cs.map (Value.int .i64)).toArray 3
  ox : Row W Bo #[.slice (some ⟨O, 0, none⟩) (p.lines.length + 1) (p.lines.length + 1)] 32
  lo : w.heap.size ≤ O
  len : cs.length = p.lines.length + 1
theorem PoI.below {w : World} {p : PP} {O Bo : Nat} {cs : List Int} {W W' : World} (h : PoI w p O Bo cs W) (hb : Below W.heap.size W W') : PoI w p O Bo cs W' := ⟨below_tr h.bel hb, h.ob.below hb, h.ox.below hb, h.lo, h.len⟩
theorem PoI.at {w : World} {p : PP} {O Bo : Nat} {cs : List Int} {W : World} (h : PoI w p O Bo cs W) {i : Nat} {x : Int} (hx : cs[i]? = some x) : W.cell? ⟨O, i, none⟩ = some (.int .i64 x) ∧ W.frozen? ⟨O, i, none⟩ = false :=
  ⟨h.ob.cell i (by simp [hx]), h.ob.frozen i⟩
theorem PoI.set {w : World} {p : PP} {O Bo : Nat} {cs : List Int} {W : World} (h : PoI w p O Bo cs W) (i : Nat) (x : Int) : PoI w p O Bo (cs.set i x) (W.setCell ⟨O, i, none⟩ (.int .i64 x)) := by
  have hne : O ≠ Bo := fun e => by
    have h3 : W.heap[O]? = _ := h.ob
    have h4 : W.heap[Bo]? = _ := h.ox
    rw [e, h4] at h3
    simp only [Option.some.injEq, Obj.cells.injEq] at h3
    exact absurd h3.2.1 (by decide)
  refine ⟨h.bel.setCell h.lo _, ?_, h.ox.other _ _ (by simpa using fun e => hne e.symm), h.lo, by rw [List.length_set]; exact h.len⟩
  have h2 := h.ob.set i (.int .i64 x)
  rw [List.map_set, ← List.setIfInBounds_toArray]
  exact h2
theorem PoI.grown {w : World} {p : PP} {O Bo n : Nat} {cs : List Int} {W W' : World} {row : Option Nat} (h : PoI w p O Bo cs W) (hn : w.heap.size ≤ n) (hg : W.grownBy W' row) (hr : ∀ r, row = some r → n ≤ r ∧ ∃ o : Obj, W.heap[r]? = some o ∧ o.isCells = false) : PoI w p O Bo cs W' := by
  have key : ∀ (k : Nat) (cs : Array Value) (t : TypeId), Row W k cs t → Row W' k cs t := fun k cs t hk => (hg.block k hk.lt (fun e => by
    obtain ⟨_, o, ho, hc⟩ := hr k e.symm
    have h3 : W.heap[k]? = _ := hk
    rw [ho] at h3; cases h3; cases hc)).trans hk
  exact ⟨h.bel.grown hg h.bel.size (fun k e => by have := (hr k e).1; omega), key _ _ _ h.ob, key _ _ _ h.ox, h.lo, h.len⟩
theorem PoI.keeps {w : World} {p : PP} {O Bo n : Nat} {cs : List Int} {W : World} (h : PoI w p O Bo cs W) (i : Nat) (v : Value) : KeepsFrom n W (W.setCell ⟨O, i, none⟩ v) ∧ (∀ m, KpX m O O W (W.setCell ⟨O, i, none⟩ v)) := by
  have hs : (W.setCell ⟨O, i, none⟩ v).heap.size = W.heap.size := by simp [World.setCell]
  refine ⟨⟨Nat.le_of_eq hs.symm, fun k o _ ho hc => ?_⟩, fun m => ⟨Nat.le_of_eq hs.symm, fun k _ h1 _ => Below.heap_setCell _ _ _ _ (by simpa using h1)⟩⟩
  have hk : k ≠ O := fun e => by
    have h3 : W.heap[O]? = _ := h.ob
    rw [e, h3] at ho
    cases ho; cases hc
  exact (Below.heap_setCell _ _ _ _ (by simpa using hk)).trans ho
end Go.Proofs.YtlneimjenjpbnaaDoor
