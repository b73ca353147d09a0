/-
  A block that holds a row of cells.
-/
import Derived.Test.YtlneimjenjpbnaaLib
namespace Go.Proofs.Ytlneimjenjpbnaa
open Go.RowKit

/-- Block B holds the cells cs. -/
def Row (W : World) (B : Nat) (cs : Array Value) (t : TypeId) : Prop := W.heap[B]? = some (.cells cs t (0, 0))
theorem Row.cell {W : World} {B : Nat} {cs : Array Value} {t : TypeId} (h : Row W B cs t) (i : Nat) {x : Value} (hx : cs[i]? = some x) : W.cell? ⟨B, i, none⟩ = some x := by rw [cell_of_row W B i cs t (0, 0) h]; exact hx
theorem Row.frozen {W : World} {B : Nat} {cs : Array Value} {t : TypeId} (h : Row W B cs t) (i : Nat) : W.frozen? ⟨B, i, none⟩ = false := frozen_of_row W B i cs t h
theorem Row.set {W : World} {B : Nat} {cs : Array Value} {t : TypeId} (h : Row W B cs t) (i : Nat) (v : Value) : Row (W.setCell ⟨B, i, none⟩ v) B (cs.setIfInBounds i v) t := heap_setCell_same W B i cs t v h
theorem Row.other {W : World} {B : Nat} {cs : Array Value} {t : TypeId} (h : Row W B cs t) (p : Addr) (v : Value) (hp : B ≠ p.block) : Row (W.setCell p v) B cs t := (Below.heap_setCell W p v B hp).trans h
theorem Row.below {W W' : World} {B : Nat} {cs : Array Value} {t : TypeId} (h : Row W B cs t) (hb : Below W.heap.size W W') : Row W' B cs t := (hb.block B (Array.getElem?_eq_some_iff.1 h).1).trans h
theorem Row.lt {W : World} {B : Nat} {cs : Array Value} {t : TypeId} (h : Row W B cs t) : B < W.heap.size := (Array.getElem?_eq_some_iff.1 h).1
theorem row_nw (W : World) (cs : Array Value) (t : TypeId) {n : Nat} (hn : n = W.heap.size) : Row (W.alloc (.cells cs t)) n cs t := by subst hn; exact heap_alloc_new W _
theorem Row.al {W : World} {B : Nat} {cs : Array Value} {t : TypeId} (h : Row W B cs t) (o : Obj) : Row (W.alloc o) B cs t := h.below (below_al W o)
end Go.Proofs.Ytlneimjenjpbnaa
