/-
  The reference's Of and Find.
-/
import Derived.Test.YtmbehkanhefcpaaGreatDoorFnd2
import Derived.Test.YtmbehkanhefcpaaGreatDoorRWrd
import Derived.Test.YtmbehkanhefcpaaGreatDoorROcc
namespace Go.Proofs.YtmbehkanhefcpaaGreatDoor
open Go.RowKit

/-- The result's cells, the lemma's cells while Of runs. -/
structure RoI (w : World) (B : Nat) (f l : ByteArray) (n : Int) (W : World) : Prop where
  res : Row W w.heap.size #[.string ⟨#[]⟩, .string ⟨#[]⟩, .int .i64 0] 23
  lem : Row W B #[.string f, .string l, .int .i64 n] 23
  bel : Below w.heap.size w W
  lo : w.heap.size + 1 ≤ B
theorem RoI.below {w W W' : World} {B : Nat} {f l : ByteArray} {n : Int} (h : RoI w B f l n W) (hb : Below W.heap.size W W') : RoI w B f l n W' :=
  ⟨h.res.below hb, h.lem.below hb, below_tr h.bel hb, h.lo⟩
theorem RoI.num {w W : World} {B : Nat} {f l : ByteArray} {n : Int} (h : RoI w B f l n W) (c : Int) : RoI w B f l c (W.setCell ⟨B, 2, none⟩ (.int .i64 c)) :=
  have hl := h.lo
  ⟨h.res.other _ _ (by simp; omega), h.lem.set 2 _, h.bel.setCell (p := ⟨B, 2, none⟩) (by simp; omega) _, hl⟩
theorem RoI.lst {w W : World} {B : Nat} {f l : ByteArray} {n : Int} (h : RoI w B f l n W) (c : ByteArray) : RoI w B f c n (W.setCell ⟨B, 1, none⟩ (.string c)) :=
  have hl := h.lo
  ⟨h.res.other _ _ (by simp; omega), h.lem.set 1 _, h.bel.setCell (p := ⟨B, 1, none⟩) (by simp; omega) _, hl⟩

end Go.Proofs.YtmbehkanhefcpaaGreatDoor
