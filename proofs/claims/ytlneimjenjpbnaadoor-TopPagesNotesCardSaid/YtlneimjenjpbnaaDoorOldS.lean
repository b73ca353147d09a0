/-
  What lay in w lies in W as it was: lists of numbers, the sums of a page problem.
-/
import Derived.Test.YtlneimjenjpbnaaDoorPoI
namespace Go.Proofs.YtlneimjenjpbnaaDoor
open Go.RowKit

/-- All that lay in w lies in W as it was. -/
def OldW (w W : World) : Prop := w.heap.size ≤ W.heap.size ∧ ∀ k, k < w.heap.size → W.heap[k]? = w.heap[k]?
theorem OldW.of {w W : World} (h : Below w.heap.size w W) : OldW w W := ⟨h.size, fun k hk => h.block k hk⟩
theorem OldW.tr {w A B : World} (h : OldW w A) (k : Below A.heap.size A B) : OldW w B := ⟨Nat.le_trans h.1 k.size, fun i hi => (k.block i (Nat.lt_of_lt_of_le hi h.1)).trans (h.2 i hi)⟩
theorem OldW.kp {w A B : World} {n b1 b2 : Nat} (h : OldW w A) (k : KpX n b1 b2 A B) (hn : w.heap.size ≤ n) (h1 : w.heap.size ≤ b1) (h2 : w.heap.size ≤ b2) : OldW w B :=
  ⟨Nat.le_trans h.1 k.1, fun i hi => (k.2 i (by omega) (by omega) (by omega)).trans (h.2 i hi)⟩
theorem OldW.cell {w W : World} (h : OldW w W) {p : Addr} {x : Value} (hx : w.cell? p = some x) : W.cell? p = some x :=
  (World.cell?_of_block (h.2 p.block (World.block_lt_of_cell? w p hx))).trans hx
theorem Rd.oldW {α : Type} {enc : α → Value} {w W : World} {v : Value} {l : List α} (h : Rd enc w v l) (hb : OldW w W) : Rd enc W v l := by
  obtain ⟨a, cap, h1, h2, h3, h4⟩ := h
  refine ⟨a, cap, h1, h2, h3, fun i x hx => ?_⟩
  obtain ⟨b, off, e, c0⟩ := h4 i x hx
  exact ⟨b, off, e, hb.cell c0⟩
theorem RdM.oldW {w W : World} {v : Value} {M : List (List Int)} (h : RdM w v M) (hb : OldW w W) : RdM W v M := by
  obtain ⟨a, cap, h1, h2, h3, h4⟩ := h
  refine ⟨a, cap, h1, h2, h3, fun i x hx => ?_⟩
  obtain ⟨b, off, u, e, c0, hr⟩ := h4 i x hx
  exact ⟨b, off, u, e, hb.cell c0, Rd.oldW hr hb⟩
theorem SmR.oldW {w W : World} {B : Nat} {p : PP} (h : SmR w B p) (hb : OldW w W) : SmR W B p := by
  obtain ⟨vl, vn, vp, vs, vb, h1, h2, h3, h4⟩ := h
  exact ⟨vl, vn, vp, vs, vb, (hb.2 _ h1.lt).trans h1, ⟨Rd.oldW h2.l hb, h2.n.oldW hb, Rd.oldW h2.s hb⟩, Rd.oldW h3 hb, h4.oldW hb⟩
/-- What the pages' iterator reads while 'out' is written. -/
structure PgO (w : World) (p : PP) (f B Bf Bs : Nat) (W : World) : Prop where
  fr : W.cell? ⟨Bf, 0, none⟩ = some (.int .i64 (f : Int))
  ss : W.cell? ⟨Bs, 0, none⟩ = some (.pointer (some ⟨B, 0, none⟩))
  old : OldW w W
theorem PgO.pg {w : World} {p : PP} {f B Bf Bs : Nat} {W : World} (h : PgO w p f B Bf Bs W) (hs : SmR w B p) : PgM p f B Bf Bs W := ⟨h.fr, h.ss, hs.oldW h.old⟩
theorem PgO.below {w : World} {p : PP} {f B Bf Bs : Nat} {W W' : World} (h : PgO w p f B Bf Bs W) (hb : Below W.heap.size W W') : PgO w p f B Bf Bs W' := ⟨Below.keeps hb _ _ h.fr, Below.keeps hb _ _ h.ss, h.old.tr hb⟩
theorem PgO.kp {w : World} {p : PP} {f B Bf Bs n O : Nat} {W W' : World} (h : PgO w p f B Bf Bs W) (k : KpX n O O W W') (hn : w.heap.size ≤ n) (hO : w.heap.size ≤ O) (h1 : Bf < n) (h2 : Bf ≠ O) (h3 : Bs < n) (h4 : Bs ≠ O) : PgO w p f B Bf Bs W' :=
  ⟨k.cell h.fr h1 h2 h2, k.cell h.ss h3 h4 h4, h.old.kp k hn hO hO⟩
end Go.Proofs.YtlneimjenjpbnaaDoor
