/-
  The page problem of the law, while its lines are laid.
-/
import Derived.Test.YtlneimjenjpbnaaDoorTpa
namespace Go.Proofs.YtlneimjenjpbnaaDoor
open Go.RowKit

structure LnI (w0 : World) (Bp : Nat) (c1 c2 c3 c4 : Value) (k : Nat) (lh : Int) (v : Value) (W : World) : Prop where
  row : Row W Bp #[v, c1, c2, c3, c4] 38
  own : W.ownsRow w0.heap.size 3 1 v k ((List.replicate k lh).map (Value.int .i64))
  bel : Below w0.heap.size w0 W
  lo : w0.heap.size ≤ Bp
theorem LnI.push {w0 : World} {Bp k g cap : Nat} {c1 c2 c3 c4 v : Value} {lh : Int} {W W' : World} (h : LnI w0 Bp c1 c2 c3 c4 k lh v W) (ho : W'.ownsRow w0.heap.size 3 1 (.slice (some ⟨g, 0, none⟩) (k + 1) cap) (k + 1) ((List.replicate k lh).map (Value.int .i64) ++ [.int .i64 lh]))
    (hb : Below w0.heap.size W W') (hg : W.grownBy W' v.ownBlock) :
    LnI w0 Bp c1 c2 c3 c4 (k + 1) lh (.slice (some ⟨g, 0, none⟩) (k + 1) cap) (W'.setCell ⟨Bp, 0, none⟩ (.slice (some ⟨g, 0, none⟩) (k + 1) cap)) ∧ W'.cell? ⟨Bp, 0, none⟩ = some v ∧ W'.frozen? ⟨Bp, 0, none⟩ = false := by
  have n1 : v.ownBlock ≠ some Bp := row_own_neX h.row h.own (by decide)
  have hr : Row W' Bp #[v, c1, c2, c3, c4] 38 := (hg.block _ h.row.lt (fun e => n1 e.symm)).trans h.row
  have n2 := row_own_neX hr ho (by decide)
  refine ⟨⟨hr.set 0 _, ?_, (h.bel.trans hb).setCell h.lo _, h.lo⟩, hr.cell 0 rfl, hr.frozen 0⟩
  have e : (List.replicate (k + 1) lh).map (Value.int .i64) = (List.replicate k lh).map (Value.int .i64) ++ [.int .i64 lh] := by rw [List.replicate_succ', List.map_append]; rfl
  rw [e]
  exact own_setX ho _ _ n2
theorem LnI.rd {w0 : World} {Bp k : Nat} {c1 c2 c3 c4 v : Value} {lh : Int} {W : World} (h : LnI w0 Bp c1 c2 c3 c4 k lh v W) : RdI W v (List.replicate k lh) := by
  have ho := h.own
  have e : k = (List.replicate k lh).length := by simp
  have h2 : W.ownsRow w0.heap.size 3 1 v (List.replicate k lh).length ((List.replicate k lh).map (Value.int .i64)) := by rw [← e]; exact ho
  exact Rd.of_own (enc := Value.int .i64) h2
theorem Rd.setB {α : Type} {enc : α → Value} {W : World} {G B i n c : Nat} {l : List α} (h : Rd enc W (.slice (some ⟨G, 0, none⟩) n c) l) (hne : G ≠ B) (u : Value) : Rd enc (W.setCell ⟨B, i, none⟩ u) (.slice (some ⟨G, 0, none⟩) n c) l := by
  obtain ⟨a, cap, h1, h2, h3, h4⟩ := h
  cases h1
  refine ⟨_, _, rfl, h2, h3, fun j x hx => ?_⟩
  obtain ⟨b, off, e, hc⟩ := h4 j x hx
  cases e
  exact ⟨_, _, rfl, (World.cell?_of_block (Below.heap_setCell _ _ _ _ hne)).trans hc⟩
/-- The page problem is laid. -/
theorem LnI.fin {w0 : World} {Bp G n : Nat} {cM v : Value} {ph gap lh : Int} {M : List (List Int)} {Lp : List Int} {W W4 : World} (h : LnI w0 Bp cM (.slice none 0 0) (.int .i64 ph) (.int .i64 gap) n lh v W) (hM : RdM w0 cM M) (hb : Below W.heap.size W W4) (hG : W.heap.size ≤ G)
    (h3 : RdI W4 (.slice (some ⟨G, 0, none⟩) n n) Lp) :
    Row (W4.setCell ⟨Bp, 2, none⟩ (.slice (some ⟨G, 0, none⟩) n n)) Bp #[v, cM, .slice (some ⟨G, 0, none⟩) n n, .int .i64 ph, .int .i64 gap] 38 ∧
      RdP5 (W4.setCell ⟨Bp, 2, none⟩ (.slice (some ⟨G, 0, none⟩) n n)) v cM (.slice (some ⟨G, 0, none⟩) n n) ⟨List.replicate n lh, M, Lp, ph, gap⟩ ∧
      Below w0.heap.size w0 (W4.setCell ⟨Bp, 2, none⟩ (.slice (some ⟨G, 0, none⟩) n n)) ∧ W4.cell? ⟨Bp, 2, none⟩ = some (.slice none 0 0) ∧ W4.frozen? ⟨Bp, 2, none⟩ = false := by
  have hr := h.row.below hb
  have hlt := h.row.lt
  have hne : G ≠ Bp := by omega
  have ho := own_belowX h.own hb
  have n2 := row_own_neX hr ho (by decide)
  have hbel : Below w0.heap.size w0 (W4.setCell ⟨Bp, 2, none⟩ (.slice (some ⟨G, 0, none⟩) n n)) := (h.bel.trans (hb.mono h.bel.size)).setCell h.lo _
  refine ⟨hr.set 2 _, ⟨?_, hM.below hbel, h3.setB hne _⟩, hbel, hr.cell 2 rfl, hr.frozen 2⟩
  have ho2 := own_setX ho ⟨Bp, 2, none⟩ (.slice (some ⟨G, 0, none⟩) n n) n2
  have e : n = (List.replicate n lh).length := by simp
  have h2 : (W4.setCell ⟨Bp, 2, none⟩ (.slice (some ⟨G, 0, none⟩) n n)).ownsRow w0.heap.size 3 1 v (List.replicate n lh).length ((List.replicate n lh).map (Value.int .i64)) := by rw [← e]; exact ho2
  exact Rd.of_own (enc := Value.int .i64) h2
end Go.Proofs.YtlneimjenjpbnaaDoor
