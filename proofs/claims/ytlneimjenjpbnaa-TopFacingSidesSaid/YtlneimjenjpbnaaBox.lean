/-
  For loops over a function whose body collects into a variable that lies in a box.
-/
import Derived.Test.YtlneimjenjpbnaaLib
import Derived.Test.YtlneimjenjpbnaaAp
import Derived.RangeFuncNested
import Derived.RangeFuncBound
import Derived.RangeFuncCalls
import Derived.RangeFuncLeaves
import Derived.RangeFuncBox
import Derived.OwnWalkIn
import Derived.TacticsInMore
import Derived.LoopNIn
import Derived.LoopIn
namespace Go.Proofs.Ytlneimjenjpbnaa
open Go.RowKit

theorem frozen_nw (W : World) (cs : Array Value) (t : TypeId) (i : Nat) {x : Value} (_ : cs[i]? = some x) : (W.alloc (.cells cs t)).frozen? ⟨W.heap.size, i, none⟩ = false := by
  have := heap_alloc_new W (.cells cs t)
  unfold World.frozen?
  rw [this]; simp
theorem frozen_al {W : World} {p : Addr} (h : W.frozen? p = false) (hp : p.block < W.heap.size) (o : Obj) : (W.alloc o).frozen? p = false := ((below_al W o).frozen hp).trans h

/-- What the rounds keep: all that lay below n₀, but for two blocks. -/
def KpX (n₀ b1 b2 : Nat) (A B : World) : Prop := A.heap.size ≤ B.heap.size ∧ ∀ k, k < n₀ → k ≠ b1 → k ≠ b2 → B.heap[k]? = A.heap[k]?
theorem KpX.tr {n₀ b1 b2 : Nat} {A B C : World} (h : KpX n₀ b1 b2 A B) (k : KpX n₀ b1 b2 B C) : KpX n₀ b1 b2 A C :=
  ⟨Nat.le_trans h.1 k.1, fun i h1 h2 h3 => (k.2 i h1 h2 h3).trans (h.2 i h1 h2 h3)⟩
theorem KpX.put {n₀ b1 b2 m : Nat} (hn : n₀ ≤ m) (W : World) (l : Nat) (o o' : Obj) (hl : m ≤ l) (_ : W.heap[l]? = some o) (_ : o.isCells = false) (_ : o.isWalk = false) : KpX n₀ b1 b2 W (W.putObj l o') :=
  ⟨by simp [World.putObj], fun k hk _ _ => World.putObj_heap_other (by omega)⟩
theorem KpX.cell {n₀ b1 b2 : Nat} {A B : World} (h : KpX n₀ b1 b2 A B) {p : Addr} {x : Value} (hx : A.cell? p = some x) (h1 : p.block < n₀) (h2 : p.block ≠ b1) (h3 : p.block ≠ b2) : B.cell? p = some x :=
  (World.cell?_of_block (h.2 p.block h1 h2 h3)).trans hx
theorem Rd.blk {α : Type} {enc : α → Value} {W W' : World} {v : Value} {l : List α} (h : Rd enc W v l) (hk : ∀ k, v.ownBlock = some k → W'.heap[k]? = W.heap[k]?) : Rd enc W' v l := by
  obtain ⟨a, cap, rfl, h2, h3, h4⟩ := h
  refine ⟨a, cap, rfl, h2, h3, fun i x hx => ?_⟩
  obtain ⟨b, off, rfl, hc⟩ := h4 i x hx
  exact ⟨b, off, rfl, (World.cell?_of_block (hk b rfl)).trans hc⟩

theorem keepsFrom_below {n : Nat} {W W' : World} (h : Below W.heap.size W W') : KeepsFrom n W W' :=
  ⟨h.size, fun k _ _ hk _ => (h.block k (Array.getElem?_eq_some_iff.1 hk).1).trans hk⟩
theorem kpX_below {n b1 b2 : Nat} {W W' : World} (h : Below W.heap.size W W') (hn : n ≤ W.heap.size) : KpX n b1 b2 W W' := ⟨h.size, fun k hk _ _ => h.block k (by omega)⟩
theorem own_below {W W' : World} {base : Nat} {e : TypeId} {size : Nat} {v : Value} {n : Nat} {xs : List Value} (h : W.ownsRow base e size v n xs) (hb : Below W.heap.size W W') : W'.ownsRow base e size v n xs :=
  h.kept (row := none) ⟨hb.os, hb.tape, hb.output, hb.size, fun k hk _ => hb.block k hk⟩ (by cases v.ownBlock <;> simp)
theorem leave2 {F : Fence} {n : Nat} {P : Program} {fn : Func} {tmps : Array Value} {R : Ending → World → Prop} {w : World} {t u : Tmp} (h : fn.results = #[.tmp t, .tmp u])
    (hR : R (.returned (.tuple #[tmps.getD t undef, tmps.getD u undef])) w) : LeavesInM F n P fn tmps R [] .returning w := ⟨_, results_tmp2 h _ _ _, hR⟩

theorem leave1 {F : Fence} {n : Nat} {P : Program} {fn : Func} {tmps : Array Value} {R : Ending → World → Prop} {w : World} {t : Tmp} (h : fn.results = #[.tmp t])
    (hR : R (.returned (tmps.getD t undef)) w) : LeavesInM F n P fn tmps R [] .returning w := ⟨_, results_tmp h _ _ _, hR⟩

/-- Between two rounds: the box B holds a slice that owns its row of strings, made behind the block n₁. -/
def InvA (wr : World) (n₁ B : Nat) (t e : TypeId) (ks : List ByteArray) (W : World) : Prop :=
  (∃ v, Boxed W B t v ∧ W.ownsRow n₁ e 1 v ks.length (ks.map Value.string)) ∧ Below wr.heap.size wr W ∧ n₁ ≤ W.heap.size
theorem InvA.own {β : Type} (wr : World) (n₁ B : Nat) (t e : TypeId) (B' : Nat) (f : β → List ByteArray) (hw : wr.heap.size ≤ B') : OwnFrom B' (fun s W => InvA wr n₁ B t e (f s) W) := by
  intro s W W' row hs hg hr
  obtain ⟨⟨v, h1, h2⟩, h7, h8⟩ := hs
  obtain ⟨v', h1', h2', _⟩ := holdsRow_own n₁ B t e 1 (fun s => (f s).length) (fun s => (f s).map Value.string) (fun _ _ => True) s W W' row ⟨v, h1, h2, trivial⟩ hg (fun r e => (hr r e).2)
  exact ⟨⟨v', h1', h2'⟩, h7.grown hg h7.size (fun k e => Nat.le_trans hw (hr k e).1), Nat.le_trans h8 hg.size⟩
theorem InvA.below {wr : World} {n₁ B : Nat} {t e : TypeId} {ks : List ByteArray} {W W' : World} (h : InvA wr n₁ B t e ks W) (hb : Below W.heap.size W W') : InvA wr n₁ B t e ks W' := by
  obtain ⟨⟨v, h1, h2⟩, h7, h8⟩ := h
  exact ⟨⟨v, (hb.block B h1.lt).trans h1, own_below h2 hb⟩, h7.trans (hb.mono h7.size), Nat.le_trans h8 hb.size⟩
theorem keeps_box {n B : Nat} {W w1 : World} {row : Option Nat} (hg : W.grownBy w1 row) (hrow : ∀ r, row = some r → n ≤ r) (hc : ∀ r, row = some r → ∃ o : Obj, W.heap[r]? = some o ∧ o.isCells = true) (hB : B < n) (hn : n ≤ W.heap.size) (v' : Value) :
    KeepsFrom n W (w1.setCell ⟨B, 0, none⟩ v') ∧ KpX n B B W (w1.setCell ⟨B, 0, none⟩ v') := by
  have hsz : (w1.setCell ⟨B, 0, none⟩ v').heap.size = w1.heap.size := by simp [World.setCell]
  refine ⟨⟨by rw [hsz]; exact hg.size, fun k o hB' hk ho => ?_⟩, ⟨by rw [hsz]; exact hg.size, fun k hk hk1 _ => ?_⟩⟩
  · rw [Below.heap_setCell _ _ _ _ (by simp; omega)]
    refine (hg.block k (Array.getElem?_eq_some_iff.1 hk).1 (fun e => ?_)).trans hk
    obtain ⟨o', ho', hc'⟩ := hc k e.symm
    rw [hk] at ho'; cases ho'; rw [ho] at hc'; cases hc'
  · rw [Below.heap_setCell _ _ _ _ (by simpa using hk1)]
    exact hg.block k (by omega) (fun e => by have := hrow k e.symm; omega)
theorem own_cells {W : World} {base : Nat} {e : TypeId} {size : Nat} {v : Value} {n : Nat} {xs : List Value} (h : W.ownsRow base e size v n xs) : ∀ r, v.ownBlock = some r → ∃ o : Obj, W.heap[r]? = some o ∧ o.isCells = true := by
  intro r hr
  rcases h.2 with ⟨rfl, _⟩ | ⟨g, cap, cur, rfl, _, hgb, _⟩
  · cases hr
  · cases hr; exact ⟨_, hgb, rfl⟩
/-- What a round leaves. -/
def bodyA (wr : World) (n₁ B : Nat) (t e : TypeId) (ks : List ByteArray) (W : World) : Exit → Act → World → Prop
  | .normal, _, W' => KeepsFrom n₁ W W' ∧ KpX n₁ B B W W' ∧ InvA wr n₁ B t e ks W'
  | _, _, _ => False
/-- Behind 'out = append(out, x)'. -/
theorem InvA.push {wr : World} {n₁ B : Nat} {t e : TypeId} {ks : List ByteArray} {W w1 : World} {v : Value} {g cap : Nat} {x : ByteArray} (hbx : Boxed W B t v) (hte : t ≠ e) (hown : W.ownsRow n₁ e 1 v ks.length (ks.map Value.string)) (hBw : Below wr.heap.size wr W) (hn : n₁ ≤ W.heap.size)
    (hB : B < n₁) (hwB : wr.heap.size ≤ B) (hown' : w1.ownsRow n₁ e 1 (.slice (some ⟨g, 0, none⟩) (ks.length + 1) cap) (ks.length + 1) (ks.map Value.string ++ [.string x])) (hgr : W.grownBy w1 v.ownBlock) :
    KeepsFrom n₁ W (w1.setCell ⟨B, 0, none⟩ (.slice (some ⟨g, 0, none⟩) (ks.length + 1) cap)) ∧ KpX n₁ B B W (w1.setCell ⟨B, 0, none⟩ (.slice (some ⟨g, 0, none⟩) (ks.length + 1) cap)) ∧
      InvA wr n₁ B t e (ks ++ [x]) (w1.setCell ⟨B, 0, none⟩ (.slice (some ⟨g, 0, none⟩) (ks.length + 1) cap)) := by
  have hv1 : Boxed w1 B t v := hbx.kept hgr (hbx.not_row hte hown)
  obtain ⟨k1, k2⟩ := keeps_box hgr (fun r hr => (hown.lt r hr).1) (own_cells hown) hB hn (.slice (some ⟨g, 0, none⟩) (ks.length + 1) cap)
  refine ⟨k1, k2, ⟨_, hv1.set _, ?_⟩, ?_, ?_⟩
  · have h := hown'.kept (grownBy_setCell' w1 B (.slice (some ⟨g, 0, none⟩) (ks.length + 1) cap)) (.inr (hv1.not_row hte hown').symm)
    simpa using h
  · exact (hBw.grown hgr hBw.size (fun k e => by have := (hown.lt k e).1; omega)).setCell (p := ⟨B, 0, none⟩) hwB _
  · have := hgr.size
    simp [World.setCell]; omega
end Go.Proofs.Ytlneimjenjpbnaa
