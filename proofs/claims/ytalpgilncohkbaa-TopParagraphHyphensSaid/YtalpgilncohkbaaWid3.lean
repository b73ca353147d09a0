/-
  A loop over a function that writes blocks which it has made itself between two rounds; the body may leave the loop.
-/
import Derived.Test.YtalpgilncohkbaaJ01
import Derived.RangeFuncWrites
namespace Go.Proofs.Ytalpgilncohkbaa
open Go.RowKit

/-- What the iterator is shown to do, for every promise J that also abides writing to blocks that are made behind the loop's start. -/
def YieldsN {α : Type} (F : Fence) (n : Nat) (P : Program) (g : Nat) (lb : Array Value) (encs : α → Array Value) (Kp : World → World → Prop) (S Sp : List α → Prop) (N : Nat) (w : World) : Prop :=
  ∀ (l : Nat) (J Jx : List α → World → Prop) (W : World), Below w.heap.size w W → AbidesFrom W.heap.size J → (∀ pre W1 k j v, W.heap.size ≤ k → J pre W1 → J pre (W1.setCell ⟨k, j, none⟩ v)) →
    (∀ pre x W1, J pre W1 → pre.length < N → YieldAt F (n - 1) P l (encs x) W1 fun e W' => (e = .returned (.bool true) ∧ J (pre ++ [x]) W' ∧ Kp W1 W') ∨ (e = .returned (.bool false) ∧ Jx (pre ++ [x]) W')) →
    J [] W → CallsIn F n P g (#[.func (.yield l) #[] #[]] ++ lb) W fun e W' => (∃ v, e = .returned v) ∧ ((∃ xs, S xs ∧ J xs W') ∨ (∃ pre, Sp pre ∧ Jx pre W'))

set_option maxHeartbeats 1000000 in
theorem wpIn_rangeFunc_newN {F : Fence} {n : Nat} {P : Program} {α : Type} {g : Operand} {ps : Array Tmp} {assign body : Code} {Q : Exit → Act → World → Prop} {a : Act} {w : World}
    (hro : F.round = none) (h1 : 1 ≤ n) {gf : Nat} {lb : Array Value} (hg : a.eval g = .func (.func gf) #[] lb) (hFg : F.fn gf) (eg : ∀ args w, (callFunc gf args).run P w = .ok (.enter gf args) w)
    {encs : α → Array Value} {Kp : World → World → Prop} {S Sp : List α → Prop} {N : Nat} (hseq : YieldsN F (n - 1) P gf lb encs Kp S Sp N w)
    (hKt : ∀ {A B C : World}, Kp A B → Kp B C → Kp A C) (hKb : ∀ (W : World) (l : Nat) (o o' : Obj), w.heap.size ≤ l → W.heap[l]? = some o → o.isCells = false → o.isWalk = false → Kp W (W.putObj l o')) (hps : ∀ x, (encs x).size = ps.size)
    (I : List α → World → Prop) (Ix : Code → List α → World → Prop) (hI : OwnFrom w.heap.size I) (hIx : ∀ c, OwnFrom w.heap.size (Ix c)) (hIs : ∀ pre W k j v, w.heap.size ≤ k → I pre W → I pre (W.setCell ⟨k, j, none⟩ v)) (h0 : I [] w) (a₁ : α → Nat → Act) (Ax : α → Nat → World → Prop) (hAx : ∀ x q, OwnFrom w.heap.size (fun (_ : Unit) W => Ax x q W))
    (hassign : ∀ (l : Nat) (pre : List α) (x : α) (W : World) (K : Act → World → Prop), I pre W → (∀ q W', KeepsFrom w.heap.size W W' → Kp W W' → I pre W' → Ax x q W' → K (a₁ x q) W') →
      assign.wpIn (F.inRound l) (n - 1 - 1) P (Exit.then K (fun _ _ _ => False)) { tmps := (ps.zip (encs x)).foldl (fun t (p, v) => t.setIfInBounds p v) a.tmps, defers := [] } W)
    (hbody : ∀ (l : Nat) (pre : List α) (x : α) (q : Nat) (W : World), I pre W → Ax x q W → pre.length < N → body.wpIn (F.inRound l) (n - 1 - 1) P (ownPostG w.heap.size Kp I Ix (pre ++ [x]) W) (a₁ x q) W)
    (hdone : ∀ (D : Nat) (xs : List α) (W : World), w.heap.size ≤ D → S xs → I xs W → W.heap[D]? = some (.deferred (some [])) → Q .normal { a with defers := { target := .collected D, args := #[] } :: a.defers } W)
    (hstop : ∀ (D : Nat) (c : Code) (pre : List α) (W : World), w.heap.size ≤ D → Sp pre → Ix c pre W → W.heap[D]? = some (.deferred (some [])) → c.wpIn F n P Q { a with defers := { target := .collected D, args := #[] } :: a.defers } W) :
    (Code.rangeFunc g ps assign body).wpIn F n P Q a w := by
  refine wpIn_rangeFunc fun fn hfn => ?_
  rw [hro]
  let R : LoopState → Option Code → Loop := fun st pe => { state := st, pending := pe, fn, tmps := a.tmps, params := ps, assign, body, defers := w.heap.size }
  have szD : (w.alloc (.deferred (some []))).heap.size = w.heap.size + 1 := World.size_alloc _ _
  obtain ⟨V, hV⟩ : ∃ V, V = (w.alloc (.deferred (some []))).alloc (.loop (R .ready none)) := ⟨_, rfl⟩
  have szV : V.heap.size = w.heap.size + 2 := by rw [hV, World.size_alloc, szD]
  have atL : V.heap[w.heap.size + 1]? = some (.loop (R .ready none)) := by rw [hV, ← szD]; exact World.alloc_heap_new _ _
  have atD : V.heap[w.heap.size]? = some (.deferred (some [])) := by rw [hV]; exact (Below.heap_alloc _ _ _ (by simp)).trans (World.alloc_heap_new w _)
  have bV : Below w.heap.size w V := by rw [hV]; exact ((Below.refl _ w).alloc (Nat.le_refl _) _).alloc (by simp) _
  have iV : I [] V := by rw [hV]; exact hI.alloc _ (hI.alloc _ h0)
  refine ⟨w.heap.size + 1, [{ target := .collected w.heap.size, args := #[] }], V, { target := .fn (.func gf) lb, args := #[.func (.yield (w.heap.size + 1)) #[] #[]] }, V, gf,
    #[.func (.yield (w.heap.size + 1)) #[] #[]] ++ lb, V, ?_, ?_, ?_, ?_, fun _ => h1, ?_⟩
  · rw [hV]; exact run_enterLoop_outer _ _ _ _ _
  · simp only [resolve, hg]
    simp [go_sem]
  · intro f' hf'; simp [Target.leads] at hf'; subst hf'; exact hFg
  · simp [invoke, go_sem, eg]
  -- the two blocks of the loop's book-keeping stand beside I
  let J : List α → World → Prop := fun pre W => I pre W ∧ W.heap[w.heap.size + 1]? = some (.loop (R .ready none)) ∧ W.heap[w.heap.size]? = some (.deferred (some []))
  let Jx : List α → World → Prop := fun pre W => ∃ c, Ix c pre W ∧ W.heap[w.heap.size + 1]? = some (.loop (R .done (some c))) ∧ W.heap[w.heap.size]? = some (.deferred (some []))
  have jA : AbidesFrom V.heap.size J := by
    intro pre A B row hj hgr hr
    have keep : ∀ (k : Nat) (o : Obj), A.heap[k]? = some o → o.isWalk = false → B.heap[k]? = some o := fun k o hk ho => (grownBy_keeps hgr (fun r e => (hr r e).2) hk ho).trans hk
    refine ⟨hI pre A B row hj.1 hgr (fun r e => ?_), keep _ _ hj.2.1 rfl, keep _ _ hj.2.2 rfl⟩
    obtain ⟨hge, o, ho, hw⟩ := hr r e
    exact ⟨by omega, o, ho, Obj.not_cells_of_walk hw⟩
  have jS : ∀ pre W1 k j v, V.heap.size ≤ k → J pre W1 → J pre (W1.setCell ⟨k, j, none⟩ v) := by
    intro pre W1 k j v hk hj
    refine ⟨hIs pre W1 k j v (by omega) hj.1, ?_, ?_⟩
    · rw [Below.heap_setCell _ _ _ _ (by simp; omega)]; exact hj.2.1
    · rw [Below.heap_setCell _ _ _ _ (by simp; omega)]; exact hj.2.2
  refine (hseq (w.heap.size + 1) J Jx V bV jA jS ?_ ⟨iV, atL, atD⟩).mono ?_
  · rintro pre x W ⟨hi, hl, hd⟩ hlen
    refine ⟨fn, _, assign, body, run_yield (P := P) (args := encs x) hl (hps x), roundIn_of_wpIn hfn (hassign _ pre x W _ hi ?_)⟩
    intro q Wa hkfa hkpa hia hax
    have lA := hkfa.same _ _ (by omega) hl rfl
    have dA := hkfa.same _ _ (Nat.le_refl _) hd rfl
    have lt : w.heap.size + 1 < Wa.heap.size := (Array.getElem?_eq_some_iff.1 lA).1
    refine ⟨_, run_beginRound lA rfl, ?_⟩
    let U := Wa.putObj (w.heap.size + 1) (.loop { R .ready none with state := .busy })
    have uL : U.heap[w.heap.size + 1]? = some (.loop { R .ready none with state := .busy }) := World.putObj_heap_same lt
    have uD : U.heap[w.heap.size]? = some (.deferred (some [])) := (World.putObj_heap_other (by omega)).trans dA
    have uK : Kp Wa U := hKb _ _ _ _ (by omega) lA rfl rfl
    refine wpIn_mono (hbody _ pre x q U (hI.putObj _ hia (by omega) lA rfl) ((hAx x q).putObj (s := ()) _ hax (by omega) lA rfl) hlen) ?_
    rintro e a3 W3 hp
    cases e with
    | normal =>
      obtain ⟨k3, p3, i3⟩ := hp
      have l3 := k3.same _ _ (by omega) uL rfl
      have d3 := k3.same _ _ (Nat.le_refl _) uD rfl
      refine ⟨_, _, run_endRound (P := P) none l3, .inl ⟨rfl, ⟨hI.putObj _ i3 (by omega) l3 rfl, World.putObj_heap_same (Array.getElem?_eq_some_iff.1 l3).1, (World.putObj_heap_other (by omega)).trans d3⟩, ?_⟩⟩
      exact hKt hkpa (hKt (hKt uK p3) (hKb _ _ _ _ (by omega) l3 rfl rfl))
    | ret =>
      obtain ⟨k3, i3⟩ := hp
      have l3 := k3.same _ _ (by omega) uL rfl
      have d3 := k3.same _ _ (Nat.le_refl _) uD rfl
      exact ⟨_, _, run_endRound (P := P) (some .ret) l3, .inr ⟨rfl, .ret, (hIx _).putObj _ i3 (by omega) l3 rfl, World.putObj_heap_same (Array.getElem?_eq_some_iff.1 l3).1, (World.putObj_heap_other (by omega)).trans d3⟩⟩
    | exit id =>
      obtain ⟨k3, i3⟩ := hp
      have l3 := k3.same _ _ (by omega) uL rfl
      have d3 := k3.same _ _ (Nat.le_refl _) uD rfl
      exact ⟨_, _, run_endRound (P := P) (some (.exit id)) l3, .inr ⟨rfl, .exit id, (hIx _).putObj _ i3 (by omega) l3 rfl, World.putObj_heap_same (Array.getElem?_eq_some_iff.1 l3).1, (World.putObj_heap_other (by omega)).trans d3⟩⟩
    | goto t =>
      obtain ⟨k3, i3⟩ := hp
      have l3 := k3.same _ _ (by omega) uL rfl
      have d3 := k3.same _ _ (Nat.le_refl _) uD rfl
      exact ⟨_, _, run_endRound (P := P) (some (.goto t)) l3, .inr ⟨rfl, .goto t, (hIx _).putObj _ i3 (by omega) l3 rfl, World.putObj_heap_same (Array.getElem?_eq_some_iff.1 l3).1, (World.putObj_heap_other (by omega)).trans d3⟩⟩
    | panic ch => exact hp.elim
    | outgrown => exact hp.elim
  · rintro e W2 ⟨⟨v, rfl⟩, (⟨xs, hS, hi, hl, hd⟩ | ⟨pre, hSp, c, hi, hl, hd⟩)⟩
    · exact ⟨none, _, run_endLoop (P := P) hl (by simp [R]), hdone _ xs _ (Nat.le_refl _) hS (hI.putObj _ hi (by omega) hl rfl) ((World.putObj_heap_other (by omega)).trans hd)⟩
    · exact ⟨some c, _, run_endLoop (P := P) hl (by simp [R]), hstop _ c pre _ (Nat.le_refl _) hSp ((hIx c).putObj _ hi (by omega) hl rfl) ((World.putObj_heap_other (by omega)).trans hd)⟩
theorem wpIn_rangeFunc_newG {F : Fence} {n : Nat} {P : Program} {α : Type} {g : Operand} {ps : Array Tmp} {assign body : Code} {Q : Exit → Act → World → Prop} {a : Act} {w : World}
    (hro : F.round = none) (h1 : 1 ≤ n) {gf : Nat} {lb : Array Value} (hg : a.eval g = .func (.func gf) #[] lb) (hFg : F.fn gf) (eg : ∀ args w, (callFunc gf args).run P w = .ok (.enter gf args) w)
    {encs : α → Array Value} {Kp : World → World → Prop} {S Sp : List α → Prop} {N : Nat} (hseq : YieldsN F (n - 1) P gf lb encs Kp S Sp N w)
    (hKt : ∀ {A B C : World}, Kp A B → Kp B C → Kp A C) (hKb : ∀ (W : World) (l : Nat) (o o' : Obj), w.heap.size ≤ l → W.heap[l]? = some o → o.isCells = false → o.isWalk = false → Kp W (W.putObj l o')) (hps : ∀ x, (encs x).size = ps.size)
    (I : List α → World → Prop) (Ix : Code → List α → World → Prop) (hI : OwnFrom w.heap.size I) (hIx : ∀ c, OwnFrom w.heap.size (Ix c)) (hIs : ∀ pre W k j v, w.heap.size ≤ k → I pre W → I pre (W.setCell ⟨k, j, none⟩ v)) (h0 : I [] w) (a₁ : α → Act) (hKr : ∀ W, Kp W W)
    (hassign : ∀ (l : Nat) (x : α) (W : World) (K : Act → World → Prop), K (a₁ x) W →
      assign.wpIn (F.inRound l) (n - 1 - 1) P (Exit.then K (fun _ _ _ => False)) { tmps := (ps.zip (encs x)).foldl (fun t (p, v) => t.setIfInBounds p v) a.tmps, defers := [] } W)
    (hbody : ∀ (l : Nat) (pre : List α) (x : α) (W : World), I pre W → pre.length < N → body.wpIn (F.inRound l) (n - 1 - 1) P (ownPostG w.heap.size Kp I Ix (pre ++ [x]) W) (a₁ x) W)
    (hdone : ∀ (D : Nat) (xs : List α) (W : World), w.heap.size ≤ D → S xs → I xs W → W.heap[D]? = some (.deferred (some [])) → Q .normal { a with defers := { target := .collected D, args := #[] } :: a.defers } W)
    (hstop : ∀ (D : Nat) (c : Code) (pre : List α) (W : World), w.heap.size ≤ D → Sp pre → Ix c pre W → W.heap[D]? = some (.deferred (some [])) → c.wpIn F n P Q { a with defers := { target := .collected D, args := #[] } :: a.defers } W) :
    (Code.rangeFunc g ps assign body).wpIn F n P Q a w :=
  wpIn_rangeFunc_newN hro h1 hg hFg eg hseq hKt hKb hps I Ix hI hIx hIs h0 (fun x _ => a₁ x) (fun _ _ _ => True) (fun _ _ _ _ _ _ _ _ _ => trivial)
    (fun l _pre x W K hi hK => hassign l x W K (hK 0 W (KeepsFrom.refl _ _) (hKr W) hi trivial)) (fun l pre x _q W hi _ hlen => hbody l pre x W hi hlen) hdone hstop
end Go.Proofs.Ytalpgilncohkbaa
