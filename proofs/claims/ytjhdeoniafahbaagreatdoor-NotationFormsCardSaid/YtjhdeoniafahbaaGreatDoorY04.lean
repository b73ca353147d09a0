/-
  Joined, what is needed of: J02 Chk OccI.
-/
import Derived.RangeFuncWrites
import Derived.Lib.SplitLaws
import Derived.Lib.Join
import Derived.Test.YtjhdeoniafahbaaGreatDoorY01
import Derived.Lib.ConvBytes
import Derived.StillTailTactics
namespace Go.Proofs.YtjhdeoniafahbaaGreatDoor
open Go.RowKit
/-- What the iterator is shown to do, for every promise J that also abides its own writing to the box Bs. -/
def YieldsS {α : Type} (F : Fence) (n : Nat) (P : Program) (g : Nat) (lb : Array Value) (encs : α → Array Value) (Kp : World → World → Prop) (S Sp : List α → Prop) (N Bs : Nat) (w : World) : Prop :=
  ∀ (l : Nat) (J Jx : List α → World → Prop) (W : World), Below w.heap.size w W → AbidesFrom W.heap.size J → (∀ pre W1 v, J pre W1 → J pre (W1.setCell ⟨Bs, 0, none⟩ v)) →
    (∀ pre x W1, J pre W1 → pre.length < N → YieldAt F (n - 1) P l (encs x) W1 fun e W' => (e = .returned (.bool true) ∧ J (pre ++ [x]) W' ∧ Kp W1 W') ∨ (e = .returned (.bool false) ∧ Jx (pre ++ [x]) W')) →
    J [] W → CallsIn F n P g (#[.func (.yield l) #[] #[]] ++ lb) W fun e W' => (∃ v, e = .returned v) ∧ ((∃ xs, S xs ∧ J xs W') ∨ (∃ pre, Sp pre ∧ Jx pre W'))
set_option maxHeartbeats 1000000 in
theorem wpIn_rangeFunc_boxS {F : Fence} {n : Nat} {P : Program} {α : Type} {g : Operand} {ps : Array Tmp} {assign body : Code} {Q : Exit → Act → World → Prop} {a : Act} {w : World}
    (hro : F.round = none) (h1 : 1 ≤ n) {gf : Nat} {lb : Array Value} (hg : a.eval g = .func (.func gf) #[] lb) (hFg : F.fn gf) (eg : ∀ args w, (callFunc gf args).run P w = .ok (.enter gf args) w)
    {encs : α → Array Value} {Kp : World → World → Prop} {S Sp : List α → Prop} {N Bs : Nat} (hseq : YieldsS F (n - 1) P gf lb encs Kp S Sp N Bs w) (hBs : Bs < w.heap.size)
    (hKt : ∀ {A B C : World}, Kp A B → Kp B C → Kp A C) (hKb : ∀ (W : World) (l : Nat) (o o' : Obj), w.heap.size ≤ l → W.heap[l]? = some o → o.isCells = false → o.isWalk = false → Kp W (W.putObj l o')) (hps : ∀ x, (encs x).size = ps.size)
    (I : List α → World → Prop) (Ix : Code → List α → World → Prop) (hI : OwnFrom w.heap.size I) (hIx : ∀ c, OwnFrom w.heap.size (Ix c)) (hIs : ∀ pre W v, I pre W → I pre (W.setCell ⟨Bs, 0, none⟩ v)) (h0 : I [] w) (a₁ : α → Nat → Act) (Ax : α → Nat → World → Prop) (hAx : ∀ x q, OwnFrom w.heap.size (fun (_ : Unit) W => Ax x q W))
    (hassign : ∀ (l : Nat) (pre : List α) (x : α) (W : World) (K : Act → World → Prop), I pre W → (∀ q W', KeepsFrom w.heap.size W W' → Kp W W' → I pre W' → Ax x q W' → K (a₁ x q) W') →
      assign.wpIn (F.inRound l) (n - 1 - 1) P (Exit.then K (fun _ _ _ => False)) { tmps := (ps.zip (encs x)).foldl (fun t (p, v) => t.setIfInBounds p v) a.tmps, defers := [] } W)
    (hbody : ∀ (l : Nat) (pre : List α) (x : α) (q : Nat) (W : World), I pre W → Ax x q W → pre.length < N → body.wpIn (F.inRound l) (n - 1 - 1) P (ownPostG w.heap.size Kp I Ix (pre ++ [x]) W) (a₁ x q) W)
    (hdone : ∀ (D : Nat) (xs : List α) (W : World), w.heap.size ≤ D → S xs → I xs W → W.heap[D]? = some (.deferred (some [])) → Q .normal { a with defers := { target := .collected D, args := #[] } :: a.defers } W)
    (hstop : ∀ (D : Nat) (c : Code) (pre : List α) (W : World), w.heap.size ≤ D → Sp pre → Ix c pre W → W.heap[D]? = some (.deferred (some [])) → c.wpIn F n P Q { a with defers := { target := .collected D, args := #[] } :: a.defers } W) :
    (Code.rangeFunc g ps assign body).wpIn F n P Q a w := by
  refine wpIn_rangeFunc fun fn hfn => ?_
  rw [hro]
  let R : LoopState → Option Code → Loop := fun st pe => { state := st, pending := pe, fn, tmps := a.tmps, params := ps, assign, body, defers := w.heap.size }
  have szD : (w.alloc (.deferred (some []))).heap.size = w.heap.size + 1 := World.size_alloc _ _
  obtain ⟨V, hV⟩ : ∃ V, V = (w.alloc (.deferred (some []))).alloc (.loop (R .ready none)) := ⟨_, rfl⟩
  have szV : V.heap.size = w.heap.size + 2 := by rw [hV, World.size_alloc, szD]
  have atL : V.heap[w.heap.size + 1]? = some (.loop (R .ready none)) := by rw [hV, ← szD]; exact World.alloc_heap_new _ _
  have atD : V.heap[w.heap.size]? = some (.deferred (some [])) := by rw [hV]; exact (Below.heap_alloc _ _ _ (by simp)).trans (World.alloc_heap_new w _)
  have bV : Below w.heap.size w V := by rw [hV]; exact ((Below.refl _ w).alloc (Nat.le_refl _) _).alloc (by simp) _
  have iV : I [] V := by rw [hV]; exact hI.alloc _ (hI.alloc _ h0)
  refine ⟨w.heap.size + 1, [{ target := .collected w.heap.size, args := #[] }], V, { target := .fn (.func gf) lb, args := #[.func (.yield (w.heap.size + 1)) #[] #[]] }, V, gf,
    #[.func (.yield (w.heap.size + 1)) #[] #[]] ++ lb, V, ?_, ?_, ?_, ?_, fun _ => h1, ?_⟩
  · rw [hV]; exact run_enterLoop_outer _ _ _ _ _
  · simp only [resolve, hg]
    simp [go_sem]
  · intro f' hf'; simp [Target.leads] at hf'; subst hf'; exact hFg
  · simp [invoke, go_sem, eg]
  -- the two blocks of the loop's book-keeping stand beside I
  let J : List α → World → Prop := fun pre W => I pre W ∧ W.heap[w.heap.size + 1]? = some (.loop (R .ready none)) ∧ W.heap[w.heap.size]? = some (.deferred (some []))
  let Jx : List α → World → Prop := fun pre W => ∃ c, Ix c pre W ∧ W.heap[w.heap.size + 1]? = some (.loop (R .done (some c))) ∧ W.heap[w.heap.size]? = some (.deferred (some []))
  have jA : AbidesFrom V.heap.size J := by
    intro pre A B row hj hgr hr
    have keep : ∀ (k : Nat) (o : Obj), A.heap[k]? = some o → o.isWalk = false → B.heap[k]? = some o := fun k o hk ho => (grownBy_keeps hgr (fun r e => (hr r e).2) hk ho).trans hk
    refine ⟨hI pre A B row hj.1 hgr (fun r e => ?_), keep _ _ hj.2.1 rfl, keep _ _ hj.2.2 rfl⟩
    obtain ⟨hge, o, ho, hw⟩ := hr r e
    exact ⟨by omega, o, ho, Obj.not_cells_of_walk hw⟩
  have jS : ∀ pre W1 v, J pre W1 → J pre (W1.setCell ⟨Bs, 0, none⟩ v) := by
    intro pre W1 v hj
    refine ⟨hIs pre W1 v hj.1, ?_, ?_⟩
    · rw [Below.heap_setCell _ _ _ _ (by simp; omega)]; exact hj.2.1
    · rw [Below.heap_setCell _ _ _ _ (by simp; omega)]; exact hj.2.2
  refine (hseq (w.heap.size + 1) J Jx V bV jA jS ?_ ⟨iV, atL, atD⟩).mono ?_
  · rintro pre x W ⟨hi, hl, hd⟩ hlen
    refine ⟨fn, _, assign, body, run_yield (P := P) (args := encs x) hl (hps x), roundIn_of_wpIn hfn (hassign _ pre x W _ hi ?_)⟩
    intro q Wa hkfa hkpa hia hax
    have lA := hkfa.same _ _ (by omega) hl rfl
    have dA := hkfa.same _ _ (Nat.le_refl _) hd rfl
    have lt : w.heap.size + 1 < Wa.heap.size := (Array.getElem?_eq_some_iff.1 lA).1
    refine ⟨_, run_beginRound lA rfl, ?_⟩
    let U := Wa.putObj (w.heap.size + 1) (.loop { R .ready none with state := .busy })
    have uL : U.heap[w.heap.size + 1]? = some (.loop { R .ready none with state := .busy }) := World.putObj_heap_same lt
    have uD : U.heap[w.heap.size]? = some (.deferred (some [])) := (World.putObj_heap_other (by omega)).trans dA
    have uK : Kp Wa U := hKb _ _ _ _ (by omega) lA rfl rfl
    refine wpIn_mono (hbody _ pre x q U (hI.putObj _ hia (by omega) lA rfl) ((hAx x q).putObj (s := ()) _ hax (by omega) lA rfl) hlen) ?_
    rintro e a3 W3 hp
    cases e with
    | normal =>
      obtain ⟨k3, p3, i3⟩ := hp
      have l3 := k3.same _ _ (by omega) uL rfl
      have d3 := k3.same _ _ (Nat.le_refl _) uD rfl
      refine ⟨_, _, run_endRound (P := P) none l3, .inl ⟨rfl, ⟨hI.putObj _ i3 (by omega) l3 rfl, World.putObj_heap_same (Array.getElem?_eq_some_iff.1 l3).1, (World.putObj_heap_other (by omega)).trans d3⟩, ?_⟩⟩
      exact hKt hkpa (hKt (hKt uK p3) (hKb _ _ _ _ (by omega) l3 rfl rfl))
    | ret =>
      obtain ⟨k3, i3⟩ := hp
      have l3 := k3.same _ _ (by omega) uL rfl
      have d3 := k3.same _ _ (Nat.le_refl _) uD rfl
      exact ⟨_, _, run_endRound (P := P) (some .ret) l3, .inr ⟨rfl, .ret, (hIx _).putObj _ i3 (by omega) l3 rfl, World.putObj_heap_same (Array.getElem?_eq_some_iff.1 l3).1, (World.putObj_heap_other (by omega)).trans d3⟩⟩
    | exit id =>
      obtain ⟨k3, i3⟩ := hp
      have l3 := k3.same _ _ (by omega) uL rfl
      have d3 := k3.same _ _ (Nat.le_refl _) uD rfl
      exact ⟨_, _, run_endRound (P := P) (some (.exit id)) l3, .inr ⟨rfl, .exit id, (hIx _).putObj _ i3 (by omega) l3 rfl, World.putObj_heap_same (Array.getElem?_eq_some_iff.1 l3).1, (World.putObj_heap_other (by omega)).trans d3⟩⟩
    | goto t =>
      obtain ⟨k3, i3⟩ := hp
      have l3 := k3.same _ _ (by omega) uL rfl
      have d3 := k3.same _ _ (Nat.le_refl _) uD rfl
      exact ⟨_, _, run_endRound (P := P) (some (.goto t)) l3, .inr ⟨rfl, .goto t, (hIx _).putObj _ i3 (by omega) l3 rfl, World.putObj_heap_same (Array.getElem?_eq_some_iff.1 l3).1, (World.putObj_heap_other (by omega)).trans d3⟩⟩
    | panic ch => exact hp.elim
    | outgrown => exact hp.elim
  · rintro e W2 ⟨⟨v, rfl⟩, (⟨xs, hS, hi, hl, hd⟩ | ⟨pre, hSp, c, hi, hl, hd⟩)⟩
    · exact ⟨none, _, run_endLoop (P := P) hl (by simp [R]), hdone _ xs _ (Nat.le_refl _) hS (hI.putObj _ hi (by omega) hl rfl) ((World.putObj_heap_other (by omega)).trans hd)⟩
    · exact ⟨some c, _, run_endLoop (P := P) hl (by simp [R]), hstop _ c pre _ (Nat.le_refl _) hSp ((hIx c).putObj _ hi (by omega) hl rfl) ((World.putObj_heap_other (by omega)).trans hd)⟩
end Go.Proofs.YtjhdeoniafahbaaGreatDoor
namespace Go.Proofs.YtjhdeoniafahbaaGreatDoor
def occIn (last : ByteArray) (i : Nat) : Nat → List ByteArray → List (Nat × Nat)
  | _, [] => []
  | k, s :: r => (if s = last then [(i, k)] else []) ++ occIn last i (k + 1) r
def occGo (first last : ByteArray) : Nat → List ByteArray → List (Nat × Nat)
  | _, [] => []
  | i, s :: r => (if s = first then (if last.size = 0 then [(i, i)] else occIn last i (i + 1) r) else []) ++ occGo first last (i + 1) r
/-- The occurrences of two words, or of one. -/
def occ (ws : List ByteArray) (first last : ByteArray) : List (Nat × Nat) := occGo first last 0 ws
theorem mem_occIn (last : ByteArray) (i : Nat) (p : Nat × Nat) : ∀ (l : List ByteArray) (k : Nat), p ∈ occIn last i k l ↔ p.1 = i ∧ k ≤ p.2 ∧ l[p.2 - k]? = some last
  | [], k => by simp [occIn]
  | s :: r, k => by
    rw [occIn, List.mem_append, mem_occIn last i p r (k + 1)]
    obtain ⟨a, b⟩ := p
    simp only
    by_cases hb : b = k
    · subst hb
      by_cases hs : s = last
      · simp [hs]; intro h; exact fun _ _ => h
      · simp [hs]; omega
    · have h1 : (a, b) ∉ (if s = last then [(i, k)] else []) := by split <;> simp [hb]
      constructor
      · rintro (h | ⟨h2, h3, h4⟩)
        · exact absurd h h1
        · refine ⟨h2, by omega, ?_⟩
          rw [show b - k = (b - (k + 1)) + 1 by omega, List.getElem?_cons_succ]; exact h4
      · rintro ⟨h2, h3, h4⟩
        refine .inr ⟨h2, by omega, ?_⟩
        rw [show b - k = (b - (k + 1)) + 1 by omega, List.getElem?_cons_succ] at h4; exact h4
theorem mem_occGo (first last : ByteArray) (p : Nat × Nat) : ∀ (l : List ByteArray) (i : Nat), p ∈ occGo first last i l ↔ i ≤ p.1 ∧ l[p.1 - i]? = some first ∧ (if last.size = 0 then p.2 = p.1 else p.1 < p.2 ∧ l[p.2 - i]? = some last)
  | [], i => by simp [occGo]
  | s :: r, i => by
    rw [occGo, List.mem_append, mem_occGo first last p r (i + 1)]
    obtain ⟨a, b⟩ := p
    simp only
    by_cases ha : a = i
    · subst ha
      by_cases hs : s = first
      · by_cases hl : last.size = 0
        · simp [hs, hl]; try omega
        · rw [if_pos hs, if_neg hl, mem_occIn, if_neg hl, if_neg hl]
          simp only [hs, Nat.sub_self, List.getElem?_cons_zero]
          constructor
          · rintro (⟨h1, h2, h3⟩ | ⟨h1, _⟩)
            · refine ⟨Nat.le_refl _, by first | rfl | trivial, by omega, ?_⟩
              rw [show b - a = (b - (a + 1)) + 1 by omega, List.getElem?_cons_succ]; exact h3
            · omega
          · rintro ⟨_, _, h2, h3⟩
            refine .inl ⟨trivial, by omega, ?_⟩
            rw [show b - a = (b - (a + 1)) + 1 by omega, List.getElem?_cons_succ] at h3; exact h3
      · simp [hs]; omega
    · have h1 : (a, b) ∉ (if s = first then (if last.size = 0 then [(i, i)] else occIn last i (i + 1) r) else []) := by
        split
        · split
          · simp [ha]
          · rw [mem_occIn]; simp [ha]
        · simp
      constructor
      · rintro (h | ⟨h2, h3, h4⟩)
        · exact absurd h h1
        · refine ⟨by omega, ?_, ?_⟩
          · rw [show a - i = (a - (i + 1)) + 1 by omega, List.getElem?_cons_succ]; exact h3
          · by_cases hl : last.size = 0
            · rw [if_pos hl] at h4 ⊢; exact h4
            · rw [if_neg hl] at h4 ⊢
              refine ⟨h4.1, ?_⟩
              rw [show b - i = (b - (i + 1)) + 1 by omega, List.getElem?_cons_succ]; exact h4.2
      · rintro ⟨h2, h3, h4⟩
        refine .inr ⟨by omega, ?_, ?_⟩
        · rw [show a - i = (a - (i + 1)) + 1 by omega, List.getElem?_cons_succ] at h3; exact h3
        · by_cases hl : last.size = 0
          · rw [if_pos hl] at h4 ⊢; exact h4
          · rw [if_neg hl] at h4 ⊢
            refine ⟨h4.1, ?_⟩
            have := h4.2
            rw [show b - i = (b - (i + 1)) + 1 by omega, List.getElem?_cons_succ] at this; exact this
theorem mem_occ {ws : List ByteArray} {first last : ByteArray} {p : Nat × Nat} : p ∈ occ ws first last ↔ ws[p.1]? = some first ∧ (if last.size = 0 then p.2 = p.1 else p.1 < p.2 ∧ ws[p.2]? = some last) := by
  unfold occ; rw [mem_occGo]; simp
/-- The order of the pairs. -/
def pLt (p q : Nat × Nat) : Prop := p.1 < q.1 ∨ (p.1 = q.1 ∧ p.2 < q.2)
theorem occIn_sorted (last : ByteArray) (i : Nat) : ∀ (l : List ByteArray) (k : Nat), (occIn last i k l).Pairwise pLt
  | [], k => by simp [occIn]
  | s :: r, k => by
    rw [occIn, List.pairwise_append]
    refine ⟨by split <;> simp, occIn_sorted last i r (k + 1), ?_⟩
    intro p hp q hq
    rw [mem_occIn] at hq
    split at hp
    · simp at hp; subst hp; exact .inr ⟨hq.1.symm, by omega⟩
    · simp at hp
theorem occGo_sorted (first last : ByteArray) : ∀ (l : List ByteArray) (i : Nat), (occGo first last i l).Pairwise pLt
  | [], i => by simp [occGo]
  | s :: r, i => by
    rw [occGo, List.pairwise_append]
    refine ⟨?_, occGo_sorted first last r (i + 1), ?_⟩
    · split
      · split
        · simp
        · exact occIn_sorted _ _ _ _
      · simp
    · intro p hp q hq
      rw [mem_occGo] at hq
      have : p.1 = i := by
        split at hp
        · split at hp
          · simp at hp; rw [hp]
          · rw [mem_occIn] at hp; exact hp.1
        · simp at hp
      exact .inl (by omega)
theorem occ_sorted (ws : List ByteArray) (first last : ByteArray) : (occ ws first last).Pairwise pLt := occGo_sorted _ _ _ _
theorem occIn_len (last : ByteArray) (i : Nat) : ∀ (l : List ByteArray) (k : Nat), (occIn last i k l).length ≤ l.length
  | [], k => by simp [occIn]
  | s :: r, k => by
    have := occIn_len last i r (k + 1)
    rw [occIn, List.length_append, List.length_cons]
    split <;> simp <;> omega
theorem occGo_len (first last : ByteArray) (n : Nat) : ∀ (l : List ByteArray) (i : Nat), l.length ≤ n → (occGo first last i l).length ≤ l.length * (n + 1)
  | [], i, _ => by simp [occGo]
  | s :: r, i, h => by
    have h1 := occGo_len first last n r (i + 1) (by simp at h; omega)
    have h2 := occIn_len last i r (i + 1)
    simp at h
    rw [occGo, List.length_append, List.length_cons, Nat.add_mul]
    split
    · split
      · simp; omega
      · omega
    · simp; omega
theorem occ_len {ws : List ByteArray} (h : ws.length ≤ 13) (first last : ByteArray) : (occ ws first last).length ≤ 182 := by
  have := occGo_len first last 13 ws 0 h
  have h2 : ws.length * 14 ≤ 13 * 14 := Nat.mul_le_mul_right _ h
  unfold occ; omega
/-- The place behind which the pair p stands in a list, from 1 on; 0 if it does not. -/
def numGo (p : Nat × Nat) : Nat → Nat → List (Nat × Nat) → Nat
  | n, _, [] => n
  | n, k, x :: r => numGo p (if x = p then k + 1 else n) (k + 1) r
def numP (p : Nat × Nat) (l : List (Nat × Nat)) : Nat := numGo p 0 0 l
theorem numGo_snoc (p x : Nat × Nat) : ∀ (l : List (Nat × Nat)) (n k : Nat), numGo p n k (l ++ [x]) = if x = p then k + l.length + 1 else numGo p n k l
  | [], n, k => by simp [numGo]
  | y :: r, n, k => by
    rw [List.cons_append, numGo, numGo_snoc p x r]
    split <;> simp [numGo] <;> omega
theorem numP_snoc (p x : Nat × Nat) (l : List (Nat × Nat)) : numP p (l ++ [x]) = if x = p then l.length + 1 else numP p l := by
  unfold numP; rw [numGo_snoc]; simp
theorem numGo_not (p : Nat × Nat) : ∀ (l : List (Nat × Nat)) (n k : Nat), p ∉ l → numGo p n k l = n
  | [], _, _, _ => rfl
  | y :: r, n, k, h => by
    rw [numGo, if_neg (fun e => h (by rw [e]; exact List.mem_cons_self)), numGo_not p r _ _ (fun hm => h (List.mem_cons_of_mem _ hm))]
theorem pLt_irrefl {p q : Nat × Nat} (h : pLt p q) : p ≠ q := by
  rintro rfl; rcases h with h | ⟨_, h⟩ <;> omega
theorem numGo_at (p : Nat × Nat) : ∀ (l : List (Nat × Nat)) (n k j : Nat), l.Pairwise pLt → l[j]? = some p → numGo p n k l = k + j + 1
  | [], _, _, _, _, h => by simp at h
  | y :: r, n, k, j, hs, h => by
    rw [List.pairwise_cons] at hs
    cases j with
    | zero =>
      simp at h; subst h
      rw [numGo, if_pos rfl, numGo_not _ _ _ _ (fun hm => pLt_irrefl (hs.1 _ hm) rfl)]
    | succ j =>
      rw [List.getElem?_cons_succ] at h
      rw [numGo, numGo_at p r _ _ j hs.2 h]; omega
theorem numP_at {p : Nat × Nat} {l : List (Nat × Nat)} (hs : l.Pairwise pLt) {j : Nat} (h : l[j]? = some p) : numP p l = j + 1 := by
  unfold numP; rw [numGo_at p l 0 0 j hs h, Nat.zero_add]
theorem numP_not {p : Nat × Nat} {l : List (Nat × Nat)} (h : p ∉ l) : numP p l = 0 := numGo_not _ _ _ _ h
theorem numP_pos {p : Nat × Nat} {l : List (Nat × Nat)} (h : 0 < numP p l) : p ∈ l := by
  refine Classical.byContradiction fun hn => ?_
  rw [numP_not hn] at h; omega
/-- A part of the list in which p has come tells its number. -/
theorem numP_part {p : Nat × Nat} {q r : List (Nat × Nat)} (hs : (q ++ r).Pairwise pLt) (h : 0 < numP p q) : numP p q = numP p (q ++ r) := by
  obtain ⟨j, hj⟩ := List.getElem?_of_mem (numP_pos h)
  rw [numP_at (List.pairwise_append.1 hs).1 hj]
  have hlt := (List.getElem?_eq_some_iff.1 hj).1
  exact (numP_at hs (by rw [List.getElem?_append_left hlt]; exact hj)).symm
theorem numP_le {p : Nat × Nat} {l : List (Nat × Nat)} (hs : l.Pairwise pLt) : numP p l ≤ l.length := by
  by_cases h : p ∈ l
  · obtain ⟨j, hj⟩ := List.getElem?_of_mem h
    have hlt := (List.getElem?_eq_some_iff.1 hj).1
    rw [numP_at hs hj]; omega
  · rw [numP_not h]; omega
/-- The number of a lemma. -/
def ofNum (l : List (Nat × Nat)) (p : Nat × Nat) : Nat := if l.length = 1 then 0 else numP p l
/-- The first and the last word of a part. -/
def lastW (ws : List ByteArray) (a b : Nat) : ByteArray := if b - a = 1 then ⟨#[]⟩ else ws.getD (b - 1) ⟨#[]⟩
theorem part_mem {ws : List ByteArray} (hv : ∀ s ∈ ws, s.size ≠ 0) {a b : Nat} (h1 : a < b) (h2 : b ≤ ws.length) : (a, b - 1) ∈ occ ws (ws.getD a ⟨#[]⟩) (lastW ws a b) := by
  rw [mem_occ]
  have e1 : ws[a]? = some (ws.getD a ⟨#[]⟩) := by rw [List.getD_eq_getElem?_getD, List.getElem?_eq_getElem (by omega)]; rfl
  refine ⟨e1, ?_⟩
  unfold lastW
  by_cases h : b - a = 1
  · rw [if_pos h, if_pos (by rfl)]; show b - 1 = a; omega
  · rw [if_neg h]
    have e2 : ws[b - 1]? = some (ws.getD (b - 1) ⟨#[]⟩) := by rw [List.getD_eq_getElem?_getD, List.getElem?_eq_getElem (by omega)]; rfl
    rw [if_neg (hv _ (List.mem_of_getElem? e2))]
    exact ⟨by show a < b - 1; omega, e2⟩
end Go.Proofs.YtjhdeoniafahbaaGreatDoor
namespace Go.Proofs.YtjhdeoniafahbaaGreatDoor
def cutL (c : UInt8) : List UInt8 → List (List UInt8)
  | [] => [[]]
  | b :: l => if b = c then [] :: cutL c l else match cutL c l with
    | [] => [[b]]
    | h :: t => (b :: h) :: t
theorem cutL_ne (c : UInt8) : ∀ l, cutL c l ≠ []
  | [] => by simp [cutL]
  | b :: l => by
    unfold cutL
    split
    · simp
    · split <;> simp
theorem cutL_none {c : UInt8} : ∀ {l : List UInt8}, c ∉ l → cutL c l = [l]
  | [], _ => rfl
  | b :: l, h => by
    have h1 : b ≠ c := fun e => h (by simp [e])
    have h2 := cutL_none (l := l) (c := c) fun e => h (by simp [e])
    rw [cutL, if_neg h1, h2]
theorem cutL_app {c : UInt8} (r : List UInt8) : ∀ {a : List UInt8}, c ∉ a → cutL c (a ++ c :: r) = a :: cutL c r
  | [], _ => by simp [cutL]
  | b :: a, h => by
    have h1 : b ≠ c := fun e => h (by simp [e])
    have h2 := cutL_app r (a := a) (c := c) fun e => h (by simp [e])
    rw [List.cons_append, cutL, if_neg h1, h2]
theorem cutL_no (c : UInt8) : ∀ (l : List UInt8), ∀ x ∈ cutL c l, c ∉ x
  | [], x, h => by simp [cutL] at h; simp [h]
  | b :: l, x, h => by
    have ih := cutL_no c l
    unfold cutL at h
    split at h
    · rcases List.mem_cons.1 h with rfl | h
      · simp
      · exact ih x h
    · rename_i hb
      split at h
      · rcases List.mem_cons.1 h with rfl | h
        · simpa using fun e : c = b => hb e.symm
        · cases h
      · rename_i y t e
        rcases List.mem_cons.1 h with rfl | h
        · have := ih y (by rw [e]; simp)
          simp only [List.mem_cons, not_or]
          exact ⟨fun e => hb e.symm, this⟩
        · exact ih x (by rw [e]; simp [h])
theorem cutL_len (c : UInt8) : ∀ l : List UInt8, (cutL c l).length ≤ l.length + 1
  | [] => by simp [cutL]
  | b :: l => by
    have ih := cutL_len c l
    unfold cutL
    split
    · simpa using ih
    · split
      · simp
      · rename_i e; rw [e] at ih; simp at ih ⊢; omega
theorem cutL_size (c : UInt8) : ∀ l : List UInt8, ∀ x ∈ cutL c l, x.length ≤ l.length
  | [], x, h => by simp [cutL] at h; simp [h]
  | b :: l, x, h => by
    have ih := cutL_size c l
    unfold cutL at h
    split at h
    · rcases List.mem_cons.1 h with rfl | h
      · simp
      · have := ih x h; simp; omega
    · split at h
      · rcases List.mem_cons.1 h with rfl | h
        · simp
        · cases h
      · rename_i y t e
        rcases List.mem_cons.1 h with rfl | h
        · have := ih y (by rw [e]; simp)
          simpa using this
        · have := ih x (by rw [e]; simp [h]); simp; omega
theorem join_cut (c : UInt8) : ∀ l : List UInt8, Lib.join (cutL c l) [c] = l
  | [] => by simp [cutL, Lib.join_one]
  | b :: l => by
    have ih := join_cut c l
    unfold cutL
    split
    · rename_i e
      cases h : cutL c l with
      | nil => exact absurd h (cutL_ne c l)
      | cons y t =>
        rw [h, Lib.join_cons] at ih
        rw [Lib.join_cons, Lib.joinTail, List.map_cons, List.flatten_cons]
        rw [Lib.joinTail] at ih
        subst e
        rw [List.nil_append, List.append_assoc, ih]; rfl
    · cases h : cutL c l with
      | nil => exact absurd h (cutL_ne c l)
      | cons y t =>
        rw [h, Lib.join_cons] at ih
        simp [Lib.join_cons, ih]
theorem index_miss {c : UInt8} : ∀ {l : List UInt8}, Lib.index l [c] = -1 → c ∉ l
  | [], _ => by simp
  | b :: l, h => by
    unfold Lib.index at h
    split at h
    · cases h
    · rename_i hp
      have h1 : c ≠ b := fun e => hp (by simp [e])
      split at h
      · rename_i h2
        have := index_miss (by simpa using h2)
        simp [h1, this]
      · have := Lib.index_ge l [c]; omega
theorem index_at {c : UInt8} : ∀ {l : List UInt8} {i : Nat}, Lib.index l [c] = i → ∃ a r, l = a ++ c :: r ∧ a.length = i ∧ c ∉ a
  | [], i, h => by simp [Lib.index] at h
  | b :: l, i, h => by
    unfold Lib.index at h
    split at h
    · rename_i hp
      have : c = b := by simpa using hp
      exact ⟨[], l, by simp [this], by simp; omega, by simp⟩
    · rename_i hp
      have h1 : c ≠ b := fun e => hp (by simp [e])
      split at h
      · omega
      · rename_i h2
        have hge := Lib.index_ge l [c]
        have h3 : Lib.index l [c] ≠ -1 := fun e => h2 (by simp [e])
        obtain ⟨a, r, e, hl, hn⟩ := index_at (l := l) (i := i - 1) (c := c) (by omega)
        exact ⟨b :: a, r, by simp [e], by simp; omega, by simp [h1, hn]⟩
theorem split_cut (c : UInt8) : ∀ (n : Nat) (l : List UInt8), l.length ≤ n → Lib.splitK [c] 0 (Lib.count l [c]) l = cutL c l := by
  intro n
  induction n with
  | zero =>
    intro l h
    obtain rfl : l = [] := List.length_eq_zero_iff.1 (by omega)
    rw [Lib.count_miss (by rfl)]; rfl
  | succ n ih =>
    intro l h
    by_cases hm : Lib.index l [c] = -1
    · rw [Lib.count_miss hm, cutL_none (index_miss hm)]; rfl
    · have hge := Lib.index_ge l [c]
      have hi : Lib.index l [c] = ((Lib.index l [c]).toNat : Int) := by omega
      generalize (Lib.index l [c]).toNat = i at hi
      obtain ⟨a, r, rfl, hl, hn⟩ := index_at hi
      have h2 := ih r (by simp at h; omega)
      rw [Lib.count_hit (by simp) hi, cutL_app r hn, ← h2]
      have hd : (a ++ c :: r).drop (i + [c].length) = r := by
        rw [List.drop_append, List.drop_of_length_le (by simp; omega)]
        simp [show i + 1 - a.length = 1 by omega]
      have ht : (a ++ c :: r).take i = a := by rw [← hl]; simp
      rw [hd, show 1 + Lib.count r [c] = Lib.count r [c] + 1 by omega, Lib.splitK, if_neg (by rw [beq_iff_eq]; exact hm), hi]
      simp only [Int.toNat_natCast, Nat.add_zero]
      rw [ht, hd]
/-- The pieces of a string between spaces. -/
def splitS (s : ByteArray) : List ByteArray := Lib.splitB ⟨#[32]⟩ 0 (Lib.countB s ⟨#[32]⟩) s
theorem splitS_data (s : ByteArray) : (splitS s).map (·.data.toList) = cutL 32 s.data.toList := by
  unfold splitS
  rw [Lib.splitB_data]
  exact split_cut 32 _ _ (Nat.le_refl _)
theorem splitS_len (s : ByteArray) : (splitS s).length ≤ s.size + 1 := by
  have h := congrArg List.length (splitS_data s)
  rw [List.length_map] at h
  rw [h]
  exact cutL_len 32 _
theorem splitS_size (s : ByteArray) : ∀ x ∈ splitS s, x.size ≤ s.size := by
  intro x hx
  exact cutL_size 32 s.data.toList x.data.toList (by rw [← splitS_data]; exact List.mem_map_of_mem hx)
theorem splitS_count (s : ByteArray) : (splitS s).length = Lib.countB s ⟨#[32]⟩ + 1 := Lib.splitB_all ⟨#[32]⟩ (by decide) 0 _ s rfl
def joinB (l : List ByteArray) : ByteArray := ⟨(Lib.join (l.map (·.data.toList)) [32]).toArray⟩
theorem splitS_join (s : ByteArray) : Lib.join ((splitS s).map (·.data.toList)) [32] = s.data.toList := by rw [splitS_data]; exact join_cut 32 _
theorem joinB_split (s : ByteArray) : joinB (splitS s) = s := by
  unfold joinB
  rw [splitS_join]
theorem mt_ne {s : ByteArray} (h : ¬ s.size = 0) : s.toList.isEmpty = false := by
  rw [List.isEmpty_eq_false_iff]
  intro e; apply h
  rw [ByteArray.toList_eq] at e
  show s.data.size = 0
  rw [← Array.length_toList, e]; rfl
theorem ba_ext {a b : ByteArray} (h : a.data.toList = b.data.toList) : a = b := by
  cases a; cases b; simp only [ByteArray.mk.injEq]; exact Array.toList_inj.1 h
theorem map_data_inj {l m : List ByteArray} (h : l.map (·.data.toList) = m.map (·.data.toList)) : l = m := (List.map_inj_right fun _ _ e => ba_ext e).1 h
/-- What a loop that joins has written before step k. -/
def joinTo (l : List ByteArray) (k : Nat) : ByteArray := joinB (l.take k)
theorem joinTo_one (l : List ByteArray) (x : ByteArray) (h : l[0]? = some x) : joinTo l 1 = x := by
  unfold joinTo joinB
  rw [List.take_add_one, h]
  simp [Lib.join_one]
theorem joinTo_succ (l : List ByteArray) (k : Nat) (x : ByteArray) (h : l[k + 1]? = some x) : joinTo l (k + 2) = (joinTo l (k + 1) ++ ⟨#[32]⟩) ++ x := by
  apply ba_ext
  cases l with
  | nil => cases h
  | cons y r =>
    unfold joinTo joinB
    rw [ByteArray.data_append, ByteArray.data_append, Array.toList_append, Array.toList_append]
    simp only [List.take_succ_cons, List.map_cons, Lib.join_cons]
    rw [List.getElem?_cons_succ] at h
    rw [List.map_take, List.map_take, Lib.joinTail_take_succ [32] (r.map (·.data.toList)) k x.data.toList (by simp [h])]
    simp [List.append_assoc]
theorem take_drop_piece (s : ByteArray) (f i : Nat) : (s.extract f i).data.toList = (s.data.toList.drop f).take (i - f) := by
  rw [ByteArray.data_extract, Array.toList_extract, List.extract_eq_take_drop]
theorem getL (s : ByteArray) (k : Nat) (h : k < s.size) : s.data.toList[k]? = some s[k] := by
  rw [List.getElem?_eq_getElem (show k < s.data.toList.length from h)]; rfl
theorem byte_ne {c : UInt8} (h : ¬ c = 32) : ((c.toNat : Int) == 32) = false := by
  rw [beq_eq_false_iff_ne]
  intro e; apply h; apply UInt8.toNat_inj.1
  have : c.toNat = 32 := by omega
  rw [this]; rfl
end Go.Proofs.YtjhdeoniafahbaaGreatDoor
namespace Go.Proofs.YtjhdeoniafahbaaGreatDoor
open Go.RowKit
def rgo : Int → Bool → List UInt8 → List Bool
  | _, _, [] => []
  | pk, pf, c :: r => (decide (kindI c.toNat = 2) && (decide (pk = 1) || pf)) :: rgo (kindI c.toNat) (decide (kindI c.toNat = 2) && (decide (pk = 1) || pf)) r
def rightL (l : List UInt8) : List Bool := rgo 0 false l
theorem rgo_len (l : List UInt8) : ∀ pk pf, (rgo pk pf l).length = l.length := by
  induction l with
  | nil => intro _ _; rfl
  | cons a l ih => intro _ _; simp [rgo, ih]
theorem rightL_len (l : List UInt8) : (rightL l).length = l.length := rgo_len l _ _
theorem rgo_succ (l : List UInt8) : ∀ (pk : Int) (pf : Bool) (k : Nat) (c d : UInt8) (f : Bool), l[k]? = some d → (rgo pk pf l)[k]? = some f → l[k + 1]? = some c →
    (rgo pk pf l)[k + 1]? = some (decide (kindI c.toNat = 2) && (decide (kindI d.toNat = 1) || f)) := by
  induction l with
  | nil => intro _ _ k _ _ _ h; simp at h
  | cons a l ih =>
    intro pk pf k c d f hd hf hc
    cases k with
    | zero =>
      simp only [List.getElem?_cons_zero, Option.some.injEq, rgo] at hd hf
      subst hd
      cases l with
      | nil => simp at hc
      | cons b l =>
        simp only [List.getElem?_cons_succ, List.getElem?_cons_zero, Option.some.injEq] at hc
        subst hc
        simp only [rgo, List.getElem?_cons_succ, List.getElem?_cons_zero, hf]
    | succ k =>
      simp only [List.getElem?_cons_succ, rgo] at hd hf hc ⊢
      exact ih _ _ k c d f hd hf hc
theorem rightL_zero (l : List UInt8) (c : UInt8) (h : l[0]? = some c) : (rightL l)[0]? = some false := by
  cases l with
  | nil => simp at h
  | cons a l => simp [rightL, rgo]
theorem rightL_succ (l : List UInt8) (k : Nat) (c d : UInt8) (f : Bool) (hd : l[k]? = some d) (hf : (rightL l)[k]? = some f) (hc : l[k + 1]? = some c) :
    (rightL l)[k + 1]? = some (decide (kindI c.toNat = 2) && (decide (kindI d.toNat = 1) || f)) := rgo_succ l _ _ k c d f hd hf hc
theorem infoBool : (Tryz.prog.info? 4).map (fun i => (i.zero, i.size, i.bytes)) = some (some (.bool false), 1, 1) := by kernel_rfl
theorem byte_at (s : ByteArray) (k : Nat) (h : k < s.size) : s.data.toList[k]? = some s[k] := by
  rw [List.getElem?_eq_getElem (by simpa using h)]; rfl
theorem byte_bd (c : UInt8) : 0 ≤ (c.toNat : Int) ∧ (c.toNat : Int) ≤ 255 := ⟨by omega, by have := UInt8.toNat_lt c; omega⟩
set_option maxHeartbeats 1000000 in
set_option maxRecDepth 100000 in
theorem right_any (s : ByteArray) (w : World) (hs : s.size ≤ 1048576) :
    Calls Tryz.prog 169 #[.string s] w fun e w' => ∃ v, e = .returned v ∧ Rd Value.bool w' v (rightL s.data.toList) ∧ Below w.heap.size w w' := by
  have hrl : (rightL s.data.toList).length = s.size := by rw [rightL_len]; simp
  go_enter Tryz.func169, Tryz.ntmps169
  go_wp2
  go_loopw [3, 4] (fun v i wr => ∃ (k : Nat) (xs : List Bool), k ≤ s.size ∧ i = .int .i64 k ∧ Hid (xs = (rightL s.data.toList).take k) ∧ xs.length ≤ k ∧ wr.ownsRow w.heap.size 4 1 v xs.length (xs.map Value.bool) ∧ Below w.heap.size w wr) (fun _ i _ => s.size - (intOf i).toNat)
  case atStart => exact ⟨0, [], by omega, rfl, by simp [Hid], by simp, World.ownsRow_made w #[] 0 (Nat.le_refl _) (by unfold maxLen; omega) rfl, below_al w _⟩
  case round =>
    rename_i wr
    obtain ⟨k, xs, hk, rfl, HX, hl, hown, hB⟩ := hrel
    by_cases hlt : k < s.size
    · have hbd := byte_bd s[k]
      have hck := byte_at s k hlt
      cases k with
      | zero =>
        have H0 := hid (rightL_zero _ _ hck)
        have HS : Hid ((rightL s.data.toList).take (0 + 1) = xs ++ [false]) := by rw [List.take_add_one, H0.out, HX.out]; simp [Hid]
        clear hck
        by_cases h2 : kindI s[0].toNat = 2
        · have b2 := beq_iff_eq.2 h2
          clear h2
          go_wp2_with (first | (go_at_call 150; refine (rkind_any _ (by omega) (by omega) _).mono ?_; rintro e w' ⟨rfl, rfl⟩) | (at_builtin; refine wpList_ap rfl _ _ 180 rfl w.heap.size 4 Tryz.underlying180 infoBool rfl (by decide) (by decide) _ _ _ rfl hown [.bool false] rfl (by simp [Value.oneCell']) rfl (by simp) (by omega) hB.size ?_; intro v' w1 hown' hb1 _))
          go_roundw
          case rel => exact ⟨1, xs ++ [false], by omega, by go_num, HS.out.symm, by rw [List.length_append, List.length_singleton]; omega, by simpa using hown', hB.trans hb1⟩
          case measure => simp [intOf]; omega
        · have b2 := beq_eq_false_iff_ne.2 h2
          clear h2
          go_wp2_with (first | (go_at_call 150; refine (rkind_any _ (by omega) (by omega) _).mono ?_; rintro e w' ⟨rfl, rfl⟩) | (at_builtin; refine wpList_ap rfl _ _ 180 rfl w.heap.size 4 Tryz.underlying180 infoBool rfl (by decide) (by decide) _ _ _ rfl hown [.bool false] rfl (by simp [Value.oneCell']) rfl (by simp) (by omega) hB.size ?_; intro v' w1 hown' hb1 _))
          go_roundw
          case rel => exact ⟨1, xs ++ [false], by omega, by go_num, HS.out.symm, by rw [List.length_append, List.length_singleton]; omega, by simpa using hown', hB.trans hb1⟩
          case measure => simp [intOf]; omega
      | succ m =>
        have hm : m < s.size := by omega
        have hbd' := byte_bd s[m]
        have hcm := byte_at s m hm
        obtain ⟨f, hf⟩ : ∃ f, (rightL s.data.toList)[m]? = some f := ⟨_, List.getElem?_eq_getElem (by omega)⟩
        have H0 := hid (rightL_succ _ m _ _ f hcm hf hck)
        have HS : Hid ((rightL s.data.toList).take (m + 1 + 1) = xs ++ [decide (kindI s[m + 1].toNat = 2) && (decide (kindI s[m].toNat = 1) || f)]) := by rw [List.take_add_one, H0.out, HX.out]; rfl
        have hxm : xs[m]? = some f := by rw [HX.out, List.getElem?_take, if_pos (by omega)]; exact hf
        have hxl : xs.length = m + 1 := by have := (List.getElem?_eq_some_iff.1 hxm).1; omega
        obtain ⟨a, cap, rfl, hlc, hcm2, hcell⟩ := (Rd.of_own hown).open
        obtain ⟨f', b, off, hx', rfl, hc⟩ := hcell m (by omega)
        obtain rfl : f' = f := Option.some.inj (hx'.symm.trans hxm)
        have hmx : m < xs.length := by omega
        have HXL := hid hxl
        clear hck hcm hf hxm hx' hcell hxl H0
        have hk1 : (0 : Int) < (m : Int) + 1 := by omega
        by_cases h2 : kindI s[m + 1].toNat = 2
        · have b2 := beq_iff_eq.2 h2
          by_cases h1 : kindI s[m].toNat = 1
          · have b1 := beq_iff_eq.2 h1
            have HS2 : Hid ((rightL s.data.toList).take (m + 1 + 1) = xs ++ [true]) := by rw [HS.out]; simp [h1, h2, Hid]
            clear h1 h2 HS
            go_wp2_with (first | (go_at_call 150; refine (rkind_any _ (by omega) (by omega) _).mono ?_; rintro e w' ⟨rfl, rfl⟩) | (at_builtin; refine wpList_ap rfl _ _ 180 rfl w.heap.size 4 Tryz.underlying180 infoBool rfl (by decide) (by decide) _ _ _ rfl hown [.bool true] rfl (by simp [Value.oneCell']) rfl (by simp) (by omega) hB.size ?_; intro v' w1 hown' hb1 _))
            go_roundw
            case rel => exact ⟨m + 1 + 1, xs ++ [true], by omega, by go_num, HS2.out.symm, by simp; omega, by simpa using hown', hB.trans hb1⟩
            case measure => simp [intOf]; omega
          · have b1 := beq_eq_false_iff_ne.2 h1
            have HS2 : Hid ((rightL s.data.toList).take (m + 1 + 1) = xs ++ [f']) := by rw [HS.out]; simp [h1, h2, Hid]
            clear h1 h2 HS
            go_wp2_with (first | (go_at_call 150; refine (rkind_any _ (by omega) (by omega) _).mono ?_; rintro e w' ⟨rfl, rfl⟩) | (at_builtin; refine wpList_ap rfl _ _ 180 rfl w.heap.size 4 Tryz.underlying180 infoBool rfl (by decide) (by decide) _ _ _ rfl hown [.bool f'] rfl (by simp [Value.oneCell']) rfl (by simp) (by omega) hB.size ?_; intro v' w1 hown' hb1 _))
            go_roundw
            case rel => exact ⟨m + 1 + 1, xs ++ [f'], by omega, by go_num, HS2.out.symm, by simp; omega, by simpa using hown', hB.trans hb1⟩
            case measure => simp [intOf]; omega
        · have b2 := beq_eq_false_iff_ne.2 h2
          have HS2 : Hid ((rightL s.data.toList).take (m + 1 + 1) = xs ++ [false]) := by rw [HS.out]; simp [h2, Hid]
          clear h2 HS
          go_wp2_with (first | (go_at_call 150; refine (rkind_any _ (by omega) (by omega) _).mono ?_; rintro e w' ⟨rfl, rfl⟩) | (at_builtin; refine wpList_ap rfl _ _ 180 rfl w.heap.size 4 Tryz.underlying180 infoBool rfl (by decide) (by decide) _ _ _ rfl hown [.bool false] rfl (by simp [Value.oneCell']) rfl (by simp) (by omega) hB.size ?_; intro v' w1 hown' hb1 _))
          go_roundw
          case rel => exact ⟨m + 1 + 1, xs ++ [false], by omega, by go_num, HS2.out.symm, by simp; omega, by simpa using hown', hB.trans hb1⟩
          case measure => simp [intOf]; omega
    · go_wp2
      go_ret
      exact ⟨_, rfl, by rw [show rightL s.data.toList = xs by rw [HX.out, List.take_of_length_le (by omega)]]; exact Rd.of_own hown, hB⟩
/-- Whether the character at a place is accepted. -/
def badAt (l : List UInt8) (k : Nat) : Bool := match l[k]?, (rightL l)[k]? with | some c, some f => decide (kindI c.toNat = 0) || (decide (kindI c.toNat = 2) && !f) | _, _ => false
def rcheckI (l : List UInt8) : Int := if 65536 < l.length then 4 else if (∃ k, k < l.length ∧ badAt l k = true) then 11 else 0
instance (l : List UInt8) : Decidable (∃ k, k < l.length ∧ badAt l k = true) := inferInstance
set_option maxHeartbeats 1000000 in
set_option maxRecDepth 100000 in
theorem rcheck_any (s : ByteArray) (w : World) (hs : s.size ≤ maxLen) :
    Calls Tryz.prog 149 #[.string s] w fun e w' => e = .returned (.int .i64 (rcheckI s.data.toList)) ∧ Below w.heap.size w w' := by
  unfold maxLen at hs
  have HI : Hid (rcheckI s.data.toList = if 65536 < s.size then 4 else if (∃ k, k < s.size ∧ badAt s.data.toList k = true) then 11 else 0) := by unfold rcheckI; simp [Hid]
  by_cases h6 : 65536 < s.size
  · go_enter Tryz.func149, Tryz.ntmps149
    go_wp2
    go_ret
    exact ⟨ret_int (by rw [HI.out, if_pos h6]), Below.refl _ _⟩
  have HI2 : Hid (rcheckI s.data.toList = if (∃ k, k < s.size ∧ badAt s.data.toList k = true) then 11 else 0) := by rw [HI.out, if_neg h6]; rfl
  clear HI
  have hR := hid (right_any s w (by omega))
  have hrl : (rightL s.data.toList).length = s.size := by rw [rightL_len]; simp
  have HRL := hid hrl; clear hrl
  go_enter Tryz.func149, Tryz.ntmps149
  go_wp2_with (go_at_call 169; refine hR.out.mono ?_; rintro e w1 ⟨rv, rfl, hrd, hB1⟩; obtain ⟨a, cap, rfl, hlc, hcm2, hcell⟩ := hrd.open; have HCell := hid hcell; clear hcell)
  have hB1 : Below w.heap.size w w1 := by assumption
  go_loop [4] (fun i => ∃ k : Nat, k ≤ s.size ∧ i = .int .i64 k ∧ Hid (∀ j, j < k → badAt s.data.toList j = false)) (fun i => s.size - (intOf i).toNat)
  case atStart => exact ⟨0, by omega, rfl, fun j hj => by omega⟩
  case round =>
    obtain ⟨k, hk, rfl, HK⟩ := hrel
    by_cases hlt : k < s.size
    · have hbd := byte_bd s[k]
      have hck := byte_at s k hlt
      obtain ⟨f, b, off, hf, rfl, hc⟩ := HCell.out k (by rw [HRL.out]; omega)
      have hrl : k < (rightL s.data.toList).length := by rw [HRL.out]; omega
      have HBd : Hid (badAt s.data.toList k = (decide (kindI s[k].toNat = 0) || (decide (kindI s[k].toNat = 2) && !f))) := by unfold badAt; rw [hck, hf]; rfl
      clear hck hf
      by_cases h0 : kindI s[k].toNat = 0
      · have b0 := beq_iff_eq.2 h0
        have HB2 : Hid (badAt s.data.toList k = true) := by rw [HBd.out]; simp [h0, Hid]
        clear h0
        go_wp2_with (go_at_call 150; refine (rkind_any _ (by omega) (by omega) _).mono ?_; rintro e w' ⟨rfl, rfl⟩)
        go_ret
        exact ⟨ret_int (by rw [HI2.out, if_pos ⟨k, hlt, HB2.out⟩]), hB1⟩
      · have b0 := beq_eq_false_iff_ne.2 h0
        by_cases h2 : kindI s[k].toNat = 2
        · have b2 := beq_iff_eq.2 h2
          cases f with
          | false =>
            have HB2 : Hid (badAt s.data.toList k = true) := by rw [HBd.out]; simp [h2, Hid]
            clear h0 h2
            go_wp2_with (go_at_call 150; refine (rkind_any _ (by omega) (by omega) _).mono ?_; rintro e w' ⟨rfl, rfl⟩)
            go_ret
            exact ⟨ret_int (by rw [HI2.out, if_pos ⟨k, hlt, HB2.out⟩]), hB1⟩
          | true =>
            have HB2 : Hid (badAt s.data.toList k = false) := by rw [HBd.out]; simp [h0, Hid]
            clear h0 h2
            go_wp2_with (go_at_call 150; refine (rkind_any _ (by omega) (by omega) _).mono ?_; rintro e w' ⟨rfl, rfl⟩)
            go_round
            case rel => exact ⟨k + 1, by omega, by go_num, fun j hj => by rcases Nat.lt_or_eq_of_le (Nat.le_of_lt_succ hj) with h | rfl; exact HK.out j h; exact HB2.out⟩
            case measure => simp [intOf]; omega
        · have b2 := beq_eq_false_iff_ne.2 h2
          have HB2 : Hid (badAt s.data.toList k = false) := by rw [HBd.out]; simp [h0, h2, Hid]
          clear h0 h2
          go_wp2_with (go_at_call 150; refine (rkind_any _ (by omega) (by omega) _).mono ?_; rintro e w' ⟨rfl, rfl⟩)
          go_round
          case rel => exact ⟨k + 1, by omega, by go_num, fun j hj => by rcases Nat.lt_or_eq_of_le (Nat.le_of_lt_succ hj) with h | rfl; exact HK.out j h; exact HB2.out⟩
          case measure => simp [intOf]; omega
    · go_wp2
      go_ret
      refine ⟨ret_int ?_, hB1⟩
      rw [HI2.out, if_neg]
      rintro ⟨j, hj, hb⟩
      rw [HK.out j (by omega)] at hb; cases hb
def highAt (l : List UInt8) : Bool := l.any fun c => decide (4 < kindI c.toNat)
def rwordB (l : List UInt8) : Bool := decide (1 ≤ l.length) && decide (l.length ≤ 64) && decide (rcheckI l = 0) && (match l with | [] => false | c :: _ => isLet c) && !highAt l
set_option maxHeartbeats 1000000 in
theorem rword_any (s : ByteArray) (w : World) (hs : s.size ≤ maxLen) :
    Calls Tryz.prog 131 #[.string s] w fun e w' => e = .returned (.bool (rwordB s.data.toList)) ∧ Below w.heap.size w w' := by
  have hC := hid (rcheck_any s w hs)
  have HI : Hid (rwordB s.data.toList = (decide (1 ≤ s.size) && decide (s.size ≤ 64) && decide (rcheckI s.data.toList = 0) && (match s.data.toList with | [] => false | c :: _ => isLet c) && !highAt s.data.toList)) := by unfold rwordB; simp [Hid]
  generalize rcheckI s.data.toList = ck at *
  unfold maxLen at hs
  by_cases hl1 : 1 ≤ s.size
  · by_cases hl2 : s.size ≤ 64
    · have hgt : ¬ (64 < (s.size : Int)) := by omega
      have hge : ¬ ((s.size : Int) < 1) := by omega
      by_cases hck : ck = 0
      · have bk := (bne_eq_false_iff_eq (a := ck) (b := 0)).2 hck
        have hhd : Hid ((match s.data.toList with | [] => false | c :: _ => isLet c) = isLet s[0]) := by
          have := byte_at s 0 (by omega)
          cases h : s.data.toList with
          | nil => rw [h] at this; simp at this
          | cons a l => rw [h] at this; simp at this; rw [this]; rfl
        have HI2 : Hid (rwordB s.data.toList = (isLet s[0] && !highAt s.data.toList)) := by rw [HI.out, hhd.out]; simp [hl1, hl2, hck, Hid]
        clear HI hhd hck
        have hbd := byte_bd s[0]
        have HL : Hid (isLet s[0] = (kindI s[0].toNat == 1 || kindI s[0].toNat == 3)) := rfl
        by_cases hk : isLet s[0] = true
        · rw [hk] at HI2
          have HI3 : Hid (rwordB s.data.toList = !highAt s.data.toList) := by rw [HI2.out]; simp [Hid]
          have hcase : (kindI s[0].toNat == 1) = true ∨ ((kindI s[0].toNat == 1) = false ∧ (kindI s[0].toNat == 3) = true) := by
            rw [HL.out] at hk
            cases h : (kindI s[0].toNat == 1) <;> simp_all
          clear hk HI2
          have hcase2 : ((kindI s[0].toNat != 1) = false) ∨ ((kindI s[0].toNat != 1) = true ∧ (kindI s[0].toNat != 3) = false) := by
            rcases hcase with h | ⟨h, h'⟩
            · left; simp [bne, h]
            · right; simp [bne, h, h']
          clear hcase
          rcases hcase2 with hb | ⟨hb, hb'⟩
          all_goals
            go_enter Tryz.func131, Tryz.ntmps131
            go_wp2_with (first | (go_at_call 149; refine hC.out.mono ?_; rintro e w1 ⟨rfl, hB1⟩) | (go_at_call 150; refine (rkind_any _ (by omega) (by omega) _).mono ?_; rintro e w' ⟨rfl, rfl⟩))
            have hB1 : Below w.heap.size w w1 := by assumption
            go_loop [4] (fun i => ∃ k : Nat, k ≤ s.size ∧ i = .int .i64 k ∧ Hid (∀ c ∈ s.data.toList.take k, decide (4 < kindI c.toNat) = false)) (fun i => s.size - (intOf i).toNat)
            case atStart => exact ⟨0, by omega, rfl, by simp [Hid]⟩
            case round =>
              obtain ⟨k, hk, rfl, HK⟩ := hrel
              by_cases hlt : k < s.size
              · have hbd2 := byte_bd s[k]
                have hck := byte_at s k hlt
                have HCK := hid hck; clear hck
                by_cases h4 : 4 < kindI s[k].toNat
                · go_wp2_with (first | (go_at_call 149; refine hC.out.mono ?_; rintro e w1 ⟨rfl, hB1⟩) | (go_at_call 150; refine (rkind_any _ (by omega) (by omega) _).mono ?_; rintro e w' ⟨rfl, rfl⟩))
                  go_ret
                  refine ⟨ret_bool ?_, hB1⟩
                  rw [HI3.out]
                  have : highAt s.data.toList = true := List.any_eq_true.2 ⟨s[k], List.mem_of_getElem? HCK.out, by simpa using h4⟩
                  rw [this]; rfl
                · go_wp2_with (first | (go_at_call 149; refine hC.out.mono ?_; rintro e w1 ⟨rfl, hB1⟩) | (go_at_call 150; refine (rkind_any _ (by omega) (by omega) _).mono ?_; rintro e w' ⟨rfl, rfl⟩))
                  go_round
                  case rel => exact ⟨k + 1, by omega, by go_num, take_none HK.out HCK.out (decide_eq_false (by omega))⟩
                  case measure => simp [intOf]; omega
              · go_wp2
                go_ret
                refine ⟨ret_bool ?_, hB1⟩
                rw [HI3.out]
                have h := HK.out
                rw [List.take_of_length_le (by simp; omega)] at h
                have : highAt s.data.toList = false := List.any_eq_false.2 (fun c hc => by have := h c hc; simpa using this)
                rw [this]; rfl
        · have hk' : isLet s[0] = false := by simpa using hk
          rw [hk'] at HI2
          have HI3 : Hid (rwordB s.data.toList = false) := by rw [HI2.out]; rfl
          have hb1 : (kindI s[0].toNat != 1) = true := by rw [HL.out] at hk'; simp [bne] at hk' ⊢; exact hk'.1
          have hb3 : (kindI s[0].toNat != 3) = true := by rw [HL.out] at hk'; simp [bne] at hk' ⊢; exact hk'.2
          clear hk hk' HI2
          go_enter Tryz.func131, Tryz.ntmps131
          go_wp2_with (first | (go_at_call 149; refine hC.out.mono ?_; rintro e w1 ⟨rfl, hB1⟩) | (go_at_call 150; refine (rkind_any _ (by omega) (by omega) _).mono ?_; rintro e w' ⟨rfl, rfl⟩))
          go_ret
          exact ⟨ret_bool HI3.out.symm, by assumption⟩
      · have bk := (bne_iff_ne (a := ck) (b := 0)).2 hck
        have HI2 : Hid (rwordB s.data.toList = false) := by rw [HI.out]; simp [hck, Hid]
        clear hck HI
        go_enter Tryz.func131, Tryz.ntmps131
        go_wp2_with (go_at_call 149; refine hC.out.mono ?_; rintro e w1 ⟨rfl, hB1⟩)
        go_ret
        exact ⟨ret_bool HI2.out.symm, by assumption⟩
    · have hgt : (64 < (s.size : Int)) := by omega
      have HI2 : Hid (rwordB s.data.toList = false) := by rw [HI.out]; simp [hl2, Hid]
      clear HI
      go_enter Tryz.func131, Tryz.ntmps131
      go_wp2_with (go_at_call 149; refine hC.out.mono ?_; rintro e w1 ⟨rfl, hB1⟩)
      go_ret
      exact ⟨ret_bool HI2.out.symm, Below.refl _ _⟩
  · have hge : ((s.size : Int) < 1) := by omega
    have HI2 : Hid (rwordB s.data.toList = false) := by rw [HI.out]; simp [hl1, Hid]
    clear HI
    go_enter Tryz.func131, Tryz.ntmps131
    go_wp2_with (go_at_call 149; refine hC.out.mono ?_; rintro e w1 ⟨rfl, hB1⟩)
    go_ret
    exact ⟨ret_bool HI2.out.symm, Below.refl _ _⟩
/-- Where all characters are letters or digits nothing is wrong. -/
theorem all_let {l : List UInt8} (h : lettersI l = l.length) : ∀ c ∈ l, isLet c = true := by
  unfold lettersI at h
  have h2 : (l.filter isLet).length = l.length := by omega
  exact List.length_filter_eq_length_iff.1 h2
theorem isLet_kind {c : UInt8} (h : isLet c = true) : kindI c.toNat = 1 ∨ kindI c.toNat = 3 := by simpa [isLet] using h
theorem rcheck_let {l : List UInt8} (hl : l.length ≤ 65536) (h : ∀ c ∈ l, isLet c = true) : rcheckI l = 0 := by
  unfold rcheckI
  rw [if_neg (by omega), if_neg]
  rintro ⟨k, hk, hb⟩
  unfold badAt at hb
  rw [List.getElem?_eq_getElem hk] at hb
  have := isLet_kind (h l[k] (List.getElem_mem hk))
  split at hb
  · next c f hc hf =>
    cases hc
    simp at hb; omega
  · cases hb
theorem rword_let {l : List UInt8} (h1 : 1 ≤ l.length) (h2 : l.length ≤ 64) (h : ∀ c ∈ l, isLet c = true) : rwordB l = true := by
  unfold rwordB
  have e1 : rcheckI l = 0 := rcheck_let (by omega) h
  have e2 : highAt l = false := by
    unfold highAt
    rw [List.any_eq_false]
    intro c hc
    have := isLet_kind (h c hc)
    simp; omega
  cases l with
  | nil => simp at h1
  | cons a l => simp only [e1, e2, h a List.mem_cons_self]; simp at h1 h2 ⊢; omega
def risNameB (s : ByteArray) : Bool := decide (s.size ≤ 16) && rwordB s.data.toList && decide (lettersI s.data.toList = s.size)
theorem risName_eq (s : ByteArray) : risNameB s = isNameB s := by
  unfold risNameB isNameB
  by_cases h16 : s.size ≤ 16
  · by_cases hl : lettersI s.data.toList = s.size
    · by_cases h0 : s.size = 0
      · have : rwordB s.data.toList = false := by unfold rwordB; simp [h0]
        simp [this, h0]
      · have : rwordB s.data.toList = true := rword_let (by simp; omega) (by simp; omega) (all_let (by rw [hl]; simp))
        simp [this, h0, h16, hl]
    · simp [hl]
  · simp [h16]
set_option maxHeartbeats 400000 in
theorem risName_any (s : ByteArray) (w : World) (hs : s.size ≤ maxLen) :
    Calls Tryz.prog 133 #[.string s] w fun e w' => e = .returned (.bool (isNameB s)) ∧ Below w.heap.size w w' := by
  have hW := hid (rword_any s w hs)
  have HL := fun w' => hid (rletters_any s w' hs)
  have HI : Hid (isNameB s = (decide (s.size ≤ 16) && rwordB s.data.toList && decide (lettersI s.data.toList = s.size))) := (risName_eq s).symm
  generalize rwordB s.data.toList = wb at *
  generalize lettersI s.data.toList = li at *
  unfold maxLen at hs
  by_cases h16 : (s.size : Int) ≤ 16
  · cases wb with
    | false =>
      go_enter Tryz.func133, Tryz.ntmps133
      go_wp2_with (first | (go_at_call 131; refine hW.out.mono ?_; rintro e w1 ⟨rfl, hB1⟩) | (go_at_call 155; refine (HL _).out.mono ?_; rintro e w' ⟨rfl, rfl⟩))
      go_ret
      exact ⟨ret_bool (by rw [HI.out]; simp), by assumption⟩
    | true =>
      go_enter Tryz.func133, Tryz.ntmps133
      go_wp2_with (first | (go_at_call 131; refine hW.out.mono ?_; rintro e w1 ⟨rfl, hB1⟩) | (go_at_call 155; refine (HL _).out.mono ?_; rintro e w' ⟨rfl, rfl⟩))
      go_ret
      refine ⟨ret_bool ?_, by assumption⟩
      rw [HI.out, show decide (s.size ≤ 16) = true by simp; omega]; rfl
  · go_enter Tryz.func133, Tryz.ntmps133
    go_wp2_with (first | (go_at_call 131; refine hW.out.mono ?_; rintro e w1 ⟨rfl, hB1⟩) | (go_at_call 155; refine (HL _).out.mono ?_; rintro e w' ⟨rfl, rfl⟩))
    go_ret
    refine ⟨ret_bool ?_, Below.refl _ _⟩
    rw [HI.out, show decide (s.size ≤ 16) = false by simp; omega]; rfl
end Go.Proofs.YtjhdeoniafahbaaGreatDoor
namespace Go.Proofs.YtjhdeoniafahbaaGreatDoor
open Go.RowKit
attribute [local go_sem] Oper.semAt_some
def lk (c : UInt8) : Bool := decide (kindI c.toNat = 1)
def mk (c : UInt8) : Bool := decide (kindI c.toNat = 2)
def clGo : Bool → List UInt8 → Nat
  | _, [] => 0
  | st, c :: r => if (mk c && st) = true then clGo true r else 1 + clGo (lk c) r
def lkAt (d : List UInt8) (f : Nat) : Bool := match d[f]? with | some c => lk c | none => false
/-- The state of the loop of clusters: y are yielded, the next one begins at f. -/
def ClAt (d : List UInt8) (y f k : Nat) : Prop := (k ≤ d.length ∧ f < k ∧ y ≤ f ∧ clGo false d = y + 1 + clGo (lkAt d f) (d.drop k)) ∨ (k = d.length + 1 ∧ clGo false d = y)
theorem ClAt.start (d : List UInt8) : ClAt d 0 0 1 := by
  cases d with
  | nil => exact .inr ⟨rfl, rfl⟩
  | cons c r =>
    refine .inl ⟨by simp, by omega, by omega, ?_⟩
    rw [clGo, if_neg (by simp)]
    simp [lkAt]
theorem ClAt.skip {d : List UInt8} {y f k : Nat} {c : UInt8} (h : ClAt d y f k) (hc : d[k]? = some c) (hm : mk c = true) (hl : lkAt d f = true) : ClAt d y f (k + 1) := by
  obtain ⟨hk, hx⟩ := List.getElem?_eq_some_iff.1 hc
  rcases h with ⟨h1, h2, h3, h4⟩ | ⟨h1, _⟩
  · refine .inl ⟨by omega, by omega, h3, ?_⟩
    rw [List.drop_eq_getElem_cons hk, hx, clGo, hm, hl, if_pos (by rfl)] at h4
    rw [hl]; exact h4
  · omega
theorem ClAt.cut {d : List UInt8} {y f k : Nat} {c : UInt8} (h : ClAt d y f k) (hc : d[k]? = some c) (hm : (mk c && lkAt d f) = false) : ClAt d (y + 1) k (k + 1) := by
  obtain ⟨hk, hx⟩ := List.getElem?_eq_some_iff.1 hc
  rcases h with ⟨h1, h2, h3, h4⟩ | ⟨h1, _⟩
  · refine .inl ⟨by omega, by omega, by omega, ?_⟩
    rw [List.drop_eq_getElem_cons hk, hx, clGo, hm, if_neg (by simp)] at h4
    have e : lkAt d k = lk c := by unfold lkAt; rw [hc]
    rw [e]; omega
  · omega
theorem ClAt.last {d : List UInt8} {y f : Nat} (h : ClAt d y f d.length) : ClAt d (y + 1) d.length (d.length + 1) := by
  rcases h with ⟨h1, h2, h3, h4⟩ | ⟨h1, _⟩
  · refine .inr ⟨rfl, ?_⟩
    rw [List.drop_of_length_le (Nat.le_refl _), clGo] at h4
    exact h4
  · omega
theorem ClAt.done {d : List UInt8} {y f : Nat} (h : ClAt d y f (d.length + 1)) : clGo false d = y := by
  rcases h with ⟨h1, _⟩ | ⟨_, h⟩
  · omega
  · exact h
theorem ClAt.lt {d : List UInt8} {y f k : Nat} (h : ClAt d y f k) (hk : k ≤ d.length) : y < d.length ∧ f < k := by
  rcases h with ⟨h1, h2, h3, _⟩ | ⟨h1, _⟩ <;> omega
set_option maxHeartbeats 1000000 in
theorem cright_any (s : ByteArray) (f k : Nat) (w : World) (hf : f < s.size) (hk : f < k) :
    Calls Tryz.prog 180 #[.string s, .int .i64 f, .int .i64 k] w fun e w' => e = .returned (.bool (lkAt s.data.toList f)) ∧ w = w' := by
  have hL : Hid (lkAt s.data.toList f = lk s[f]) := by unfold lkAt; rw [byte_at s f hf]; rfl
  have hu := byte_bd s[f]
  have HK := fun w' => hid (kind_any (s[f].toNat : Int) hu.1 hu.2 w')
  have hkf : (f : Int) < (k : Int) := by omega
  by_cases h1 : kindI s[f].toNat = 1
  · have HR : Hid (lk s[f] = true) := decide_eq_true h1
    rw [h1] at HK
    clear h1
    go_enter Tryz.func180, Tryz.ntmps180
    go_wp2_with fail
    refine (HK _).out.mono ?_
    rintro e w1 ⟨rfl, rfl⟩
    go_wp2
    go_ret
    exact ⟨ret_bool (by rw [hL.out, HR.out]), rfl⟩
  · have HR : Hid (lk s[f] = false) := decide_eq_false h1
    have hb := beq_eq_false_iff_ne.2 h1
    generalize kindI s[f].toNat = kk at *
    clear h1
    go_enter Tryz.func180, Tryz.ntmps180
    go_wp2_with fail
    refine (HK _).out.mono ?_
    rintro e w1 ⟨rfl, rfl⟩
    go_wp2
    go_ret
    exact ⟨ret_bool (by rw [hL.out, HR.out]), rfl⟩
set_option maxHeartbeats 1000000 in
theorem clusters_any (s : ByteArray) (w : World) :
    Calls Tryz.prog 170 #[.string s] w fun e w' => e = .returned (.func (.func 179) #[] #[.pointer (some ⟨w.heap.size, 0, none⟩)]) ∧ w.alloc (.cells #[.string s] 9) = w' := by
  go_enter Tryz.func170, Tryz.ntmps170
  go_wp2
  go_ret
  exact ⟨rfl, rfl⟩
end Go.Proofs.YtjhdeoniafahbaaGreatDoor
namespace Go.Proofs.YtjhdeoniafahbaaGreatDoor
open Go.RowKit
attribute [local go_sem] Oper.semAt_some
def okc (c : UInt8) : Bool := !(decide (kindI c.toNat = 0) || decide (kindI c.toNat = 2))
def chkGo : Bool → List UInt8 → Bool
  | _, [] => true
  | st, c :: r => if (mk c && st) = true then chkGo true r else okc c && chkGo (lk c) r
def chkB (s : ByteArray) : Bool := chkGo false s.data.toList
def okAt (d : List UInt8) (f : Nat) : Bool := match d[f]? with | some c => okc c | none => true
/-- The state of the loop of clusters: y: those that are yielded are well; the next one begins at f. -/
def ChAt (d : List UInt8) (y : Bool) (f k : Nat) : Prop := (k ≤ d.length ∧ f < k ∧ chkGo false d = (y && (okAt d f && chkGo (lkAt d f) (d.drop k)))) ∨ (k = d.length + 1 ∧ chkGo false d = y)
theorem ChAt.start (d : List UInt8) : ChAt d true 0 1 := by
  cases d with
  | nil => exact .inr ⟨rfl, rfl⟩
  | cons c r =>
    refine .inl ⟨by simp, by omega, ?_⟩
    rw [chkGo, if_neg (by simp)]
    simp [lkAt, okAt]
theorem ChAt.skip {d : List UInt8} {y : Bool} {f k : Nat} {c : UInt8} (h : ChAt d y f k) (hc : d[k]? = some c) (hm : mk c = true) (hl : lkAt d f = true) : ChAt d y f (k + 1) := by
  obtain ⟨hk, hx⟩ := List.getElem?_eq_some_iff.1 hc
  rcases h with ⟨h1, h2, h4⟩ | ⟨h1, _⟩
  · refine .inl ⟨by omega, by omega, ?_⟩
    rw [List.drop_eq_getElem_cons hk, hx, chkGo, hm, hl, if_pos (by rfl)] at h4
    rw [hl]; exact h4
  · omega
theorem ChAt.cut {d : List UInt8} {y : Bool} {f k : Nat} {c : UInt8} (h : ChAt d y f k) (hc : d[k]? = some c) (hm : (mk c && lkAt d f) = false) : ChAt d (y && okAt d f) k (k + 1) := by
  obtain ⟨hk, hx⟩ := List.getElem?_eq_some_iff.1 hc
  rcases h with ⟨h1, h2, h4⟩ | ⟨h1, _⟩
  · refine .inl ⟨by omega, by omega, ?_⟩
    rw [List.drop_eq_getElem_cons hk, hx, chkGo, hm, if_neg (by simp)] at h4
    have e : lkAt d k = lk c := by unfold lkAt; rw [hc]
    have e2 : okAt d k = okc c := by unfold okAt; rw [hc]
    rw [e, e2, h4, Bool.and_assoc]
  · omega
theorem ChAt.last {d : List UInt8} {y : Bool} {f : Nat} (h : ChAt d y f d.length) : ChAt d (y && okAt d f) d.length (d.length + 1) := by
  rcases h with ⟨h1, h2, h4⟩ | ⟨h1, _⟩
  · refine .inr ⟨rfl, ?_⟩
    rw [List.drop_of_length_le (Nat.le_refl _), chkGo, Bool.and_true] at h4
    exact h4
  · omega
theorem ChAt.done {d : List UInt8} {y : Bool} {f : Nat} (h : ChAt d y f (d.length + 1)) : chkGo false d = y := by
  rcases h with ⟨h1, _⟩ | ⟨_, h⟩
  · omega
  · exact h
theorem ChAt.bad {d : List UInt8} {y : Bool} {f k : Nat} (h : ChAt d y f k) (hy : y = false) : chkGo false d = false := by
  subst hy
  rcases h with ⟨_, _, h⟩ | ⟨_, h⟩
  · rw [h]; rfl
  · exact h
/-- A cluster: where it begins and ends. -/
abbrev Ck (s : ByteArray) := { p : Nat × Nat // p.1 < p.2 ∧ p.2 ≤ s.size }
def allOk (s : ByteArray) (l : List (Ck s)) : Bool := l.all fun x => okAt s.data.toList x.1.1
theorem allOk_snoc (s : ByteArray) (l : List (Ck s)) (x : Ck s) : allOk s (l ++ [x]) = (allOk s l && okAt s.data.toList x.1.1) := by
  unfold allOk; rw [List.all_append]; simp
set_option maxRecDepth 100000 in
set_option maxHeartbeats 4000000 in
theorem clusters2_in (n : Nat) (hn : 1 ≤ n) (s : ByteArray) (Bs : Nat) (hs : s.size ≤ 1048576)
    (Kp : World → World → Prop) (hK1 : ∀ A B, Kp A B → A.cell? ⟨Bs, 0, none⟩ = some (.string s) → B.cell? ⟨Bs, 0, none⟩ = some (.string s))
    (l : Nat) (J Jx : List (Ck s) → World → Prop)
    (hY : ∀ pre x W, J pre W → pre.length < s.size → YieldAt Fence.wide (n - 1) Tryz.prog l #[.int .i64 (x.1.1 : Int), .string (s.extract x.1.1 x.1.2)] W fun e W' =>
      (e = .returned (.bool true) ∧ J (pre ++ [x]) W' ∧ Kp W W') ∨ (e = .returned (.bool false) ∧ Jx (pre ++ [x]) W'))
    (W : World) (hBs : W.cell? ⟨Bs, 0, none⟩ = some (.string s)) (h0 : J [] W) :
    CallsIn Fence.wide n Tryz.prog 179 #[.func (.yield l) #[] #[], .pointer (some ⟨Bs, 0, none⟩)] W fun e W' => (∃ v, e = .returned v) ∧
      ((∃ xs : List (Ck s), chkB s = allOk s xs ∧ J xs W') ∨ (∃ pre : List (Ck s), (allOk s pre = false → chkB s = false) ∧ Jx pre W')) := by
  have HK1 := hid hK1; clear hK1
  have HY := hid hY; clear hY
  have hd : s.data.toList.length = s.size := rfl
  refine callsIn_of_wp Tryz.func179 rfl trivial ?_ rfl
  simp only [Tryz.ntmps179, List.size_toArray, List.length_cons, List.length_nil, Nat.reduceAdd, Nat.reduceSub, Array.replicate_succ, Array.replicate_zero, List.push_toArray, List.append_toArray, List.nil_append, List.cons_append]
  gi_wp2
  gi_loopw [3, 4] (fun f i wr => ∃ (j k : Nat) (pre : List (Ck s)), 1 ≤ k ∧ k ≤ s.size + 1 ∧ j ≤ k ∧ i = .int .i64 k ∧ f = .int .i64 j ∧ Hid (ClAt s.data.toList pre.length j k ∧ ChAt s.data.toList (allOk s pre) j k) ∧ J pre wr ∧ wr.cell? ⟨Bs, 0, none⟩ = some (.string s)) (fun _ i _ => s.size + 1 - (intOf i).toNat)
  case atStart => exact ⟨0, 1, [], by omega, by omega, by omega, rfl, rfl, ⟨ClAt.start _, ChAt.start _⟩, h0, hBs⟩
  case round =>
    rename_i wr
    obtain ⟨j, k, pre, hk1, hk, hjk, rfl, rfl, HC, hJ, hbs⟩ := hrel
    by_cases hlt : k ≤ s.size
    · obtain ⟨hpl, hjk2⟩ := HC.out.1.lt (by omega)
      rw [hd] at hpl
      have HYk := hid (HY.out pre ⟨(j, k), ⟨hjk2, hlt⟩⟩ wr hJ hpl)
      have HX1 := hid (allOk_snoc s pre ⟨(j, k), ⟨hjk2, hlt⟩⟩)
      have q1 : (k : Int) ≤ (s.size : Int) := by omega
      by_cases hlt2 : k < s.size
      · have hu := byte_bd s[k]
        have HKi := fun w' => hid (kind_any (s[k].toNat : Int) hu.1 hu.2 w')
        have HRi := fun w' => hid (cright_any s j k w' (by omega) hjk2)
        have hbk := byte_at s k hlt2
        by_cases h2 : kindI s[k].toNat = 2
        · have hm : mk s[k] = true := decide_eq_true h2
          rw [h2] at HKi
          cases hl : lkAt s.data.toList j with
          | true =>
            rw [hl] at HRi
            have HC2 := hid (And.intro (HC.out.1.skip hbk hm hl) (HC.out.2.skip hbk hm hl))
            clear h2 hm hl hbk HYk
            gi_wp2_with (first | (refine ⟨trivial, ?_⟩; gi_at_call 135; refine (callsIn_wide.2 (HKi _).out).mono ?_; rintro e w' ⟨rfl, rfl⟩) | (refine ⟨trivial, ?_⟩; gi_at_call 180; refine (callsIn_wide.2 (HRi _).out).mono ?_; rintro e w' ⟨rfl, rfl⟩))
            go_roundw
            case rel => exact ⟨j, k + 1, pre, by omega, by omega, by omega, by go_num, rfl, HC2.out, hJ, hbs⟩
            case measure => simp [intOf]; omega
          | false =>
            rw [hl] at HRi
            have HC2 := hid (And.intro (HC.out.1.cut hbk (by rw [hm, hl]; rfl)) (HC.out.2.cut hbk (by rw [hm, hl]; rfl)))
            clear h2 hm hl hbk
            obtain ⟨fn, tmps, assign, body, hy, hR⟩ := HYk.out
            try dsimp only at hy
            gi_wp2_with (first | (refine ⟨trivial, ?_⟩; gi_at_call 135; refine (callsIn_wide.2 (HKi _).out).mono ?_; rintro e w' ⟨rfl, rfl⟩) | (refine ⟨trivial, ?_⟩; gi_at_call 180; refine (callsIn_wide.2 (HRi _).out).mono ?_; rintro e w' ⟨rfl, rfl⟩))
            refine hR.mono ?_
            rintro e W3 (⟨rfl, hJ3, hk3⟩ | ⟨rfl, hJx3⟩)
            · have hbs3 := HK1.out _ _ hk3 hbs
              gi_wp2
              go_roundw
              case rel => exact ⟨k, k + 1, pre ++ [⟨(j, k), ⟨hjk2, hlt⟩⟩], by omega, by omega, by omega, by go_num, by go_num, by rw [List.length_append, List.length_singleton, HX1.out]; exact HC2.out, hJ3, hbs3⟩
              case measure => simp [intOf]; omega
            · gi_wp2
              refine bodyPost_ret (results_none rfl _ _ _) rfl ?_
              exact ⟨⟨_, rfl⟩, .inr ⟨_, (by rw [HX1.out]; exact HC2.out.2.bad), hJx3⟩⟩
        · have hm : mk s[k] = false := decide_eq_false h2
          have hb2 := beq_eq_false_iff_ne.2 h2
          have HC2 := hid (And.intro (HC.out.1.cut hbk (by rw [hm]; rfl)) (HC.out.2.cut hbk (by rw [hm]; rfl)))
          generalize kindI s[k].toNat = kk at *
          clear h2 hm hbk HRi
          obtain ⟨fn, tmps, assign, body, hy, hR⟩ := HYk.out
          try dsimp only at hy
          gi_wp2_with (first | (refine ⟨trivial, ?_⟩; gi_at_call 135; refine (callsIn_wide.2 (HKi _).out).mono ?_; rintro e w' ⟨rfl, rfl⟩) | (refine ⟨trivial, ?_⟩; gi_at_call 180; refine (callsIn_wide.2 (HRi _).out).mono ?_; rintro e w' ⟨rfl, rfl⟩))
          refine ⟨trivial, ?_⟩
          gi_wp2_with fail
          refine hR.mono ?_
          rintro e W3 (⟨rfl, hJ3, hk3⟩ | ⟨rfl, hJx3⟩)
          · have hbs3 := HK1.out _ _ hk3 hbs
            gi_wp2
            go_roundw
            case rel => exact ⟨k, k + 1, pre ++ [⟨(j, k), ⟨hjk2, hlt⟩⟩], by omega, by omega, by omega, by go_num, by go_num, by rw [List.length_append, List.length_singleton, HX1.out]; exact HC2.out, hJ3, hbs3⟩
            case measure => simp [intOf]; omega
          · gi_wp2
            refine bodyPost_ret (results_none rfl _ _ _) rfl ?_
            exact ⟨⟨_, rfl⟩, .inr ⟨_, (by rw [HX1.out]; exact HC2.out.2.bad), hJx3⟩⟩
      · obtain rfl : k = s.size := by omega
        have HC2 := hid (And.intro HC.out.1.last HC.out.2.last)
        rw [hd] at HC2
        obtain ⟨fn, tmps, assign, body, hy, hR⟩ := HYk.out
        try dsimp only at hy
        gi_wp2_with fail
        refine ⟨trivial, ?_⟩
        gi_wp2_with fail
        refine ⟨trivial, ?_⟩
        gi_wp2_with fail
        refine hR.mono ?_
        rintro e W3 (⟨rfl, hJ3, hk3⟩ | ⟨rfl, hJx3⟩)
        · have hbs3 := HK1.out _ _ hk3 hbs
          gi_wp2
          go_roundw
          case rel => exact ⟨s.size, s.size + 1, pre ++ [⟨(j, s.size), ⟨hjk2, hlt⟩⟩], by omega, by omega, by omega, by go_num, by go_num, by rw [List.length_append, List.length_singleton, HX1.out]; exact HC2.out, hJ3, hbs3⟩
          case measure => simp [intOf]
        · gi_wp2
          refine bodyPost_ret (results_none rfl _ _ _) rfl ?_
          exact ⟨⟨_, rfl⟩, .inr ⟨_, (by rw [HX1.out]; exact HC2.out.2.bad), hJx3⟩⟩
    · obtain rfl : k = s.size + 1 := by omega
      have HD : Hid (chkB s = allOk s pre) := HC.out.2.done
      gi_wp2
      go_end0
      exact ⟨⟨_, rfl⟩, .inl ⟨pre, HD.out, hJ⟩⟩
def chkI (s : ByteArray) : Int := if chkB s = true then 0 else 11
theorem chkI_t {s : ByteArray} (h : chkB s = true) : chkI s = 0 := if_pos h
theorem chkI_f {s : ByteArray} (h : chkB s = false) : chkI s = 11 := if_neg (by rw [h]; simp)
set_option maxRecDepth 100000 in
set_option maxHeartbeats 1000000 in
theorem chk_any (s : ByteArray) (w : World) (hs : s.size ≤ 65536) :
    Calls Tryz.prog 156 #[.string s] w fun e w' => e = .returned (.int .i64 (chkI s)) ∧ Below w.heap.size w w' := by
  refine (callsIn_wide (n := 9)).1 ?_
  have hbo := below_al w (.cells #[.int .i64 0] 35)
  have hbo2 := below_al (w.alloc (.cells #[.int .i64 0] 35)) (.cells #[.string s] 9)
  have hBo := below_tr hbo hbo2
  have hcx := cell_al (cell_nw w #[.int .i64 0] 35 0 (x := .int .i64 0) rfl) (.cells #[.string s] 9)
  have hfx := frozen_al (frozen_nw w #[.int .i64 0] 35 0 (x := .int .i64 0) rfl) (by simp) (.cells #[.string s] 9)
  have c3 := cell_nw (w.alloc (.cells #[.int .i64 0] 35)) #[.string s] 9 0 (x := .string s) rfl
  rw [show (w.alloc (.cells #[.int .i64 0] 35)).heap.size = w.heap.size + 1 by simp] at c3
  have hsz : ((w.alloc (.cells #[.int .i64 0] 35)).alloc (.cells #[.string s] 9)).heap.size = w.heap.size + 2 := by simp
  have hs' : ¬ (65536 : Int) < (s.size : Int) := by omega
  refine callsIn_of_wp_marks Tryz.func156 rfl trivial ?_ rfl
  simp only [Tryz.ntmps156, List.size_toArray, List.length_cons, List.length_nil, Nat.reduceAdd, Nat.reduceSub, Array.replicate_succ, Array.replicate_zero, List.push_toArray, List.append_toArray, List.nil_append, List.cons_append]
  refine wpIn_wide.2 ?_
  go_wp2_with fail
  refine (clusters_any _ _).mono ?_
  rintro e w3 ⟨rfl, rfl⟩
  rw [show (w.alloc (.cells #[.int .i64 0] 35)).heap.size = w.heap.size + 1 by simp]
  go_wp2_with fail
  generalize (w.alloc (.cells #[.int .i64 0] 35)).alloc (.cells #[.string s] 9) = W3 at *
  clear hbo hbo2
  refine (wpIn_wide (n := 9)).1 ?_
  refine wpIn_rangeFunc_ownG rfl (by omega) (gf := 179) (lb := #[.pointer (some ⟨w.heap.size + 1, 0, none⟩)]) rfl trivial (enters_of Tryz.func179 (by kernel_rfl) rfl)
    (encs := fun x : Ck s => #[.int .i64 (x.1.1 : Int), .string (s.extract x.1.1 x.1.2)]) (Kp := KpX W3.heap.size w.heap.size w.heap.size)
    (S := fun l => chkB s = allOk s l) (Sp := fun l => allOk s l = false → chkB s = false) (N := s.size) (w0 := W3)
    ?hseq (fun h k => h.tr k) (KpX.put (Nat.le_refl _)) (Below.refl _ _) (fun _ => rfl)
    (fun pre W => allOk s pre = true ∧ W.cell? ⟨w.heap.size, 0, none⟩ = some (.int .i64 0) ∧ W.frozen? ⟨w.heap.size, 0, none⟩ = false ∧ Below w.heap.size w W)
    (fun c pre W => c = .ret ∧ allOk s pre = false ∧ W.cell? ⟨w.heap.size, 0, none⟩ = some (.int .i64 11) ∧ Below w.heap.size w W)
    ?own ?ownx ⟨rfl, hcx, hfx, hBo⟩ ?a1 ?assign ?body ?done ?stop
  case own =>
    intro pre A B row hs2 hg hr
    exact ⟨hs2.1, cell_kept hs2.2.1 hg (fun r e => (hr r e).2), (frozen_kept hs2.2.1 hg (fun r e => (hr r e).2)).trans hs2.2.2.1, hs2.2.2.2.grown hg hs2.2.2.2.size (fun k e => by have := (hr k e).1; omega)⟩
  case ownx =>
    intro c pre A B row hs2 hg hr
    exact ⟨hs2.1, hs2.2.1, cell_kept hs2.2.2.1 hg (fun r e => (hr r e).2), hs2.2.2.2.grown hg hs2.2.2.2.size (fun k e => by have := (hr k e).1; omega)⟩
  case assign =>
    intro l x W' K hK
    gi_wp2
    exact hK
  case hseq =>
    intro l J Jx W' hW' _ _ hY h0
    exact clusters2_in (9 - 1) (by omega) s (w.heap.size + 1) (by omega) (KpX W3.heap.size w.heap.size w.heap.size) (fun A B hk hx => hk.cell hx (by simp [hsz]) (by simp) (by simp)) l J Jx hY W' (Below.keeps hW' _ _ c3) h0
  case body =>
    rintro l pre x W' ⟨hall, hc, hf, hB⟩ hpl
    have HA := hid (allOk_snoc s pre x)
    rw [hall, Bool.true_and] at HA
    have hx1 := x.2.1
    have hx2 := x.2.2
    have hey : (s.extract x.1.1 x.1.2).size = x.1.2 - x.1.1 := by rw [ByteArray.size_extract]; omega
    have hb0 : (s.extract x.1.1 x.1.2)[0]? = some s[x.1.1] := by
      rw [getElem?_pos (s.extract x.1.1 x.1.2) 0 (by omega)]; simp [ByteArray.getElem_extract]
    have HO : Hid (okAt s.data.toList x.1.1 = okc s[x.1.1]) := by unfold Hid okAt; rw [byte_at s x.1.1 (by omega)]
    generalize s.extract x.1.1 x.1.2 = y at *
    have hy0 : 0 < y.size := by omega
    have hyb : y[0] = s[x.1.1] := by
      rw [getElem?_pos y 0 hy0] at hb0
      exact Option.some.inj hb0
    have hu := byte_bd y[0]
    have HK := fun w' => hid (kind_any (y[0].toNat : Int) hu.1 hu.2 w')
    rw [← hyb] at HO
    have hyi : (0 : Int) < (y.size : Int) := by omega
    have hkp := (KeepsOthers.setCell W' ⟨w.heap.size, 0, none⟩ (.int .i64 11)).from W3.heap.size
    have hcs : (W'.setCell ⟨w.heap.size, 0, none⟩ (.int .i64 11)).cell? ⟨w.heap.size, 0, none⟩ = some (.int .i64 11) := World.cell?_setCell_same' _ _ _ (by rw [hc]; rfl)
    have hBs := hB.setCell (p := ⟨w.heap.size, 0, none⟩) (Nat.le_refl _) (.int .i64 11)
    have HE := hid (And.intro hkp (And.intro hcs hBs))
    clear hb0 hyb hkp hcs hBs hey
    by_cases h0 : kindI y[0].toNat = 0
    · have HR : Hid (allOk s (pre ++ [x]) = false) := by unfold Hid; rw [HA.out, HO.out]; unfold okc; rw [decide_eq_true h0]; rfl
      rw [h0] at HK
      clear h0
      gi_wp2_with (refine ⟨trivial, ?_⟩; gi_at_call 135; refine (CallsIn.inRound l (callsIn_wide.2 (HK _).out)).mono ?_; rintro e w' ⟨rfl, rfl⟩)
      exact ⟨HE.out.1, rfl, HR.out, HE.out.2.1, HE.out.2.2⟩
    · by_cases h2 : kindI y[0].toNat = 2
      · have HR : Hid (allOk s (pre ++ [x]) = false) := by unfold Hid; rw [HA.out, HO.out]; unfold okc; rw [decide_eq_true h2]; simp
        rw [h2] at HK
        clear h0 h2
        gi_wp2_with (refine ⟨trivial, ?_⟩; gi_at_call 135; refine (CallsIn.inRound l (callsIn_wide.2 (HK _).out)).mono ?_; rintro e w' ⟨rfl, rfl⟩)
        exact ⟨HE.out.1, rfl, HR.out, HE.out.2.1, HE.out.2.2⟩
      · have HR : Hid (allOk s (pre ++ [x]) = true) := by unfold Hid; rw [HA.out, HO.out]; unfold okc; rw [decide_eq_false h0, decide_eq_false h2]; rfl
        have b0 := beq_eq_false_iff_ne.2 h0
        have b2 := beq_eq_false_iff_ne.2 h2
        generalize kindI y[0].toNat = kk at *
        clear h0 h2
        gi_wp2_with (refine ⟨trivial, ?_⟩; gi_at_call 135; refine (CallsIn.inRound l (callsIn_wide.2 (HK _).out)).mono ?_; rintro e w' ⟨rfl, rfl⟩)
        exact ⟨⟨Nat.le_refl _, fun k o _ hk _ => hk⟩, ⟨Nat.le_refl _, fun _ _ _ _ => rfl⟩, HR.out, hc, hf, hB⟩
  case done =>
    rintro D ys W' hD hys ⟨hall, hc, hf, hB⟩ hK
    go_wp2_with fail
    have hK' := (KeepsOthers.setCell W' ⟨w.heap.size, 0, none⟩ (.int .i64 0)).same D _ hK rfl
    have hB' := hB.setCell (p := ⟨w.heap.size, 0, none⟩) (Nat.le_refl _) (.int .i64 0)
    refine ⟨by simp, .inl ⟨_, _, rfl, run_takeDeferred hK', ?_⟩⟩
    have hc5 := cell_kept (World.cell?_setCell_same' W' ⟨w.heap.size, 0, none⟩ (.int .i64 0) (by rw [hc]; rfl)) (grownBy_putObj' _ D (.deferred none)) (fun r e => by cases e; exact ⟨_, hK', rfl⟩)
    refine ⟨.int .i64 0, ?_, by rw [chkI_t (hys.trans hall)], hB'.grown (grownBy_putObj' _ D _) hB'.size (fun k e => by cases e; omega)⟩
    simp [results, Tryz.f156, go_sem, hc5]
  case stop =>
    rintro D c pre W' hD hsp ⟨rfl, hall, hc, hB⟩ hK
    gi_wp2
    refine ⟨by simp, .inl ⟨_, _, rfl, run_takeDeferred hK, ?_⟩⟩
    have hc5 := cell_kept hc (grownBy_putObj' _ D (.deferred none)) (fun r e => by cases e; exact ⟨_, hK, rfl⟩)
    refine ⟨.int .i64 11, ?_, by rw [chkI_f (hsp hall)], hB.grown (grownBy_putObj' _ D _) hB.size (fun k e => by cases e; omega)⟩
    simp [results, Tryz.f156, go_sem, hc5]
end Go.Proofs.YtjhdeoniafahbaaGreatDoor
namespace Go.Proofs.YtjhdeoniafahbaaGreatDoor
open Go.RowKit
attribute [local go_sem] Oper.semAt_some
theorem occGo_at (f l : ByteArray) (ws : List ByteArray) (k : Nat) (s : ByteArray) (h : ws[k]? = some s) :
    occGo f l k (ws.drop k) = (if s = f then (if l.size = 0 then [(k, k)] else occIn l k (k + 1) (ws.drop (k + 1))) else []) ++ occGo f l (k + 1) (ws.drop (k + 1)) := by
  obtain ⟨hk, hx⟩ := List.getElem?_eq_some_iff.1 h
  rw [List.drop_eq_getElem_cons hk, hx, occGo]
theorem occIn_at (l : ByteArray) (i : Nat) (ws : List ByteArray) (q : Nat) (s : ByteArray) (h : ws[q]? = some s) :
    occIn l i q (ws.drop q) = (if s = l then [(i, q)] else []) ++ occIn l i (q + 1) (ws.drop (q + 1)) := by
  obtain ⟨hk, hx⟩ := List.getElem?_eq_some_iff.1 h
  rw [List.drop_eq_getElem_cons hk, hx, occIn]
theorem ba_isE (l : ByteArray) : l.toList.isEmpty = decide (l.size = 0) := by
  by_cases h : l = ⟨#[]⟩
  · subst h; decide +kernel
  · have h1 : ¬ l.size = 0 := fun e => h (by cases l with | mk d => exact congrArg ByteArray.mk (Array.eq_empty_of_size_eq_zero e))
    have h2 := ba_beq l ⟨#[]⟩
    rw [show (⟨#[]⟩ : ByteArray).toList = [] by decide +kernel, decide_eq_false h] at h2
    rw [decide_eq_false h1]
    cases hl : l.toList with
    | nil => rw [hl] at h2; simp at h2
    | cons x r => rfl
/-- What the iterator reads. -/
structure OccM (Bw Bf Bl : Nat) (a : Option Addr) (cap : Nat) (ws : List ByteArray) (f l : ByteArray) (W : World) : Prop where
  cw : W.cell? ⟨Bw, 0, none⟩ = some (.slice a ws.length cap)
  cf : W.cell? ⟨Bf, 0, none⟩ = some (.string f)
  cl : W.cell? ⟨Bl, 0, none⟩ = some (.string l)
  rd : RdS W (.slice a ws.length cap) ws
theorem OccM.below {Bw Bf Bl : Nat} {a : Option Addr} {cap : Nat} {ws : List ByteArray} {f l : ByteArray} {W W' : World} (h : OccM Bw Bf Bl a cap ws f l W) (hb : Below W.heap.size W W') : OccM Bw Bf Bl a cap ws f l W' :=
  ⟨Below.keeps hb _ _ h.cw, Below.keeps hb _ _ h.cf, Below.keeps hb _ _ h.cl, h.rd.below hb⟩
set_option maxHeartbeats 1000000 in
theorem occurrences_any (a : Option Addr) (n cap : Nat) (f l : ByteArray) (w : World) :
    Calls Tryz.prog 87 #[.slice a n cap, .string f, .string l] w fun e w' => e = .returned (.func (.func 114) #[] #[.pointer (some ⟨w.heap.size, 0, none⟩), .pointer (some ⟨w.heap.size + 1, 0, none⟩), .pointer (some ⟨w.heap.size + 2, 0, none⟩)]) ∧
      ((w.alloc (.cells #[.slice a n cap] 23)).alloc (.cells #[.string f] 9)).alloc (.cells #[.string l] 9) = w' := by
  go_enter Tryz.func87, Tryz.ntmps87
  go_wp2
  go_ret
  exact ⟨rfl, rfl⟩
set_option maxRecDepth 100000 in
set_option maxHeartbeats 4000000 in
theorem occs1_in (n : Nat) (hn : 1 ≤ n) (ws : List ByteArray) (f l : ByteArray) (a : Option Addr) (cap : Nat) (Bw Bf Bl N : Nat) (hz : ws.length ≤ 1048576) (hN : (occ ws f l).length ≤ N)
    (Kp : World → World → Prop) (hK1 : ∀ A B, Kp A B → OccM Bw Bf Bl a cap ws f l A → OccM Bw Bf Bl a cap ws f l B)
    (yl : Nat) (J Jx : List (Nat × Nat) → World → Prop)
    (hY : ∀ pre x W, J pre W → pre.length < N → YieldAt Fence.wide (n - 1) Tryz.prog yl #[.int .i64 (x.1 : Int), .int .i64 (x.2 : Int)] W fun e W' =>
      (e = .returned (.bool true) ∧ J (pre ++ [x]) W' ∧ Kp W W') ∨ (e = .returned (.bool false) ∧ Jx (pre ++ [x]) W'))
    (W : World) (hJA : AbidesFrom W.heap.size J) (hM : OccM Bw Bf Bl a cap ws f l W) (h0 : J [] W) :
    CallsIn Fence.wide n Tryz.prog 114 #[.func (.yield yl) #[] #[], .pointer (some ⟨Bw, 0, none⟩), .pointer (some ⟨Bf, 0, none⟩), .pointer (some ⟨Bl, 0, none⟩)] W fun e W' => (∃ v, e = .returned v) ∧
      (J (occ ws f l) W' ∨ (∃ pre : List (Nat × Nat), (∃ r, pre ++ r = occ ws f l) ∧ Jx pre W')) := by
  have HK1 := hid hK1; clear hK1
  have HY := hid hY; clear hY
  have HJA : Hid (∀ pre W1, J pre W1 → J pre W1.drew) := fun pre W1 hj => have hBd := (Below.refl W1.heap.size W1).drew; hJA _ _ _ none hj ⟨hBd.os, hBd.tape, hBd.output, hBd.size, fun k hk _ => hBd.block k hk⟩ (fun r e => by cases e)
  clear hJA
  have hcw := hM.cw
  refine callsIn_of_wp Tryz.func114 rfl trivial ?_ rfl
  simp only [Tryz.ntmps114, List.size_toArray, List.length_cons, List.length_nil, Nat.reduceAdd, Nat.reduceSub, Array.replicate_succ, Array.replicate_zero, List.push_toArray, List.append_toArray, List.nil_append, List.cons_append]
  gi_wp2
  gi_loopw [10] (fun i wr => ∃ (k : Nat) (pre : List (Nat × Nat)), k ≤ ws.length ∧ i = .int .i64 k ∧ Hid (pre ++ occGo f l k (ws.drop k) = occ ws f l) ∧ J pre wr ∧ Hid (OccM Bw Bf Bl a cap ws f l wr)) (fun i _ => ws.length - (intOf i).toNat)
  case atStart => exact ⟨0, [], by omega, rfl, by simp [Hid, occ], h0, hM⟩
  case round =>
    rename_i wr
    obtain ⟨k, pre, hk, rfl, HP, hJ, HM⟩ := hrel
    by_cases hlt : k < ws.length
    · obtain ⟨_, _, he, _, _, hcell⟩ := HM.out.rd.open
      cases he
      obtain ⟨s, b, off, hs, rfl, hc⟩ := hcell k hlt
      have hcf := HM.out.cf
      have hcl := HM.out.cl
      have hki : (k : Int) < (ws.length : Int) := by omega
      have HA := hid (occGo_at f l ws k s hs)
      have hbf := ba_beq s f
      clear hcell hs
      by_cases hsf : s = f
      · have hb1 : (!s.toList == f.toList) = false := by rw [ba_beq]; simp [hsf]
        rw [if_pos hsf] at HA
        by_cases hl0 : l.size = 0
        · have hb2 : l.toList.isEmpty = true := by rw [ba_isE]; exact decide_eq_true hl0
          rw [if_pos hl0] at HA
          have HP2 : Hid ((pre ++ [(k, k)]) ++ occGo f l (k + 1) (ws.drop (k + 1)) = occ ws f l) := by
            show _ = _
            rw [List.append_assoc, ← HA.out]; exact HP.out
          have hpl : pre.length < N := by
            have h := congrArg List.length HP2.out
            simp only [List.length_append, List.length_singleton] at h
            omega
          obtain ⟨fn, tmps, assign, body, hy, hR⟩ := HY.out pre (k, k) wr hJ hpl
          try dsimp only at hy
          clear hbf hl0 hsf
          gi_wp2_with fail
          refine hR.mono ?_
          rintro e W3 (⟨rfl, hJ3, hk3⟩ | ⟨rfl, hJx3⟩)
          · have HM3 := hid (HK1.out _ _ hk3 HM.out)
            gi_wp2
            go_roundw
            case rel => exact ⟨k + 1, _, by omega, by go_num, HP2.out, hJ3, HM3.out⟩
            case measure => simp [intOf]; omega
          · gi_wp2
            refine bodyPost_ret (results_none rfl _ _ _) rfl ?_
            exact ⟨⟨_, rfl⟩, .inr ⟨_, ⟨_, HP2.out⟩, hJx3⟩⟩
        · have hb2 : l.toList.isEmpty = false := by rw [ba_isE]; exact decide_eq_false hl0
          rw [if_neg hl0] at HA
          have HPi : Hid (pre ++ (occIn l k (k + 1) (ws.drop (k + 1)) ++ occGo f l (k + 1) (ws.drop (k + 1))) = occ ws f l) := by
            show _ = _
            rw [← HA.out]; exact HP.out
          clear hbf hsf hl0 HA HP
          have hkb : (k : Int) + 1 ≤ 1048577 := by omega
          gi_wp2
          gi_loopw [7] (fun q wi => ∃ (j : Nat) (pre2 : List (Nat × Nat)), k + 1 ≤ j ∧ j ≤ ws.length ∧ q = .int .i64 j ∧ Hid (pre2 ++ (occIn l k j (ws.drop j) ++ occGo f l (k + 1) (ws.drop (k + 1))) = occ ws f l) ∧ J pre2 wi ∧ Hid (OccM Bw Bf Bl (some ⟨b, off, none⟩) cap ws f l wi)) (fun q _ => ws.length - (intOf q).toNat)
          case atStart => exact ⟨k + 1, pre, by omega, by omega, by go_num, HPi.out, hJ, HM.out⟩
          case round =>
            obtain ⟨j, pre2, hkj, hjl, rfl, HQ, hJi, HMi⟩ := hrel
            have hcwi := HMi.out.cw
            by_cases hlj : j < ws.length
            · obtain ⟨_, _, he, _, _, hcell⟩ := HMi.out.rd.open
              cases he
              obtain ⟨s2, b2, off2, hs2, he2, hc2⟩ := hcell j hlj
              cases he2
              have hcli := HMi.out.cl
              have hji : (j : Int) < (ws.length : Int) := by omega
              have HB := hid (occIn_at l k ws j s2 hs2)
              clear hcell hs2 hcf hcl hc hcw
              by_cases hsl : s2 = l
              · have hb3 : (s2.toList == l.toList) = true := by rw [ba_beq]; simp [hsl]
                rw [if_pos hsl] at HB
                have HQ2 : Hid ((pre2 ++ [(k, j)]) ++ (occIn l k (j + 1) (ws.drop (j + 1)) ++ occGo f l (k + 1) (ws.drop (k + 1))) = occ ws f l) := by
                  show _ = _
                  rw [← HQ.out, HB.out]; simp
                have hpl : pre2.length < N := by
                  have h := congrArg List.length HQ2.out
                  simp only [List.length_append, List.length_singleton] at h
                  omega
                obtain ⟨fn, tmps, assign, body, hy, hR⟩ := HY.out pre2 (k, j) wr.drew (HJA.out _ _ hJi) hpl
                try dsimp only at hy
                clear hsl
                gi_wp2_with fail
                have HMd : Hid (OccM Bw Bf Bl (some ⟨b, off, none⟩) cap ws f l wr.drew) := HMi.out.below (below_drewN (Below.refl _ _) 1)
                have hcwd := HMd.out.cw
                have hcld := HMd.out.cl
                have hc2d : wr.drew.cell? ⟨b, off + j, none⟩ = some (.string s2) := hc2
                clear HMi hJi hcli hcwi hc2
                --9
                refine wpIn_region_any (by kernel_rfl) ?_
                change wpAnyIn _ _ _ _ _ _ _ _ _ (World.drew _)
                generalize wr.drew = wd at *
                refine wpAnyIn_take (i := 1) (v := ?v30) rfl rfl (by kernel_rfl) (by kernel_rfl) (by kernel_rfl) (fun _ _ _ h => h) ⟨Or.inl ⟨by rfl, ?hy30⟩, fun _ => rfl⟩ ?rest30
                case hy30 => (intro w; go_simp; try (with_reducible rfl))
                simp only [Act.put, List.getElem_toArray, List.getElem_cons_succ, List.getElem_cons_zero, List.setIfInBounds_toArray, List.set_cons_zero, List.set_cons_succ]
                refine wpAnyIn_ready (rs := [0, 4]) (by kernel_rfl) (by simp) (AllReadyIn.cons rfl (fun K hK => ?_) (AllReadyIn.cons rfl (fun K hK => ?_) AllReadyIn.nil))
                · go_simp
                  refine hK _ _ ?_
                  clear hK K
                  refine wpAnyIn_take (i := 2) (v := ?v1) rfl rfl (by kernel_rfl) (by kernel_rfl) (by kernel_rfl) (fun _ _ _ h => h) ⟨Or.inl ⟨by rfl, ?hy1⟩, fun _ => rfl⟩ ?rest1
                  case hy1 => (intro w; go_simp; try (with_reducible rfl))
                  simp only [Act.put, List.getElem_toArray, List.getElem_cons_succ, List.getElem_cons_zero, List.setIfInBounds_toArray, List.set_cons_zero, List.set_cons_succ]
                  refine wpAnyIn_ready (rs := [3, 4]) (by kernel_rfl) (by simp) (AllReadyIn.cons rfl (fun K hK => ?_) (AllReadyIn.cons rfl (fun K hK => ?_) AllReadyIn.nil))
                  · go_simp
                    refine hK _ _ ?_
                    clear hK K
                    refine wpAnyIn_ready (rs := [4]) (by kernel_rfl) (by simp) (AllReadyIn.cons rfl (fun K hK => ?_) AllReadyIn.nil)
                    go_simp
                    refine hK _ _ ?_
                    clear hK K
                    refine wpAnyIn_take (i := 5) (v := ?v2) rfl rfl (by kernel_rfl) (by kernel_rfl) (by kernel_rfl) (fun _ _ _ h => h) ⟨Or.inl ⟨by rfl, ?hy2⟩, fun _ => rfl⟩ ?rest2
                    case hy2 => (intro w; go_simp; try (with_reducible rfl))
                    simp only [Act.put, List.getElem_toArray, List.getElem_cons_succ, List.getElem_cons_zero, List.setIfInBounds_toArray, List.set_cons_zero, List.set_cons_succ]
                    refine wpAnyIn_take (i := 6) (v := ?v3) rfl rfl (by kernel_rfl) (by kernel_rfl) (by kernel_rfl) (fun _ _ _ h => h) ⟨Or.inl ⟨by rfl, ?hy3⟩, fun _ => rfl⟩ ?rest3
                    case hy3 => (intro w; go_simp; try (with_reducible rfl))
                    simp only [Act.put, List.getElem_toArray, List.getElem_cons_succ, List.getElem_cons_zero, List.setIfInBounds_toArray, List.set_cons_zero, List.set_cons_succ]
                    refine wpAnyIn_take (i := 7) (v := ?v4) rfl rfl (by kernel_rfl) (by kernel_rfl) (by kernel_rfl) (fun _ _ _ h => h) ⟨Or.inl ⟨by rfl, ?hy4⟩, fun _ => rfl⟩ ?rest4
                    case hy4 => (intro w; go_simp; try (with_reducible rfl))
                    simp only [Act.put, List.getElem_toArray, List.getElem_cons_succ, List.getElem_cons_zero, List.setIfInBounds_toArray, List.set_cons_zero, List.set_cons_succ]
                    refine wpAnyIn_take (i := 8) (v := ?v5) rfl rfl (by kernel_rfl) (by kernel_rfl) (by kernel_rfl) (fun _ _ _ h => h) ⟨Or.inl ⟨by rfl, ?hy5⟩, fun _ => rfl⟩ ?rest5
                    case hy5 => (intro w; go_simp; try (with_reducible rfl))
                    simp only [Act.put, List.getElem_toArray, List.getElem_cons_succ, List.getElem_cons_zero, List.setIfInBounds_toArray, List.set_cons_zero, List.set_cons_succ]
                    refine wpAnyIn_take (i := 9) (v := ?v6) rfl rfl (by kernel_rfl) (by kernel_rfl) (by kernel_rfl) (fun _ _ _ h => h) ⟨Or.inl ⟨by rfl, ?hy6⟩, fun _ => rfl⟩ ?rest6
                    case hy6 => (intro w; go_simp; try (with_reducible rfl))
                    simp only [Act.put, List.getElem_toArray, List.getElem_cons_succ, List.getElem_cons_zero, List.setIfInBounds_toArray, List.set_cons_zero, List.set_cons_succ]
                    refine wpAnyIn_ready (rs := [10]) (by kernel_rfl) (by simp) (AllReadyIn.cons rfl (fun K hK => ?_) AllReadyIn.nil)
                    go_simp
                    refine hR.mono ?_
                    rintro e W3 (⟨rfl, hJ3, hk3⟩ | ⟨rfl, hJx3⟩)
                    · have HM3 := hid (HK1.out _ _ hk3 HMd.out)
                      refine hK _ _ ?_
                      clear hK K
                      refine wpAnyIn_take (i := 11) (v := ?v7) rfl rfl (by kernel_rfl) (by kernel_rfl) (by kernel_rfl) (fun _ _ _ h => h) ⟨Or.inl ⟨by rfl, ?hy7⟩, fun _ => rfl⟩ ?rest7
                      case hy7 => (intro w; go_simp; try (with_reducible rfl))
                      simp only [Act.put, List.getElem_toArray, List.getElem_cons_succ, List.getElem_cons_zero, List.setIfInBounds_toArray, List.set_cons_zero, List.set_cons_succ]
                      refine wpAnyIn_take (i := 12) (v := ?v8) rfl rfl (by kernel_rfl) (by kernel_rfl) (by kernel_rfl) (fun _ _ _ h => h) ⟨Or.inl ⟨by rfl, ?hy8⟩, fun _ => rfl⟩ ?rest8
                      case hy8 => (intro w; go_simp; try (with_reducible rfl))
                      simp only [Act.put, List.getElem_toArray, List.getElem_cons_succ, List.getElem_cons_zero, List.setIfInBounds_toArray, List.set_cons_zero, List.set_cons_succ]
                      refine wpAnyIn_done (by kernel_rfl) ?_ _
                      clear hy hR hc2d hcld hcwd
                      gi_wp2
                      go_roundw
                      case rel => exact ⟨j + 1, _, by omega, by omega, by go_num, HQ2.out, hJ3, HM3.out⟩
                      case measure => simp [intOf]; omega
                    · refine hK _ _ ?_
                      clear hK K
                      refine wpAnyIn_take (i := 11) (v := ?v9) rfl rfl (by kernel_rfl) (by kernel_rfl) (by kernel_rfl) (fun _ _ _ h => h) ⟨Or.inl ⟨by rfl, ?hy9⟩, fun _ => rfl⟩ ?rest9
                      case hy9 => (intro w; go_simp; try (with_reducible rfl))
                      simp only [Act.put, List.getElem_toArray, List.getElem_cons_succ, List.getElem_cons_zero, List.setIfInBounds_toArray, List.set_cons_zero, List.set_cons_succ]
                      refine wpAnyIn_take (i := 12) (v := ?v10) rfl rfl (by kernel_rfl) (by kernel_rfl) (by kernel_rfl) (fun _ _ _ h => h) ⟨Or.inl ⟨by rfl, ?hy10⟩, fun _ => rfl⟩ ?rest10
                      case hy10 => (intro w; go_simp; try (with_reducible rfl))
                      simp only [Act.put, List.getElem_toArray, List.getElem_cons_succ, List.getElem_cons_zero, List.setIfInBounds_toArray, List.set_cons_zero, List.set_cons_succ]
                      refine wpAnyIn_done (by kernel_rfl) ?_ _
                      gi_wp2
                      refine bodyPost_ret (results_none rfl _ _ _) rfl ?_
                      exact ⟨⟨_, rfl⟩, .inr ⟨_, ⟨_, HQ2.out⟩, hJx3⟩⟩
                  · go_simp
                    refine hK _ _ ?_
                    clear hK K
                    refine wpAnyIn_ready (rs := [3]) (by kernel_rfl) (by simp) (AllReadyIn.cons rfl (fun K hK => ?_) AllReadyIn.nil)
                    go_simp
                    refine hK _ _ ?_
                    clear hK K
                    refine wpAnyIn_take (i := 5) (v := ?v11) rfl rfl (by kernel_rfl) (by kernel_rfl) (by kernel_rfl) (fun _ _ _ h => h) ⟨Or.inl ⟨by rfl, ?hy11⟩, fun _ => rfl⟩ ?rest11
                    case hy11 => (intro w; go_simp; try (with_reducible rfl))
                    simp only [Act.put, List.getElem_toArray, List.getElem_cons_succ, List.getElem_cons_zero, List.setIfInBounds_toArray, List.set_cons_zero, List.set_cons_succ]
                    refine wpAnyIn_take (i := 6) (v := ?v12) rfl rfl (by kernel_rfl) (by kernel_rfl) (by kernel_rfl) (fun _ _ _ h => h) ⟨Or.inl ⟨by rfl, ?hy12⟩, fun _ => rfl⟩ ?rest12
                    case hy12 => (intro w; go_simp; try (with_reducible rfl))
                    simp only [Act.put, List.getElem_toArray, List.getElem_cons_succ, List.getElem_cons_zero, List.setIfInBounds_toArray, List.set_cons_zero, List.set_cons_succ]
                    refine wpAnyIn_take (i := 7) (v := ?v13) rfl rfl (by kernel_rfl) (by kernel_rfl) (by kernel_rfl) (fun _ _ _ h => h) ⟨Or.inl ⟨by rfl, ?hy13⟩, fun _ => rfl⟩ ?rest13
                    case hy13 => (intro w; go_simp; try (with_reducible rfl))
                    simp only [Act.put, List.getElem_toArray, List.getElem_cons_succ, List.getElem_cons_zero, List.setIfInBounds_toArray, List.set_cons_zero, List.set_cons_succ]
                    refine wpAnyIn_take (i := 8) (v := ?v14) rfl rfl (by kernel_rfl) (by kernel_rfl) (by kernel_rfl) (fun _ _ _ h => h) ⟨Or.inl ⟨by rfl, ?hy14⟩, fun _ => rfl⟩ ?rest14
                    case hy14 => (intro w; go_simp; try (with_reducible rfl))
                    simp only [Act.put, List.getElem_toArray, List.getElem_cons_succ, List.getElem_cons_zero, List.setIfInBounds_toArray, List.set_cons_zero, List.set_cons_succ]
                    refine wpAnyIn_take (i := 9) (v := ?v15) rfl rfl (by kernel_rfl) (by kernel_rfl) (by kernel_rfl) (fun _ _ _ h => h) ⟨Or.inl ⟨by rfl, ?hy15⟩, fun _ => rfl⟩ ?rest15
                    case hy15 => (intro w; go_simp; try (with_reducible rfl))
                    simp only [Act.put, List.getElem_toArray, List.getElem_cons_succ, List.getElem_cons_zero, List.setIfInBounds_toArray, List.set_cons_zero, List.set_cons_succ]
                    refine wpAnyIn_ready (rs := [10]) (by kernel_rfl) (by simp) (AllReadyIn.cons rfl (fun K hK => ?_) AllReadyIn.nil)
                    go_simp
                    refine hR.mono ?_
                    rintro e W3 (⟨rfl, hJ3, hk3⟩ | ⟨rfl, hJx3⟩)
                    · have HM3 := hid (HK1.out _ _ hk3 HMd.out)
                      refine hK _ _ ?_
                      clear hK K
                      refine wpAnyIn_take (i := 11) (v := ?v16) rfl rfl (by kernel_rfl) (by kernel_rfl) (by kernel_rfl) (fun _ _ _ h => h) ⟨Or.inl ⟨by rfl, ?hy16⟩, fun _ => rfl⟩ ?rest16
                      case hy16 => (intro w; go_simp; try (with_reducible rfl))
                      simp only [Act.put, List.getElem_toArray, List.getElem_cons_succ, List.getElem_cons_zero, List.setIfInBounds_toArray, List.set_cons_zero, List.set_cons_succ]
                      refine wpAnyIn_take (i := 12) (v := ?v17) rfl rfl (by kernel_rfl) (by kernel_rfl) (by kernel_rfl) (fun _ _ _ h => h) ⟨Or.inl ⟨by rfl, ?hy17⟩, fun _ => rfl⟩ ?rest17
                      case hy17 => (intro w; go_simp; try (with_reducible rfl))
                      simp only [Act.put, List.getElem_toArray, List.getElem_cons_succ, List.getElem_cons_zero, List.setIfInBounds_toArray, List.set_cons_zero, List.set_cons_succ]
                      refine wpAnyIn_done (by kernel_rfl) ?_ _
                      clear hy hR hc2d hcld hcwd
                      gi_wp2
                      go_roundw
                      case rel => exact ⟨j + 1, _, by omega, by omega, by go_num, HQ2.out, hJ3, HM3.out⟩
                      case measure => simp [intOf]; omega
                    · refine hK _ _ ?_
                      clear hK K
                      refine wpAnyIn_take (i := 11) (v := ?v18) rfl rfl (by kernel_rfl) (by kernel_rfl) (by kernel_rfl) (fun _ _ _ h => h) ⟨Or.inl ⟨by rfl, ?hy18⟩, fun _ => rfl⟩ ?rest18
                      case hy18 => (intro w; go_simp; try (with_reducible rfl))
                      simp only [Act.put, List.getElem_toArray, List.getElem_cons_succ, List.getElem_cons_zero, List.setIfInBounds_toArray, List.set_cons_zero, List.set_cons_succ]
                      refine wpAnyIn_take (i := 12) (v := ?v19) rfl rfl (by kernel_rfl) (by kernel_rfl) (by kernel_rfl) (fun _ _ _ h => h) ⟨Or.inl ⟨by rfl, ?hy19⟩, fun _ => rfl⟩ ?rest19
                      case hy19 => (intro w; go_simp; try (with_reducible rfl))
                      simp only [Act.put, List.getElem_toArray, List.getElem_cons_succ, List.getElem_cons_zero, List.setIfInBounds_toArray, List.set_cons_zero, List.set_cons_succ]
                      refine wpAnyIn_done (by kernel_rfl) ?_ _
                      gi_wp2
                      refine bodyPost_ret (results_none rfl _ _ _) rfl ?_
                      exact ⟨⟨_, rfl⟩, .inr ⟨_, ⟨_, HQ2.out⟩, hJx3⟩⟩
                · go_simp
                  refine hK _ _ ?_
                  clear hK K
                  refine wpAnyIn_ready (rs := [0]) (by kernel_rfl) (by simp) (AllReadyIn.cons rfl (fun K hK => ?_) AllReadyIn.nil)
                  go_simp
                  refine hK _ _ ?_
                  clear hK K
                  refine wpAnyIn_take (i := 2) (v := ?v20) rfl rfl (by kernel_rfl) (by kernel_rfl) (by kernel_rfl) (fun _ _ _ h => h) ⟨Or.inl ⟨by rfl, ?hy20⟩, fun _ => rfl⟩ ?rest20
                  case hy20 => (intro w; go_simp; try (with_reducible rfl))
                  simp only [Act.put, List.getElem_toArray, List.getElem_cons_succ, List.getElem_cons_zero, List.setIfInBounds_toArray, List.set_cons_zero, List.set_cons_succ]
                  refine wpAnyIn_ready (rs := [3]) (by kernel_rfl) (by simp) (AllReadyIn.cons rfl (fun K hK => ?_) AllReadyIn.nil)
                  go_simp
                  refine hK _ _ ?_
                  clear hK K
                  refine wpAnyIn_take (i := 5) (v := ?v21) rfl rfl (by kernel_rfl) (by kernel_rfl) (by kernel_rfl) (fun _ _ _ h => h) ⟨Or.inl ⟨by rfl, ?hy21⟩, fun _ => rfl⟩ ?rest21
                  case hy21 => (intro w; go_simp; try (with_reducible rfl))
                  simp only [Act.put, List.getElem_toArray, List.getElem_cons_succ, List.getElem_cons_zero, List.setIfInBounds_toArray, List.set_cons_zero, List.set_cons_succ]
                  refine wpAnyIn_take (i := 6) (v := ?v22) rfl rfl (by kernel_rfl) (by kernel_rfl) (by kernel_rfl) (fun _ _ _ h => h) ⟨Or.inl ⟨by rfl, ?hy22⟩, fun _ => rfl⟩ ?rest22
                  case hy22 => (intro w; go_simp; try (with_reducible rfl))
                  simp only [Act.put, List.getElem_toArray, List.getElem_cons_succ, List.getElem_cons_zero, List.setIfInBounds_toArray, List.set_cons_zero, List.set_cons_succ]
                  refine wpAnyIn_take (i := 7) (v := ?v23) rfl rfl (by kernel_rfl) (by kernel_rfl) (by kernel_rfl) (fun _ _ _ h => h) ⟨Or.inl ⟨by rfl, ?hy23⟩, fun _ => rfl⟩ ?rest23
                  case hy23 => (intro w; go_simp; try (with_reducible rfl))
                  simp only [Act.put, List.getElem_toArray, List.getElem_cons_succ, List.getElem_cons_zero, List.setIfInBounds_toArray, List.set_cons_zero, List.set_cons_succ]
                  refine wpAnyIn_take (i := 8) (v := ?v24) rfl rfl (by kernel_rfl) (by kernel_rfl) (by kernel_rfl) (fun _ _ _ h => h) ⟨Or.inl ⟨by rfl, ?hy24⟩, fun _ => rfl⟩ ?rest24
                  case hy24 => (intro w; go_simp; try (with_reducible rfl))
                  simp only [Act.put, List.getElem_toArray, List.getElem_cons_succ, List.getElem_cons_zero, List.setIfInBounds_toArray, List.set_cons_zero, List.set_cons_succ]
                  refine wpAnyIn_take (i := 9) (v := ?v25) rfl rfl (by kernel_rfl) (by kernel_rfl) (by kernel_rfl) (fun _ _ _ h => h) ⟨Or.inl ⟨by rfl, ?hy25⟩, fun _ => rfl⟩ ?rest25
                  case hy25 => (intro w; go_simp; try (with_reducible rfl))
                  simp only [Act.put, List.getElem_toArray, List.getElem_cons_succ, List.getElem_cons_zero, List.setIfInBounds_toArray, List.set_cons_zero, List.set_cons_succ]
                  refine wpAnyIn_ready (rs := [10]) (by kernel_rfl) (by simp) (AllReadyIn.cons rfl (fun K hK => ?_) AllReadyIn.nil)
                  go_simp
                  refine hR.mono ?_
                  rintro e W3 (⟨rfl, hJ3, hk3⟩ | ⟨rfl, hJx3⟩)
                  · have HM3 := hid (HK1.out _ _ hk3 HMd.out)
                    refine hK _ _ ?_
                    clear hK K
                    refine wpAnyIn_take (i := 11) (v := ?v26) rfl rfl (by kernel_rfl) (by kernel_rfl) (by kernel_rfl) (fun _ _ _ h => h) ⟨Or.inl ⟨by rfl, ?hy26⟩, fun _ => rfl⟩ ?rest26
                    case hy26 => (intro w; go_simp; try (with_reducible rfl))
                    simp only [Act.put, List.getElem_toArray, List.getElem_cons_succ, List.getElem_cons_zero, List.setIfInBounds_toArray, List.set_cons_zero, List.set_cons_succ]
                    refine wpAnyIn_take (i := 12) (v := ?v27) rfl rfl (by kernel_rfl) (by kernel_rfl) (by kernel_rfl) (fun _ _ _ h => h) ⟨Or.inl ⟨by rfl, ?hy27⟩, fun _ => rfl⟩ ?rest27
                    case hy27 => (intro w; go_simp; try (with_reducible rfl))
                    simp only [Act.put, List.getElem_toArray, List.getElem_cons_succ, List.getElem_cons_zero, List.setIfInBounds_toArray, List.set_cons_zero, List.set_cons_succ]
                    refine wpAnyIn_done (by kernel_rfl) ?_ _
                    clear hy hR hc2d hcld hcwd
                    gi_wp2
                    go_roundw
                    case rel => exact ⟨j + 1, _, by omega, by omega, by go_num, HQ2.out, hJ3, HM3.out⟩
                    case measure => simp [intOf]; omega
                  · refine hK _ _ ?_
                    clear hK K
                    refine wpAnyIn_take (i := 11) (v := ?v28) rfl rfl (by kernel_rfl) (by kernel_rfl) (by kernel_rfl) (fun _ _ _ h => h) ⟨Or.inl ⟨by rfl, ?hy28⟩, fun _ => rfl⟩ ?rest28
                    case hy28 => (intro w; go_simp; try (with_reducible rfl))
                    simp only [Act.put, List.getElem_toArray, List.getElem_cons_succ, List.getElem_cons_zero, List.setIfInBounds_toArray, List.set_cons_zero, List.set_cons_succ]
                    refine wpAnyIn_take (i := 12) (v := ?v29) rfl rfl (by kernel_rfl) (by kernel_rfl) (by kernel_rfl) (fun _ _ _ h => h) ⟨Or.inl ⟨by rfl, ?hy29⟩, fun _ => rfl⟩ ?rest29
                    case hy29 => (intro w; go_simp; try (with_reducible rfl))
                    simp only [Act.put, List.getElem_toArray, List.getElem_cons_succ, List.getElem_cons_zero, List.setIfInBounds_toArray, List.set_cons_zero, List.set_cons_succ]
                    refine wpAnyIn_done (by kernel_rfl) ?_ _
                    gi_wp2
                    refine bodyPost_ret (results_none rfl _ _ _) rfl ?_
                    exact ⟨⟨_, rfl⟩, .inr ⟨_, ⟨_, HQ2.out⟩, hJx3⟩⟩
                --9e
              · have hb3 : (s2.toList == l.toList) = false := by rw [ba_beq]; simpa using hsl
                rw [if_neg hsl, List.nil_append] at HB
                have HQ2 : Hid (pre2 ++ (occIn l k (j + 1) (ws.drop (j + 1)) ++ occGo f l (k + 1) (ws.drop (k + 1))) = occ ws f l) := by
                  show _ = _
                  rw [← HQ.out, HB.out]
                clear hsl
                gi_wp2_with fail
                refine wpIn_wide.2 ?_
                go_still_tail 10, (by kernel_rfl)
                have hJd := HJA.out _ _ hJi
                have HMd := hid (HMi.out.below (below_drewN (Below.refl _ _) 1))
                go_wp2_with fail
                change Code.wpIn _ _ _ _ _ _ wr.drew
                have HMd2 : Hid (OccM Bw Bf Bl (some ⟨b, off, none⟩) cap ws f l wr.drew) := HMd
                clear HMd HMi hJi hcli hcwi hc2
                generalize wr.drew = wd at *
                gi_wp2
                go_roundw
                case rel => exact ⟨j + 1, _, by omega, by omega, by go_num, HQ2.out, hJd, HMd2.out⟩
                case measure => simp [intOf]; omega
            · have hji : ¬ (j : Int) < (ws.length : Int) := by omega
              have HQ2 : Hid (pre2 ++ occGo f l (k + 1) (ws.drop (k + 1)) = occ ws f l) := by
                show _ = _
                rw [← HQ.out, show ws.drop j = [] from List.drop_of_length_le (by omega)]; simp [occIn]
              gi_wp2
              go_roundw
              case rel => exact ⟨k + 1, _, by omega, by go_num, HQ2.out, hJi, HMi.out⟩
              case measure => simp [intOf]; omega
      · have hb1 : (!s.toList == f.toList) = true := by rw [ba_beq]; simpa using hsf
        rw [if_neg hsf, List.nil_append] at HA
        have HP2 : Hid (pre ++ occGo f l (k + 1) (ws.drop (k + 1)) = occ ws f l) := by
          show _ = _
          rw [← HA.out]; exact HP.out
        clear hbf hsf
        gi_wp2
        go_roundw
        case rel => exact ⟨k + 1, _, by omega, by go_num, HP2.out, hJ, HM.out⟩
        case measure => simp [intOf]; omega
    · have hki : ¬ (k : Int) < (ws.length : Int) := by omega
      have HE : Hid (pre = occ ws f l) := by
        show _ = _
        rw [← HP.out, List.drop_of_length_le (by omega)]; simp [occGo]
      gi_wp2
      go_end0
      exact ⟨⟨_, rfl⟩, .inl (by rw [← HE.out]; exact hJ)⟩
end Go.Proofs.YtjhdeoniafahbaaGreatDoor
