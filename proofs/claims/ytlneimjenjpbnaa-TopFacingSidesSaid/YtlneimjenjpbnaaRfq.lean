/-
  A loop over a function, outside other rounds, whose loop variable is a struct: each round lays it into a block of its own.
-/
import Derived.Test.YtlneimjenjpbnaaBox
import Derived.Test.YtlneimjenjpbnaaRws
namespace Go.Proofs.Ytlneimjenjpbnaa
open Go.RowKit

theorem wpIn_rangeFunc_ownQ {F : Fence} {n : Nat} {P : Program} {α : Type} {g : Operand} {ps : Array Tmp} {assign body : Code} {Q : Exit → Act → World → Prop} {a : Act} {w : World}
    (hro : F.round = none) (h1 : 1 ≤ n) {gf : Nat} {lb : Array Value} (hg : a.eval g = .func (.func gf) #[] lb) (hFg : F.fn gf) (eg : ∀ args w, (callFunc gf args).run P w = .ok (.enter gf args) w)
    {encs : α → Array Value} {Kp : World → World → Prop} {S Sp : List α → Prop} {N : Nat} {w0 : World} (hseq : SeqStopsK F (n - 1) P gf lb encs Kp S Sp N w0)
    (hKt : ∀ {A B C : World}, Kp A B → Kp B C → Kp A C) (hKb : ∀ (W : World) (l : Nat) (o o' : Obj), w.heap.size ≤ l → W.heap[l]? = some o → o.isCells = false → o.isWalk = false → Kp W (W.putObj l o')) (hb0 : Below w0.heap.size w0 w) (hps : ∀ x, (encs x).size = ps.size)
    (I : List α → World → Prop) (Ix : Code → List α → World → Prop) (hI : OwnFrom w.heap.size I) (hIx : ∀ c, OwnFrom w.heap.size (Ix c)) (h0 : I [] w) (a₁ : α → Nat → Act) (cs : α → Array Value) (t : TypeId)
    (hassign : ∀ (l : Nat) (pre : List α) (x : α) (W : World) (K : Act → World → Prop), I pre W → (∀ q W', KeepsFrom w.heap.size W W' → Kp W W' → I pre W' → Row W' q (cs x) t → K (a₁ x q) W') →
      assign.wpIn (F.inRound l) (n - 1 - 1) P (Exit.then K (fun _ _ _ => False)) { tmps := (ps.zip (encs x)).foldl (fun t (p, v) => t.setIfInBounds p v) a.tmps, defers := [] } W)
    (hbody : ∀ (l : Nat) (pre : List α) (x : α) (q : Nat) (W : World), I pre W → Row W q (cs x) t → pre.length < N → body.wpIn (F.inRound l) (n - 1 - 1) P (ownPostG w.heap.size Kp I Ix (pre ++ [x]) W) (a₁ x q) W)
    (hdone : ∀ (D : Nat) (xs : List α) (W : World), w.heap.size ≤ D → S xs → I xs W → W.heap[D]? = some (.deferred (some [])) → Q .normal { a with defers := { target := .collected D, args := #[] } :: a.defers } W)
    (hstop : ∀ (D : Nat) (c : Code) (pre : List α) (W : World), w.heap.size ≤ D → Sp pre → Ix c pre W → W.heap[D]? = some (.deferred (some [])) → c.wpIn F n P Q { a with defers := { target := .collected D, args := #[] } :: a.defers } W) :
    (Code.rangeFunc g ps assign body).wpIn F n P Q a w := by
  refine wpIn_rangeFunc_ownH hro h1 hg hFg eg hseq (fun h k => hKt h k) hKb hb0 hps I Ix hI hIx h0 (fun x a' W => ∃ q, a' = a₁ x q ∧ Row W q (cs x) t) ?_ (fun l pre x W K hi hK => hassign l pre x W K hi (fun q W' h1 h2 h3 h4 => hK _ _ h1 h2 h3 ⟨q, rfl, h4⟩)) ?_ hdone hstop
  · rintro x a' _ A B row ⟨q, h1, h2⟩ hg hr
    exact ⟨q, h1, (hg.block q h2.lt (fun e => by
      obtain ⟨_, o, ho, hc⟩ := hr q e.symm
      have h3 : A.heap[q]? = _ := h2
      rw [ho] at h3; cases h3; cases hc)).trans h2⟩
  · rintro l pre x a' W _ _ hi ⟨q, rfl, hr⟩ hl
    exact hbody l pre x q W hi hr hl
end Go.Proofs.Ytlneimjenjpbnaa
