/-
  A drawn region that reads and ends in a tail of writes, walked once in a wide frame.
-/
import Derived.BigQuiet
import Derived.StillTailTactics
namespace Go.Proofs.Ytalpgilncohkbaa

theorem still_of_quiet {P : Program} {ops : Array Oper} {W : World} {Q : Act → Prop} : ∀ (l : List Oper) (a : Act), wpQuiet P ops (fun w' => w' = W) Q l a → wpStill P ops W Q l a
  | [], _, h => h
  | o :: rest, a, h => by
    unfold wpQuiet at h
    unfold wpStill
    by_cases hw : Region.wanted o (yielded ops a.tmps) = true
    · rw [if_pos hw] at h ⊢
      obtain ⟨v, h1, h2⟩ := h
      have h3 := h1 W rfl
      have h4 := still_of_quiet rest _ h2
      unfold Oper.quietAt at h3
      unfold Oper.still
      generalize (execOp a.eval o).run P W = r at *
      cases r with
      | ok n w' =>
        cases n with
        | value u =>
          obtain ⟨e1, e2⟩ := h3
          subst e2
          exact ⟨e1, h4⟩
        | skip =>
          obtain ⟨e1, e2⟩ := h3
          subst e2
          exact ⟨e1, h4⟩
        | enter f args => exact ⟨h3.1, v, h3.2, h4⟩
        | _ => exact absurd h3 id
      | _ => exact absurd h3 id
    · rw [if_neg hw] at h ⊢
      exact still_of_quiet rest _ h
theorem wp_region_quiet_tail {P : Program} {id : Nat} {Q : Exit → Act → World → Prop} {a : Act} {w : World} {l : List Oper} (n : Nat) (hm : P.follows .mixedOrders = true) (hB : Region.lexTailB .any l.toArray n = true)
    (h : wpQuiet P l.toArray (fun w' => w' = w.drew) (fun a' => wpList P l.toArray Q (l.drop n) a' w.drew) (l.take n) a) : (Code.region id l.toArray true).wp P Q a w :=
  wp_region_still_tail n hm hB (still_of_quiet _ _ h)
end Go.Proofs.Ytalpgilncohkbaa
