/-
  Plain: what the iterator over the pages of both sides finds in the prices.
-/
import Derived.Test.YtlneimjenjpbnaaAnc
namespace Go.Proofs.Ytlneimjenjpbnaa

theorem prsF_at (p : PP) (f : Nat) : ∀ (k t d : Nat), d < k → (∀ j, t ≤ j → j < t + d → (pgF p f j).2 ≠ 22) → (prsF p f t k)[d]? = some (pgF p f (t + d))
  | k + 1, t, 0, _, _ => by rw [prsF]; rfl
  | k + 1, t, d + 1, h, hj => by
    rw [prsF, if_neg (hj t (Nat.le_refl _) (by omega)), List.getElem?_cons_succ, prsF_at p f k (t + 1) d (by omega) (fun j h1 h2 => hj j (by omega) (by omega))]
    rw [show t + 1 + d = t + (d + 1) by omega]
theorem prs_at {p : PP} {f i : Nat} (h1 : f ≤ i) (h2 : i ≤ p.n) (h : ∀ j, f ≤ j → j < i → (pgF p f j).2 ≠ 22) : (prs p f)[i - f]? = some (pgF p f i) := by
  have h3 := prsF_at p f (p.n + 1 - f) f (i - f) (by omega) (fun j a b => h j a (by omega))
  rw [show f + (i - f) = i by omega] at h3
  exact h3
theorem prcA_at {p : PP} {f : Nat} (h : f ≤ p.n) : (prcA p)[f]? = some (prs p f) := by
  have h2 : f < p.lines.length + 1 := by have : p.n = p.lines.length := rfl; omega
  unfold prcA
  rw [prcM_at _ _ _ _ h2, if_pos h2]
theorem fpgL_stop {s : FS} {f : Nat × Nat} {i c : Nat} (h : (pgF s.L f.1 i).2 = 22) : fpgL s f i c = [] := by cases c <;> simp [fpgL, h]
theorem fpgL_go {s : FS} {f : Nat × Nat} {i c : Nat} (h : (pgF s.L f.1 i).2 ≠ 22) : fpgL s f i (c + 1) = fpgR s f i f.2 (s.R.n + 1 - f.2) ++ fpgL s f (i + 1) c := by rw [fpgL, if_neg h]
theorem fpgR_self {s : FS} {f : Nat × Nat} {i k c : Nat} (h : (i, k) = f) : fpgR s f i k (c + 1) = fpgR s f i (k + 1) c := by rw [fpgR, if_pos h]
theorem fpgR_stop {s : FS} {f : Nat × Nat} {i k c : Nat} (h : (i, k) ≠ f) (h2 : (pgF s.R f.2 k).2 = 22) : fpgR s f i k c = [] := by
  cases c with
  | zero => rfl
  | succ c => rw [fpgR, if_neg h, if_pos h2]
theorem fpgR_hit {s : FS} {f : Nat × Nat} {i k c : Nat} (h : (i, k) ≠ f) (h1 : (pgF s.L f.1 i).2 = 0) (h2 : (pgF s.R f.2 k).2 = 0) (h3 : ancB s.A f (i, k) = true) :
    fpgR s f i k (c + 1) = ((i, k), (pgF s.L f.1 i).1 + (pgF s.R f.2 k).1) :: fpgR s f i (k + 1) c := by
  rw [fpgR, if_neg h, if_neg (by rw [h2]; decide), if_pos ⟨h1, h2, h3⟩]; rfl
theorem fpgR_no {s : FS} {f : Nat × Nat} {i k c : Nat} (h : (i, k) ≠ f) (h2 : (pgF s.R f.2 k).2 ≠ 22) (h3 : ¬ ((pgF s.L f.1 i).2 = 0 ∧ (pgF s.R f.2 k).2 = 0 ∧ ancB s.A f (i, k) = true)) :
    fpgR s f i k (c + 1) = fpgR s f i (k + 1) c := by
  rw [fpgR, if_neg h, if_neg h2, if_neg h3]; rfl
end Go.Proofs.Ytlneimjenjpbnaa
