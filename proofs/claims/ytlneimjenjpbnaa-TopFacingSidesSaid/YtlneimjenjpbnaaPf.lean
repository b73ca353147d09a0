/-
  Plain: facing pages: their costs, the least costs of the rests, the ends that are found; each side alone. No step of a program is in sight here.
-/
import Derived.Test.YtlneimjenjpbnaaPp
namespace Go.Proofs.Ytlneimjenjpbnaa

structure FS where
  L : PP
  R : PP
  A : List (List Int)
def FS.e (s : FS) : Nat × Nat := (s.L.n, s.R.n)
/-- Each anchor is on a page on both sides, or on none. -/
def ancB (A : List (List Int)) (f t : Nat × Nat) : Bool :=
  !(A.any fun a => (decide ((f.1 : Int) ≤ a.getD 0 0) && decide (a.getD 0 0 < t.1)) != (decide ((f.2 : Int) ≤ a.getD 1 0) && decide (a.getD 1 0 < t.2)))
/-- The cost of a page of one side. -/
def pgF (p : PP) (f t : Nat) : Int × Int := if f = t then (0, 0) else pgI p f t
def prsF (p : PP) (f : Nat) : Nat → Nat → List (Int × Int)
  | _, 0 => []
  | t, k + 1 => pgF p f t :: if (pgF p f t).2 = 22 then [] else prsF p f (t + 1) k
/-- The prices of the pages from a line on, up to the first one that is too high. -/
def prs (p : PP) (f : Nat) : List (Int × Int) := prsF p f f (p.n + 1 - f)
def fpgR (s : FS) (f : Nat × Nat) (i : Nat) : Nat → Nat → List ((Nat × Nat) × Int)
  | _, 0 => []
  | k, c + 1 => if (i, k) = f then fpgR s f i (k + 1) c else if (pgF s.R f.2 k).2 = 22 then []
    else (if (pgF s.L f.1 i).2 = 0 ∧ (pgF s.R f.2 k).2 = 0 ∧ ancB s.A f (i, k) = true then [((i, k), (pgF s.L f.1 i).1 + (pgF s.R f.2 k).1)] else []) ++ fpgR s f i (k + 1) c
def fpgL (s : FS) (f : Nat × Nat) : Nat → Nat → List ((Nat × Nat) × Int)
  | _, 0 => []
  | i, c + 1 => if (pgF s.L f.1 i).2 = 22 then [] else fpgR s f i f.2 (s.R.n + 1 - f.2) ++ fpgL s f (i + 1) c
/-- The possible pages from two lines on. -/
def fpg (s : FS) (f : Nat × Nat) : List ((Nat × Nat) × Int) := fpgL s f f.1 (s.L.n + 1 - f.1)
structure FpOk (s : FS) (f : Nat × Nat) (x : (Nat × Nat) × Int) : Prop where
  l1 : f.1 ≤ x.1.1
  l2 : x.1.1 ≤ s.L.n
  r1 : f.2 ≤ x.1.2
  r2 : x.1.2 ≤ s.R.n
  ne : x.1 ≠ f
  le : (pgF s.L f.1 x.1.1).2 = 0
  re : (pgF s.R f.2 x.1.2).2 = 0
  co : x.2 = (pgF s.L f.1 x.1.1).1 + (pgF s.R f.2 x.1.2).1
theorem fpgR_mem {s : FS} {f : Nat × Nat} {i : Nat} (hi1 : f.1 ≤ i) (hi2 : i ≤ s.L.n) : ∀ {c k : Nat} {x : (Nat × Nat) × Int}, f.2 ≤ k → k + c ≤ s.R.n + 1 → x ∈ fpgR s f i k c → FpOk s f x
  | 0, k, x, _, _, h => by cases h
  | c + 1, k, x, h1, h2, h => by
    rw [fpgR] at h
    split at h
    · exact fpgR_mem hi1 hi2 (by omega) (by omega) h
    rename_i hne
    split at h
    · cases h
    rcases List.mem_append.1 h with h | h
    · split at h
      · rename_i hc
        have e := List.mem_singleton.1 h
        subst e
        exact ⟨hi1, hi2, h1, by show k ≤ _; omega, hne, hc.1, hc.2.1, rfl⟩
      · cases h
    · exact fpgR_mem hi1 hi2 (by omega) (by omega) h
theorem fpgL_mem {s : FS} {f : Nat × Nat} (hf : f.2 ≤ s.R.n) : ∀ {c i : Nat} {x : (Nat × Nat) × Int}, f.1 ≤ i → i + c ≤ s.L.n + 1 → x ∈ fpgL s f i c → FpOk s f x
  | 0, i, x, _, _, h => by cases h
  | c + 1, i, x, h1, h2, h => by
    rw [fpgL] at h
    split at h
    · cases h
    rcases List.mem_append.1 h with h | h
    · exact fpgR_mem h1 (by omega) (Nat.le_refl _) (by omega) h
    · exact fpgL_mem hf (by omega) (by omega) h
theorem fpg_mem {s : FS} {f : Nat × Nat} (hl : f.1 ≤ s.L.n) (hf : f.2 ≤ s.R.n) {x : (Nat × Nat) × Int} (h : x ∈ fpg s f) : FpOk s f x := fpgL_mem hf (Nat.le_refl _) (by omega) h
/-- The place of a pair of lines, counted from the last one. -/
def posF (s : FS) (f : Nat × Nat) : Nat := (s.L.n - f.1) * (s.R.n + 1) + (s.R.n - f.2)
def atF (s : FS) (j : Nat) : Nat × Nat := (s.L.n - j / (s.R.n + 1), s.R.n - j % (s.R.n + 1))
theorem atF_pos {s : FS} {f : Nat × Nat} (hl : f.1 ≤ s.L.n) (hr : f.2 ≤ s.R.n) : atF s (posF s f) = f := by
  unfold atF posF
  have h1 : ((s.L.n - f.1) * (s.R.n + 1) + (s.R.n - f.2)) / (s.R.n + 1) = s.L.n - f.1 := by
    rw [Nat.mul_comm, Nat.mul_add_div (by omega), Nat.div_eq_of_lt (by omega)]; omega
  have h2 : ((s.L.n - f.1) * (s.R.n + 1) + (s.R.n - f.2)) % (s.R.n + 1) = s.R.n - f.2 := by
    rw [Nat.mul_comm, Nat.mul_add_mod, Nat.mod_eq_of_lt (by omega)]
  rw [h1, h2]
  exact Prod.ext (by show s.L.n - (s.L.n - f.1) = f.1; omega) (by show s.R.n - (s.R.n - f.2) = f.2; omega)
theorem posF_lt {s : FS} {f t : Nat × Nat} (hf1 : f.1 ≤ s.L.n) (hl : f.1 ≤ t.1) (hr : f.2 ≤ t.2) (h1 : t.1 ≤ s.L.n) (h2 : t.2 ≤ s.R.n) (hne : t ≠ f) : posF s t < posF s f := by
  unfold posF
  by_cases h : t.1 = f.1
  · have : t.2 ≠ f.2 := fun e => hne (Prod.ext h e)
    rw [h]; omega
  · have e : s.L.n - f.1 = (s.L.n - t.1) + (t.1 - f.1) := by omega
    have h3 : (s.L.n - t.1 + 1) * (s.R.n + 1) ≤ (s.L.n - f.1) * (s.R.n + 1) := Nat.mul_le_mul (by omega) (Nat.le_refl _)
    rw [Nat.add_mul, Nat.one_mul] at h3
    omega
/-- The least costs of the last j pairs and of the end. -/
def tabF (s : FS) : Nat → List Int
  | 0 => [0]
  | j + 1 => (fpg s (atF s (j + 1))).foldl (bestI fun t => (tabF s j).getD (j - posF s t) 0) (-1) :: tabF s j
def totF (s : FS) : Nat := s.L.n * (s.R.n + 1) + s.R.n
/-- The least cost of the rest from two lines on; -1 if there is none. -/
def fpot (s : FS) (f : Nat × Nat) : Int := (tabF s (totF s)).getD (totF s - posF s f) 0
theorem tabF_drop (s : FS) : ∀ (d j : Nat), (tabF s (j + d)).drop d = tabF s j
  | 0, j => rfl
  | d + 1, j => by rw [← Nat.add_assoc, tabF, List.drop_succ_cons, tabF_drop s d j]
theorem posF_le {s : FS} {f : Nat × Nat} : posF s f ≤ totF s := by
  unfold posF totF
  have : (s.L.n - f.1) * (s.R.n + 1) ≤ s.L.n * (s.R.n + 1) := Nat.mul_le_mul (by omega) (Nat.le_refl _)
  omega
theorem tabF_at (s : FS) {j : Nat} (hj : j ≤ totF s) {t : Nat × Nat} (ht : posF s t ≤ j) : (tabF s j).getD (j - posF s t) 0 = fpot s t := by
  unfold fpot
  have h := tabF_drop s (totF s - j) j
  rw [show j + (totF s - j) = totF s by omega] at h
  rw [← h, List.getD_eq_getElem?_getD, List.getD_eq_getElem?_getD, List.getElem?_drop]
  congr 2; omega
theorem fpot_end (s : FS) : fpot s s.e = 0 := by
  have hp : posF s s.e = 0 := by unfold posF FS.e; simp
  have := tabF_at s (j := 0) (t := s.e) (Nat.zero_le _) (by omega)
  rw [← this, hp]; rfl
theorem fpot_at (s : FS) {f : Nat × Nat} (hl : f.1 ≤ s.L.n) (hr : f.2 ≤ s.R.n) (hne : f ≠ s.e) : fpot s f = (fpg s f).foldl (bestI (fpot s)) (-1) := by
  have hp : 0 < posF s f := by
    have := posF_lt (s := s) (f := f) (t := s.e) hl (by exact hl) (by exact hr) (Nat.le_refl _) (Nat.le_refl _) (fun e => hne e.symm)
    omega
  obtain ⟨j, hj⟩ : ∃ j, posF s f = j + 1 := ⟨posF s f - 1, by omega⟩
  have hle := posF_le (s := s) (f := f)
  have h0 := tabF_at s (j := j + 1) (t := f) (by omega) (by omega)
  have ha : atF s (j + 1) = f := by rw [← hj]; exact atF_pos hl hr
  rw [← h0, hj, Nat.sub_self, tabF, ha]
  show List.foldl _ _ _ = _
  have key : ∀ (l : List ((Nat × Nat) × Int)) (a : Int), (∀ x ∈ l, posF s x.1 ≤ j) → l.foldl (bestI fun t => (tabF s j).getD (j - posF s t) 0) a = l.foldl (bestI (fpot s)) a := by
    intro l
    induction l with
    | nil => intro a _; rfl
    | cons x r ih =>
      intro a h
      have e := tabF_at s (j := j) (t := x.1) (by omega) (h x (by simp))
      have e2 : bestI (fun t => (tabF s j).getD (j - posF s t) 0) a x = bestI (fpot s) a x := by
        unfold bestI
        simp only [e]
      rw [List.foldl_cons, List.foldl_cons, e2]
      exact ih _ fun y hy => h y (by simp [hy])
  refine key _ _ fun x hx => ?_
  have hm := fpg_mem hl hr hx
  have := posF_lt hl hm.l1 hm.r1 hm.l2 hm.r2 hm.ne
  omega
theorem pgF_bd {p : PP} (h : PpOk p) (f t : Nat) : 0 ≤ (pgF p f t).1 ∧ (pgF p f t).1 ≤ 20000 := by
  unfold pgF
  split
  · exact ⟨Int.le_refl _, by show (0 : Int) ≤ 20000; omega⟩
  · exact pgI_bd h f t
structure FsOk (s : FS) : Prop where
  l : PpOk s.L
  r : PpOk s.R
theorem fpot_hit {s : FS} {f : Nat × Nat} (hl : f.1 ≤ s.L.n) (hr : f.2 ≤ s.R.n) (hne : f ≠ s.e) (h0 : 0 ≤ fpot s f) : ∃ x ∈ fpg s f, 0 ≤ fpot s x.1 ∧ x.2 + fpot s x.1 = fpot s f := by
  rw [fpot_at s hl hr hne] at h0
  rcases best_hit (r := fpot s) (fpg s f) (-1) with h | ⟨x, hx, h1, h2⟩
  · rw [h] at h0; omega
  · exact ⟨x, hx, h1, by rw [fpot_at s hl hr hne, h2]⟩
theorem fpot_bd {s : FS} (h : FsOk s) : ∀ (j : Nat) (f : Nat × Nat), f.1 ≤ s.L.n → f.2 ≤ s.R.n → posF s f ≤ j → -1 ≤ fpot s f ∧ fpot s f ≤ (j : Int) * 40000
  | 0, f, hl, hr, hj => by
    have e : f = s.e := Classical.byContradiction fun hne => by
      have := posF_lt (s := s) (f := f) (t := s.e) hl (by exact hl) (by exact hr) (Nat.le_refl _) (Nat.le_refl _) (fun e => hne e.symm)
      omega
    rw [e, fpot_end]; omega
  | j + 1, f, hl, hr, hj => by
    by_cases hne : f = s.e
    · rw [hne, fpot_end]; omega
    rw [fpot_at s hl hr hne]
    rcases best_hit (r := fpot s) (fpg s f) (-1) with e | ⟨x, hx, h1, h2⟩
    · rw [e]; omega
    · have hm := fpg_mem hl hr hx
      have hp := posF_lt hl hm.l1 hm.r1 hm.l2 hm.r2 hm.ne
      have ih := fpot_bd h j x.1 hm.l2 hm.r2 (by omega)
      have b1 := pgF_bd h.l f.1 x.1.1
      have b2 := pgF_bd h.r f.2 x.1.2
      have := hm.co
      rw [h2]; omega
/-- The ends that are found. -/
def fbrP (s : FS) (f : Nat × Nat) (x : (Nat × Nat) × Int) : Bool := decide (0 ≤ fpot s x.1) && decide (x.2 + fpot s x.1 = fpot s f)
def fbrF (s : FS) : Nat → Nat × Nat → List (Nat × Nat)
  | 0, _ => []
  | k + 1, f => if f = s.e then [] else match (fpg s f).find? (fbrP s f) with
    | none => []
    | some x => x.1 :: fbrF s k x.1
def fbr (s : FS) : List (Nat × Nat) := fbrF s (totF s) (0, 0)
def aloneF (last : Nat) : List Nat → List Nat
  | [] => []
  | x :: r => if last < x then x :: aloneF x r else aloneF last r
/-- One step of one side. -/
theorem alone_step {p : PP} {f t : Nat} {r : List Nat} (h1 : f ≤ t) (h2 : t ≤ p.n) (h3 : (pgF p f t).2 = 0) (hc : Chn p t (aloneF t r)) (h0 : (costF p t (aloneF t r)).2 = 0) :
    Chn p f (aloneF f (t :: r)) ∧ costF p f (aloneF f (t :: r)) = ((pgF p f t).1 + (costF p t (aloneF t r)).1, 0) := by
  by_cases h : f < t
  · rw [aloneF, if_pos h]
    have e : pgF p f t = pgI p f t := by unfold pgF; rw [if_neg (by omega)]
    rw [e] at h3 ⊢
    refine ⟨⟨h, h2, hc⟩, ?_⟩
    rw [costF, h3, h0]
    simp
  · obtain rfl : f = t := by omega
    rw [aloneF, if_neg h]
    have e : pgF p f f = (0, 0) := by unfold pgF; rw [if_pos rfl]
    rw [e]
    refine ⟨hc, Prod.ext ?_ h0⟩
    show _ = 0 + _
    omega
theorem fbrF_ok {s : FS} : ∀ (k : Nat) (f : Nat × Nat), f.1 ≤ s.L.n → f.2 ≤ s.R.n → posF s f ≤ k → 0 ≤ fpot s f →
    (Chn s.L f.1 (aloneF f.1 ((fbrF s k f).map (·.1))) ∧ (costF s.L f.1 (aloneF f.1 ((fbrF s k f).map (·.1)))).2 = 0) ∧ (Chn s.R f.2 (aloneF f.2 ((fbrF s k f).map (·.2))) ∧ (costF s.R f.2 (aloneF f.2 ((fbrF s k f).map (·.2)))).2 = 0) ∧
    (costF s.L f.1 (aloneF f.1 ((fbrF s k f).map (·.1)))).1 + (costF s.R f.2 (aloneF f.2 ((fbrF s k f).map (·.2)))).1 = fpot s f := by
  intro k
  induction k with
  | zero =>
    intro f hl hr hj _
    have e : f = s.e := Classical.byContradiction fun hne => by
      have := posF_lt (s := s) (f := f) (t := s.e) hl (by exact hl) (by exact hr) (Nat.le_refl _) (Nat.le_refl _) (fun e => hne e.symm)
      omega
    subst e
    rw [fpot_end]
    exact ⟨⟨rfl, rfl⟩, ⟨rfl, rfl⟩, rfl⟩
  | succ k ih =>
    intro f hl hr hj h0
    rw [fbrF]
    by_cases hne : f = s.e
    · subst hne
      rw [if_pos rfl, fpot_end]
      exact ⟨⟨rfl, rfl⟩, ⟨rfl, rfl⟩, rfl⟩
    · rw [if_neg hne]
      obtain ⟨x, hx, hp1, hp2⟩ := fpot_hit hl hr hne h0
      cases hq : (fpg s f).find? (fbrP s f) with
      | none =>
        exfalso
        have := List.find?_eq_none.1 hq x hx
        unfold fbrP at this
        rw [decide_eq_true hp1, decide_eq_true hp2] at this
        exact this rfl
      | some y =>
        have hm := fpg_mem hl hr (List.mem_of_find?_eq_some hq)
        have hb := List.find?_some hq
        unfold fbrP at hb
        simp only [Bool.and_eq_true, decide_eq_true_eq] at hb
        have hp := posF_lt hl hm.l1 hm.r1 hm.l2 hm.r2 hm.ne
        obtain ⟨⟨c1, c2⟩, ⟨c3, c4⟩, c5⟩ := ih y.1 hm.l2 hm.r2 (by omega) hb.1
        obtain ⟨a1, a2⟩ := alone_step (p := s.L) hm.l1 hm.l2 hm.le c1 c2
        obtain ⟨b1, b2⟩ := alone_step (p := s.R) hm.r1 hm.r2 hm.re c3 c4
        simp only [List.map_cons]
        refine ⟨⟨a1, by rw [a2]⟩, ⟨b1, by rw [b2]⟩, ?_⟩
        rw [a2, b2]
        have := hm.co
        simp only
        omega
/-- T25: each side alone is broken possibly, what both cost is what the facing pages cost, and that is at least what both sides alone cost. -/
theorem facing_sides {s : FS} (h : FsOk s) (h0 : 0 ≤ fpot s (0, 0)) :
    (Chn s.L 0 (aloneF 0 ((fbr s).map (·.1))) ∧ (costF s.L 0 (aloneF 0 ((fbr s).map (·.1)))).2 = 0) ∧ (Chn s.R 0 (aloneF 0 ((fbr s).map (·.2))) ∧ (costF s.R 0 (aloneF 0 ((fbr s).map (·.2)))).2 = 0) ∧
    (costF s.L 0 (aloneF 0 ((fbr s).map (·.1)))).1 + (costF s.R 0 (aloneF 0 ((fbr s).map (·.2)))).1 = fpot s (0, 0) ∧ 0 ≤ pot s.L 0 ∧ 0 ≤ pot s.R 0 ∧ pot s.L 0 + pot s.R 0 ≤ fpot s (0, 0) := by
  obtain ⟨a, b, c⟩ := fbrF_ok (s := s) (totF s) (0, 0) (Nat.zero_le _) (Nat.zero_le _) posF_le h0
  have ha := pot_min h.l _ 0 a.1 a.2
  have hb := pot_min h.r _ 0 b.1 b.2
  refine ⟨a, b, c, ha.1, hb.1, ?_⟩
  have h1 := ha.2
  have h2 := hb.2
  simp only at h1 h2 c
  omega
/-- The error of facing pages. -/
def ancG (l r : Int) : Option (List Int) → List (List Int) → Int
  | _, [] => 0
  | pv, a :: t => if a.length ≠ 2 then 9 else if a.getD 0 0 < 0 ∨ l ≤ a.getD 0 0 ∨ a.getD 1 0 < 0 ∨ r ≤ a.getD 1 0 then 2
    else if (match pv with | none => false | some b => decide (a.getD 0 0 ≤ b.getD 0 0) || decide (a.getD 1 0 ≤ b.getD 1 0)) = true then 10 else ancG l r (some a) t
def fcI (s : FS) : Int := if ppI s.L ≠ 0 ∨ ppI s.R ≠ 0 then 1 else if 65536 < (s.L.n + 1) * (s.R.n + 1) then 4 else ancG s.L.n s.R.n none s.A
theorem fc_ok {s : FS} (h : fcI s = 0) : FsOk s := by
  unfold fcI at h
  split at h
  · cases h
  rename_i h1
  exact ⟨pp_ok (Classical.byContradiction fun e => h1 (.inl e)), pp_ok (Classical.byContradiction fun e => h1 (.inr e))⟩
end Go.Proofs.Ytlneimjenjpbnaa
