/-
  Plain: page problems, the costs of pages, the least costs of the rests, the ends of pages that are found. No step of a program is in sight here.
-/
import Derived.Laws.Rows
namespace Go.Proofs.Ytalpgilncohkbaa

structure PP where
  lines : List Int
  notes : List (List Int)
  pens : List Int
  h : Int
  gap : Int
def PP.n (p : PP) : Nat := p.lines.length
def lgB (n : Int) : Bool := decide (0 ≤ n) && decide (n ≤ 1073741824)
def pnB (n : Int) : Bool := decide (0 ≤ n) && decide (n ≤ 10000)
def PP.nb (p : PP) : Nat := (p.notes.headD []).length
/-- The error of a page problem. -/
def ppI (p : PP) : Int :=
  if 4096 < p.lines.length then 4 else if p.notes.length ≠ p.lines.length ∨ p.pens.length ≠ p.lines.length then 9
  else if (p.notes.any fun l => decide (l.length ≠ p.nb)) = true then 9 else if 16 < p.nb then 4
  else if (p.lines.any fun n => !lgB n) = true ∨ (p.notes.any fun l => l.any fun n => !lgB n) = true ∨ (p.pens.any fun n => !pnB n) = true ∨ p.h < 1 ∨ lgB p.h = false ∨ lgB p.gap = false then 2 else 0
structure PpOk (p : PP) : Prop where
  n4 : p.lines.length ≤ 4096
  nl : p.notes.length = p.lines.length
  pl : p.pens.length = p.lines.length
  nr : ∀ l ∈ p.notes, l.length = p.nb
  nb : p.nb ≤ 16
  ls : ∀ n ∈ p.lines, 0 ≤ n ∧ n ≤ 1073741824
  ns : ∀ l ∈ p.notes, ∀ n ∈ l, 0 ≤ n ∧ n ≤ 1073741824
  ps : ∀ n ∈ p.pens, 0 ≤ n ∧ n ≤ 10000
  h1 : 1 ≤ p.h
  h2 : p.h ≤ 1073741824
  g0 : 0 ≤ p.gap
  g1 : p.gap ≤ 1073741824
theorem lgB_iff {n : Int} : lgB n = true ↔ 0 ≤ n ∧ n ≤ 1073741824 := by unfold lgB; simp
theorem pnB_iff {n : Int} : pnB n = true ↔ 0 ≤ n ∧ n ≤ 10000 := by unfold pnB; simp
theorem any_no {α : Type} {p : α → Bool} {l : List α} (h : ¬ (l.any fun x => !p x) = true) : ∀ x ∈ l, p x = true := fun x hx => by
  cases hp : p x with
  | true => rfl
  | false => exact absurd (List.any_eq_true.2 ⟨x, hx, by rw [hp]; rfl⟩) h
theorem pp_ok {p : PP} (h : ppI p = 0) : PpOk p := by
  unfold ppI at h
  split at h
  · cases h
  split at h
  · cases h
  split at h
  · cases h
  split at h
  · cases h
  split at h
  · cases h
  rename_i h1 h2 h3 h4 h5
  have h6 : ¬ (p.lines.any fun n => !lgB n) = true := fun e => h5 (.inl e)
  have h7 : ¬ (p.notes.any fun l => l.any fun n => !lgB n) = true := fun e => h5 (.inr (.inl e))
  have h8 : ¬ (p.pens.any fun n => !pnB n) = true := fun e => h5 (.inr (.inr (.inl e)))
  have h9 : ¬ p.h < 1 := fun e => h5 (.inr (.inr (.inr (.inl e))))
  have h10 : lgB p.h = true := by
    cases e : lgB p.h with
    | true => rfl
    | false => exact absurd (.inr (.inr (.inr (.inr (.inl e))))) h5
  have h11 : lgB p.gap = true := by
    cases e : lgB p.gap with
    | true => rfl
    | false => exact absurd (.inr (.inr (.inr (.inr (.inr e))))) h5
  rw [lgB_iff] at h10 h11
  refine ⟨by omega, by omega, by omega, fun l hl => ?_, by omega, fun n hn => lgB_iff.1 (any_no h6 n hn), fun l hl n hn => ?_, fun n hn => pnB_iff.1 (any_no h8 n hn), by omega, h10.2, h11.1, h11.2⟩
  · exact Classical.byContradiction fun e => h3 (List.any_eq_true.2 ⟨l, hl, decide_eq_true e⟩)
  · refine lgB_iff.1 ?_
    cases e : lgB n with
    | true => rfl
    | false => exact absurd (List.any_eq_true.2 ⟨l, hl, List.any_eq_true.2 ⟨n, hn, by rw [e]; rfl⟩⟩) h7

/-- The sum of the first k numbers. -/
def sumTo (l : List Int) (k : Nat) : Int := (l.take k).sum
theorem sumTo_succ {l : List Int} {k : Nat} {x : Int} (h : l[k]? = some x) : sumTo l (k + 1) = sumTo l k + x := by
  unfold sumTo
  rw [List.take_add_one, h, List.sum_append]
  simp
theorem sumTo_zero (l : List Int) : sumTo l 0 = 0 := rfl
theorem sumTo_bd {l : List Int} (h : ∀ x ∈ l, 0 ≤ x ∧ x ≤ 1073741824) : ∀ k, 0 ≤ sumTo l k ∧ sumTo l k ≤ (k : Int) * 1073741824
  | 0 => by rw [sumTo_zero]; omega
  | k + 1 => by
    have ih := sumTo_bd h k
    cases hx : l[k]? with
    | none =>
      have e : sumTo l (k + 1) = sumTo l k := by
        unfold sumTo
        rw [List.take_add_one, hx]; simp
      rw [e]; omega
    | some x =>
      rw [sumTo_succ hx]
      have := h x (List.mem_of_getElem? hx)
      omega
theorem sumTo_mono {l : List Int} (h : ∀ x ∈ l, 0 ≤ x ∧ x ≤ 1073741824) (i : Nat) : ∀ d, sumTo l i ≤ sumTo l (i + d)
  | 0 => Int.le_refl _
  | d + 1 => by
    have ih := sumTo_mono h i d
    cases hx : l[i + d]? with
    | none =>
      have e : sumTo l (i + (d + 1)) = sumTo l (i + d) := by
        unfold sumTo
        rw [← Nat.add_assoc, List.take_add_one, hx]; simp
      rw [e]; exact ih
    | some x =>
      rw [← Nat.add_assoc, sumTo_succ hx]
      have := h x (List.mem_of_getElem? hx)
      omega
/-- The numbers of a block. -/
def col (p : PP) (b : Nat) : List Int := p.notes.map fun l => l.getD b 0
/-- What the first k blocks add to the height. -/
def blkH (p : PP) (f t : Nat) : Nat → Int
  | 0 => 0
  | k + 1 => blkH p f t k + (if 0 < sumTo (col p k) t - sumTo (col p k) f then sumTo (col p k) t - sumTo (col p k) f + p.gap else 0)
def hgt (p : PP) (f t : Nat) : Int := (sumTo p.lines t - sumTo p.lines f) + blkH p f t p.nb
/-- How bad a change is. -/
def badI (c t : Int) : Int := if c = 0 then 0 else ((min 10000 (c.toNat * c.toNat * c.toNat * 100 / (t.toNat * t.toNat * t.toNat)) : Nat) : Int)
theorem badI_bd (c t : Int) : 0 ≤ badI c t ∧ badI c t ≤ 10000 := by
  unfold badI
  split
  · omega
  · have h1 : min 10000 (c.toNat * c.toNat * c.toNat * 100 / (t.toNat * t.toNat * t.toNat)) ≤ 10000 := Nat.min_le_left _ _
    generalize min 10000 (c.toNat * c.toNat * c.toNat * 100 / (t.toNat * t.toNat * t.toNat)) = q at *
    omega
/-- The cost of a page, or why it is not possible. -/
def pgI (p : PP) (f t : Nat) : Int × Int :=
  if p.h < hgt p f t then (0, 22) else if t = p.n then (0, 0) else if 10000 ≤ p.pens.getD (t - 1) 0 then (0, 23) else (badI (p.h - hgt p f t) p.h + p.pens.getD (t - 1) 0, 0)
theorem pens_bd {p : PP} (h : PpOk p) (i : Nat) : 0 ≤ p.pens.getD i 0 ∧ p.pens.getD i 0 ≤ 10000 := by
  rw [List.getD_eq_getElem?_getD]
  cases hx : p.pens[i]? with
  | none => exact ⟨Int.le_refl _, by show (0 : Int) ≤ 10000; omega⟩
  | some x => exact h.ps x (List.mem_of_getElem? hx)
theorem pgI_bd {p : PP} (h : PpOk p) (f t : Nat) : 0 ≤ (pgI p f t).1 ∧ (pgI p f t).1 ≤ 20000 := by
  unfold pgI
  split
  · exact ⟨Int.le_refl _, by show (0 : Int) ≤ 20000; omega⟩
  split
  · exact ⟨Int.le_refl _, by show (0 : Int) ≤ 20000; omega⟩
  split
  · exact ⟨Int.le_refl _, by show (0 : Int) ≤ 20000; omega⟩
  have := badI_bd (p.h - hgt p f t) p.h
  have := pens_bd h (t - 1)
  simp only
  omega
/-- The possible pages from a line on: from t on, for at most k further ends. -/
def pgsF (p : PP) (f : Nat) : Nat → Nat → List (Nat × Int)
  | _, 0 => []
  | t, k + 1 => if (pgI p f t).2 = 22 then [] else if (pgI p f t).2 = 0 then (t, (pgI p f t).1) :: pgsF p f (t + 1) k else pgsF p f (t + 1) k
def pgs (p : PP) (f : Nat) : List (Nat × Int) := pgsF p f (f + 1) (p.n - f)
/-- The least costs, one after the other. -/
def bestI {α : Type} (r : α → Int) (a : Int) (x : α × Int) : Int := if 0 ≤ r x.1 ∧ (a < 0 ∨ x.2 + r x.1 < a) then x.2 + r x.1 else a
/-- The least costs of the last j lines, of all from there on. -/
def tabP (p : PP) : Nat → List Int
  | 0 => [0]
  | j + 1 => (pgs p (p.n - (j + 1))).foldl (bestI fun t => (tabP p j).getD (t - (p.n - j)) 0) (-1) :: tabP p j
/-- The least cost of the lines from f on; -1 if there is none. -/
def pot (p : PP) (f : Nat) : Int := (tabP p p.n).getD f 0
theorem tabP_len (p : PP) : ∀ j, (tabP p j).length = j + 1
  | 0 => rfl
  | j + 1 => by rw [tabP, List.length_cons, tabP_len p j]
theorem tabP_drop (p : PP) : ∀ (d j : Nat), (tabP p (j + d)).drop d = tabP p j
  | 0, j => rfl
  | d + 1, j => by rw [← Nat.add_assoc, tabP, List.drop_succ_cons, tabP_drop p d j]
theorem tabP_at (p : PP) {j i : Nat} (hj : j ≤ p.n) : (tabP p j).getD i 0 = pot p (p.n - j + i) := by
  unfold pot
  have h := tabP_drop p (p.n - j) j
  rw [show j + (p.n - j) = p.n by omega] at h
  rw [← h, List.getD_eq_getElem?_getD, List.getD_eq_getElem?_getD, List.getElem?_drop]
theorem pot_end (p : PP) : pot p p.n = 0 := by
  have := tabP_at p (j := 0) (i := 0) (Nat.zero_le _)
  rw [Nat.sub_zero, Nat.add_zero] at this
  rw [← this]; rfl
theorem pgsF_mem {p : PP} {f : Nat} : ∀ {k t : Nat} {x : Nat × Int}, x ∈ pgsF p f t k → t ≤ x.1 ∧ x.1 < t + k ∧ pgI p f x.1 = (x.2, 0)
  | 0, t, x, h => by cases h
  | k + 1, t, x, h => by
    rw [pgsF] at h
    split at h
    · cases h
    split at h
    · rename_i h1 h2
      rcases List.mem_cons.1 h with rfl | h
      · exact ⟨Nat.le_refl _, by show t < t + (k + 1); omega, Prod.ext rfl h2⟩
      · have := pgsF_mem h
        exact ⟨by omega, by omega, this.2.2⟩
    · have := pgsF_mem h
      exact ⟨by omega, by omega, this.2.2⟩
theorem pgs_mem {p : PP} {f : Nat} {x : Nat × Int} (h : x ∈ pgs p f) : f < x.1 ∧ x.1 ≤ p.n ∧ pgI p f x.1 = (x.2, 0) := by
  have := pgsF_mem h
  exact ⟨by omega, by omega, this.2.2⟩
theorem pot_at (p : PP) {f : Nat} (hf : f < p.n) : pot p f = (pgs p f).foldl (bestI (pot p)) (-1) := by
  obtain ⟨j, hj⟩ : ∃ j, p.n - f = j + 1 := ⟨p.n - f - 1, by omega⟩
  have h0 := tabP_at p (j := j + 1) (i := 0) (by omega)
  rw [show p.n - (j + 1) + 0 = f by omega] at h0
  rw [← h0, tabP, show p.n - (j + 1) = f by omega]
  show List.foldl _ _ _ = _
  have key : ∀ (l : List (Nat × Int)) (a : Int), (∀ x ∈ l, f < x.1) → l.foldl (bestI fun t => (tabP p j).getD (t - (p.n - j)) 0) a = l.foldl (bestI (pot p)) a := by
    intro l
    induction l with
    | nil => intro a _; rfl
    | cons x r ih =>
      intro a h
      have h1 := h x (by simp)
      have e : (tabP p j).getD (x.1 - (p.n - j)) 0 = pot p x.1 := by
        rw [tabP_at p (by omega)]
        congr 1; omega
      have e2 : bestI (fun t => (tabP p j).getD (t - (p.n - j)) 0) a x = bestI (pot p) a x := by
        unfold bestI
        simp only [e]
      rw [List.foldl_cons, List.foldl_cons, e2]
      exact ih _ fun y hy => h y (by simp [hy])
  exact key _ _ fun x hx => (pgs_mem hx).1
/-- The fold finds the least. -/
theorem best_le {α : Type} {r : α → Int} : ∀ (l : List (α × Int)) (a : Int), (∀ x ∈ l, 0 ≤ x.2) → (0 ≤ a → 0 ≤ l.foldl (bestI r) a ∧ l.foldl (bestI r) a ≤ a) ∧ ∀ x ∈ l, 0 ≤ r x.1 → 0 ≤ l.foldl (bestI r) a ∧ l.foldl (bestI r) a ≤ x.2 + r x.1
  | [], a, _ => ⟨fun h => ⟨h, Int.le_refl _⟩, fun x hx => by cases hx⟩
  | y :: t, a, hc => by
    have hy := hc y (by simp)
    have ih := best_le (r := r) t (bestI r a y) fun x hx => hc x (by simp [hx])
    refine ⟨fun h => ?_, fun x hx h1 => ?_⟩
    · have h2 : 0 ≤ bestI r a y ∧ bestI r a y ≤ a := by
        unfold bestI
        split
        · rename_i hc; omega
        · exact ⟨h, Int.le_refl _⟩
      rw [List.foldl_cons]
      have := ih.1 h2.1
      omega
    · rw [List.foldl_cons]
      rcases List.mem_cons.1 hx with rfl | hx
      · have h2 : 0 ≤ bestI r a x ∧ bestI r a x ≤ x.2 + r x.1 := by
          unfold bestI
          split
          · rename_i hc; omega
          · rename_i hc
            have : ¬ (a < 0 ∨ x.2 + r x.1 < a) := fun e => hc ⟨h1, e⟩
            omega
        have := ih.1 h2.1
        omega
      · exact ih.2 x hx h1
theorem best_hit {α : Type} {r : α → Int} : ∀ (l : List (α × Int)) (a : Int), l.foldl (bestI r) a = a ∨ ∃ x ∈ l, 0 ≤ r x.1 ∧ l.foldl (bestI r) a = x.2 + r x.1
  | [], a => .inl rfl
  | y :: t, a => by
    rw [List.foldl_cons]
    rcases best_hit t (bestI r a y) with h | ⟨x, hx, h1, h2⟩
    · rw [h]
      unfold bestI
      split
      · rename_i hc; exact .inr ⟨y, by simp, hc.1, rfl⟩
      · exact .inl rfl
    · exact .inr ⟨x, by simp [hx], h1, h2⟩
theorem pgs_nn {p : PP} (h : PpOk p) {f : Nat} : ∀ x ∈ pgs p f, 0 ≤ x.2 := fun x hx => by
  have h1 := (pgs_mem hx).2.2
  have h2 := (pgI_bd h f x.1).1
  rw [h1] at h2
  exact h2
theorem pot_hit {p : PP} {f : Nat} (hf : f < p.n) (h0 : 0 ≤ pot p f) : ∃ x ∈ pgs p f, 0 ≤ pot p x.1 ∧ x.2 + pot p x.1 = pot p f := by
  rw [pot_at p hf] at h0
  rcases best_hit (r := pot p) (pgs p f) (-1) with h | ⟨x, hx, h1, h2⟩
  · rw [h] at h0; omega
  · exact ⟨x, hx, h1, by rw [pot_at p hf, h2]⟩
theorem pot_le {p : PP} (h : PpOk p) {f : Nat} (hf : f < p.n) {x : Nat × Int} (hx : x ∈ pgs p f) (h1 : 0 ≤ pot p x.1) : 0 ≤ pot p f ∧ pot p f ≤ x.2 + pot p x.1 := by
  rw [pot_at p hf]
  exact (best_le (pgs p f) (-1) (pgs_nn h)).2 x hx h1
theorem pot_bd {p : PP} (h : PpOk p) : ∀ (j f : Nat), f + j = p.n → -1 ≤ pot p f ∧ pot p f ≤ (j : Int) * 20000
  | 0, f, hf => by
    rw [show f = p.n by omega, pot_end]; omega
  | j + 1, f, hf => by
    by_cases h0 : 0 ≤ pot p f
    · obtain ⟨x, hx, h1, h2⟩ := pot_hit (by omega) h0
      have hm := pgs_mem hx
      have hb := pgI_bd h f x.1
      rw [hm.2.2] at hb
      have ih := pot_bd h (p.n - x.1) x.1 (by omega)
      have h3 : p.n - x.1 ≤ j := by omega
      have h4 : ((p.n - x.1 : Nat) : Int) * 20000 ≤ (j : Int) * 20000 := by omega
      simp only at hb
      omega
    · rw [pot_at p (by omega)] at h0 ⊢
      rcases best_hit (r := pot p) (pgs p f) (-1) with e | ⟨x, hx, h1, h2⟩
      · rw [e]; omega
      · exfalso
        have := pgs_nn h x hx
        omega
/-- Heights grow. -/
theorem col_bd {p : PP} (h : PpOk p) (b : Nat) : ∀ x ∈ col p b, 0 ≤ x ∧ x ≤ 1073741824 := by
  intro x hx
  unfold col at hx
  obtain ⟨l, hl, rfl⟩ := List.mem_map.1 hx
  rw [List.getD_eq_getElem?_getD]
  cases hq : l[b]? with
  | none => exact ⟨Int.le_refl _, by show (0 : Int) ≤ 1073741824; omega⟩
  | some y => exact h.ns l hl y (List.mem_of_getElem? hq)
theorem blkH_mono {p : PP} (h : PpOk p) (f t d : Nat) : ∀ k, blkH p f t k ≤ blkH p f (t + d) k
  | 0 => Int.le_refl _
  | k + 1 => by
    have ih := blkH_mono h f t d k
    have hm := sumTo_mono (col_bd h k) t d
    have g0 := h.g0
    unfold blkH
    split
    · rw [if_pos (by omega)]; omega
    · split
      · omega
      · omega
theorem hgt_mono {p : PP} (h : PpOk p) (f t d : Nat) : hgt p f t ≤ hgt p f (t + d) := by
  unfold hgt
  have h1 := sumTo_mono h.ls t d
  have h2 := blkH_mono h f t d p.nb
  omega
theorem pgI_22 {p : PP} {f t : Nat} : (pgI p f t).2 = 22 ↔ p.h < hgt p f t := by
  unfold pgI
  split
  · rename_i h; simp [h]
  · rename_i h
    split
    · simp; omega
    · split
      · simp; omega
      · simp; omega
theorem pgsF_in {p : PP} (h : PpOk p) {f : Nat} : ∀ (k t u : Nat), t ≤ u → u < t + k → (pgI p f u).2 = 0 → (u, (pgI p f u).1) ∈ pgsF p f t k
  | 0, t, u, h1, h2, _ => by omega
  | k + 1, t, u, h1, h2, h3 => by
    have hno : ¬ (pgI p f t).2 = 22 := fun e => by
      have h4 := pgI_22.1 e
      have h5 := hgt_mono h f t (u - t)
      rw [show t + (u - t) = u by omega] at h5
      have h6 : (pgI p f u).2 = 22 := pgI_22.2 (by omega)
      omega
    rw [pgsF, if_neg hno]
    by_cases htu : t = u
    · subst htu
      rw [if_pos h3]; simp
    · have ih := pgsF_in h k (t + 1) u (by omega) (by omega) h3
      split
      · exact List.mem_cons_of_mem _ ih
      · exact ih
theorem pgs_in {p : PP} (h : PpOk p) {f u : Nat} (h1 : f < u) (h2 : u ≤ p.n) (h3 : (pgI p f u).2 = 0) : (u, (pgI p f u).1) ∈ pgs p f := pgsF_in h _ _ u (by omega) (by omega) h3
/-- Ends of pages, one after the other, of the lines from f on. -/
def Chn (p : PP) : Nat → List Nat → Prop
  | f, [] => f = p.n
  | f, t :: r => f < t ∧ t ≤ p.n ∧ Chn p t r
def costF (p : PP) : Nat → List Nat → Int × Int
  | _, [] => (0, 0)
  | f, t :: r => if (pgI p f t).2 ≠ 0 then (0, (pgI p f t).2) else if (costF p t r).2 ≠ 0 then (0, (costF p t r).2) else ((pgI p f t).1 + (costF p t r).1, 0)
/-- No ends cost less than the least. -/
theorem pot_min {p : PP} (h : PpOk p) : ∀ (e : List Nat) (f : Nat), Chn p f e → (costF p f e).2 = 0 → 0 ≤ pot p f ∧ pot p f ≤ (costF p f e).1
  | [], f, hc, _ => by
    have : f = p.n := hc
    rw [this, pot_end]
    exact ⟨Int.le_refl _, Int.le_refl _⟩
  | t :: r, f, hc, h0 => by
    obtain ⟨h1, h2, h3⟩ := hc
    rw [costF] at h0 ⊢
    split at h0
    · rename_i he; exact absurd h0 he
    rename_i he
    have he : (pgI p f t).2 = 0 := Classical.not_not.1 he
    split at h0
    · rename_i hq; exact absurd h0 hq
    rename_i hq
    have hq : (costF p t r).2 = 0 := Classical.not_not.1 hq
    rw [if_neg (by rw [he]; simp), if_neg (by rw [hq]; simp)]
    have ih := pot_min h r t h3 hq
    have hl := pot_le h (by omega) (pgs_in h h1 h2 he) ih.1
    simp only at hl ⊢
    omega
/-- The ends that are found. -/
def brkP (p : PP) (f : Nat) (x : Nat × Int) : Bool := decide (0 ≤ pot p x.1) && decide (x.2 + pot p x.1 = pot p f)
def brkF (p : PP) : Nat → Nat → List Nat
  | 0, _ => []
  | k + 1, f => if p.n ≤ f then [] else match (pgs p f).find? (brkP p f) with
    | none => []
    | some x => x.1 :: brkF p k x.1
def brk (p : PP) : List Nat := brkF p p.n 0
theorem brkF_ok {p : PP} (h : PpOk p) : ∀ (k f : Nat), f ≤ p.n → p.n ≤ f + k → 0 ≤ pot p f → Chn p f (brkF p k f) ∧ costF p f (brkF p k f) = (pot p f, 0)
  | 0, f, h1, h2, _ => by
    have e : f = p.n := by omega
    exact ⟨e, by rw [e, pot_end]; rfl⟩
  | k + 1, f, h1, h2, h0 => by
    rw [brkF]
    by_cases hf : p.n ≤ f
    · have e : f = p.n := by omega
      rw [if_pos hf]
      exact ⟨e, by rw [e, pot_end]; rfl⟩
    · rw [if_neg hf]
      obtain ⟨x, hx, hp1, hp2⟩ := pot_hit (p := p) (f := f) (by omega) h0
      cases hq : (pgs p f).find? (brkP p f) with
      | none =>
        exfalso
        have := List.find?_eq_none.1 hq x hx
        unfold brkP at this
        rw [decide_eq_true hp1, decide_eq_true hp2] at this
        exact this rfl
      | some y =>
        have hy := List.mem_of_find?_eq_some hq
        have hb := List.find?_some hq
        unfold brkP at hb
        simp only [Bool.and_eq_true, decide_eq_true_eq] at hb
        obtain ⟨m1, m2, m3⟩ := pgs_mem hy
        obtain ⟨c1, c2⟩ := brkF_ok h k y.1 m2 (by omega) hb.1
        refine ⟨⟨m1, m2, c1⟩, ?_⟩
        show costF p f (y.1 :: brkF p k y.1) = _
        rw [costF, m3, c2]
        simp [hb.2]
end Go.Proofs.Ytalpgilncohkbaa
