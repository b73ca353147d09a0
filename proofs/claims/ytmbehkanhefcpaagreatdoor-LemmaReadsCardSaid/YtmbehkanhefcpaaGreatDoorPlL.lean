/-
  Plain: the occurrences of two words in a list, and the number of one of them. No program is named here.
-/
import Derived.Test.YtmbehkanhefcpaaGreatDoorHid
namespace Go.Proofs.YtmbehkanhefcpaaGreatDoor

def occIn (last : ByteArray) (i : Nat) : Nat → List ByteArray → List (Nat × Nat)
  | _, [] => []
  | k, s :: r => (if s = last then [(i, k)] else []) ++ occIn last i (k + 1) r
def occGo (first last : ByteArray) : Nat → List ByteArray → List (Nat × Nat)
  | _, [] => []
  | i, s :: r => (if s = first then (if last.size = 0 then [(i, i)] else occIn last i (i + 1) r) else []) ++ occGo first last (i + 1) r
/-- The occurrences of two words, or of one. -/
def occ (ws : List ByteArray) (first last : ByteArray) : List (Nat × Nat) := occGo first last 0 ws

theorem mem_occIn (last : ByteArray) (i : Nat) (p : Nat × Nat) : ∀ (l : List ByteArray) (k : Nat), p ∈ occIn last i k l ↔ p.1 = i ∧ k ≤ p.2 ∧ l[p.2 - k]? = some last
  | [], k => by simp [occIn]
  | s :: r, k => by
    rw [occIn, List.mem_append, mem_occIn last i p r (k + 1)]
    obtain ⟨a, b⟩ := p
    simp only
    by_cases hb : b = k
    · subst hb
      by_cases hs : s = last
      · simp [hs]; intro h; exact fun _ _ => h
      · simp [hs]; omega
    · have h1 : (a, b) ∉ (if s = last then [(i, k)] else []) := by split <;> simp [hb]
      constructor
      · rintro (h | ⟨h2, h3, h4⟩)
        · exact absurd h h1
        · refine ⟨h2, by omega, ?_⟩
          rw [show b - k = (b - (k + 1)) + 1 by omega, List.getElem?_cons_succ]; exact h4
      · rintro ⟨h2, h3, h4⟩
        refine .inr ⟨h2, by omega, ?_⟩
        rw [show b - k = (b - (k + 1)) + 1 by omega, List.getElem?_cons_succ] at h4; exact h4
theorem mem_occGo (first last : ByteArray) (p : Nat × Nat) : ∀ (l : List ByteArray) (i : Nat), p ∈ occGo first last i l ↔ i ≤ p.1 ∧ l[p.1 - i]? = some first ∧ (if last.size = 0 then p.2 = p.1 else p.1 < p.2 ∧ l[p.2 - i]? = some last)
  | [], i => by simp [occGo]
  | s :: r, i => by
    rw [occGo, List.mem_append, mem_occGo first last p r (i + 1)]
    obtain ⟨a, b⟩ := p
    simp only
    by_cases ha : a = i
    · subst ha
      by_cases hs : s = first
      · by_cases hl : last.size = 0
        · simp [hs, hl]; try omega
        · rw [if_pos hs, if_neg hl, mem_occIn, if_neg hl, if_neg hl]
          simp only [hs, Nat.sub_self, List.getElem?_cons_zero]
          constructor
          · rintro (⟨h1, h2, h3⟩ | ⟨h1, _⟩)
            · refine ⟨Nat.le_refl _, by first | rfl | trivial, by omega, ?_⟩
              rw [show b - a = (b - (a + 1)) + 1 by omega, List.getElem?_cons_succ]; exact h3
            · omega
          · rintro ⟨_, _, h2, h3⟩
            refine .inl ⟨trivial, by omega, ?_⟩
            rw [show b - a = (b - (a + 1)) + 1 by omega, List.getElem?_cons_succ] at h3; exact h3
      · simp [hs]; omega
    · have h1 : (a, b) ∉ (if s = first then (if last.size = 0 then [(i, i)] else occIn last i (i + 1) r) else []) := by
        split
        · split
          · simp [ha]
          · rw [mem_occIn]; simp [ha]
        · simp
      constructor
      · rintro (h | ⟨h2, h3, h4⟩)
        · exact absurd h h1
        · refine ⟨by omega, ?_, ?_⟩
          · rw [show a - i = (a - (i + 1)) + 1 by omega, List.getElem?_cons_succ]; exact h3
          · by_cases hl : last.size = 0
            · rw [if_pos hl] at h4 ⊢; exact h4
            · rw [if_neg hl] at h4 ⊢
              refine ⟨h4.1, ?_⟩
              rw [show b - i = (b - (i + 1)) + 1 by omega, List.getElem?_cons_succ]; exact h4.2
      · rintro ⟨h2, h3, h4⟩
        refine .inr ⟨by omega, ?_, ?_⟩
        · rw [show a - i = (a - (i + 1)) + 1 by omega, List.getElem?_cons_succ] at h3; exact h3
        · by_cases hl : last.size = 0
          · rw [if_pos hl] at h4 ⊢; exact h4
          · rw [if_neg hl] at h4 ⊢
            refine ⟨h4.1, ?_⟩
            have := h4.2
            rw [show b - i = (b - (i + 1)) + 1 by omega, List.getElem?_cons_succ] at this; exact this
theorem mem_occ {ws : List ByteArray} {first last : ByteArray} {p : Nat × Nat} : p ∈ occ ws first last ↔ ws[p.1]? = some first ∧ (if last.size = 0 then p.2 = p.1 else p.1 < p.2 ∧ ws[p.2]? = some last) := by
  unfold occ; rw [mem_occGo]; simp

/-- The order of the pairs. -/
def pLt (p q : Nat × Nat) : Prop := p.1 < q.1 ∨ (p.1 = q.1 ∧ p.2 < q.2)
theorem occIn_sorted (last : ByteArray) (i : Nat) : ∀ (l : List ByteArray) (k : Nat), (occIn last i k l).Pairwise pLt
  | [], k => by simp [occIn]
  | s :: r, k => by
    rw [occIn, List.pairwise_append]
    refine ⟨by split <;> simp, occIn_sorted last i r (k + 1), ?_⟩
    intro p hp q hq
    rw [mem_occIn] at hq
    split at hp
    · simp at hp; subst hp; exact .inr ⟨hq.1.symm, by omega⟩
    · simp at hp
theorem occGo_sorted (first last : ByteArray) : ∀ (l : List ByteArray) (i : Nat), (occGo first last i l).Pairwise pLt
  | [], i => by simp [occGo]
  | s :: r, i => by
    rw [occGo, List.pairwise_append]
    refine ⟨?_, occGo_sorted first last r (i + 1), ?_⟩
    · split
      · split
        · simp
        · exact occIn_sorted _ _ _ _
      · simp
    · intro p hp q hq
      rw [mem_occGo] at hq
      have : p.1 = i := by
        split at hp
        · split at hp
          · simp at hp; rw [hp]
          · rw [mem_occIn] at hp; exact hp.1
        · simp at hp
      exact .inl (by omega)
theorem occ_sorted (ws : List ByteArray) (first last : ByteArray) : (occ ws first last).Pairwise pLt := occGo_sorted _ _ _ _

theorem occIn_len (last : ByteArray) (i : Nat) : ∀ (l : List ByteArray) (k : Nat), (occIn last i k l).length ≤ l.length
  | [], k => by simp [occIn]
  | s :: r, k => by
    have := occIn_len last i r (k + 1)
    rw [occIn, List.length_append, List.length_cons]
    split <;> simp <;> omega
theorem occGo_len (first last : ByteArray) (n : Nat) : ∀ (l : List ByteArray) (i : Nat), l.length ≤ n → (occGo first last i l).length ≤ l.length * (n + 1)
  | [], i, _ => by simp [occGo]
  | s :: r, i, h => by
    have h1 := occGo_len first last n r (i + 1) (by simp at h; omega)
    have h2 := occIn_len last i r (i + 1)
    simp at h
    rw [occGo, List.length_append, List.length_cons, Nat.add_mul]
    split
    · split
      · simp; omega
      · omega
    · simp; omega
theorem occ_len {ws : List ByteArray} (h : ws.length ≤ 13) (first last : ByteArray) : (occ ws first last).length ≤ 182 := by
  have := occGo_len first last 13 ws 0 h
  have h2 : ws.length * 14 ≤ 13 * 14 := Nat.mul_le_mul_right _ h
  unfold occ; omega

/-- The place behind which the pair p stands in a list, from 1 on; 0 if it does not. -/
def numGo (p : Nat × Nat) : Nat → Nat → List (Nat × Nat) → Nat
  | n, _, [] => n
  | n, k, x :: r => numGo p (if x = p then k + 1 else n) (k + 1) r
def numP (p : Nat × Nat) (l : List (Nat × Nat)) : Nat := numGo p 0 0 l
theorem numGo_snoc (p x : Nat × Nat) : ∀ (l : List (Nat × Nat)) (n k : Nat), numGo p n k (l ++ [x]) = if x = p then k + l.length + 1 else numGo p n k l
  | [], n, k => by simp [numGo]
  | y :: r, n, k => by
    rw [List.cons_append, numGo, numGo_snoc p x r]
    split <;> simp [numGo] <;> omega
theorem numP_snoc (p x : Nat × Nat) (l : List (Nat × Nat)) : numP p (l ++ [x]) = if x = p then l.length + 1 else numP p l := by
  unfold numP; rw [numGo_snoc]; simp
theorem numGo_not (p : Nat × Nat) : ∀ (l : List (Nat × Nat)) (n k : Nat), p ∉ l → numGo p n k l = n
  | [], _, _, _ => rfl
  | y :: r, n, k, h => by
    rw [numGo, if_neg (fun e => h (by rw [e]; exact List.mem_cons_self)), numGo_not p r _ _ (fun hm => h (List.mem_cons_of_mem _ hm))]
theorem pLt_irrefl {p q : Nat × Nat} (h : pLt p q) : p ≠ q := by
  rintro rfl; rcases h with h | ⟨_, h⟩ <;> omega
theorem numGo_at (p : Nat × Nat) : ∀ (l : List (Nat × Nat)) (n k j : Nat), l.Pairwise pLt → l[j]? = some p → numGo p n k l = k + j + 1
  | [], _, _, _, _, h => by simp at h
  | y :: r, n, k, j, hs, h => by
    rw [List.pairwise_cons] at hs
    cases j with
    | zero =>
      simp at h; subst h
      rw [numGo, if_pos rfl, numGo_not _ _ _ _ (fun hm => pLt_irrefl (hs.1 _ hm) rfl)]
    | succ j =>
      rw [List.getElem?_cons_succ] at h
      rw [numGo, numGo_at p r _ _ j hs.2 h]; omega
theorem numP_at {p : Nat × Nat} {l : List (Nat × Nat)} (hs : l.Pairwise pLt) {j : Nat} (h : l[j]? = some p) : numP p l = j + 1 := by
  unfold numP; rw [numGo_at p l 0 0 j hs h, Nat.zero_add]
theorem numP_not {p : Nat × Nat} {l : List (Nat × Nat)} (h : p ∉ l) : numP p l = 0 := numGo_not _ _ _ _ h
theorem numP_pos {p : Nat × Nat} {l : List (Nat × Nat)} (h : 0 < numP p l) : p ∈ l := by
  refine Classical.byContradiction fun hn => ?_
  rw [numP_not hn] at h; omega
/-- A part of the list in which p has come tells its number. -/
theorem numP_part {p : Nat × Nat} {q r : List (Nat × Nat)} (hs : (q ++ r).Pairwise pLt) (h : 0 < numP p q) : numP p q = numP p (q ++ r) := by
  obtain ⟨j, hj⟩ := List.getElem?_of_mem (numP_pos h)
  rw [numP_at (List.pairwise_append.1 hs).1 hj]
  have hlt := (List.getElem?_eq_some_iff.1 hj).1
  exact (numP_at hs (by rw [List.getElem?_append_left hlt]; exact hj)).symm
theorem numP_le {p : Nat × Nat} {l : List (Nat × Nat)} (hs : l.Pairwise pLt) : numP p l ≤ l.length := by
  by_cases h : p ∈ l
  · obtain ⟨j, hj⟩ := List.getElem?_of_mem h
    have hlt := (List.getElem?_eq_some_iff.1 hj).1
    rw [numP_at hs hj]; omega
  · rw [numP_not h]; omega

/-- The number of a lemma. -/
def ofNum (l : List (Nat × Nat)) (p : Nat × Nat) : Nat := if l.length = 1 then 0 else numP p l
theorem ofNum_inj {l : List (Nat × Nat)} (hs : l.Pairwise pLt) {p q : Nat × Nat} (hp : p ∈ l) (hq : q ∈ l) (h : ofNum l p = ofNum l q) : p = q := by
  obtain ⟨i, hi⟩ := List.getElem?_of_mem hp
  obtain ⟨j, hj⟩ := List.getElem?_of_mem hq
  have h1 := (List.getElem?_eq_some_iff.1 hi).1
  have h2 := (List.getElem?_eq_some_iff.1 hj).1
  have e : i = j := by
    unfold ofNum at h
    split at h
    · omega
    · rw [numP_at hs hi, numP_at hs hj] at h; omega
  rw [e, hj] at hi
  exact (Option.some.inj hi).symm

/-- The first and the last word of a part. -/
def lastW (ws : List ByteArray) (a b : Nat) : ByteArray := if b - a = 1 then ⟨#[]⟩ else ws.getD (b - 1) ⟨#[]⟩
theorem part_mem {ws : List ByteArray} (hv : ∀ s ∈ ws, s.size ≠ 0) {a b : Nat} (h1 : a < b) (h2 : b ≤ ws.length) : (a, b - 1) ∈ occ ws (ws.getD a ⟨#[]⟩) (lastW ws a b) := by
  rw [mem_occ]
  have e1 : ws[a]? = some (ws.getD a ⟨#[]⟩) := by rw [List.getD_eq_getElem?_getD, List.getElem?_eq_getElem (by omega)]; rfl
  refine ⟨e1, ?_⟩
  unfold lastW
  by_cases h : b - a = 1
  · rw [if_pos h, if_pos (by rfl)]; show b - 1 = a; omega
  · rw [if_neg h]
    have e2 : ws[b - 1]? = some (ws.getD (b - 1) ⟨#[]⟩) := by rw [List.getD_eq_getElem?_getD, List.getElem?_eq_getElem (by omega)]; rfl
    rw [if_neg (hv _ (List.mem_of_getElem? e2))]
    exact ⟨by show a < b - 1; omega, e2⟩
/-- P43.3, plainly. -/
theorem only_plain {ws : List ByteArray} (hv : ∀ s ∈ ws, s.size ≠ 0) {a b c d : Nat} (h1 : a < b) (h2 : b ≤ ws.length) (h3 : c < d) (h4 : d ≤ ws.length)
    (e1 : ws.getD a ⟨#[]⟩ = ws.getD c ⟨#[]⟩) (e2 : lastW ws a b = lastW ws c d)
    (e3 : ofNum (occ ws (ws.getD a ⟨#[]⟩) (lastW ws a b)) (a, b - 1) = ofNum (occ ws (ws.getD c ⟨#[]⟩) (lastW ws c d)) (c, d - 1)) : a = c ∧ b = d := by
  have m1 := part_mem hv h1 h2
  have m2 := part_mem hv h3 h4
  rw [e1, e2] at m1 e3
  have h := ofNum_inj (occ_sorted _ _ _) m1 m2 e3
  simp only [Prod.mk.injEq] at h
  omega
end Go.Proofs.YtmbehkanhefcpaaGreatDoor
