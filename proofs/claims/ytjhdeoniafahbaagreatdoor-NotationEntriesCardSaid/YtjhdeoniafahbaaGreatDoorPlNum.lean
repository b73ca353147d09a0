/-
  Plain: the occurrences ahead of a place, and how they grow from place to place. No program is named here.
-/
import Derived.Test.YtjhdeoniafahbaaGreatDoorJ02
namespace Go.Proofs.YtjhdeoniafahbaaGreatDoor

def ltB (q p : Nat × Nat) : Bool := decide (p.1 < q.1 ∨ (p.1 = q.1 ∧ p.2 < q.2))
/-- The pairs of l ahead of q. -/
def ahead (l : List (Nat × Nat)) (q : Nat × Nat) : List (Nat × Nat) := l.filter (ltB q)

theorem ahead_none {l : List (Nat × Nat)} {q : Nat × Nat} (h : ∀ p ∈ l, ltB q p = false) : ahead l q = [] := by
  unfold ahead
  rw [List.filter_eq_nil_iff]
  intro p hp
  rw [h p hp]; simp
theorem ahead_step (i j : Nat) : ∀ {l : List (Nat × Nat)}, l.Pairwise pLt → ahead l (i, j + 1) = ahead l (i, j) ++ (if (i, j) ∈ l then [(i, j)] else [])
  | [], _ => by simp [ahead]
  | y :: r, hs => by
    rw [List.pairwise_cons] at hs
    obtain ⟨ha, hr⟩ := hs
    have IH := ahead_step i j hr
    obtain ⟨a, b⟩ := y
    by_cases h1 : a < i ∨ (a = i ∧ b < j)
    · have e1 : ltB (i, j) (a, b) = true := by unfold ltB; simp; omega
      have e2 : ltB (i, j + 1) (a, b) = true := by unfold ltB; simp; omega
      have e3 : ¬ (i, j) = (a, b) := by simp; omega
      have e4 : ((i, j) ∈ (a, b) :: r) = ((i, j) ∈ r) := by simp [List.mem_cons]; omega
      unfold ahead at IH ⊢
      rw [List.filter_cons, List.filter_cons, if_pos e1, if_pos e2, IH]
      simp only [e4, List.cons_append]
    · have hgt : ∀ p ∈ r, ltB (i, j) p = false ∧ ltB (i, j + 1) p = false := by
        intro p hp
        have := ha p hp
        unfold pLt at this
        simp only at this
        unfold ltB
        simp only [decide_eq_false_iff_not]
        omega
      have f1 := ahead_none (l := r) (q := (i, j)) (fun p hp => (hgt p hp).1)
      have f2 := ahead_none (l := r) (q := (i, j + 1)) (fun p hp => (hgt p hp).2)
      have hnot : (i, j) ∉ r := by
        intro hm
        have := ha _ hm
        unfold pLt at this
        simp only at this
        omega
      by_cases h2 : a = i ∧ b = j
      · obtain ⟨rfl, rfl⟩ := h2
        have e1 : ltB (a, b) (a, b) = false := by unfold ltB; simp
        have e2 : ltB (a, b + 1) (a, b) = true := by unfold ltB; simp
        unfold ahead at f1 f2 ⊢
        rw [List.filter_cons, List.filter_cons, e1, e2, f1, f2]
        simp
      · have e1 : ltB (i, j) (a, b) = false := by unfold ltB; simp; omega
        have e2 : ltB (i, j + 1) (a, b) = false := by unfold ltB; simp; omega
        have e4 : (i, j) ∉ (a, b) :: r := by
          rw [List.mem_cons]
          rintro (h | h)
          · simp only [Prod.mk.injEq] at h; omega
          · exact hnot h
        unfold ahead at f1 f2 ⊢
        rw [List.filter_cons, List.filter_cons, e1, e2, f1, f2, if_neg e4]
        simp
theorem ahead_row {l : List (Nat × Nat)} {n : Nat} (h : ∀ p ∈ l, p.1 ≤ p.2 ∧ p.2 < n) (i : Nat) : ahead l (i + 1, i + 1) = ahead l (i, n) := by
  unfold ahead
  refine List.filter_congr fun p hp => ?_
  have := h p hp
  unfold ltB
  simp only [decide_eq_decide]
  omega
theorem ahead_zero (l : List (Nat × Nat)) : ahead l (0, 0) = [] := ahead_none fun p _ => by unfold ltB; simp
theorem ahead_all {l : List (Nat × Nat)} {n : Nat} (h : ∀ p ∈ l, p.1 ≤ p.2 ∧ p.2 < n) : ahead l (n, n) = l := by
  unfold ahead
  refine List.filter_eq_self.2 fun p hp => ?_
  have := h p hp
  unfold ltB
  simp only [decide_eq_true_eq]
  omega
theorem occ_in {ws : List ByteArray} {f l : ByteArray} : ∀ p ∈ occ ws f l, p.1 ≤ p.2 ∧ p.2 < ws.length := by
  intro p hp
  rw [mem_occ] at hp
  obtain ⟨h1, h2⟩ := hp
  have h3 := (List.getElem?_eq_some_iff.1 h1).1
  split at h2
  · omega
  · have h4 := (List.getElem?_eq_some_iff.1 h2.2).1
    omega
/-- The pairs that the statement collects are the occurrences. -/
theorem occ_mem {ws : List ByteArray} (hv : ∀ s ∈ ws, s.size ≠ 0) {a b : Nat} (h1 : a < b) (_h2 : b ≤ ws.length) {i j : Nat} (hij : i ≤ j) (_hj : j < ws.length) {si sj s1 s2 : ByteArray}
    (ei : ws[i]? = some si) (ej : ws[j]? = some sj) (e1 : ws[a]? = some s1) (e2 : ws[b - 1]? = some s2) :
    (i, j) ∈ occ ws (ws.getD a ⟨#[]⟩) (lastW ws a b) ↔ si = s1 ∧ sj = s2 ∧ (i = j ↔ b - a = 1) := by
  have g1 : ws.getD a ⟨#[]⟩ = s1 := by rw [List.getD_eq_getElem?_getD, e1]; rfl
  have g2 : ws.getD (b - 1) ⟨#[]⟩ = s2 := by rw [List.getD_eq_getElem?_getD, e2]; rfl
  rw [mem_occ, g1]
  simp only [ei, ej, Option.some.injEq]
  unfold lastW
  by_cases h : b - a = 1
  · rw [if_pos h, if_pos (show (⟨#[]⟩ : ByteArray).size = 0 from rfl)]
    have hb : b - 1 = a := by omega
    rw [hb, e1] at e2
    cases e2
    constructor
    · rintro ⟨rfl, rfl⟩
      rw [ei] at ej
      cases ej
      exact ⟨rfl, rfl, by simp [h]⟩
    · rintro ⟨h3, h4, h5⟩
      exact ⟨h3, (h5.2 h).symm⟩
  · rw [if_neg h, g2, if_neg (hv _ (List.mem_of_getElem? e2))]
    constructor
    · rintro ⟨h3, h4, h5⟩
      exact ⟨h3, h5, ⟨fun e => absurd e (by omega), fun e => absurd e h⟩⟩
    · rintro ⟨h3, h4, h5⟩
      exact ⟨h3, by have : i ≠ j := fun e => h (h5.1 e); omega, h4⟩
theorem mem_len {l : List (Nat × Nat)} {q : Nat × Nat} : (ahead l q).length ≤ l.length := List.length_filter_le _ _
theorem numP_pos_of {l : List (Nat × Nat)} {p : Nat × Nat} (hs : l.Pairwise pLt) (hm : p ∈ l) : 1 ≤ numP p l := by
  obtain ⟨j, hj⟩ := List.getElem?_of_mem hm
  rw [numP_at hs hj]; omega
end Go.Proofs.YtjhdeoniafahbaaGreatDoor
