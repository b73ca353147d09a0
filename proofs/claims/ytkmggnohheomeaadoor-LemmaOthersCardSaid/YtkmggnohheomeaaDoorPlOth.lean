/-
  Plain: a further word in a list moves the occurrences, and nothing else (P43.7). No program is named here.
-/
import Derived.Test.YtkmggnohheomeaaDoorLFound
namespace Go.Proofs.YtkmggnohheomeaaDoor

def sh (k i : Nat) : Nat := if k ≤ i then i + 1 else i
def insW (ws : List ByteArray) (k : Nat) (o : ByteArray) : List ByteArray := ws.take k ++ o :: ws.drop k
theorem insW_len {ws : List ByteArray} {k : Nat} (h : k ≤ ws.length) (o : ByteArray) : (insW ws k o).length = ws.length + 1 := by
  unfold insW; simp; omega
theorem insW_get {ws : List ByteArray} {k : Nat} (h : k ≤ ws.length) (o : ByteArray) (i : Nat) : (insW ws k o)[i]? = if i < k then ws[i]? else if i = k then some o else ws[i - 1]? := by
  unfold insW
  have hl : (ws.take k).length = k := by simp; omega
  by_cases h1 : i < k
  · rw [if_pos h1, List.getElem?_append_left (by omega), List.getElem?_take, if_pos h1]
  · rw [if_neg h1, List.getElem?_append_right (by omega), hl]
    by_cases h2 : i = k
    · rw [if_pos h2, h2, Nat.sub_self]; rfl
    · rw [if_neg h2, show i - k = (i - k - 1) + 1 by omega, List.getElem?_cons_succ, List.getElem?_drop]
      congr 1; omega
theorem insW_sh {ws : List ByteArray} {k : Nat} (h : k ≤ ws.length) (o : ByteArray) (i : Nat) : (insW ws k o)[sh k i]? = ws[i]? := by
  rw [insW_get h]
  unfold sh
  by_cases h1 : k ≤ i
  · rw [if_pos h1, if_neg (by omega), if_neg (by omega), Nat.add_sub_cancel]
  · rw [if_neg h1, if_pos (by omega)]
theorem insW_is {ws : List ByteArray} {k : Nat} (h : k ≤ ws.length) {o x : ByteArray} (hx : x ≠ o) {i : Nat} (hi : (insW ws k o)[i]? = some x) : ∃ j, i = sh k j ∧ ws[j]? = some x := by
  rw [insW_get h] at hi
  by_cases h1 : i < k
  · rw [if_pos h1] at hi
    exact ⟨i, by unfold sh; rw [if_neg (by omega)], hi⟩
  · rw [if_neg h1] at hi
    by_cases h2 : i = k
    · rw [if_pos h2] at hi
      exact absurd (Option.some.inj hi).symm hx
    · rw [if_neg h2] at hi
      exact ⟨i - 1, by unfold sh; rw [if_pos (by omega)]; omega, hi⟩
theorem insW_mem {ws : List ByteArray} {k : Nat} {o s : ByteArray} (h : s ∈ insW ws k o) : s = o ∨ s ∈ ws := by
  unfold insW at h
  rw [List.mem_append, List.mem_cons] at h
  rcases h with h | h | h
  · exact .inr (List.mem_of_mem_take h)
  · exact .inl h
  · exact .inr (List.mem_of_mem_drop h)
theorem pl_ext : ∀ {l m : List (Nat × Nat)}, l.Pairwise pLt → m.Pairwise pLt → (∀ p, p ∈ l ↔ p ∈ m) → l = m
  | [], [], _, _, _ => rfl
  | [], y :: r, _, _, h => by have := (h y).2 (by simp); cases this
  | x :: r, [], _, _, h => by have := (h x).1 (by simp); cases this
  | x :: l, y :: m, hl, hm, h => by
    rw [List.pairwise_cons] at hl hm
    have e : x = y := by
      have h1 := (h x).1 (by simp)
      have h2 := (h y).2 (by simp)
      rw [List.mem_cons] at h1 h2
      rcases h1 with h1 | h1
      · exact h1
      · rcases h2 with h2 | h2
        · exact h2.symm
        · have a := hm.1 x h1
          have b := hl.1 y h2
          unfold pLt at a b
          omega
    subst e
    congr 1
    refine pl_ext hl.2 hm.2 fun p => ?_
    have := h p
    rw [List.mem_cons, List.mem_cons] at this
    constructor
    · intro hp
      rcases this.1 (.inr hp) with rfl | h2
      · exact absurd rfl (pLt_irrefl (hl.1 _ hp))
      · exact h2
    · intro hp
      rcases this.2 (.inr hp) with rfl | h2
      · exact absurd rfl (pLt_irrefl (hm.1 _ hp))
      · exact h2
def shP (k : Nat) (p : Nat × Nat) : Nat × Nat := (sh k p.1, sh k p.2)
theorem sh_lt {k i j : Nat} : sh k i < sh k j ↔ i < j := by
  unfold sh; split <;> split <;> omega
theorem sh_eq {k i j : Nat} : sh k i = sh k j ↔ i = j := by
  unfold sh; split <;> split <;> omega
theorem shP_lt {k : Nat} {p q : Nat × Nat} (h : pLt p q) : pLt (shP k p) (shP k q) := by
  unfold pLt shP at *
  simp only [sh_lt, sh_eq]
  exact h
theorem shP_inj {k : Nat} {p q : Nat × Nat} (h : shP k p = shP k q) : p = q := by
  obtain ⟨a, b⟩ := p
  obtain ⟨c, d⟩ := q
  unfold shP at h
  simp only [Prod.mk.injEq, sh_eq] at h
  rw [h.1, h.2]
theorem occ_ins {ws : List ByteArray} {k : Nat} (h : k ≤ ws.length) {o f l : ByteArray} (hf : f ≠ o) (hl : l.size = 0 ∨ l ≠ o) : occ (insW ws k o) f l = (occ ws f l).map (shP k) := by
  refine pl_ext (occ_sorted _ _ _) ?_ fun p => ?_
  · rw [List.pairwise_map]
    exact (occ_sorted ws f l).imp fun h => shP_lt h
  · rw [mem_occ, List.mem_map]
    constructor
    · rintro ⟨h1, h2⟩
      obtain ⟨i, hi, h3⟩ := insW_is h hf h1
      by_cases h0 : l.size = 0
      · rw [if_pos h0] at h2
        refine ⟨(i, i), ?_, ?_⟩
        · rw [mem_occ, if_pos h0]; exact ⟨h3, rfl⟩
        · unfold shP; obtain ⟨a, b⟩ := p; simp only at hi h2 ⊢; rw [← hi, h2]
      · rw [if_neg h0] at h2
        have hlo : l ≠ o := by
          rcases hl with h | h
          · exact absurd h h0
          · exact h
        obtain ⟨j, hj, h4⟩ := insW_is h hlo h2.2
        refine ⟨(i, j), ?_, ?_⟩
        · rw [mem_occ, if_neg h0]
          refine ⟨h3, ?_, h4⟩
          have := h2.1
          rw [hi, hj, sh_lt] at this
          exact this
        · unfold shP; obtain ⟨a, b⟩ := p; simp only at hi hj ⊢; rw [← hi, ← hj]
    · rintro ⟨q, hq, rfl⟩
      rw [mem_occ] at hq
      obtain ⟨h1, h2⟩ := hq
      unfold shP
      simp only
      refine ⟨by rw [insW_sh h]; exact h1, ?_⟩
      by_cases h0 : l.size = 0
      · rw [if_pos h0] at h2 ⊢; rw [h2]
      · rw [if_neg h0] at h2 ⊢
        rw [sh_lt, insW_sh h]; exact h2
theorem numGo_map (k : Nat) (p : Nat × Nat) : ∀ (l : List (Nat × Nat)) (n c : Nat), numGo (shP k p) n c (l.map (shP k)) = numGo p n c l
  | [], _, _ => rfl
  | x :: r, n, c => by
    rw [List.map_cons, numGo, numGo, numGo_map k p r]
    by_cases h : x = p
    · rw [if_pos h, if_pos (by rw [h])]
    · rw [if_neg h, if_neg (fun e => h (shP_inj e))]
theorem ofNum_map (k : Nat) (p : Nat × Nat) (l : List (Nat × Nat)) : ofNum (l.map (shP k)) (shP k p) = ofNum l p := by
  unfold ofNum numP
  rw [List.length_map, numGo_map]
/-- P43.7, plainly: what the number of the part a .. b - 1 finds in the longer list. -/
theorem others_plain {ws : List ByteArray} (hv : ∀ s ∈ ws, s.size ≠ 0) (hlen : ws.length ≤ 12) {a b k : Nat} (h1 : a < b) (h2 : b ≤ ws.length) (h : k ≤ ws.length) {o : ByteArray} (hf : ws.getD a ⟨#[]⟩ ≠ o) (hl : ws.getD (b - 1) ⟨#[]⟩ ≠ o) :
    findE (occ (insW ws k o) (ws.getD a ⟨#[]⟩) (lastW ws a b)) (ofNum (occ ws (ws.getD a ⟨#[]⟩) (lastW ws a b)) (a, b - 1)) = 0 ∧
    findF (occ (insW ws k o) (ws.getD a ⟨#[]⟩) (lastW ws a b)) (ofNum (occ ws (ws.getD a ⟨#[]⟩) (lastW ws a b)) (a, b - 1)) = (if k ≤ a then a + 1 else a) ∧
    findT (occ (insW ws k o) (ws.getD a ⟨#[]⟩) (lastW ws a b)) (ofNum (occ ws (ws.getD a ⟨#[]⟩) (lastW ws a b)) (a, b - 1)) = (if k < b then (b : Int) + 1 else b) := by
  have hm := part_mem hv h1 h2
  have hlw : (lastW ws a b).size = 0 ∨ lastW ws a b ≠ o := by
    unfold lastW
    split
    · exact .inl rfl
    · exact .inr hl
  have e := occ_ins h hf hlw
  have hm2 : shP k (a, b - 1) ∈ occ (insW ws k o) (ws.getD a ⟨#[]⟩) (lastW ws a b) := by rw [e]; exact List.mem_map.2 ⟨_, hm, rfl⟩
  have hb : (shP k (a, b - 1)).2 ≤ 1000 := by
    unfold shP sh; simp only; split <;> omega
  have := found_plain (occ_sorted (insW ws k o) (ws.getD a ⟨#[]⟩) (lastW ws a b)) hm2 hb
  rw [show ofNum (occ (insW ws k o) (ws.getD a ⟨#[]⟩) (lastW ws a b)) (shP k (a, b - 1)) = ofNum (occ ws (ws.getD a ⟨#[]⟩) (lastW ws a b)) (a, b - 1) by rw [e, ofNum_map]] at this
  obtain ⟨q1, q2, q3⟩ := this
  refine ⟨q1, q2, ?_⟩
  rw [q3]
  unfold shP sh
  simp only
  by_cases hk : k ≤ b - 1
  · rw [if_pos hk, if_pos (by omega)]; omega
  · rw [if_neg hk, if_neg (by omega)]; omega
theorem insW_check {ws : List ByteArray} {o : ByteArray} {k : Nat} (h : k ≤ ws.length) (hlen : ws.length ≤ 12) (hw : ∀ s ∈ ws, wordB s = true) (ho : wordB o = true) : lcheckI (insW ws k o) = 0 := by
  unfold lcheckI
  rw [if_neg (by rw [insW_len h]; omega), if_neg]
  intro hc
  obtain ⟨s, hs, h2⟩ := List.any_eq_true.1 hc
  rcases insW_mem hs with rfl | hs
  · rw [ho] at h2; cases h2
  · rw [hw s hs] at h2; cases h2
end Go.Proofs.YtkmggnohheomeaaDoor
