/-
  P42.4, the plain law: what is printed is parsed again, and the other way round.
-/
import Derived.Test.YtigaflmhdbgmdaaDoorParse
namespace Go.Proofs.YtigaflmhdbgmdaaDoor

theorem ba_ext {a b : ByteArray} (h : a.data.toList = b.data.toList) : a = b := by
  cases a; cases b; simp only [ByteArray.mk.injEq]; exact Array.toList_inj.1 h
theorem map_data_inj {l m : List ByteArray} (h : l.map (·.data.toList) = m.map (·.data.toList)) : l = m := (List.map_inj_right fun _ _ e => ba_ext e).1 h

theorem letters_all : ∀ {l : List UInt8}, lettersI l = l.length → ∀ c ∈ l, isLet c = true := by
  intro l h c hc
  unfold lettersI at h
  have h2 : (l.filter isLet).length = l.length := by omega
  exact List.length_filter_eq_length_iff.1 h2 c hc
theorem name_no {s : ByteArray} (h : isNameB s = true) : s.size ≠ 0 ∧ s.size ≤ 16 ∧ (32 : UInt8) ∉ s.data.toList := by
  unfold isNameB at h
  simp only [Bool.and_eq_true, decide_eq_true_eq] at h
  refine ⟨h.1.1, h.1.2, fun hm => ?_⟩
  have := letters_all (l := s.data.toList) (by rw [h.2]; rfl) _ hm
  exact absurd this (by decide)
theorem sig_no {s : ByteArray} (h : sigB s = true) : s.size ≠ 0 ∧ s.size ≤ 16 ∧ (32 : UInt8) ∉ s.data.toList := by
  unfold sigB at h
  simp only [Bool.and_eq_true, Bool.or_eq_true, decide_eq_true_eq] at h
  obtain ⟨h1, h2⟩ := h
  have hn := name_no h1
  have hle := cutStar_le s
  unfold cutStar at hn h2
  by_cases hc : 1 ≤ s.size ∧ (s.extract (s.size - 1) s.size).toList = [42]
  · rw [if_pos hc] at hn h2
    have h3 : s.size ≤ 16 := by simpa using h2
    refine ⟨by omega, h3, fun hm => ?_⟩
    have e : s.data.toList = (s.extract 0 (s.size - 1)).data.toList ++ (s.extract (s.size - 1) s.size).data.toList := by
      rw [Lib.extract_from_zero, Lib.extract_to_end, List.take_append_drop]
    rw [e] at hm
    rcases List.mem_append.1 hm with hm | hm
    · exact hn.2.2 hm
    · rw [← ByteArray.toList_eq, hc.2] at hm
      exact absurd hm (by decide)
  · rw [if_neg hc] at hn
    exact hn
theorem printI_ok {l : List ByteArray} (h : printI l = 0) : l.length ≤ 64 ∧ ∀ x ∈ l, sigB x = true := by
  unfold printI at h
  split at h
  · cases h
  · split at h
    · rename_i h2; exact ⟨by omega, fun x hx => List.all_eq_true.1 h2 x hx⟩
    · cases h
theorem printI_cases {l : List ByteArray} (h : l.length ≤ 64) : printI l = 0 ∨ printI l = 14 ∧ printS l = ⟨#[]⟩ := by
  unfold printS printI
  rw [if_neg (by omega)]
  split
  · exact .inl rfl
  · exact .inr ⟨rfl, rfl⟩
theorem lens_le (l : List ByteArray) (h : ∀ x ∈ l, x.size ≤ 16) : Lib.lens (l.map (·.data.toList)) ≤ l.length * 16 := by
  induction l with
  | nil => simp [Lib.lens]
  | cons x l ih =>
    have h1 := h x (by simp)
    have h2 := ih fun y hy => h y (by simp [hy])
    have h3 : x.data.toList.length = x.size := rfl
    simp only [Lib.lens, List.map_cons, List.sum_cons, List.length_cons] at h2 ⊢
    omega
theorem join_len {l : List ByteArray} (h : printI l = 0) : (Lib.join (l.map (·.data.toList)) [32]).length ≤ l.length * 17 := by
  obtain ⟨_, hs⟩ := printI_ok h
  have hl := lens_le l fun x hx => (sig_no (hs x hx)).2.1
  cases l with
  | nil => simp [Lib.join_nil]
  | cons x l =>
    rw [List.map_cons, Lib.join_length]
    rw [List.map_cons] at hl
    simp only [List.length_cons, List.length_map, List.length_nil] at hl ⊢
    omega
theorem split_joinB {l : List ByteArray} (h : printI l = 0) (hne : l ≠ []) : splitS (joinB l) = l := by
  obtain ⟨_, hs⟩ := printI_ok h
  apply map_data_inj
  rw [splitS_data]
  show cutL 32 (Lib.join (l.map (·.data.toList)) [32]) = _
  cases l with
  | nil => exact absurd rfl hne
  | cons x l =>
    rw [List.map_cons]
    refine cut_join fun y hy => ?_
    rw [← List.map_cons (f := fun (x : ByteArray) => x.data.toList)] at hy
    obtain ⟨z, hz, rfl⟩ := List.mem_map.1 hy
    exact (sig_no (hs z hz)).2.2
theorem hole_no {l : List ByteArray} (h : ∀ x ∈ l, x.size ≠ 0) : holeB l = false := by
  unfold holeB
  rw [List.any_eq_false]
  intro x hx e
  exact h x hx (by rw [← of_decide_eq_true e]; rfl)

/-- What is printed is parsed to the sigla. -/
theorem parse_print {l : List ByteArray} (h : printI l = 0) : parseI (joinB l) = 0 ∧ parseL (joinB l) = l := by
  obtain ⟨h64, hs⟩ := printI_ok h
  have hj : (joinB l).size ≤ l.length * 17 := join_len h
  by_cases hne : l = []
  · subst hne; exact ⟨rfl, rfl⟩
  have hsp := split_joinB h hne
  have h0 : ¬ (joinB l).size = 0 := fun e => by
    obtain ⟨x, hx⟩ := List.exists_mem_of_ne_nil l hne
    have := splitS_size (joinB l) x (by rw [hsp]; exact hx)
    have := (sig_no (hs x hx)).1
    omega
  have hI : parseI (joinB l) = 0 := by
    unfold parseI
    rw [if_neg (by omega), if_neg h0, hsp, hole_no fun x hx => (sig_no (hs x hx)).1]
    exact h
  exact ⟨hI, by unfold parseL; rw [if_neg h0, if_pos hI, hsp]⟩

theorem parse_cases (s : ByteArray) (h : s.size ≤ 60) : parseI s = 0 ∨ (parseI s = 3 ∨ parseI s = 14) ∧ parseL s = [] := by
  have hl := splitS_len s
  unfold parseL
  by_cases h0 : s.size = 0
  · left; unfold parseI; rw [if_neg (by omega), if_pos h0]
  have e : parseI s = if holeB (splitS s) = true then 3 else printI (splitS s) := by unfold parseI; rw [if_neg (by omega), if_neg h0]
  rw [if_neg h0]
  by_cases hh : holeB (splitS s) = true
  · right; rw [e, if_pos hh]; exact ⟨.inl rfl, rfl⟩
  · rw [e, if_neg hh]
    rcases printI_cases (l := splitS s) (by omega) with h | ⟨h, _⟩
    · exact .inl h
    · right; rw [h]; exact ⟨.inr rfl, rfl⟩
theorem print_parse {s : ByteArray} (h : parseI s = 0) : printI (parseL s) = 0 ∧ printS (parseL s) = s := by
  by_cases h0 : s.size = 0
  · have : s = ⟨#[]⟩ := by
      rcases s with ⟨a⟩
      congr 1
      exact Array.eq_empty_of_size_eq_zero h0
    subst this
    exact ⟨rfl, rfl⟩
  · have hL : parseL s = splitS s := by unfold parseL; rw [if_neg h0, if_pos h]
    rw [hL]
    have hp : printI (splitS s) = 0 := by
      unfold parseI at h
      split at h
      · cases h
      · split at h
        · cases h
        · exact h
    exact ⟨hp, by unfold printS; rw [if_pos hp, joinB_split]⟩
end Go.Proofs.YtigaflmhdbgmdaaDoor
