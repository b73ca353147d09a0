/-
  Plain: a numeral and its value; the bytes of a word. No step of a program is in sight here.
-/
import Derived.Test.YtjhdeoniafahbaaGreatDoorWrd
import Derived.Lib.AtoiTie
import Derived.Lib.ItoaMem
namespace Go.Proofs.YtjhdeoniafahbaaGreatDoor

theorem decFrom_snoc (b : UInt8) (d : Nat) (hd : Lib.digitVal b = some d) : ∀ (l : List UInt8) (acc n : Nat), Lib.decFrom acc l = some n → Lib.decFrom acc (l ++ [b]) = some (n * 10 + d)
  | [], acc, n, h => by
    have e : acc = n := by simpa [Lib.decFrom] using h
    subst e
    simp [Lib.decFrom, hd]
  | c :: r, acc, n, h => by
    rw [List.cons_append]
    unfold Lib.decFrom at h ⊢
    cases hc : Lib.digitVal c with
    | none => rw [hc] at h; simp at h
    | some x =>
      rw [hc] at h
      simp only at h ⊢
      exact decFrom_snoc b d hd r _ n h
theorem digit_val (u : Nat) (h : u < 10) : Lib.digitVal (UInt8.ofNat (48 + u)) = some u := by
  unfold Lib.digitVal
  have e : (UInt8.ofNat (48 + u)).toNat = 48 + u := by
    rw [UInt8.toNat_ofNat']; omega
  rw [e, if_pos (by omega)]
  simp
theorem digits_ok (u : Nat) : Lib.decFrom 0 (Lib.decDigits u) = some u ∧ Lib.decDigits u ≠ [] ∧ ∀ c ∈ Lib.decDigits u, 48 ≤ c.toNat ∧ c.toNat ≤ 57 := by
  induction u using Nat.strongRecOn with
  | ind u ih =>
    rw [Lib.decDigits]
    split
    · rename_i h
      refine ⟨?_, by simp, fun c hc => ?_⟩
      · show Lib.decFrom 0 [UInt8.ofNat (48 + u)] = some u
        unfold Lib.decFrom
        rw [digit_val u h]
        simp [Lib.decFrom]
      · have e : c = UInt8.ofNat (48 + u) := by simpa using hc
        rw [e, UInt8.toNat_ofNat']; omega
    · rename_i h
      obtain ⟨h1, h2, h3⟩ := ih (u / 10) (by omega)
      refine ⟨?_, by simp, fun c hc => ?_⟩
      · rw [decFrom_snoc _ (u % 10) (digit_val _ (by omega)) _ _ _ h1]
        congr 1; omega
      · rw [List.mem_append] at hc
        rcases hc with hc | hc
        · exact h3 c hc
        · have e : c = UInt8.ofNat (48 + u % 10) := by simpa using hc
          rw [e, UInt8.toNat_ofNat']; omega
theorem pow_nDigits (u : Nat) : 1 ≤ u → 10 ^ (Lib.nDigits u - 1) ≤ u := by
  induction u using Nat.strongRecOn with
  | ind u ih =>
    intro h0
    by_cases hs : u < 10
    · rw [Lib.nDigits_small hs]; exact h0
    · rw [Lib.nDigits_big hs]
      have h1 := ih (u / 10) (by omega) (by omega)
      have hp := Lib.nDigits_pos (u / 10)
      obtain ⟨k, hk⟩ : ∃ k, Lib.nDigits (u / 10) = k + 1 := ⟨Lib.nDigits (u / 10) - 1, by omega⟩
      rw [hk] at h1 ⊢
      simp only [Nat.add_sub_cancel] at h1 ⊢
      rw [Nat.pow_succ]
      omega
theorem nDigits_9 (u : Nat) (h : u < 1000000000) : Lib.nDigits u ≤ 9 := by
  rcases Nat.eq_zero_or_pos u with h0 | h0
  · subst h0; rw [Lib.nDigits_small (by omega)]; omega
  · refine Classical.byContradiction fun hn => ?_
    have h2 := pow_nDigits u h0
    have h3 : 10 ^ 9 ≤ 10 ^ (Lib.nDigits u - 1) := Nat.pow_le_pow_right (by decide) (by omega)
    have e : (10 : Nat) ^ 9 = 1000000000 := by decide
    omega
theorem atoi_digits (u : Nat) (h : u < 1000000000) : Lib.atoiAll (Lib.decDigits u) = .ok (u : Int) := by
  obtain ⟨h1, h2, h3⟩ := digits_ok u
  have hl : (Lib.decDigits u).length ≤ 9 := by rw [Lib.decDigits_length]; exact nDigits_9 u h
  rw [Lib.atoiAll_short _ (by omega)]
  cases hd : Lib.decDigits u with
  | nil => exact absurd hd h2
  | cons b r =>
    rw [hd] at h1 h3
    have hb := h3 b (by simp)
    have e45 : (b == 45) = false := by
      rw [beq_eq_false_iff_ne]; rintro rfl; revert hb; decide
    have e43 : (b == 43) = false := by
      rw [beq_eq_false_iff_ne]; rintro rfl; revert hb; decide
    have e : Lib.atoi (b :: r) = (Lib.decNat (b :: r)).map fun (m : Nat) => (m : Int) := by
      show (if (b == 45) = true then _ else if (b == 43) = true then _ else _) = _
      rw [e45, e43]; rfl
    have e2 : Lib.decNat (b :: r) = some u := by
      unfold Lib.decNat
      rw [if_neg (by simp), h1]
    rw [e, e2]
    rfl
theorem itoaB_data {n : Int} (h : 0 ≤ n) : (itoaB n).data.toList = Lib.decDigits n.toNat := by
  show (Lib.itoa n).toArray.toList = _
  unfold Lib.itoa
  rw [if_neg (by omega)]
theorem dec_itoa {n : Int} (h1 : 1 ≤ n) (h2 : n < 1000000000) : decB (itoaB n) = true ∧ decV (itoaB n) = n := by
  have e : Lib.atoiAll (itoaB n).data.toList = .ok n := by
    rw [itoaB_data (by omega), atoi_digits _ (by omega)]
    congr 1; omega
  have hs : (itoaB n).size ≤ 9 := by
    show (itoaB n).data.size ≤ 9
    rw [← Array.length_toList, itoaB_data (by omega), Lib.decDigits_length]
    exact nDigits_9 _ (by omega)
  unfold decB decV
  rw [e]
  simp [h1, hs]
theorem dec_back {s : ByteArray} (h : decB s = true) : itoaB (decV s) = s ∧ 1 ≤ decV s ∧ s.size ≤ 9 := by
  unfold decB at h
  unfold decV
  split at h
  · rename_i v hv
    rw [hv]
    simp only [Bool.and_eq_true, decide_eq_true_eq] at h
    exact ⟨h.2, h.1.1, h.1.2⟩
  · cases h
theorem chk_kind : ∀ (l : List UInt8) (st : Bool), chkGo st l = true → ∀ c ∈ l, kindI c.toNat ≠ 0
  | [], _, _ => by simp
  | x :: r, st, h => by
    unfold chkGo at h
    intro c hc
    rw [List.mem_cons] at hc
    split at h
    · rename_i hm
      rcases hc with rfl | hc
      · have : mk c = true := by
          cases hk : mk c with
          | true => rfl
          | false => rw [hk] at hm; simp at hm
        unfold mk at this
        have := of_decide_eq_true this
        omega
      · exact chk_kind r true h c hc
    · rw [Bool.and_eq_true] at h
      rcases hc with rfl | hc
      · have := h.1
        unfold okc at this
        intro h0
        rw [h0] at this
        simp at this
      · exact chk_kind r _ h.2 c hc
theorem kind_no {c : UInt8} (h0 : kindI c.toNat ≠ 0) (h6 : kindI c.toNat ≠ 6) : c ≠ 32 ∧ c ≠ 35 :=
  ⟨by rintro rfl; exact h6 (by decide), by rintro rfl; exact h0 (by decide)⟩
theorem isWord_chars {s : ByteArray} (h : isWordB s = true) : ∀ c ∈ s.data.toList, kindI c.toNat ≠ 0 ∧ kindI c.toNat ≠ 5 ∧ kindI c.toNat ≠ 6 := by
  unfold isWordB at h
  simp only [Bool.and_eq_true] at h
  obtain ⟨⟨⟨⟨_, _⟩, h1⟩, _⟩, h2⟩ := h
  intro c hc
  refine ⟨chk_kind _ _ h1 c hc, ?_⟩
  have h3 : sepB (c.toNat : Int) = false := by
    cases hs : sepB (c.toNat : Int) with
    | false => rfl
    | true =>
      have : (bytesL s).any sepB = true := List.any_eq_true.2 ⟨(c.toNat : Int), by unfold bytesL; exact List.mem_map.2 ⟨c, hc, rfl⟩, hs⟩
      rw [this] at h2; cases h2
  unfold sepB at h3
  simpa using h3
theorem gap_data {s : ByteArray} (h : gapB s = true) : s.data.toList = 91 :: ((innB s).data.toList ++ [93]) ∧ decB (innB s) = true := by
  unfold gapB at h
  simp only [Bool.and_eq_true] at h
  obtain ⟨⟨⟨h1, h2⟩, h3⟩, _⟩ := h
  refine ⟨?_, h3⟩
  unfold innB cutXS
  rw [if_pos h2]
  unfold cutXB Lib.hasSuffix at h2
  obtain ⟨u, hu⟩ := List.isSuffixOf_iff_suffix.1 h2
  have e1 : (cutPS s ⟨#[91]⟩) = s.extract 1 s.size := by unfold cutPS; rw [if_pos h1]; rfl
  rw [e1] at hu ⊢
  unfold cutPB Lib.hasPrefix at h1
  obtain ⟨t, ht⟩ := List.isPrefixOf_iff_prefix.1 h1
  have ht' : s.data.toList = 91 :: t := by rw [← ht]; rfl
  have e2 : (s.extract 1 s.size).data.toList = t := by
    rw [ByteArray.data_extract, Array.toList_extract, ht']
    have hl : s.size = t.length + 1 := by
      show s.data.size = _
      rw [← Array.length_toList, ht']; simp
    simp [List.extract, hl]
  have hu' : t = u ++ [93] := by rw [← e2, ← hu]
  have e3 : ((s.extract 1 s.size).extract 0 ((s.extract 1 s.size).size - (⟨#[93]⟩ : ByteArray).size)).data.toList = u := by
    have hl : (s.extract 1 s.size).size = u.length + 1 := by
      show (s.extract 1 s.size).data.size = _
      rw [← Array.length_toList, e2, hu']; simp
    rw [hl, ByteArray.data_extract, Array.toList_extract, e2, hu']
    simp [List.extract, show (⟨#[93]⟩ : ByteArray).size = 1 from rfl]
  rw [e3, ht', hu']
theorem word_chars {s : ByteArray} (h : wordB s = true) : ∀ c ∈ s.data.toList, c ≠ 32 ∧ c ≠ 35 := by
  intro c hc
  unfold wordB at h
  rw [Bool.or_eq_true] at h
  rcases h with h | h
  · obtain ⟨h0, _, h6⟩ := isWord_chars h c hc
    exact kind_no h0 h6
  · split at h
    · rename_i hs
      have hl : s.data.toList.length = 1 := by rw [Array.length_toList]; exact hs
      obtain ⟨x, hx⟩ := List.length_eq_one_iff.1 hl
      rw [hx] at hc
      have e : c = x := by simpa using hc
      unfold firstK at h
      rw [hx] at h
      simp only [Bool.or_eq_true, decide_eq_true_eq] at h
      rw [e]
      exact kind_no (by omega) (by omega)
    · obtain ⟨h1, h2⟩ := gap_data h
      rw [h1] at hc
      obtain ⟨h3, h4, h5⟩ := dec_back h2
      have hd : ∀ c ∈ (innB s).data.toList, 48 ≤ c.toNat ∧ c.toNat ≤ 57 := by
        rw [← h3, itoaB_data (by omega)]
        exact (digits_ok _).2.2
      have : c = 91 ∨ c ∈ (innB s).data.toList ∨ c = 93 := by simpa [or_assoc] using hc
      rcases this with rfl | h | rfl
      · decide
      · have := hd c h
        constructor
        · rintro rfl; revert this; decide
        · rintro rfl; revert this; decide
      · decide
end Go.Proofs.YtjhdeoniafahbaaGreatDoor
