/-
  Plain: what the reference's Parse of a lemma gathers.
-/
import Derived.Test.YtmbehkanhefcpaaGreatDoorPlTx
namespace Go.Proofs.YtmbehkanhefcpaaGreatDoor
open Go.RowKit

/-- The parts ks lie ahead of f, and from f to i there is no space. -/
def CutG (d : List UInt8) (ks : List ByteArray) (f i : Nat) : Prop :=
  (f ≤ i ∧ i ≤ d.length ∧ cutL 32 d = ks.map (·.data.toList) ++ cutL 32 (d.drop f) ∧ (32 : UInt8) ∉ (d.drop f).take (i - f)) ∨ (i = d.length + 1 ∧ cutL 32 d = ks.map (·.data.toList))
theorem CutG.start (d : List UInt8) : CutG d [] 0 0 := .inl ⟨Nat.le_refl _, Nat.zero_le _, by simp, by simp⟩
theorem CutG.skip {d : List UInt8} {ks : List ByteArray} {f i : Nat} (h : CutG d ks f i) (hi : i < d.length) (c : UInt8) (hc : d[i]? = some c) (hn : c ≠ 32) : CutG d ks f (i + 1) := by
  rcases h with ⟨h1, h2, h3, h4⟩ | ⟨h1, _⟩
  · refine .inl ⟨by omega, by omega, h3, ?_⟩
    rw [show i + 1 - f = (i - f) + 1 by omega, List.take_add_one, List.getElem?_drop, show f + (i - f) = i by omega, hc, List.mem_append, not_or]
    exact ⟨h4, by simpa using fun e => hn e.symm⟩
  · omega
theorem CutG.split {s : ByteArray} {ks : List ByteArray} {f i : Nat} (h : CutG s.data.toList ks f i) (hi : i < s.size) (hc : s.data.toList[i]? = some 32) : CutG s.data.toList (ks ++ [s.extract f i]) (i + 1) (i + 1) := by
  have hl : s.data.toList.length = s.size := rfl
  rcases h with ⟨h1, h2, h3, h4⟩ | ⟨h1, _⟩
  · refine .inl ⟨Nat.le_refl _, by omega, ?_, by simp⟩
    have hd : s.data.toList.drop f = (s.data.toList.drop f).take (i - f) ++ 32 :: s.data.toList.drop (i + 1) := by
      have h5 : (s.data.toList.drop f)[i - f]? = some 32 := by rw [List.getElem?_drop, show f + (i - f) = i by omega]; exact hc
      obtain ⟨h6, h7⟩ := List.getElem?_eq_some_iff.1 h5
      have h8 := List.drop_eq_getElem_cons h6
      have h9 : (s.data.toList.drop f).drop (i - f + 1) = s.data.toList.drop (i + 1) := by rw [List.drop_drop, show f + (i - f + 1) = i + 1 by omega]
      rw [h7, h9] at h8
      rw [← h8, List.take_append_drop]
    rw [h3, hd, cutL_app _ h4, List.map_append, List.append_assoc]
    congr 1
    rw [List.map_singleton, take_drop_piece, List.singleton_append]
  · omega
theorem CutG.last {s : ByteArray} {ks : List ByteArray} {f : Nat} (h : CutG s.data.toList ks f s.size) : CutG s.data.toList (ks ++ [s.extract f s.size]) (s.size + 1) (s.size + 1) := by
  have hl : s.data.toList.length = s.size := rfl
  rcases h with ⟨h1, h2, h3, h4⟩ | ⟨h1, _⟩
  · refine .inr ⟨by omega, ?_⟩
    have h5 : (s.data.toList.drop f).take (s.size - f) = s.data.toList.drop f := List.take_of_length_le (by rw [List.length_drop]; omega)
    rw [h5] at h4
    rw [h3, cutL_none h4, List.map_append, List.map_singleton, take_drop_piece, h5]
  · omega
theorem CutG.done {s : ByteArray} {ks : List ByteArray} {f : Nat} (h : CutG s.data.toList ks f (s.size + 1)) : splitS s = ks := by
  have hl : s.data.toList.length = s.size := rfl
  rcases h with ⟨_, h2, _⟩ | ⟨_, h2⟩
  · omega
  · exact split_of h2
theorem CutG.bound {d : List UInt8} {ks : List ByteArray} {f i : Nat} (h : CutG d ks f i) : ks.length ≤ d.length + 1 := by
  have h1 := cutL_len 32 d
  rcases h with ⟨_, _, h3, _⟩ | ⟨_, h3⟩ <;> (have h4 := congrArg List.length h3; simp at h4; omega)

theorem dec_step' (u : Nat) (h : ¬ u < 10) : Lib.decDigits u = Lib.decDigits (u / 10) ++ [UInt8.ofNat (48 + u % 10)] := by
  rw [Lib.decDigits, dif_neg h]
theorem dec_last' (u : Nat) (h : u < 10) : Lib.decDigits u = [UInt8.ofNat (48 + u)] := by
  rw [Lib.decDigits, dif_pos h]
/-- A number's digits: not empty, nine at most, no zero ahead. -/
theorem dig_head : ∀ (u : Nat), 1 ≤ u → (Lib.decDigits u).head? ≠ some 48 := by
  intro u
  induction u using Nat.strongRecOn with
  | _ u ih =>
    intro h1
    by_cases h : u < 10
    · rw [dec_last' u h]
      have : u = 1 ∨ u = 2 ∨ u = 3 ∨ u = 4 ∨ u = 5 ∨ u = 6 ∨ u = 7 ∨ u = 8 ∨ u = 9 := by omega
      rcases this with rfl | rfl | rfl | rfl | rfl | rfl | rfl | rfl | rfl <;> decide
    · rw [dec_step' u h]
      have h2 := ih (u / 10) (by omega) (by omega)
      have h3 := (digits_ok (u / 10)).2.1
      cases hl : Lib.decDigits (u / 10) with
      | nil => exact absurd hl h3
      | cons x r => rw [hl] at h2; exact h2
theorem dig_of {c : UInt8} (h1 : 48 ≤ c.toNat) (h2 : c.toNat ≤ 57) : Lib.digitVal c = some (c.toNat - 48) := by
  unfold Lib.digitVal
  rw [if_pos ⟨h1, h2⟩]
theorem dig_none {c : UInt8} (h : c.toNat < 48 ∨ 57 < c.toNat) : Lib.digitVal c = none := by
  unfold Lib.digitVal
  rw [if_neg (by omega)]
theorem from_lt : ∀ (l : List UInt8) (acc n : Nat), Lib.decFrom acc l = some n → n < (acc + 1) * 10 ^ l.length := by
  intro l
  induction l with
  | nil =>
    intro acc n h
    unfold Lib.decFrom at h
    cases h; simp
  | cons c r ih =>
    intro acc n h
    unfold Lib.decFrom at h
    cases hc : Lib.digitVal c with
    | none => rw [hc] at h; cases h
    | some d =>
      rw [hc] at h
      have h1 := ih _ _ h
      have hd : d < 10 := by
        by_cases hk : 48 ≤ c.toNat ∧ c.toNat ≤ 57
        · rw [dig_of hk.1 hk.2] at hc; cases hc; omega
        · rw [dig_none (by omega)] at hc; cases hc
      rw [List.length_cons, Nat.pow_succ]
      refine Nat.lt_of_lt_of_le h1 ?_
      rw [Nat.mul_comm (10 ^ r.length) 10, ← Nat.mul_assoc]
      exact Nat.mul_le_mul_right _ (by omega)
theorem from_app (b : UInt8) : ∀ (l : List UInt8) (acc n : Nat), Lib.decFrom acc (l ++ [b]) = some n → ∃ m d, Lib.decFrom acc l = some m ∧ Lib.digitVal b = some d ∧ n = m * 10 + d := by
  intro l
  induction l with
  | nil =>
    intro acc n h
    rw [List.nil_append] at h
    unfold Lib.decFrom at h
    cases hc : Lib.digitVal b with
    | none => rw [hc] at h; cases h
    | some d =>
      rw [hc] at h
      simp only at h
      unfold Lib.decFrom at h
      cases h
      exact ⟨acc, d, rfl, rfl, rfl⟩
  | cons c r ih =>
    intro acc n h
    rw [List.cons_append] at h
    unfold Lib.decFrom at h ⊢
    cases hc : Lib.digitVal c with
    | none => rw [hc] at h; cases h
    | some d =>
      rw [hc] at h
      exact ih _ _ h
theorem dig_back : ∀ (k : Nat) (l : List UInt8) (n : Nat), l.length ≤ k → l ≠ [] → l.head? ≠ some 48 → Lib.decFrom 0 l = some n → Lib.decDigits n = l ∧ 1 ≤ n
  | 0, l, n, hk, hne, _, _ => absurd (List.eq_nil_of_length_eq_zero (Nat.le_zero.1 hk)) hne
  | k + 1, l, n, hk, hne, hh, hd => by
    rcases List.eq_nil_or_concat l with e | ⟨i, c, e⟩
    · exact absurd e hne
    · rw [List.concat_eq_append] at e
      subst e
      obtain ⟨m, d, h1, h2, h3⟩ := from_app c i 0 n hd
      have hc : 48 ≤ c.toNat ∧ c.toNat ≤ 57 ∧ d = c.toNat - 48 := by
        by_cases hk : 48 ≤ c.toNat ∧ c.toNat ≤ 57
        · rw [dig_of hk.1 hk.2] at h2; cases h2; exact ⟨hk.1, hk.2, rfl⟩
        · rw [dig_none (by omega)] at h2; cases h2
      obtain ⟨c1, c2, rfl⟩ := hc
      have hcc : UInt8.ofNat (48 + (c.toNat - 48)) = c := UInt8.toNat_inj.1 (by rw [UInt8.toNat_ofNat']; omega)
      by_cases hi : i = []
      · subst hi
        unfold Lib.decFrom at h1
        cases h1
        have hn : n = c.toNat - 48 := by omega
        have h0 : c.toNat ≠ 48 := fun e => hh (by simp; exact UInt8.toNat_inj.1 e)
        refine ⟨?_, by omega⟩
        rw [hn, dec_last' _ (by omega), hcc]; rfl
      · have hh2 : i.head? ≠ some 48 := by
          cases i with
          | nil => exact absurd rfl hi
          | cons x r => exact hh
        obtain ⟨g1, g2⟩ := dig_back k i m (by simp at hk; omega) hi hh2 h1
        refine ⟨?_, by omega⟩
        rw [h3, dec_step' _ (by omega), show (m * 10 + (c.toNat - 48)) / 10 = m by omega, show (m * 10 + (c.toNat - 48)) % 10 = c.toNat - 48 by omega, g1, hcc]
theorem dec_good {s : ByteArray} {n : Nat} (h9 : s.size ≤ 9) (h0 : 0 < s.size) (hh : s.data.toList.head? ≠ some 48) (hd : Lib.decFrom 0 s.data.toList = some n) : decB s = true ∧ decV s = n ∧ n < 1000000000 := by
  have hl : s.data.toList.length = s.size := rfl
  have hne : s.data.toList ≠ [] := fun e => by rw [e] at hl; simp at hl; omega
  obtain ⟨h1, h2⟩ := dig_back s.size s.data.toList n (by omega) hne hh hd
  have h3 := from_lt _ _ _ hd
  have h4 : n < 1000000000 := by
    refine Nat.lt_of_lt_of_le h3 ?_
    rw [Nat.zero_add, Nat.one_mul, hl]
    exact Nat.pow_le_pow_right (by omega) h9
  have h5 : itoaB (n : Int) = s := ba_ext (by rw [itoaB_data (by omega)]; exact h1)
  obtain ⟨g1, g2⟩ := dec_itoa (n := (n : Int)) (by omega) (by omega)
  rw [h5] at g1 g2
  exact ⟨g1, g2, h4⟩
/-- What decimal takes is not empty, nine digits at most, has no zero ahead, and digits alone. -/
theorem dec_need {s : ByteArray} (h : decB s = true) : 0 < s.size ∧ s.size ≤ 9 ∧ s.data.toList.head? ≠ some 48 ∧ ∀ c ∈ s.data.toList, 48 ≤ c.toNat ∧ c.toNat ≤ 57 := by
  obtain ⟨h1, h2, h3⟩ := dec_back h
  have hd : s.data.toList = Lib.decDigits (decV s).toNat := by
    have e : (itoaB (decV s)).data.toList = s.data.toList := congrArg (fun x : ByteArray => x.data.toList) h1
    rw [← e, itoaB_data (by omega)]
  obtain ⟨g1, g2, g3⟩ := digits_ok (decV s).toNat
  have hl : s.data.toList.length = s.size := rfl
  refine ⟨?_, h3, ?_, ?_⟩
  · have := List.length_pos_iff.2 g2
    rw [← hd] at this; omega
  · rw [hd]; exact dig_head _ (by omega)
  · rw [hd]; exact g3
theorem dec_no {s : ByteArray} (h : s.size = 0 ∨ 9 < s.size ∨ s.data.toList.head? = some 48 ∨ ∃ c ∈ s.data.toList, c.toNat < 48 ∨ 57 < c.toNat) : decB s = false := by
  cases hd : decB s with
  | false => rfl
  | true =>
    obtain ⟨h1, h2, h3, h4⟩ := dec_need hd
    rcases h with h | h | h | ⟨c, hc, h⟩
    · omega
    · omega
    · exact absurd h h3
    · have := h4 c hc
      omega
theorem CutG.le {d : List UInt8} {ks : List ByteArray} {f i : Nat} (h : CutG d ks f i) (hi : i ≤ d.length) : f ≤ i := by
  rcases h with ⟨h1, _⟩ | ⟨h1, _⟩ <;> omega
theorem hash_at {s : ByteArray} {k : Nat} (hk : k < s.size) (hn : (35 : UInt8) ∉ s.data.toList.take k) (hc : s[k] = 35) : hashB s = true ∧ ownB s = s.extract 0 k ∧ numB s = s.extract (k + 1) s.size := by
  have hl : s.data.toList.length = s.size := rfl
  have e : s.data.toList = (s.extract 0 k).data.toList ++ 35 :: (s.extract (k + 1) s.size).data.toList := by
    rw [take_drop_piece, take_drop_piece, List.drop_zero, Nat.sub_zero]
    rw [List.take_of_length_le (l := s.data.toList.drop (k + 1)) (by rw [List.length_drop]; omega)]
    have h6 : k < s.data.toList.length := by omega
    have h8 := List.drop_eq_getElem_cons h6
    have h7 : s.data.toList[k] = 35 := by
      have := getL s k hk
      rw [List.getElem?_eq_getElem h6] at this
      rw [Option.some.inj this, hc]
    rw [h7] at h8
    rw [← h8, List.take_append_drop]
  obtain ⟨h1, h2, h3, _⟩ := hash_yes (a := s.extract 0 k) (r := s.extract (k + 1) s.size) (by rw [take_drop_piece, List.drop_zero, Nat.sub_zero]; exact hn) e
  exact ⟨h1, h2, h3⟩
end Go.Proofs.YtmbehkanhefcpaaGreatDoor
