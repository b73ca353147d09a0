/-
  Plain: the text of a lemma and what is parsed from it. No step of a program is in sight here.
-/
import Derived.Test.YtmbehkanhefcpaaGreatDoorPlDec
import Derived.Test.YtmbehkanhefcpaaGreatDoorAwk43
import Derived.Test.YtmbehkanhefcpaaGreatDoorCut
namespace Go.Proofs.YtmbehkanhefcpaaGreatDoor

structure LmR where
  f : ByteArray
  l : ByteArray
  n : Int
  e : Int
def lm0 (e : Int) : LmR := ⟨⟨#[]⟩, ⟨#[]⟩, 0, e⟩

def hashI (s : ByteArray) : Int := Lib.index s.data.toList [35]
def hashB (s : ByteArray) : Bool := decide (0 ≤ hashI s)
def ownB (s : ByteArray) : ByteArray := if hashB s = true then s.extract 0 (hashI s).toNat else s
def numB (s : ByteArray) : ByteArray := if hashB s = true then s.extract ((hashI s).toNat + 1) s.size else ⟨#[]⟩
/-- The end of Parse, once the parts are known. -/
def lmEnd (f l : ByteArray) (n : Int) : LmR := if lemCk f l n = 0 then ⟨f, l, n, 0⟩ else lm0 (lemCk f l n)
def lmLast (ps : List ByteArray) : ByteArray := ps.getD (ps.length - 1) ⟨#[]⟩
def lmNum (s : ByteArray) : Int := if hashB s = true then decV (numB s) else 0
def parseLm (s : ByteArray) : LmR :=
  if 65536 < s.size then lm0 4
  else if ¬ ((splitS s).length = 1 ∨ ((splitS s).length = 3 ∧ (splitS s).getD 1 ⟨#[]⟩ = ⟨#[43]⟩)) then lm0 3
  else if (hashB (lmLast (splitS s)) && !decB (numB (lmLast (splitS s)))) = true then lm0 3
  else if (splitS s).length = 1 then lmEnd (ownB (lmLast (splitS s))) ⟨#[]⟩ (lmNum (lmLast (splitS s)))
  else if (ownB (lmLast (splitS s))).size = 0 then lm0 11
  else lmEnd ((splitS s).getD 0 ⟨#[]⟩) (ownB (lmLast (splitS s))) (lmNum (lmLast (splitS s)))

theorem index_app {c : UInt8} (r : List UInt8) : ∀ {a : List UInt8}, c ∉ a → Lib.index (a ++ c :: r) [c] = a.length
  | [], _ => by
    rw [List.nil_append]
    unfold Lib.index
    rw [if_pos (by simp)]; rfl
  | x :: a, h => by
    rw [List.mem_cons, not_or] at h
    have ih := index_app r h.2
    rw [List.cons_append]
    unfold Lib.index
    have e : ([c].isPrefixOf (x :: (a ++ c :: r))) = false := by
      simp [List.isPrefixOf, h.1]
    rw [e, ih, if_neg (by simp), if_neg (by simp)]
    simp
theorem index_no {c : UInt8} : ∀ {a : List UInt8}, c ∉ a → Lib.index a [c] = -1
  | [], _ => by unfold Lib.index; rfl
  | x :: a, h => by
    rw [List.mem_cons, not_or] at h
    have ih := index_no h.2
    unfold Lib.index
    have e : ([c].isPrefixOf (x :: a)) = false := by simp [List.isPrefixOf, h.1]
    rw [e, ih]
    rfl
theorem ba_len (s : ByteArray) : s.data.toList.length = s.size := by rw [Array.length_toList]; rfl
theorem extract_data (s : ByteArray) (i j : Nat) : (s.extract i j).data.toList = (s.data.toList.take j).drop i := by
  rw [ByteArray.data_extract, Array.toList_extract]
  simp [List.extract, List.drop_take]
/-- A part without a number. -/
theorem hash_no {s : ByteArray} (h : (35 : UInt8) ∉ s.data.toList) : hashB s = false ∧ ownB s = s ∧ lmNum s = 0 := by
  have e : hashB s = false := by
    unfold hashB hashI
    rw [index_no h]; rfl
  refine ⟨e, ?_, ?_⟩
  · unfold ownB; rw [e]; rfl
  · unfold lmNum; rw [e]; rfl
/-- .. with one. -/
theorem hash_yes {s a r : ByteArray} (h : (35 : UInt8) ∉ a.data.toList) (hs : s.data.toList = a.data.toList ++ 35 :: r.data.toList) : hashB s = true ∧ ownB s = a ∧ numB s = r ∧ lmNum s = decV r := by
  have e0 : hashI s = a.data.toList.length := by unfold hashI; rw [hs, index_app _ h]
  have e : hashB s = true := by unfold hashB; rw [e0]; simp
  have hl := ba_len s
  rw [hs] at hl
  have e1 : ownB s = a := by
    unfold ownB
    rw [if_pos e, e0]
    refine ba_ext ?_
    rw [extract_data, hs]
    simp
  have e2 : numB s = r := by
    unfold numB
    rw [if_pos e, e0]
    refine ba_ext ?_
    rw [extract_data, ← hl, hs, List.take_length]
    have hq : ∀ u v : List UInt8, List.drop (u.length + 1) (u ++ 35 :: v) = v := by intro u v; simp
    exact hq _ _
  refine ⟨e, e1, e2, ?_⟩
  unfold lmNum; rw [if_pos e, e2]
theorem hash_cut {s : ByteArray} (h : hashB s = true) : s.data.toList = (ownB s).data.toList ++ 35 :: (numB s).data.toList := by
  have h0 : 0 ≤ hashI s := by unfold hashB at h; exact of_decide_eq_true h
  obtain ⟨a, r, e1, e2, e3⟩ := index_at (l := s.data.toList) (c := 35) (i := (hashI s).toNat) (by unfold hashI at h0 ⊢; omega)
  have hl := ba_len s
  have e4 : (ownB s).data.toList = a := by
    unfold ownB
    rw [if_pos h, extract_data, e1, ← e2]; simp
  have e5 : (numB s).data.toList = r := by
    unfold numB
    rw [if_pos h, extract_data, ← hl, List.take_length, e1, ← e2]; simp
  rw [e4, e5, ← e1]
theorem printT_data (f l : ByteArray) (n : Int) : (printT f l n).data.toList = f.data.toList ++ ((if l.size = 0 then [] else [32, 43, 32] ++ l.data.toList) ++ (if n = 0 then [] else 35 :: (itoaB n).data.toList)) := by
  unfold printT
  by_cases h1 : l.size = 0
  all_goals by_cases h2 : n = 0
  all_goals simp [h1, h2]
theorem lck_parts {f l : ByteArray} {n : Int} (h : lemCk f l n = 0) : wordB f = true ∧ (l.size = 0 ∨ wordB l = true) ∧ 0 ≤ n ∧ n ≤ 65536 := by
  have hb := lck_bounds h
  unfold lemCk at h
  split at h
  · cases h
  · rename_i h1
    refine ⟨?_, ?_, hb⟩
    · cases hf : wordB f with
      | true => rfl
      | false => rw [hf] at h1; simp at h1
    · by_cases hl : l.size = 0
      · exact .inl hl
      · refine .inr ?_
        cases hw : wordB l with
        | true => rfl
        | false => rw [hw] at h1; simp [hl] at h1
theorem split_of {s : ByteArray} {l : List ByteArray} (h : cutL 32 s.data.toList = l.map (·.data.toList)) : splitS s = l := map_data_inj (by rw [splitS_data, h])
theorem tail_no {l : ByteArray} {n : Int} (hl : l.size = 0 ∨ wordB l = true) (h0 : 0 ≤ n) : (32 : UInt8) ∉ l.data.toList ++ (if n = 0 then [] else 35 :: (itoaB n).data.toList) := by
  rw [List.mem_append]
  rintro (h | h)
  · rcases hl with h1 | h1
    · have := ba_len l
      rw [h1] at this
      rw [List.eq_nil_of_length_eq_zero this] at h; cases h
    · exact (word_chars h1 _ h).1 rfl
  · split at h
    · cases h
    · rw [List.mem_cons] at h
      rcases h with h | h
      · exact absurd h (by decide)
      · rw [itoaB_data h0] at h
        have := (digits_ok _).2.2 _ h
        revert this; decide
/-- The last part of what is printed: a word, and perhaps a number behind it. -/
theorem last_part {a t : ByteArray} {n : Int} (ha : (35 : UInt8) ∉ a.data.toList) (h0 : 0 ≤ n) (h1 : n ≤ 65536) (ht : t.data.toList = a.data.toList ++ (if n = 0 then [] else 35 :: (itoaB n).data.toList)) :
    (hashB t && !decB (numB t)) = false ∧ ownB t = a ∧ lmNum t = n := by
  by_cases h : n = 0
  · rw [if_pos h, List.append_nil] at ht
    obtain rfl : t = a := ba_ext ht
    obtain ⟨e1, e2, e3⟩ := hash_no ha
    rw [e1, e2, e3, h]; exact ⟨rfl, rfl, rfl⟩
  · rw [if_neg h] at ht
    obtain ⟨e1, e2, e3, e4⟩ := hash_yes ha ht
    obtain ⟨d1, d2⟩ := dec_itoa (n := n) (by omega) (by omega)
    rw [e1, e2, e3, e4, d1, d2]; exact ⟨rfl, rfl, rfl⟩
/-- P43.4, the first half, plainly. -/
theorem parse_print43 {f l : ByteArray} {n : Int} (h : lemCk f l n = 0) (hs : (printT f l n).size ≤ 65536) : parseLm (printT f l n) = ⟨f, l, n, 0⟩ := by
  obtain ⟨hf, hl, h0, h1⟩ := lck_parts h
  have hd := printT_data f l n
  have hf32 : (32 : UInt8) ∉ f.data.toList := fun hm => (word_chars hf _ hm).1 rfl
  have hf35 : (35 : UInt8) ∉ f.data.toList := fun hm => (word_chars hf _ hm).2 rfl
  have hend : lmEnd f l n = ⟨f, l, n, 0⟩ := by unfold lmEnd; rw [if_pos h]
  by_cases hl0 : l.size = 0
  · rw [if_pos hl0, List.nil_append] at hd
    obtain rfl : l = ⟨#[]⟩ := ba_ext (List.eq_nil_of_length_eq_zero (by rw [ba_len]; exact hl0))
    have e : splitS (printT f ⟨#[]⟩ n) = [printT f ⟨#[]⟩ n] := by
      refine split_of ?_
      rw [cutL_none]
      · rfl
      · rw [hd]; exact tail_no (.inr hf) h0
    obtain ⟨q1, q2, q3⟩ := last_part hf35 h0 h1 hd
    unfold parseLm lmLast
    rw [if_neg (by omega), e]
    simp only [List.length_singleton, Nat.sub_self, List.getD_cons_zero, true_or, not_true, if_false, if_true]
    rw [q1, q2, q3]
    simp only [Bool.false_eq_true, if_false]
    exact hend
  · have hlw : wordB l = true := by
      rcases hl with h | h
      · exact absurd h hl0
      · exact h
    have hl35 : (35 : UInt8) ∉ l.data.toList := fun hm => (word_chars hlw _ hm).2 rfl
    rw [if_neg hl0] at hd
    obtain ⟨t, ht⟩ : ∃ t : ByteArray, t.data.toList = l.data.toList ++ (if n = 0 then [] else 35 :: (itoaB n).data.toList) := ⟨⟨(l.data.toList ++ (if n = 0 then [] else 35 :: (itoaB n).data.toList)).toArray⟩, by simp⟩
    have e : splitS (printT f l n) = [f, ⟨#[43]⟩, t] := by
      refine split_of ?_
      rw [hd]
      have e1 : f.data.toList ++ (([32, 43, 32] ++ l.data.toList) ++ (if n = 0 then [] else 35 :: (itoaB n).data.toList)) = f.data.toList ++ 32 :: ([43] ++ 32 :: t.data.toList) := by rw [ht]; simp
      rw [e1, cutL_app _ hf32, cutL_app _ (by decide), cutL_none]
      · rfl
      · rw [ht]; exact tail_no (.inr hlw) h0
    obtain ⟨q1, q2, q3⟩ := last_part hl35 h0 h1 ht
    unfold parseLm lmLast
    rw [if_neg (by omega), e]
    have z : [f, ⟨#[43]⟩, t].getD ([f, ⟨#[43]⟩, t].length - 1) (⟨#[]⟩ : ByteArray) = t := rfl
    have z1 : [f, ⟨#[43]⟩, t].getD 1 (⟨#[]⟩ : ByteArray) = ⟨#[43]⟩ := rfl
    have z0 : [f, ⟨#[43]⟩, t].getD 0 (⟨#[]⟩ : ByteArray) = f := rfl
    rw [z, z1, z0, q1, q2, q3, if_neg (fun h => h (.inr ⟨rfl, rfl⟩)), if_neg (by simp), if_neg (by simp), if_neg hl0]
    exact hend
/-- .. the second half. -/
theorem print_parse43 {s f l : ByteArray} {n : Int} (h : parseLm s = ⟨f, l, n, 0⟩) : lemCk f l n = 0 ∧ printT f l n = s := by
  have h0 : (parseLm s).e = 0 := by rw [h]
  have hj := splitS_join s
  have hend : ∀ f' l' n', lmEnd f' l' n' = ⟨f, l, n, 0⟩ → lemCk f l n = 0 ∧ f' = f ∧ l' = l ∧ n' = n := by
    intro f' l' n' he
    unfold lmEnd at he
    split at he
    · rename_i hc
      injection he with a b c
      subst a; subst b; subst c
      exact ⟨hc, rfl, rfl, rfl⟩
    · rename_i hc
      injection he with _ _ _ d
      exact absurd d hc
  have hn0 : ∀ e : Int, e ≠ 0 → lm0 e ≠ ⟨f, l, n, 0⟩ := by
    intro e he hq
    injection hq with _ _ _ d
    exact he d
  unfold parseLm at h
  split at h
  · exact absurd h (hn0 4 (by omega))
  split at h
  · exact absurd h (hn0 3 (by omega))
  rename_i hp
  split at h
  · exact absurd h (hn0 3 (by omega))
  rename_i hx
  have hlast : ∀ t, t = lmLast (splitS s) → (ownB t).data.toList ++ (if lmNum t = 0 then [] else 35 :: (itoaB (lmNum t)).data.toList) = t.data.toList := by
    rintro t rfl
    cases hb : hashB (lmLast (splitS s)) with
    | false =>
      unfold lmNum ownB
      rw [hb]; simp
    | true =>
      have hdb : decB (numB (lmLast (splitS s))) = true := by
        cases hq : decB (numB (lmLast (splitS s))) with
        | true => rfl
        | false => rw [hb, hq] at hx; simp at hx
      obtain ⟨d1, d2, _⟩ := dec_back hdb
      have hc := hash_cut hb
      have e : lmNum (lmLast (splitS s)) = decV (numB (lmLast (splitS s))) := by unfold lmNum; rw [if_pos hb]
      rw [e, if_neg (by omega), d1, ← hc]
  split at h
  · rename_i h1
    obtain ⟨q, rfl, rfl, rfl⟩ := hend _ _ _ h
    refine ⟨q, ba_ext ?_⟩
    rw [printT_data, if_pos (show (⟨#[]⟩ : ByteArray).size = 0 from rfl), List.nil_append, hlast _ rfl, ← hj]
    obtain ⟨x, hxx⟩ := List.length_eq_one_iff.1 h1
    unfold lmLast
    rw [hxx]
    simp [Lib.join]
  · split at h
    · exact absurd h (hn0 11 (by omega))
    · rename_i h1 h2
      obtain ⟨h3, h4⟩ : (splitS s).length = 3 ∧ (splitS s).getD 1 ⟨#[]⟩ = ⟨#[43]⟩ := by
        rcases Classical.not_not.1 hp with h | h
        · exact absurd h h1
        · exact h
      obtain ⟨q, rfl, rfl, rfl⟩ := hend _ _ _ h
      refine ⟨q, ba_ext ?_⟩
      rw [printT_data, if_neg h2, List.append_assoc, hlast _ rfl, ← hj]
      unfold lmLast
      match hss : splitS s, h3, h4 with
      | [a, b, c], _, h4 =>
        have hb : b = ⟨#[43]⟩ := h4
        rw [hb]
        show a.data.toList ++ ([32, 43, 32] ++ c.data.toList) = Lib.join [a.data.toList, [43], c.data.toList] [32]
        simp [Lib.join]
theorem lm_ok_or (s : ByteArray) : (parseLm s).e = 0 ∨ ((parseLm s).e ≠ 0 ∧ parseLm s = lm0 (parseLm s).e) := by
  have hend : ∀ f l n, (lmEnd f l n).e = 0 ∨ ((lmEnd f l n).e ≠ 0 ∧ lmEnd f l n = lm0 (lmEnd f l n).e) := by
    intro f l n
    unfold lmEnd
    split
    · exact .inl rfl
    · rename_i h; exact .inr ⟨h, rfl⟩
  unfold parseLm
  split
  · exact .inr ⟨by decide, rfl⟩
  split
  · exact .inr ⟨by decide, rfl⟩
  split
  · exact .inr ⟨by decide, rfl⟩
  split
  · exact hend _ _ _
  split
  · exact .inr ⟨by decide, rfl⟩
  exact hend _ _ _
end Go.Proofs.YtmbehkanhefcpaaGreatDoor
