/-
  Plain: numerals of up to ten digits; cutting at a byte; a description is read back as the pages that were printed, and what is read is printed again.
-/
import Derived.Test.YtkjapeafhcdnkaaDoorPrs
import Derived.Lib.AtoiTie
import Derived.Lib.ItoaMem
namespace Go.Proofs.YtkjapeafhcdnkaaDoor

theorem decFrom_snoc (b : UInt8) (d : Nat) (hd : Lib.digitVal b = some d) : ∀ (l : List UInt8) (acc n : Nat), Lib.decFrom acc l = some n → Lib.decFrom acc (l ++ [b]) = some (n * 10 + d)
  | [], acc, n, h => by
    have e : acc = n := by simpa [Lib.decFrom] using h
    subst e
    simp [Lib.decFrom, hd]
  | c :: r, acc, n, h => by
    rw [List.cons_append]
    unfold Lib.decFrom at h ⊢
    cases hc : Lib.digitVal c with
    | none => rw [hc] at h; simp at h
    | some x =>
      rw [hc] at h
      simp only at h ⊢
      exact decFrom_snoc b d hd r _ n h
theorem digit_val (u : Nat) (h : u < 10) : Lib.digitVal (UInt8.ofNat (48 + u)) = some u := by
  unfold Lib.digitVal
  have e : (UInt8.ofNat (48 + u)).toNat = 48 + u := by
    rw [UInt8.toNat_ofNat']; omega
  rw [e, if_pos (by omega)]
  simp
theorem digits_ok (u : Nat) : Lib.decFrom 0 (Lib.decDigits u) = some u ∧ Lib.decDigits u ≠ [] ∧ ∀ c ∈ Lib.decDigits u, 48 ≤ c.toNat ∧ c.toNat ≤ 57 := by
  induction u using Nat.strongRecOn with
  | ind u ih =>
    rw [Lib.decDigits]
    split
    · rename_i h
      refine ⟨?_, by simp, fun c hc => ?_⟩
      · show Lib.decFrom 0 [UInt8.ofNat (48 + u)] = some u
        unfold Lib.decFrom
        rw [digit_val u h]
        simp [Lib.decFrom]
      · have e : c = UInt8.ofNat (48 + u) := by simpa using hc
        rw [e, UInt8.toNat_ofNat']; omega
    · rename_i h
      obtain ⟨h1, h2, h3⟩ := ih (u / 10) (by omega)
      refine ⟨?_, by simp, fun c hc => ?_⟩
      · rw [decFrom_snoc _ (u % 10) (digit_val _ (by omega)) _ _ _ h1]
        congr 1; omega
      · rw [List.mem_append] at hc
        rcases hc with hc | hc
        · exact h3 c hc
        · have e : c = UInt8.ofNat (48 + u % 10) := by simpa using hc
          rw [e, UInt8.toNat_ofNat']; omega
theorem pow_nDigits (u : Nat) : 1 ≤ u → 10 ^ (Lib.nDigits u - 1) ≤ u := by
  induction u using Nat.strongRecOn with
  | ind u ih =>
    intro h0
    by_cases hs : u < 10
    · rw [Lib.nDigits_small hs]; exact h0
    · rw [Lib.nDigits_big hs]
      have h1 := ih (u / 10) (by omega) (by omega)
      have hp := Lib.nDigits_pos (u / 10)
      obtain ⟨k, hk⟩ : ∃ k, Lib.nDigits (u / 10) = k + 1 := ⟨Lib.nDigits (u / 10) - 1, by omega⟩
      rw [hk] at h1 ⊢
      simp only [Nat.add_sub_cancel] at h1 ⊢
      rw [Nat.pow_succ]
      omega
theorem nDigits_10 (u : Nat) (h : u < 10000000000) : Lib.nDigits u ≤ 10 := by
  rcases Nat.eq_zero_or_pos u with h0 | h0
  · subst h0; rw [Lib.nDigits_small (by omega)]; omega
  · refine Classical.byContradiction fun hn => ?_
    have h2 := pow_nDigits u h0
    have h3 : 10 ^ 10 ≤ 10 ^ (Lib.nDigits u - 1) := Nat.pow_le_pow_right (by decide) (by omega)
    have e : (10 : Nat) ^ 10 = 10000000000 := by decide
    omega
theorem atoi_digits (u : Nat) (h : u < 10000000000) : Lib.atoiAll (Lib.decDigits u) = .ok (u : Int) := by
  obtain ⟨h1, h2, h3⟩ := digits_ok u
  have hl : (Lib.decDigits u).length ≤ 10 := by rw [Lib.decDigits_length]; exact nDigits_10 u h
  rw [Lib.atoiAll_short _ (by omega)]
  cases hd : Lib.decDigits u with
  | nil => exact absurd hd h2
  | cons b r =>
    rw [hd] at h1 h3
    have hb := h3 b (by simp)
    have e45 : (b == 45) = false := by
      rw [beq_eq_false_iff_ne]; rintro rfl; revert hb; decide
    have e43 : (b == 43) = false := by
      rw [beq_eq_false_iff_ne]; rintro rfl; revert hb; decide
    have e : Lib.atoi (b :: r) = (Lib.decNat (b :: r)).map fun (m : Nat) => (m : Int) := by
      show (if (b == 45) = true then _ else if (b == 43) = true then _ else _) = _
      rw [e45, e43]; rfl
    have e2 : Lib.decNat (b :: r) = some u := by
      unfold Lib.decNat
      rw [if_neg (by simp), h1]
    rw [e, e2]
    rfl
theorem itoaB_data {n : Int} (h : 0 ≤ n) : (itoaB n).data.toList = Lib.decDigits n.toNat := by
  show (Lib.itoa n).toArray.toList = _
  unfold Lib.itoa
  rw [if_neg (by omega)]
theorem nok_itoa {n : Int} (h1 : 0 ≤ n) (h2 : n ≤ 1073741824) : nokB (itoaB n) = true ∧ decV (itoaB n) = n := by
  have e : Lib.atoiAll (itoaB n).data.toList = .ok n := by
    rw [itoaB_data (by omega), atoi_digits _ (by omega)]
    congr 1; omega
  unfold nokB decV
  rw [e]
  simp [h1]
theorem nok_back {s : ByteArray} (h : nokB s = true) : itoaB (decV s) = s ∧ 0 ≤ decV s := by
  unfold nokB at h
  unfold decV
  split at h
  · rename_i v hv
    rw [hv]
    simp only [Bool.and_eq_true, decide_eq_true_eq] at h
    exact ⟨h.2, h.1⟩
  · cases h
theorem ito_chars {n : Int} (h : 0 ≤ n) : ∀ c ∈ itoL n, 48 ≤ c.toNat ∧ c.toNat ≤ 57 := by
  intro c hc
  unfold itoL at hc
  rw [itoaB_data h] at hc
  exact (digits_ok _).2.2 c hc
theorem ito_not {n : Int} (h : 0 ≤ n) {c : UInt8} (hc : c.toNat < 48 ∨ 57 < c.toNat) : c ∉ itoL n := fun hm => by
  have := ito_chars h c hm
  omega
theorem index_app {c : UInt8} (r : List UInt8) : ∀ {a : List UInt8}, c ∉ a → Lib.index (a ++ c :: r) [c] = a.length
  | [], _ => by
    rw [List.nil_append]
    unfold Lib.index
    rw [if_pos (by simp)]; rfl
  | x :: a, h => by
    rw [List.mem_cons, not_or] at h
    have ih := index_app r h.2
    rw [List.cons_append]
    unfold Lib.index
    have e : ([c].isPrefixOf (x :: (a ++ c :: r))) = false := by
      simp [List.isPrefixOf, h.1]
    rw [e, ih, if_neg (by simp), if_neg (by simp)]
    simp
theorem ba_list (l : List UInt8) : (⟨l.toArray⟩ : ByteArray).data.toList = l := by simp
theorem ba_eq {s : ByteArray} {l : List UInt8} (h : s.data.toList = l) : s = ⟨l.toArray⟩ := ba_ext (by rw [ba_list]; exact h)
theorem cutC_at {c : UInt8} {s : ByteArray} {a r : List UInt8} (hs : s.data.toList = a ++ c :: r) (h : c ∉ a) : cutC c s = (⟨a.toArray⟩, ⟨r.toArray⟩, true) := by
  unfold cutC Lib.cut
  rw [hs, index_app r h, if_pos (by omega)]
  simp only [Int.toNat_natCast, List.length_singleton]
  rw [List.take_left' rfl, ← List.drop_drop, List.drop_left' rfl]
  rfl
theorem cutC_true {c : UInt8} {s : ByteArray} (h : (cutC c s).2.2 = true) : s.data.toList = (cutC c s).1.data.toList ++ c :: (cutC c s).2.1.data.toList ∧ c ∉ (cutC c s).1.data.toList := by
  by_cases h0 : 0 ≤ Lib.index s.data.toList [c]
  · obtain ⟨i, hi⟩ : ∃ i : Nat, Lib.index s.data.toList [c] = i := ⟨_, (Int.toNat_of_nonneg h0).symm⟩
    obtain ⟨a, r, e, h2, h3⟩ := index_at hi
    rw [cutC_at e h3]
    exact ⟨e, h3⟩
  · unfold cutC Lib.cut at h
    rw [if_neg h0] at h; cases h

theorem kw_not (k : Nat) (h1 : 1 ≤ k) (h2 : k ≤ 6) : (32 : UInt8) ∉ (kwB k).data.toList ∧ (10 : UInt8) ∉ (kwB k).data.toList ∧ kwB k ≠ pageW := by
  have : k = 1 ∨ k = 2 ∨ k = 3 ∨ k = 4 ∨ k = 5 ∨ k = 6 := by omega
  rcases this with rfl | rfl | rfl | rfl | rfl | rfl <;> decide +kernel
theorem kind_nat {b : Bx} (h : boxI b = 0) : ∃ k : Nat, b.kind = (k : Int) ∧ 1 ≤ k ∧ k ≤ 6 := by
  obtain ⟨h1, h2, _⟩ := bx_good h
  exact ⟨b.kind.toNat, by omega, by omega, by omega⟩
theorem text_not {b : Bx} (h : boxI b = 0) : (10 : UInt8) ∉ b.text.data.toList := by
  obtain ⟨_, _, _, _, _, _, _, _, _, _, _, _, hc⟩ := bx_good h
  intro hm
  rw [List.any_eq_false] at hc
  have := hc 10 (by unfold bytesL; exact List.mem_map.2 ⟨10, hm, rfl⟩)
  revert this; decide
theorem ito_str (n : Int) : (⟨(itoL n).toArray⟩ : ByteArray) = itoaB n := ba_str _

/-- A page's line is read. -/
theorem step_page {ps : List Pg} {s : ByteArray} {n : Int} {r : List UInt8} (h0 : 0 ≤ n) (h1 : n ≤ 1073741824) (hs : s.data.toList = headL n ++ r) : stepP ps s = some (ps ++ [⟨n, []⟩], ⟨r.toArray⟩) := by
  have e1 : cutC 10 s = (⟨([112, 97, 103, 101, 32] ++ itoL n).toArray⟩, ⟨r.toArray⟩, true) := by
    refine cutC_at ?_ ?_
    · rw [hs]; unfold headL; simp
    · intro hm
      rcases List.mem_append.1 hm with hm | hm
      · revert hm; decide
      · exact ito_not h0 (by decide) hm
  have e2 : cutC 32 (⟨([112, 97, 103, 101, 32] ++ itoL n).toArray⟩ : ByteArray) = (pageW, itoaB n, true) := by
    rw [cutC_at (a := [112, 97, 103, 101]) (r := itoL n) (by rw [ba_list]; rfl) (by decide), ito_str]
    rfl
  obtain ⟨n1, n2⟩ := nok_itoa h0 h1
  unfold stepP
  rw [e1]
  simp only
  rw [e2]
  simp only [Bool.and_self, if_true, n1, n2]
/-- A box's line is read. -/
theorem step_box {ps : List Pg} {s : ByteArray} {b : Bx} {r : List UInt8} (hb : boxI b = 0) (hp : ps ≠ []) (hs : s.data.toList = boxL b ++ r) : stepP ps s = some (putBx ps b, ⟨r.toArray⟩) := by
  obtain ⟨k, hk, k1, k2⟩ := kind_nat hb
  obtain ⟨w1, w2, w3⟩ := kw_not k k1 k2
  obtain ⟨_, _, x1, x2, y1, y2, d1, d2, b1, b2, _⟩ := bx_good hb
  have ht := text_not hb
  have hbody : ∀ c : UInt8, (c.toNat < 48 ∨ 57 < c.toNat) → c ≠ 32 → c ∉ itoL b.x ++ numL b.y ++ numL b.wd ++ numL b.blk := by
    intro c hc h32 hm
    simp only [numL, List.mem_append, List.mem_cons] at hm
    rcases hm with ((hm | hm | hm) | hm | hm) | hm | hm
    · exact ito_not x1 hc hm
    · exact h32 hm
    · exact ito_not y1 hc hm
    · exact h32 hm
    · exact ito_not d1 hc hm
    · exact h32 hm
    · exact ito_not b1 hc hm
  have e1 : cutC 10 s = (⟨((kwB k).data.toList ++ 32 :: (itoL b.x ++ numL b.y ++ numL b.wd ++ numL b.blk ++ 124 :: b.text.data.toList)).toArray⟩, ⟨r.toArray⟩, true) := by
    refine cutC_at ?_ ?_
    · rw [hs]; unfold boxL numL; rw [hk]; simp
    · intro hm
      rcases List.mem_append.1 hm with hm | hm
      · exact w2 hm
      · rcases List.mem_cons.1 hm with hm | hm
        · revert hm; decide
        · rcases List.mem_append.1 hm with hm | hm
          · exact hbody 10 (by decide) (by decide) hm
          · rcases List.mem_cons.1 hm with hm | hm
            · revert hm; decide
            · exact ht hm
  have e2 : cutC 32 (⟨((kwB k).data.toList ++ 32 :: (itoL b.x ++ numL b.y ++ numL b.wd ++ numL b.blk ++ 124 :: b.text.data.toList)).toArray⟩ : ByteArray) = (kwB k, ⟨(itoL b.x ++ numL b.y ++ numL b.wd ++ numL b.blk ++ 124 :: b.text.data.toList).toArray⟩, true) := by
    rw [cutC_at (ba_list _) w1, ba_str]
  have e3 : cutC 124 (⟨(itoL b.x ++ numL b.y ++ numL b.wd ++ numL b.blk ++ 124 :: b.text.data.toList).toArray⟩ : ByteArray) = (⟨(itoL b.x ++ numL b.y ++ numL b.wd ++ numL b.blk).toArray⟩, b.text, true) := by
    rw [cutC_at (ba_list _) (hbody 124 (by decide) (by decide)), ba_str]
  have e4 : splitS (⟨(itoL b.x ++ numL b.y ++ numL b.wd ++ numL b.blk).toArray⟩ : ByteArray) = [itoaB b.x, itoaB b.y, itoaB b.wd, itoaB b.blk] := by
    apply map_data_inj
    rw [splitS_data, ba_list]
    have q : itoL b.x ++ numL b.y ++ numL b.wd ++ numL b.blk = itoL b.x ++ 32 :: (itoL b.y ++ 32 :: (itoL b.wd ++ 32 :: itoL b.blk)) := by unfold numL; simp
    rw [q, cutL_app _ (ito_not x1 (by decide)), cutL_app _ (ito_not y1 (by decide)), cutL_app _ (ito_not d1 (by decide)), cutL_none (ito_not b1 (by decide))]
    rfl
  obtain ⟨p1, p2⟩ := nok_itoa x1 x2
  obtain ⟨q1, q2⟩ := nok_itoa y1 y2
  obtain ⟨r1, r2⟩ := nok_itoa d1 d2
  obtain ⟨s1, s2⟩ := nok_itoa b1 (by omega)
  have e5 : boxP (k : Int) (⟨(itoL b.x ++ numL b.y ++ numL b.wd ++ numL b.blk ++ 124 :: b.text.data.toList).toArray⟩ : ByteArray) = some b := by
    rw [boxP_four (a := itoaB b.x) (b := itoaB b.y) (c := itoaB b.wd) (d := itoaB b.blk) (by rw [e3]) (by rw [e3]; exact e4), p1, q1, r1, s1, p2, q2, r2, s2, e3, ← hk]
    rfl
  unfold stepP
  rw [e1]
  simp only
  rw [e2]
  simp only [Bool.and_self, if_true]
  rw [if_neg w3, kwI_at k1 k2, if_neg (by rintro (h | h); omega; exact hp h), e5]

theorem step_lt {ps qs : List Pg} {s r : ByteArray} (h : stepP ps s = some (qs, r)) : r.size < s.size := by
  unfold stepP at h
  split at h
  · rename_i hc
    rw [Bool.and_eq_true] at hc
    have hlt := cutC_lt hc.1
    split at h
    · split at h
      · cases h; exact hlt
      · cases h
    · split at h
      · cases h
      · split at h
        · cases h
        · cases h; exact hlt
  · cases h
theorem goP_fuel : ∀ (n : Nat) (ps : List Pg) (s : ByteArray) (m : Nat), s.size < n → s.size < m → goP n ps s = goP m ps s
  | 0, _, _, _, h, _ => absurd h (by omega)
  | n + 1, ps, s, 0, _, h => absurd h (by omega)
  | n + 1, ps, s, m + 1, h1, h2 => by
    unfold goP
    split
    · rfl
    · cases hst : stepP ps s with
      | none => rfl
      | some q =>
        obtain ⟨qs, r⟩ := q
        have := step_lt hst
        exact goP_fuel n qs r m (by omega) (by omega)
def GO (ps : List Pg) (s : ByteArray) : Option (List Pg) := goP (s.size + 1) ps s
theorem GO_step {ps qs : List Pg} {s r : ByteArray} (h : stepP ps s = some (qs, r)) : GO ps s = GO qs r := by
  have hlt := step_lt h
  unfold GO
  rw [goP, if_neg (by omega), h]
  exact goP_fuel _ _ _ _ (by omega) (by omega)
theorem putBx_last (ps : List Pg) (n : Int) (l : List Bx) (b : Bx) : putBx (ps ++ [⟨n, l⟩]) b = ps ++ [⟨n, l ++ [b]⟩] := by
  unfold putBx; simp
theorem GO_boxes : ∀ (bs : List Bx), (∀ b ∈ bs, boxI b = 0) → ∀ (ps : List Pg) (n : Int) (l : List Bx) (s : ByteArray) (r : List UInt8), s.data.toList = bxsL bs ++ r → GO (ps ++ [⟨n, l⟩]) s = GO (ps ++ [⟨n, l ++ bs⟩]) ⟨r.toArray⟩
  | [], _, ps, n, l, s, r, hs => by
    rw [List.append_nil, ba_eq hs]; rfl
  | b :: bs, hb, ps, n, l, s, r, hs => by
    have e : s.data.toList = boxL b ++ (bxsL bs ++ r) := by rw [hs]; simp [bxsL]
    rw [GO_step (step_box (hb b (by simp)) (by simp) e), putBx_last, GO_boxes bs (fun x hx => hb x (by simp [hx])) ps n (l ++ [b]) _ r (ba_list _), List.append_assoc]
    rfl
theorem GO_pages : ∀ (l : List Pg), firstP l = 0 → ∀ (ps : List Pg) (s : ByteArray) (r : List UInt8), s.data.toList = printL l ++ r → GO ps s = GO (ps ++ l) ⟨r.toArray⟩
  | [], _, ps, s, r, hs => by
    rw [List.append_nil, ba_eq hs]; rfl
  | p :: l, hf, ps, s, r, hs => by
    have hall := firstP_all _ hf
    obtain ⟨h1, h2, _, h4⟩ := pg_good (hall p (by simp))
    have e : s.data.toList = headL p.num ++ (bxsL p.bx ++ (printL l ++ r)) := by rw [hs]; simp [printL, pageL]
    rw [GO_step (step_page (by omega) (by omega) e), GO_boxes p.bx h4 ps p.num [] _ _ (ba_list _), List.nil_append,
      GO_pages l (firstP_none l (fun y hy => hall y (by simp [hy]))) _ _ r (ba_list _), List.append_assoc]
    rfl
/-- What is printed is read back. -/
theorem par_print {l : List Pg} (hf : firstP l = 0) (hl : l.length ≤ 1024) : parR ⟨(printL l).toArray⟩ = some l := by
  have e : parseP ⟨(printL l).toArray⟩ = some l := by
    show GO [] _ = some l
    rw [GO_pages l hf [] _ [] (by rw [ba_list, List.append_nil])]
    rfl
  unfold parR
  rw [e]
  simp only
  rw [if_neg (by rintro (h | h); omega; exact h hf)]

theorem print_app (l m : List Pg) : printL (l ++ m) = printL l ++ printL m := by simp [printL]
theorem bxs_app (l m : List Bx) : bxsL (l ++ m) = bxsL l ++ bxsL m := by simp [bxsL]
theorem print_put {ps : List Pg} {b : Bx} (h : ps ≠ []) : printL (putBx ps b) = printL ps ++ boxL b := by
  obtain ⟨init, p, rfl⟩ : ∃ init p, ps = init ++ [p] := ⟨ps.dropLast, ps.getLast h, (List.dropLast_concat_getLast h).symm⟩
  obtain ⟨n, l⟩ := p
  rw [putBx_last, print_app, print_app, List.append_assoc]
  congr 1
  simp [printL, pageL, bxsL]
theorem nok_data {s : ByteArray} (h : nokB s = true) : itoL (decV s) = s.data.toList := by
  unfold itoL; rw [(nok_back h).1]
theorem kwI_back {s : ByteArray} (h : kwI s ≠ 0) : 1 ≤ kwI s ∧ kwI s ≤ 6 ∧ s = kwB (kwI s) := by
  unfold kwI at *
  split at h
  · rename_i e; rw [if_pos e]; exact ⟨by omega, by omega, e⟩
  split at h
  · rename_i e0 e; rw [if_neg e0, if_pos e]; exact ⟨by omega, by omega, e⟩
  split at h
  · rename_i e0 e1 e; rw [if_neg e0, if_neg e1, if_pos e]; exact ⟨by omega, by omega, e⟩
  split at h
  · rename_i e0 e1 e2 e; rw [if_neg e0, if_neg e1, if_neg e2, if_pos e]; exact ⟨by omega, by omega, e⟩
  split at h
  · rename_i e0 e1 e2 e3 e; rw [if_neg e0, if_neg e1, if_neg e2, if_neg e3, if_pos e]; exact ⟨by omega, by omega, e⟩
  split at h
  · rename_i e0 e1 e2 e3 e4 e; rw [if_neg e0, if_neg e1, if_neg e2, if_neg e3, if_neg e4, if_pos e]; exact ⟨by omega, by omega, e⟩
  · exact absurd rfl h
theorem boxP_back {i : Int} {s : ByteArray} {b : Bx} (h : boxP i s = some b) : boxL b = (kwB i).data.toList ++ 32 :: s.data.toList ++ [10] := by
  unfold boxP at h
  split at h
  · rename_i a b' c d hc hsp
    split at h
    · rename_i hok
      simp only [Bool.and_eq_true] at hok
      obtain ⟨⟨⟨h1, h2⟩, h3⟩, h4⟩ := hok
      cases h
      obtain ⟨e1, _⟩ := cutC_true hc
      have e2 := splitS_join (cutC 124 s).1
      rw [hsp] at e2
      unfold boxL numL
      simp only
      rw [nok_data h1, nok_data h2, nok_data h3, nok_data h4, e1, ← e2]
      simp [Lib.join]
    · cases h
  · cases h
theorem step_back {ps qs : List Pg} {s r : ByteArray} (h : stepP ps s = some (qs, r)) : ∃ piece, printL qs = printL ps ++ piece ∧ s.data.toList = piece ++ r.data.toList := by
  unfold stepP at h
  split at h
  · rename_i hc
    rw [Bool.and_eq_true] at hc
    obtain ⟨e1, _⟩ := cutC_true hc.1
    obtain ⟨e2, _⟩ := cutC_true hc.2
    split at h
    · rename_i hp
      split at h
      · rename_i hn
        cases h
        refine ⟨headL (decV (cutC 32 (cutC 10 s).1).2.1), by rw [print_app]; simp [printL, pageL, bxsL], ?_⟩
        rw [e1, e2, hp]
        unfold headL
        rw [nok_data hn]
        simp [pageW]
      · cases h
    · split at h
      · cases h
      · rename_i hk
        rw [not_or] at hk
        split at h
        · cases h
        · rename_i b hb
          cases h
          obtain ⟨_, _, k3⟩ := kwI_back hk.1
          refine ⟨boxL b, print_put hk.2, ?_⟩
          rw [e1, e2, boxP_back hb, ← k3]
          simp
  · cases h
theorem goP_back : ∀ (n : Nat) (ps : List Pg) (s : ByteArray) (qs : List Pg), goP n ps s = some qs → printL qs = printL ps ++ s.data.toList
  | 0, _, _, _, h => by cases h
  | n + 1, ps, s, qs, h => by
    unfold goP at h
    split at h
    · rename_i h0
      cases h
      have : s.data.toList = [] := List.eq_nil_of_length_eq_zero (by rw [data_size]; exact h0)
      rw [this, List.append_nil]
    · cases hst : stepP ps s with
      | none => rw [hst] at h; cases h
      | some q =>
        obtain ⟨rs, r⟩ := q
        rw [hst] at h
        obtain ⟨piece, h1, h2⟩ := step_back hst
        rw [goP_back n rs r qs h, h1, h2, List.append_assoc]
/-- What is read is printed as it was. -/
theorem par_back {s : ByteArray} {ps : List Pg} (h : parR s = some ps) : (⟨(printL ps).toArray⟩ : ByteArray) = s ∧ firstP ps = 0 ∧ ps.length ≤ 1024 ∧ (printL ps).length = s.size := by
  unfold parR at h
  cases hp : parseP s with
  | none => rw [hp] at h; cases h
  | some qs =>
    rw [hp] at h
    simp only at h
    split at h
    · cases h
    · rename_i hn
      cases h
      rw [not_or] at hn
      have e := goP_back _ _ _ _ hp
      have e2 : printL ps = s.data.toList := e
      refine ⟨by rw [e2], Classical.not_not.1 hn.2, by omega, by rw [e2, data_size]⟩
end Go.Proofs.YtkjapeafhcdnkaaDoor
