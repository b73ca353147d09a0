/-
  Plain laws of shortest forms: what they mean, and that they are least. No program.
-/
import Derived.Test.YtigaflmhdbgmdaaDoorPlA
namespace Go.Proofs.YtigaflmhdbgmdaaDoor

theorem bestOf_min : ∀ (l : List (List Int)) (b : Option (List Int)) (L : List Int), l.foldl stepB b = some L → (∀ L' ∈ l, L.length ≤ L'.length) ∧ ∀ b', b = some b' → L.length ≤ b'.length := by
  intro l
  induction l with
  | nil =>
    intro b L h
    constructor
    · intro _ hm; cases hm
    · intro b' e
      rw [List.foldl_nil, e] at h
      cases h
      exact Nat.le_refl _
  | cons a l ih =>
    intro b L h
    obtain ⟨h1, h2⟩ := ih _ L h
    cases b with
    | none =>
      have := h2 a rfl
      exact ⟨fun L' hL => by rcases List.mem_cons.1 hL with rfl | hL; exact this; exact h1 _ hL, fun b' e => by cases e⟩
    | some b =>
      simp only [stepB] at h2
      by_cases hb : betterB a b = true
      · rw [if_pos hb] at h2
        have h3 := h2 a rfl
        have h4 : a.length ≤ b.length := by
          unfold betterB at hb
          simp only [Bool.or_eq_true, Bool.and_eq_true, decide_eq_true_eq] at hb
          omega
        exact ⟨fun L' hL => by rcases List.mem_cons.1 hL with rfl | hL; exact h3; exact h1 _ hL, fun b' e => by cases e; omega⟩
      · rw [if_neg hb] at h2
        have h3 := h2 b rfl
        have h4 : b.length ≤ a.length := by
          unfold betterB at hb
          simp only [Bool.or_eq_true, Bool.and_eq_true, decide_eq_true_eq] at hb
          omega
        exact ⟨fun L' hL => by rcases List.mem_cons.1 hL with rfl | hL; omega; exact h1 _ hL, fun b' e => by cases e; exact h3⟩
theorem foldl_stepB_some : ∀ (l : List (List Int)) (b : List Int), ∃ L, l.foldl stepB (some b) = some L := by
  intro l
  induction l with
  | nil => intro b; exact ⟨b, rfl⟩
  | cons a l ih =>
    intro b
    simp only [List.foldl_cons, stepB]
    split
    · exact ih a
    · exact ih b
theorem bestOf_some {l : List (List Int)} (h : l ≠ []) : ∃ L, bestOf l = some L := by
  cases l with
  | nil => exact absurd rfl h
  | cons a l => exact foldl_stepB_some l a

/-- The best of all choices: one of them, and no longer than any. -/
theorem shortP_spec (names : List ByteArray) (gs : List Grp) (set : List Int) : ∃ c, c < 2 ^ (msOf gs (withinL gs (maskN set))).length ∧
    shortP names gs set = candL gs.length (withinL gs (maskN set)) (msOf gs (withinL gs (maskN set))) (maskN set) c ∧
    ∀ c', c' < 2 ^ (msOf gs (withinL gs (maskN set))).length → (shortP names gs set).length ≤ (candL gs.length (withinL gs (maskN set)) (msOf gs (withinL gs (maskN set))) (maskN set) c').length := by
  have hS : shortP names gs set = (bestOf ((List.range (2 ^ (msOf gs (withinL gs (maskN set))).length)).map fun c => candL gs.length (withinL gs (maskN set)) (msOf gs (withinL gs (maskN set))) (maskN set) c)).getD [] := rfl
  rw [hS]
  clear hS
  generalize withinL gs (maskN set) = us
  generalize msOf gs us = ms
  have hpos := Nat.two_pow_pos ms.length
  have hne : ((List.range (2 ^ ms.length)).map fun c => candL gs.length us ms (maskN set) c) ≠ [] := by
    intro h
    have := congrArg List.length h
    simp at this
  obtain ⟨L, hL⟩ := bestOf_some hne
  simp only [hL, Option.getD_some]
  obtain ⟨h1, _⟩ := bestOf_min _ _ _ hL
  rcases bestOf_in _ _ _ hL with h | h
  · obtain ⟨c, hc, rfl⟩ := List.mem_map.1 h
    exact ⟨c, List.mem_range.1 hc, rfl, fun c' hc' => h1 _ (List.mem_map_of_mem (List.mem_range.2 hc'))⟩
  · cases h

theorem inB_iff {S : Nat} {g : Grp} (hS : S < 18446744073709551616) (h : ∀ x ∈ g.mem, 0 ≤ x ∧ x < 64) : inB S g = true ↔ ∀ x ∈ g.mem, S.testBit x.toNat = true := by
  unfold inB
  rw [decide_eq_true_eq]
  constructor
  · intro e x hx
    have h1 := andN_bit (maskN g.mem) S x.toNat hS (by have := h x hx; omega)
    rw [e, Nat.zero_testBit, (maskN_mem (fun y hy => (h y hy).1) x (h x hx).1).2 hx] at h1
    simpa using h1.symm
  · intro hx
    apply Nat.eq_of_testBit_eq
    intro i
    rw [Nat.zero_testBit]
    by_cases hi : i < 64
    · rw [andN_bit _ _ _ hS hi, maskN_bit]
      cases ha : g.mem.any fun x => decide (x.toNat = i) with
      | false => rfl
      | true =>
        obtain ⟨x, hm, e⟩ := List.any_eq_true.1 ha
        have e' : x.toNat = i := by simpa using e
        rw [← e', hx x hm]; rfl
    · exact Nat.testBit_lt_two_pow (Nat.lt_of_lt_of_le (andN_lt _ S 64 (mask_lt h)) (Nat.pow_le_pow_right (by omega) (by omega)))

theorem withinL_sorted (gs : List Grp) (S : Nat) : (withinL gs S).Pairwise (· < ·) := by
  unfold withinL withinTo
  rw [List.pairwise_map]
  refine List.Pairwise.imp ?_ (List.Pairwise.filter _ List.pairwise_lt_range)
  intro a b h; omega
theorem withinL_mem {gs : List Grp} {S : Nat} {x : Int} : x ∈ withinL gs S ↔ 0 ≤ x ∧ ∃ g, gs[x.toNat]? = some g ∧ inB S g = true := by
  unfold withinL withinTo
  simp only [List.mem_map, List.mem_filter, List.mem_range]
  constructor
  · rintro ⟨i, ⟨h1, h2⟩, rfl⟩
    refine ⟨by omega, ?_⟩
    rw [Int.toNat_natCast]
    split at h2
    · next g hg => exact ⟨g, hg, h2⟩
    · cases h2
  · rintro ⟨h0, g, hg, hb⟩
    refine ⟨x.toNat, ⟨(List.getElem?_eq_some_iff.1 hg).1, ?_⟩, by omega⟩
    rw [hg]; exact hb

theorem orTo_bit (ms : List Nat) (c i : Nat) : ∀ k, (orTo ms c k).testBit i = (List.range k).any fun j => c.testBit j && (ms.getD j 0).testBit i := by
  intro k
  induction k with
  | zero => simp [orTo]
  | succ k ih =>
    unfold orTo
    rw [List.range_succ, List.any_append]
    cases hc : c.testBit k with
    | true => rw [if_pos rfl, Nat.testBit_or, ih]; simp [hc]
    | false => rw [if_neg (by simp), ih]; simp [hc]

theorem msOf_len (gs : List Grp) (us : List Int) : (msOf gs us).length = us.length := by simp [msOf]
theorem msOf_getD (gs : List Grp) (us : List Int) (j : Nat) (h : j < us.length) : (msOf gs us).getD j 0 = maskN (memAt gs (us.getD j 0)) := by
  unfold msOf
  rw [List.getD_eq_getElem?_getD, List.getElem?_map, List.getD_eq_getElem?_getD, List.getElem?_eq_getElem h]; rfl

section
variable {names : List ByteArray} {gs : List Grp}

theorem within_len (gs : List Grp) (S : Nat) : (withinL gs S).length ≤ gs.length := withinTo_len gs S gs.length

theorem cand_sorted (_ : Good names gs) {M c : Nat} (_ : M < 2 ^ names.length) (hc : c < 2 ^ (msOf gs (withinL gs M)).length) : (candL gs.length (withinL gs M) (msOf gs (withinL gs M)) M c).Pairwise (· < ·) := by
  have hle := within_len gs M
  have hu := withinTo_mem gs M gs.length (Nat.le_refl _)
  have hsrt := withinL_sorted gs M
  unfold candL
  rw [List.pairwise_append]
  refine ⟨?_, ?_, ?_⟩
  · rw [List.pairwise_map]
    refine List.Pairwise.imp_of_mem ?_ (bitsL_sorted c)
    intro a b ha hb hab
    have h1 := bitsL_lt hc a ha
    have h2 := bitsL_lt hc b hb
    rw [msOf_len] at h1 h2
    have i1 : a.toNat < (withinL gs M).length := by omega
    have i2 : b.toNat < (withinL gs M).length := by omega
    rw [List.getD_eq_getElem?_getD, List.getD_eq_getElem?_getD, List.getElem?_eq_getElem i1, List.getElem?_eq_getElem i2]
    exact List.pairwise_iff_getElem.1 hsrt _ _ i1 i2 (by omega)
  · rw [List.pairwise_map]
    exact List.Pairwise.imp (fun h => by omega) (bitsL_sorted _)
  · intro p hp q hq
    obtain ⟨k, hk, rfl⟩ := List.mem_map.1 hp
    obtain ⟨s, hs, rfl⟩ := List.mem_map.1 hq
    have h1 := bitsL_lt hc k hk
    rw [msOf_len] at h1
    have i1 : k.toNat < (withinL gs M).length := by omega
    rw [List.getD_eq_getElem?_getD, List.getElem?_eq_getElem i1]
    have h2 := hu _ (List.getElem_mem i1)
    have h3 := (bitsL_mem _ _).1 hs
    simp only [Option.getD_some]
    omega

theorem cand_vld (_ : Good names gs) {M c : Nat} (hM : M < 2 ^ names.length) (hc : c < 2 ^ (msOf gs (withinL gs M)).length) : ∀ p ∈ candL gs.length (withinL gs M) (msOf gs (withinL gs M)) M c, vld names gs p := by
  intro p hp
  have := cand_mem (n := names.length) (withinTo_mem gs M gs.length (Nat.le_refl _)) (msOf_len gs _) hc hM p hp
  unfold vld; omega

theorem orSel_sub (G : Good names gs) {M c : Nat} (hM : M < 2 ^ names.length) (i : Nat) (h : (orSel (msOf gs (withinL gs M)) c).testBit i = true) : M.testBit i = true := by
  have hM64 : M < 18446744073709551616 := Nat.lt_of_lt_of_le hM (Nat.pow_le_pow_right (n := 2) (j := 64) (by omega) (by have := G.nl; omega))
  unfold orSel at h
  rw [orTo_bit, List.any_eq_true] at h
  obtain ⟨j, hj, e⟩ := h
  rw [List.mem_range, msOf_len] at hj
  rw [Bool.and_eq_true, msOf_getD _ _ _ hj, maskN_bit, List.any_eq_true] at e
  obtain ⟨_, x, hx, e⟩ := e
  have e' : x.toNat = i := by simpa using e
  rw [List.getD_eq_getElem?_getD, List.getElem?_eq_getElem hj, Option.getD_some] at hx
  obtain ⟨h0, g, hg, hb⟩ := withinL_mem.1 (List.getElem_mem hj)
  unfold memAt at hx
  rw [hg] at hx
  have hmem : ∀ x ∈ g.mem, 0 ≤ x ∧ x < 64 := fun x hx => by have := G.mem g (List.mem_of_getElem? hg) x hx; have := G.nl; omega
  rw [← e']
  exact (inB_iff hM64 hmem).1 hb x hx

theorem cand_means (G : Good names gs) {M c : Nat} (hM : M < 2 ^ names.length) (hc : c < 2 ^ (msOf gs (withinL gs M)).length) :
    (candL gs.length (withinL gs M) (msOf gs (withinL gs M)) M c).foldl (fun a p => a ||| meanP gs p) 0 = M := by
  have hle := within_len gs M
  have hgl := G.gl
  have hnl := G.nl
  have hu := withinTo_mem gs M gs.length (Nat.le_refl _)
  have hM64 : M < 18446744073709551616 := Nat.lt_of_lt_of_le hM (Nat.pow_le_pow_right (n := 2) (j := 64) (by omega) (by omega))
  have hms : ∀ m ∈ msOf gs (withinL gs M), m < 18446744073709551616 := msOf_lt (fun g hg x hx => by have := G.mem g hg x hx; omega) _
  have hO : orSel (msOf gs (withinL gs M)) c < 18446744073709551616 := orTo_lt (msOf gs (withinL gs M)) c hms _ (Nat.le_refl _)
  apply Nat.eq_of_testBit_eq
  intro i
  rw [foldl_or_any, Nat.zero_testBit, Bool.false_or]
  unfold candL
  rw [List.any_append]
  have hA : (((bitsL c).map fun k => (withinL gs M).getD k.toNat 0).any fun p => (meanP gs p).testBit i) = (orSel (msOf gs (withinL gs M)) c).testBit i := by
    unfold orSel
    rw [orTo_bit, Bool.eq_iff_iff, List.any_eq_true, List.any_eq_true]
    constructor
    · rintro ⟨p, hp, e⟩
      obtain ⟨k, hk, rfl⟩ := List.mem_map.1 hp
      have h1 := bitsL_lt hc k hk
      have hkc := ((bitsL_mem c k).1 hk).2.2
      have h2 := h1
      rw [msOf_len] at h2
      have i1 : k.toNat < (withinL gs M).length := by omega
      refine ⟨k.toNat, List.mem_range.2 (by rw [msOf_len]; exact i1), ?_⟩
      rw [msOf_getD _ _ _ i1, hkc, Bool.true_and]
      unfold meanP at e
      rw [if_pos] at e
      · exact e
      · rw [List.getD_eq_getElem?_getD, List.getElem?_eq_getElem i1]
        exact (hu _ (List.getElem_mem i1)).2
    · rintro ⟨j, hj, e⟩
      rw [List.mem_range, msOf_len] at hj
      rw [Bool.and_eq_true, msOf_getD _ _ _ hj] at e
      refine ⟨(withinL gs M).getD j 0, List.mem_map.2 ⟨(j : Int), (bitsL_mem c j).2 ⟨by omega, by omega, by rw [Int.toNat_natCast]; exact e.1⟩, by rw [Int.toNat_natCast]⟩, ?_⟩
      unfold meanP
      rw [if_pos]
      · exact e.2
      · rw [List.getD_eq_getElem?_getD, List.getElem?_eq_getElem hj]
        exact (hu _ (List.getElem_mem hj)).2
  have hB : (((bitsL (andN M (orSel (msOf gs (withinL gs M)) c))).map fun s => (gs.length : Int) + s).any fun p => (meanP gs p).testBit i) = (andN M (orSel (msOf gs (withinL gs M)) c)).testBit i := by
    have hR := andN_lt M (orSel (msOf gs (withinL gs M)) c) names.length hM
    generalize andN M (orSel (msOf gs (withinL gs M)) c) = R at *
    rw [Bool.eq_iff_iff, List.any_eq_true]
    constructor
    · rintro ⟨p, hp, e⟩
      obtain ⟨s, hs, rfl⟩ := List.mem_map.1 hp
      obtain ⟨h0, h1, h2⟩ := (bitsL_mem R s).1 hs
      unfold meanP at e
      rw [if_neg (by omega), Nat.testBit_two_pow] at e
      have e' : s.toNat = i := by
        have := of_decide_eq_true e
        omega
      rwa [← e']
    · intro e
      have hi : i < 64 := by
        rcases Nat.lt_or_ge i 64 with h | h
        · exact h
        · rw [Nat.testBit_lt_two_pow (Nat.lt_of_lt_of_le hR (Nat.pow_le_pow_right (by omega) (by omega)))] at e; cases e
      refine ⟨(gs.length : Int) + (i : Int), List.mem_map.2 ⟨(i : Int), (bitsL_mem R i).2 ⟨by omega, by omega, by rw [Int.toNat_natCast]; exact e⟩, rfl⟩, ?_⟩
      unfold meanP
      rw [if_neg (by omega), Nat.testBit_two_pow]
      exact decide_eq_true (by omega)
  rw [hA, hB]
  have hsub := orSel_sub G (c := c) hM i
  by_cases hi : i < 64
  · rw [andN_bit _ _ _ hO hi]
    revert hsub
    cases (orSel (msOf gs (withinL gs M)) c).testBit i <;> cases M.testBit i <;> simp
  · have h1 : M.testBit i = false := Nat.testBit_lt_two_pow (Nat.lt_of_lt_of_le hM (Nat.pow_le_pow_right (by omega) (by omega)))
    have h2 : (andN M (orSel (msOf gs (withinL gs M)) c)).testBit i = false := Nat.testBit_lt_two_pow (Nat.lt_of_lt_of_le (andN_lt M _ names.length hM) (Nat.pow_le_pow_right (by omega) (by omega)))
    rw [h1, h2, Bool.or_false]
    rw [h1] at hsub
    cases h : (orSel (msOf gs (withinL gs M)) c).testBit i with
    | false => rfl
    | true => exact absurd (hsub h) (by simp)

/-- Names and groups are valid, and the set is one of sources. -/
theorem set_facts {set : List Int} (h0 : startI names gs set = 0) : Good names gs ∧ maskN set < 2 ^ names.length ∧ bitsL (maskN set) = set ∧ (∀ x ∈ set, 0 ≤ x ∧ x < names.length) ∧ set.Pairwise (· < ·) := by
  obtain ⟨hc, hs⟩ := startI_ok h0
  have G := good_of hc
  have hx := ckSet_ok _ _ _ hs
  have hsrt := (ckSet_srt _ _ _ hs).1
  have hnl := G.nl
  exact ⟨G, maskN_lt _ _ (fun x h => by have := hx x h; omega), bits_of_mask hsrt (fun x h => by have := hx x h; omega), hx, hsrt⟩

theorem short_len {set : List Int} (h0 : startI names gs set = 0) : (shortL names gs set).length = (shortP names gs set).length := by unfold shortL; rw [if_pos h0, List.length_map]

/-- P42.2: what the shortest form of a set means. -/
theorem short_means {set : List Int} (h0 : startI names gs set = 0) : expandI names gs (shortL names gs set) = 0 ∧ expandL names gs (shortL names gs set) = set ∧ (shortL names gs set).length ≤ set.length := by
  obtain ⟨G, hM, hbits, _, _⟩ := set_facts h0
  obtain ⟨hck, _⟩ := startI_ok h0
  obtain ⟨c, hc, he, hmin⟩ := shortP_spec names gs set
  have hsl : shortL names gs set = (shortP names gs set).map (nameOf names gs) := by unfold shortL; rw [if_pos h0]
  have hexp : expGo names gs [] (shortL names gs set) 0 = (0, maskN set) := by
    rw [hsl, he]
    have h := expGo_places G (candL gs.length (withinL gs (maskN set)) (msOf gs (withinL gs (maskN set))) (maskN set) c) [] 0
      (by rw [List.nil_append]; exact List.Pairwise.imp (fun h => by omega) (cand_sorted G hM hc)) (by rw [List.nil_append]; exact cand_vld G hM hc)
    rw [cand_means G hM hc] at h
    exact h
  have hI : expandI names gs (shortL names gs set) = 0 := by unfold expandI; rw [if_neg (by omega), hexp]
  refine ⟨hI, ?_, ?_⟩
  · unfold expandL; rw [if_pos hI, hexp]; exact hbits
  · rw [short_len h0]
    refine Nat.le_trans (hmin 0 (Nat.two_pow_pos _)) ?_
    have e1 : bitsL 0 = [] := by decide
    have e2 : orSel (msOf gs (withinL gs (maskN set))) 0 = 0 := by
      apply Nat.eq_of_testBit_eq
      intro i
      unfold orSel
      rw [orTo_bit, Nat.zero_testBit]
      simp
    have e3 : andN (maskN set) 0 = maskN set := by
      have hnl := G.nl
      have h64 : maskN set < 2 ^ 64 := Nat.lt_of_lt_of_le hM (Nat.pow_le_pow_right (by omega) (by omega))
      apply Nat.eq_of_testBit_eq
      intro i
      by_cases hi : i < 64
      · rw [andN_bit _ _ _ (by decide) hi]; simp
      · rw [Nat.testBit_lt_two_pow (Nat.lt_of_lt_of_le h64 (Nat.pow_le_pow_right (by omega) (by omega))), Nat.testBit_lt_two_pow (Nat.lt_of_lt_of_le (andN_lt _ 0 64 h64) (Nat.pow_le_pow_right (by omega) (by omega)))]
    unfold candL
    rw [e1, e2, e3, hbits]
    simp
end
end Go.Proofs.YtigaflmhdbgmdaaDoor
