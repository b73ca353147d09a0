/-
  Plain law for P42.3: no list of fewer sigla means the set. No program.
-/
import Derived.Test.YtigaflmhdbgmdaaPlB
import Derived.Test.YtigaflmhdbgmdaaSl
namespace Go.Proofs.Ytigaflmhdbgmdaa

theorem nodup_len : ∀ (l m : List Int), l.Nodup → (∀ x ∈ l, x ∈ m) → l.length ≤ m.length := by
  intro l
  induction l with
  | nil => intro m _ _; simp
  | cons a l ih =>
    intro m hl h
    rw [List.nodup_cons] at hl
    have ha := h a List.mem_cons_self
    have h1 := ih (m.erase a) hl.2 (fun x hx => (List.mem_erase_of_ne (by rintro rfl; exact hl.1 hx)).2 (h x (List.mem_cons_of_mem _ hx)))
    rw [List.length_erase_of_mem ha] at h1
    have : 0 < m.length := List.length_pos_of_mem ha
    rw [List.length_cons]; omega

def meanAll (gs : List Grp) (P : List Int) : Nat := P.foldl (fun a p => a ||| meanP gs p) 0
theorem meanAll_bit (gs : List Grp) (P : List Int) (i : Nat) : (meanAll gs P).testBit i = P.any fun p => (meanP gs p).testBit i := by
  unfold meanAll; rw [foldl_or_any, Nat.zero_testBit, Bool.false_or]

section
variable {names : List ByteArray} {gs : List Grp}

theorem meanP_bit (G : Good names gs) {p : Int} (hv : vld names gs p) {i : Nat} (h : (meanP gs p).testBit i = true) : i < names.length := by
  unfold meanP at h
  split at h
  · next hg =>
    obtain ⟨g, hgx, _, hm⟩ := nm_g (names := names) hv.1 hg
    rw [hm, maskN_bit, List.any_eq_true] at h
    obtain ⟨x, hx, e⟩ := h
    have := G.mem g (List.mem_of_getElem? hgx) x hx
    have e' : x.toNat = i := by simpa using e
    omega
  · rw [Nat.testBit_two_pow] at h
    have := of_decide_eq_true h
    have := hv.2
    omega

theorem meanAll_lt (G : Good names gs) {P : List Int} (hv : ∀ p ∈ P, vld names gs p) : meanAll gs P < 2 ^ names.length := by
  apply Nat.lt_pow_two_of_testBit
  intro i hi
  rw [meanAll_bit, List.any_eq_false]
  intro p hp h
  have := meanP_bit G (hv p hp) h
  omega

theorem mask_of_bits {M : Nat} (hM : M < 2 ^ 64) : maskN (bitsL M) = M := by
  apply Nat.eq_of_testBit_eq
  intro i
  by_cases hi : i < 64
  · have h := maskN_mem (l := bitsL M) (fun x hx => ((bitsL_mem M x).1 hx).1) (i : Int) (by omega)
    rw [Int.toNat_natCast, bitsL_mem, Int.toNat_natCast] at h
    rw [Bool.eq_iff_iff, h]
    constructor
    · exact fun h => h.2.2
    · exact fun h => ⟨by omega, by omega, h⟩
  · have h1 : maskN (bitsL M) < 2 ^ 64 := mask_lt (fun x hx => ⟨((bitsL_mem M x).1 hx).1, ((bitsL_mem M x).1 hx).2.1⟩)
    rw [Nat.testBit_lt_two_pow (Nat.lt_of_lt_of_le h1 (Nat.pow_le_pow_right (by omega) (by omega))), Nat.testBit_lt_two_pow (Nat.lt_of_lt_of_le hM (Nat.pow_le_pow_right (by omega) (by omega)))]

/-- P42.3. -/
theorem least (hck : checkI names gs = 0) {P : List Int} (hv : ∀ p ∈ P, vld names gs p) (hnd : P.Nodup) :
    startI names gs (bitsL (meanAll gs P)) = 0 ∧ expandI names gs (P.map (nameOf names gs)) = 0 ∧ expandL names gs (P.map (nameOf names gs)) = bitsL (meanAll gs P) ∧
    (shortL names gs (bitsL (meanAll gs P))).length ≤ P.length ∧ sortedB (bitsL (meanAll gs P)) = true := by
  have G := good_of hck
  have hM := meanAll_lt G hv
  have hM64 : meanAll gs P < 2 ^ 64 := Nat.lt_of_lt_of_le hM (Nat.pow_le_pow_right (by omega) (by have := G.nl; omega))
  have hexp : expGo names gs [] (P.map (nameOf names gs)) 0 = (0, meanAll gs P) := expGo_places G P [] 0 (by simpa using hnd) (by simpa using hv)
  have hI : expandI names gs (P.map (nameOf names gs)) = 0 := by unfold expandI; rw [if_neg (by omega), hexp]
  have h0 : startI names gs (bitsL (meanAll gs P)) = 0 := by
    unfold startI
    rw [if_neg (by omega)]
    exact ckSet_sorted _ _ _ (bitsL_sorted _) (fun x hx => by have := bitsL_lt hM x hx; omega) (fun q e => by cases e)
  refine ⟨h0, hI, by unfold expandL; rw [if_pos hI, hexp], ?_, ?_⟩
  · rw [short_len h0]
    obtain ⟨_, _, _, hmin⟩ := shortP_spec names gs (bitsL (meanAll gs P))
    rw [mask_of_bits hM64] at hmin
    generalize hMM : meanAll gs P = M at *
    have hle := within_len gs M
    let K : List Int := ((List.range (withinL gs M).length).filter fun k => decide ((withinL gs M).getD k 0 ∈ P)).map fun (k : Nat) => (k : Int)
    have hKmem : ∀ x, x ∈ K ↔ 0 ≤ x ∧ x.toNat < (withinL gs M).length ∧ (withinL gs M).getD x.toNat 0 ∈ P := by
      intro x
      simp only [K, List.mem_map, List.mem_filter, List.mem_range, decide_eq_true_eq]
      constructor
      · rintro ⟨k, ⟨h1, h2⟩, rfl⟩; exact ⟨by omega, by simpa using h1, by simpa using h2⟩
      · rintro ⟨h1, h2, h3⟩; exact ⟨x.toNat, ⟨h2, h3⟩, by omega⟩
    have hK0 : ∀ x ∈ K, 0 ≤ x := fun x hx => ((hKmem x).1 hx).1
    have hc : maskN K < 2 ^ (msOf gs (withinL gs M)).length := by
      rw [msOf_len]
      exact maskN_lt _ _ fun x hx => ((hKmem x).1 hx).2.1
    refine Nat.le_trans (hmin (maskN K) hc) ?_
    refine nodup_len _ _ (List.Pairwise.imp (fun h => by omega) (cand_sorted G hM hc)) ?_
    intro p hp
    unfold candL at hp
    rcases List.mem_append.1 hp with h | h
    · obtain ⟨k, hk, rfl⟩ := List.mem_map.1 h
      obtain ⟨h1, _, h2⟩ := (bitsL_mem _ k).1 hk
      exact ((hKmem k).1 ((maskN_mem hK0 k h1).1 h2)).2.2
    · obtain ⟨s, hs, rfl⟩ := List.mem_map.1 h
      obtain ⟨h1, h2, h3⟩ := (bitsL_mem _ s).1 hs
      have hms : ∀ m ∈ msOf gs (withinL gs M), m < 18446744073709551616 := msOf_lt (fun g hg x hx => by have := G.mem g hg x hx; have := G.nl; omega) _
      have hO : orSel (msOf gs (withinL gs M)) (maskN K) < 18446744073709551616 := orTo_lt _ _ hms _ (Nat.le_refl _)
      rw [andN_bit _ _ _ hO (by omega), Bool.and_eq_true, Bool.not_eq_true'] at h3
      obtain ⟨hm, ho⟩ := h3
      rw [← hMM, meanAll_bit, List.any_eq_true] at hm
      obtain ⟨p, hpP, hb⟩ := hm
      have hpv := hv p hpP
      by_cases hg : p < gs.length
      · exfalso
        obtain ⟨g, hgx, _, hmm⟩ := nm_g (names := names) hpv.1 hg
        have hmem : ∀ x ∈ g.mem, 0 ≤ x ∧ x < 64 := fun x hx => by have := G.mem g (List.mem_of_getElem? hgx) x hx; have := G.nl; omega
        have hin : p ∈ withinL gs M := by
          refine withinL_mem.2 ⟨hpv.1, g, hgx, (inB_iff hM64 hmem).2 fun x hx => ?_⟩
          rw [← hMM, meanAll_bit, List.any_eq_true]
          refine ⟨p, hpP, ?_⟩
          unfold meanP
          rw [if_pos hg, hmm]
          exact (maskN_mem (fun y hy => (hmem y hy).1) x (hmem x hx).1).2 hx
        obtain ⟨j, hj, ej⟩ := List.getElem_of_mem hin
        have hgd : (withinL gs M).getD j 0 = p := by rw [List.getD_eq_getElem?_getD, List.getElem?_eq_getElem hj, Option.getD_some, ej]
        have hjK : (j : Int) ∈ K := (hKmem _).2 ⟨by omega, by simpa using hj, by rw [Int.toNat_natCast, hgd]; exact hpP⟩
        have hjb := (maskN_mem hK0 (j : Int) (by omega)).2 hjK
        rw [Int.toNat_natCast] at hjb
        have : (orSel (msOf gs (withinL gs M)) (maskN K)).testBit s.toNat = true := by
          unfold orSel
          rw [orTo_bit, List.any_eq_true]
          refine ⟨j, List.mem_range.2 (by rw [msOf_len]; exact hj), ?_⟩
          rw [hjb, Bool.true_and, msOf_getD _ _ _ hj, hgd]
          unfold meanP at hb
          rwa [if_pos hg] at hb
        rw [this] at ho
        cases ho
      · unfold meanP at hb
        rw [if_neg hg, Nat.testBit_two_pow] at hb
        have := of_decide_eq_true hb
        have e : (gs.length : Int) + s = p := by omega
        rwa [e]
  · rw [sortedB_iff]
    intro k x y hx hy
    obtain ⟨h1, e1⟩ := List.getElem?_eq_some_iff.1 hx
    obtain ⟨h2, e2⟩ := List.getElem?_eq_some_iff.1 hy
    have := List.pairwise_iff_getElem.1 (bitsL_sorted (meanAll gs P)) k (k + 1) h1 h2 (by omega)
    omega

/-! ### sigla that the bits of a number select -/
def allL (names : List ByteArray) (gs : List Grp) : List ByteArray := names ++ gs.map (·.name)
def selTo (b : Nat) (all : List ByteArray) (k : Nat) : List ByteArray := ((List.range k).filter fun i => b.testBit i).map fun (i : Nat) => all.getD i ByteArray.empty
theorem selTo_succ (m : Nat) (all : List ByteArray) (k : Nat) : selTo m all (k + 1) = selTo m all k ++ if m.testBit k then [all.getD k ByteArray.empty] else [] := by
  unfold selTo
  rw [List.range_succ, List.filter_append, List.map_append]
  by_cases h : m.testBit k <;> simp [h]
theorem selTo_len (m : Nat) (all : List ByteArray) (k : Nat) : (selTo m all k).length ≤ k := by
  unfold selTo
  rw [List.length_map]
  have := List.length_filter_le (fun i => m.testBit i) (List.range k)
  simpa using this

def placeAt (n gl i : Nat) : Int := if i < n then (gl : Int) + i else (i : Int) - n
def selP (b n gl k : Nat) : List Int := ((List.range k).filter fun i => b.testBit i).map fun (i : Nat) => placeAt n gl i
theorem sel_places (b : Nat) : selTo b (allL names gs) (allL names gs).length = (selP b names.length gs.length (allL names gs).length).map (nameOf names gs) ∧
    (∀ p ∈ selP b names.length gs.length (allL names gs).length, vld names gs p) ∧ (selP b names.length gs.length (allL names gs).length).Nodup := by
  have hlen : (allL names gs).length = names.length + gs.length := by simp [allL]
  rw [hlen]
  have hpl : ∀ i, i < names.length + gs.length → vld names gs (placeAt names.length gs.length i) ∧ nameOf names gs (placeAt names.length gs.length i) = (allL names gs).getD i ByteArray.empty := by
    intro i hi
    unfold placeAt allL
    by_cases h : i < names.length
    · rw [if_pos h]
      refine ⟨⟨by omega, by omega⟩, ?_⟩
      unfold nameOf
      rw [if_neg (by omega), List.getD_eq_getElem?_getD, List.getD_eq_getElem?_getD, List.getElem?_append_left h]
      congr 2
      omega
    · rw [if_neg h]
      refine ⟨⟨by omega, by omega⟩, ?_⟩
      obtain ⟨g, hg, hn, _⟩ := nm_g (names := names) (gs := gs) (p := (i : Int) - names.length) (by omega) (by omega)
      rw [hn, List.getD_eq_getElem?_getD, List.getElem?_append_right (by omega), List.getElem?_map]
      rw [show i - names.length = ((i : Int) - names.length).toNat by omega, hg]; rfl
  refine ⟨?_, ?_, ?_⟩
  · unfold selTo selP
    rw [List.map_map]
    refine List.map_congr_left fun i hi => ?_
    have := List.mem_range.1 (List.mem_filter.1 hi).1
    exact (hpl i this).2.symm
  · intro p hp
    obtain ⟨i, hi, rfl⟩ := List.mem_map.1 hp
    exact (hpl i (List.mem_range.1 (List.mem_filter.1 hi).1)).1
  · unfold selP
    show List.Pairwise (fun a b => a ≠ b) _
    rw [List.pairwise_map]
    refine List.Pairwise.imp_of_mem ?_ (List.Pairwise.filter _ List.pairwise_lt_range)
    intro a b ha hb hab
    have h1 := List.mem_range.1 (List.mem_filter.1 ha).1
    have h2 := List.mem_range.1 (List.mem_filter.1 hb).1
    unfold placeAt
    split <;> split <;> omega
end
end Go.Proofs.Ytigaflmhdbgmdaa
