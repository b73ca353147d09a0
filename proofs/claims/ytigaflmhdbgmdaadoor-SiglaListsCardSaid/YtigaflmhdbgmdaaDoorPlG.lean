/-
  Plain laws for P42.5: which groups a shortest form has; what it is without groups. No program.
-/
import Derived.Test.YtigaflmhdbgmdaaDoorPlB
namespace Go.Proofs.YtigaflmhdbgmdaaDoor

theorem cand_zero (gl : Int) (us : List Int) (ms : List Nat) (M : Nat) (hM : M < 2 ^ 64) : candL gl us ms M 0 = (bitsL M).map fun s => gl + s := by
  have e1 : bitsL 0 = [] := by decide
  have e2 : orSel ms 0 = 0 := by
    apply Nat.eq_of_testBit_eq
    intro i
    unfold orSel
    rw [orTo_bit, Nat.zero_testBit]
    simp
  have e3 : andN M 0 = M := by
    apply Nat.eq_of_testBit_eq
    intro i
    by_cases hi : i < 64
    · rw [andN_bit _ _ _ (by decide) hi]; simp
    · rw [Nat.testBit_lt_two_pow (Nat.lt_of_lt_of_le hM (Nat.pow_le_pow_right (by omega) (by omega))), Nat.testBit_lt_two_pow (Nat.lt_of_lt_of_le (andN_lt _ 0 64 hM) (Nat.pow_le_pow_right (by omega) (by omega)))]
  unfold candL
  rw [e1, e2, e3]
  rfl

section
variable {names : List ByteArray} {gs : List Grp} {set : List Int}

theorem start_bare (h0 : startI names gs set = 0) : startI names [] set = 0 := by
  obtain ⟨hc, hs⟩ := startI_ok h0
  obtain ⟨h1, _, h3, _⟩ := checkI_ok hc
  unfold startI checkI
  rw [if_neg (by omega : ¬ 32 < names.length), h3]
  simp [ckGrps, hs]

theorem short_bare (h0 : startI names gs set = 0) : shortL names [] set = set.map fun p => names.getD p.toNat ByteArray.empty := by
  have hb0 := start_bare h0
  obtain ⟨G, hM, hbits, hx, _⟩ := set_facts hb0
  obtain ⟨c, hc, he, _⟩ := shortP_spec names [] set
  have e0 : c = 0 := by
    have : (msOf [] (withinL [] (maskN set))).length = 0 := by simp [msOf, withinL, withinTo]
    rw [this] at hc
    omega
  subst e0
  have h64 : maskN set < 2 ^ 64 := Nat.lt_of_lt_of_le hM (Nat.pow_le_pow_right (by omega) (by have := G.nl; omega))
  rw [cand_zero _ _ _ _ h64, hbits] at he
  unfold shortL
  rw [if_pos hb0, he, List.map_map]
  refine List.map_congr_left fun p hp => ?_
  have := hx p hp
  simp only [Function.comp_apply, nameOf, List.length_nil]
  rw [if_neg (by omega)]
  congr 1
  omega

theorem inside_eq (h0 : startI names gs set = 0) {g : Grp} (hg : g ∈ gs) : inB (maskN set) g = !(g.mem.any fun n => !(set.any fun y => decide (n = y))) := by
  obtain ⟨G, hM, _, hx, _⟩ := set_facts h0
  have hnl := G.nl
  have h64 : maskN set < 2 ^ 64 := Nat.lt_of_lt_of_le hM (Nat.pow_le_pow_right (by omega) (by omega))
  have hmem : ∀ x ∈ g.mem, 0 ≤ x ∧ x < 64 := fun x h => by have := G.mem g hg x h; omega
  rw [Bool.eq_iff_iff, inB_iff h64 hmem, Bool.not_eq_true', List.any_eq_false]
  constructor
  · intro h x hxm
    have := (maskN_mem (fun y hy => (hx y hy).1) x (hmem x hxm).1).1 (h x hxm)
    simp [this]
  · intro h x hxm
    have := h x hxm
    refine (maskN_mem (fun y hy => (hx y hy).1) x (hmem x hxm).1).2 ?_
    simpa using this

theorem groupsL_eq (h0 : startI names gs set = 0) : groupsL names gs set = withinL gs (maskN set) := by unfold groupsL; rw [if_pos h0]

theorem in_groups (h0 : startI names gs set = 0) {j : Nat} {g : Grp} (hg : gs[j]? = some g) :
    ((groupsL names gs set).any fun y => decide ((j : Int) = y)) = !(g.mem.any fun n => !(set.any fun y => decide (n = y))) := by
  rw [← inside_eq h0 (List.mem_of_getElem? hg), groupsL_eq h0, Bool.eq_iff_iff, List.any_eq_true]
  constructor
  · rintro ⟨y, hy, e⟩
    have e' : (j : Int) = y := by simpa using e
    subst e'
    obtain ⟨_, g', hg', hb⟩ := withinL_mem.1 hy
    rw [Int.toNat_natCast, hg] at hg'
    cases hg'
    exact hb
  · intro hb
    exact ⟨(j : Int), withinL_mem.2 ⟨by omega, g, by rw [Int.toNat_natCast]; exact hg, hb⟩, by simp⟩

theorem not_in_short (h0 : startI names gs set = 0) {j : Nat} {g : Grp} (hg : gs[j]? = some g) (hin : (g.mem.any fun n => !(set.any fun y => decide (n = y))) = true) :
    ((shortL names gs set).any fun y => decide (g.name = y)) = false := by
  obtain ⟨G, hM, _, hx, _⟩ := set_facts h0
  obtain ⟨c, hc, he, _⟩ := shortP_spec names gs set
  have hjl : j < gs.length := (List.getElem?_eq_some_iff.1 hg).1
  rw [List.any_eq_false]
  intro y hy
  simp only [decide_eq_true_eq]
  rintro rfl
  unfold shortL at hy
  rw [if_pos h0] at hy
  obtain ⟨p, hp, e⟩ := List.mem_map.1 hy
  rw [he] at hp
  have hpv := cand_vld G hM hc p hp
  have hjv : vld names gs (j : Int) := ⟨by omega, by omega⟩
  have hjn : nameOf names gs (j : Int) = g.name := by
    obtain ⟨g', hg', hn, _⟩ := nm_g (names := names) (gs := gs) (p := (j : Int)) (by omega) (by omega)
    rw [Int.toNat_natCast, hg] at hg'
    cases hg'
    exact hn
  have hpj : p = (j : Int) := nm_inj G hpv hjv (e.trans hjn.symm)
  subst hpj
  unfold candL at hp
  rcases List.mem_append.1 hp with h | h
  · obtain ⟨k, hk, ek⟩ := List.mem_map.1 h
    have h1 := bitsL_lt hc k hk
    rw [msOf_len] at h1
    have i1 : k.toNat < (withinL gs (maskN set)).length := by omega
    rw [List.getD_eq_getElem?_getD, List.getElem?_eq_getElem i1, Option.getD_some] at ek
    have hm : (j : Int) ∈ withinL gs (maskN set) := by rw [← ek]; exact List.getElem_mem i1
    obtain ⟨_, g', hg', hb⟩ := withinL_mem.1 hm
    rw [Int.toNat_natCast, hg] at hg'
    cases hg'
    rw [inside_eq h0 (List.mem_of_getElem? hg), hin] at hb
    cases hb
  · obtain ⟨s, hs, es⟩ := List.mem_map.1 h
    have := (bitsL_mem _ _).1 hs
    omega
end
end Go.Proofs.YtigaflmhdbgmdaaDoor
