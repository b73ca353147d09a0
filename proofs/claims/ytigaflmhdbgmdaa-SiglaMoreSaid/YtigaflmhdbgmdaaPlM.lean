/-
  Plain law for P42.6: fewer groups, and a group of exactly the set. No program.
-/
import Derived.Test.YtigaflmhdbgmdaaPlK
namespace Go.Proofs.Ytigaflmhdbgmdaa

section
variable {names : List ByteArray} {gs : List Grp} {set : List Int}

/-- Validity, taken apart and put together. -/
theorem grp_facts (h : checkI names gs = 0) : ∀ g ∈ gs, isNameB g.name = true ∧ g.name ∉ names ∧ g.mem ≠ [] ∧ ckSet names.length none g.mem = 0 := by
  obtain ⟨_, _, _, h4⟩ := checkI_ok h
  have G := good_of h
  intro g hg
  obtain ⟨a, b, c⟩ := ckGrps_ok names gs [] h4 g hg
  exact ⟨a, G.dj g hg, fun e => by rw [e] at b; simp at b, c⟩
theorem check_mk {gs' : List Grp} (h : checkI names gs = 0) (hl : gs'.length ≤ 16) (h1 : ∀ g ∈ gs', isNameB g.name = true ∧ g.name ∉ names ∧ g.mem ≠ [] ∧ ckSet names.length none g.mem = 0) (h2 : (gs'.map (·.name)).Nodup) : checkI names gs' = 0 := by
  obtain ⟨a, _, c, _⟩ := checkI_ok h
  have hg : ckGrps names [] gs' = 0 := ckGrps_of _ _ _ h1 h2 (fun x _ h => by cases h)
  unfold checkI
  rw [if_neg (by omega), c, if_neg (by simp), if_neg (by omega), hg]

theorem start_mk {gs' : List Grp} (h0 : startI names gs set = 0) (h : checkI names gs' = 0) : startI names gs' set = 0 := by
  obtain ⟨_, hs⟩ := startI_ok h0
  unfold startI
  rw [if_neg (by omega), hs]

theorem start_less (h0 : startI names gs set = 0) (j : Nat) : startI names (gs.take j ++ gs.drop (j + 1)) set = 0 := by
  obtain ⟨hc, _⟩ := startI_ok h0
  have G := good_of hc
  have hsub : (gs.take j ++ gs.drop (j + 1)).Sublist gs := by rw [← List.eraseIdx_eq_take_drop_succ]; exact List.eraseIdx_sublist gs j
  refine start_mk h0 (check_mk hc (Nat.le_trans hsub.length_le G.gl) (fun g hg => grp_facts hc g (hsub.subset hg)) ?_)
  exact (hsub.map (·.name)).nodup G.gd

def skip (j : Nat) (p : Int) : Int := if p < j then p else p + 1

theorem less_mean {j : Nat} (hj : j < gs.length) (p : Int) (hp : 0 ≤ p) : meanP gs (skip j p) = meanP (gs.take j ++ gs.drop (j + 1)) p := by
  have hl : (gs.take j ++ gs.drop (j + 1)).length = gs.length - 1 := by simp; omega
  unfold skip meanP
  rw [hl]
  by_cases h : p < j
  · rw [if_pos h, if_pos (by omega), if_pos (by omega)]
    unfold memAt
    rw [List.getElem?_append_left (by simp; omega), List.getElem?_take_of_lt (by omega)]
  · rw [if_neg h]
    by_cases h2 : p + 1 < gs.length
    · rw [if_pos h2, if_pos (by omega)]
      unfold memAt
      rw [List.getElem?_append_right (by simp; omega), List.getElem?_drop]
      have e : j + 1 + (p.toNat - (gs.take j).length) = (p + 1).toNat := by simp; omega
      rw [e]
    · rw [if_neg h2, if_neg (by omega)]
      congr 1
      omega

/-- With a group less no form is shorter. -/
theorem less_len (h0 : startI names gs set = 0) {j : Nat} (hj : j < gs.length) : (shortL names gs set).length ≤ (shortL names (gs.take j ++ gs.drop (j + 1)) set).length := by
  have h1 := start_less h0 j
  obtain ⟨hc, _⟩ := startI_ok h0
  obtain ⟨G, hM, hbits, _, _⟩ := set_facts h1
  have hl : (gs.take j ++ gs.drop (j + 1)).length = gs.length - 1 := by simp; omega
  obtain ⟨c, hcc, he, _⟩ := shortP_spec names (gs.take j ++ gs.drop (j + 1)) set
  have hv := cand_vld G hM hcc
  have hs := cand_sorted G hM hcc
  have hm := cand_means G hM hcc
  rw [short_len h1, he]
  generalize candL (gs.take j ++ gs.drop (j + 1)).length (withinL (gs.take j ++ gs.drop (j + 1)) (maskN set)) (msOf (gs.take j ++ gs.drop (j + 1)) (withinL (gs.take j ++ gs.drop (j + 1)) (maskN set))) (maskN set) c = P at *
  have hv2 : ∀ p ∈ P.map (skip j), vld names gs p := by
    intro q hq
    obtain ⟨p, hp, rfl⟩ := List.mem_map.1 hq
    have := hv p hp
    unfold vld at this ⊢
    rw [hl] at this
    unfold skip
    split <;> omega
  have hn2 : (P.map (skip j)).Nodup := by
    show List.Pairwise (fun a b => a ≠ b) _
    rw [List.pairwise_map]
    refine List.Pairwise.imp (fun {a b} h => ?_) hs
    unfold skip
    split <;> split <;> omega
  have hmean : meanAll gs (P.map (skip j)) = maskN set := by
    rw [← hm]
    apply Nat.eq_of_testBit_eq
    intro i
    rw [meanAll_bit, foldl_or_any, Nat.zero_testBit, Bool.false_or, List.any_map, Bool.eq_iff_iff, List.any_eq_true, List.any_eq_true]
    constructor
    · rintro ⟨p, hp, e⟩; exact ⟨p, hp, by rw [← less_mean hj p (hv p hp).1]; exact e⟩
    · rintro ⟨p, hp, e⟩; exact ⟨p, hp, by rw [Function.comp_apply, less_mean hj p (hv p hp).1]; exact e⟩
  obtain ⟨_, _, _, h3, _⟩ := least hc hv2 hn2
  rw [hmean, hbits, List.length_map] at h3
  exact h3

theorem start_one (h0 : startI names gs set = 0) (hl : gs.length ≤ 15) (name : ByteArray) (hb : isNameB name = true) (hn : name ∉ names) (hg : ∀ g ∈ gs, g.name ≠ name) (hne : set ≠ []) : startI names (gs ++ [⟨name, set⟩]) set = 0 := by
  obtain ⟨hc, hs⟩ := startI_ok h0
  have G := good_of hc
  refine start_mk h0 (check_mk hc (by simp; omega) (fun g hm => ?_) ?_)
  · rcases List.mem_append.1 hm with h | h
    · exact grp_facts hc g h
    · rw [List.mem_singleton] at h; subst h; exact ⟨hb, hn, hne, hs⟩
  · rw [List.map_append, List.nodup_append]
    refine ⟨G.gd, by simp, fun a ha b hb e => ?_⟩
    obtain ⟨g, hgm, rfl⟩ := List.mem_map.1 ha
    have hb' : b = name := by simpa using hb
    exact hg g hgm (e.trans hb')

/-- With a group of exactly the set its form is one siglum. -/
theorem one_len (h0 : startI names gs set = 0) (hl : gs.length ≤ 15) (name : ByteArray) (hb : isNameB name = true) (hn : name ∉ names) (hg : ∀ g ∈ gs, g.name ≠ name) (hne : set ≠ []) : (shortL names (gs ++ [⟨name, set⟩]) set).length = 1 := by
  have h1 := start_one h0 hl name hb hn hg hne
  obtain ⟨hc, _⟩ := startI_ok h1
  obtain ⟨_, hM, hbits, _, _⟩ := set_facts h1
  have hmem : memAt (gs ++ [⟨name, set⟩]) (gs.length : Int) = set := by unfold memAt; rw [Int.toNat_natCast]; simp
  have hmean : meanAll (gs ++ [⟨name, set⟩]) [(gs.length : Int)] = maskN set := by
    simp only [meanAll, List.foldl_cons, List.foldl_nil, Nat.zero_or]
    unfold meanP
    rw [if_pos (by simp; omega), hmem]
  obtain ⟨_, _, _, h3, _⟩ := least hc (P := [(gs.length : Int)]) (fun p hp => by rw [List.mem_singleton] at hp; subst hp; unfold vld; simp; omega) (by simp)
  rw [hmean, hbits, List.length_singleton] at h3
  obtain ⟨_, m2, _⟩ := short_means h1
  rcases Nat.lt_or_ge 0 (shortL names (gs ++ [⟨name, set⟩]) set).length with h | h
  · omega
  · exfalso
    have e : shortL names (gs ++ [⟨name, set⟩]) set = [] := List.eq_nil_of_length_eq_zero (by omega)
    rw [e] at m2
    have h5 : expandL names (gs ++ [⟨name, set⟩]) [] = [] := by
      unfold expandL
      split
      · show bitsL 0 = []
        decide
      · rfl
    rw [h5] at m2
    exact hne m2.symm
end
end Go.Proofs.Ytigaflmhdbgmdaa
