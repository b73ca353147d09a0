/-
  The reference of layer 42: Shortest.
-/
import Derived.Test.YtigaflmhdbgmdaaFormB
namespace Go.Proofs.Ytigaflmhdbgmdaa
open Go.RowKit

section
variable {names : List ByteArray} {gs : List Grp} {set : List Int}

theorem restTo_sorted (gs : List Grp) (us : List Int) (c : Nat) (l : List Int) (h : l.Pairwise (· < ·)) : ∀ k, (restTo gs us c l k).Pairwise (· < ·) := by
  intro k
  induction k with
  | zero => exact h
  | succ k ih =>
    unfold restTo
    split
    · exact ih.filter _
    · exact ih
theorem restTo_mem (gs : List Grp) (us : List Int) (c : Nat) (l : List Int) (x : Int) : ∀ k, x ∈ restTo gs us c l k ↔ x ∈ l ∧ ∀ j, j < k → c.testBit j = true → x ∉ memAt gs (us.getD j 0) := by
  intro k
  induction k with
  | zero => simp [restTo]
  | succ k ih =>
    unfold restTo
    by_cases hb : c.testBit k = true
    · rw [if_pos hb, List.mem_filter, ih, Bool.not_eq_true', List.any_eq_false]
      constructor
      · rintro ⟨⟨h1, h2⟩, h3⟩
        refine ⟨h1, fun j hj hc => ?_⟩
        rcases Nat.lt_succ_iff_lt_or_eq.1 hj with h | rfl
        · exact h2 j h hc
        · exact fun hm => h3 x hm (by simp)
      · rintro ⟨h1, h2⟩
        refine ⟨⟨h1, fun j hj hc => h2 j (by omega) hc⟩, fun y hy e => ?_⟩
        have e' : y = x := by simpa using e
        subst e'
        exact h2 k (by omega) hb hy
    · rw [if_neg hb, ih]
      constructor
      · rintro ⟨h1, h2⟩
        refine ⟨h1, fun j hj hc => ?_⟩
        rcases Nat.lt_succ_iff_lt_or_eq.1 hj with h | rfl
        · exact h2 j h hc
        · exact absurd hc hb
      · rintro ⟨h1, h2⟩
        exact ⟨h1, fun j hj hc => h2 j (by omega) hc⟩

theorem places_cand (h0 : startI names gs set = 0) {c : Nat} (hc : c < 2 ^ (withinL gs (maskN set)).length) :
    placesL gs (withinL gs (maskN set)) c set = candL gs.length (withinL gs (maskN set)) (msOf gs (withinL gs (maskN set))) (maskN set) c := by
  obtain ⟨G, hM, hbits, hx, hsrt⟩ := set_facts h0
  have hle := within_len gs (maskN set)
  have hgl := G.gl
  have hnl := G.nl
  have hms : ∀ m ∈ msOf gs (withinL gs (maskN set)), m < 18446744073709551616 := msOf_lt (fun g hg x hx => by have := G.mem g hg x hx; omega) _
  have hO : orSel (msOf gs (withinL gs (maskN set))) c < 18446744073709551616 := orTo_lt _ c hms _ (Nat.le_refl _)
  have hu := withinTo_mem gs (maskN set) gs.length (Nat.le_refl _)
  unfold placesL candL
  congr 1
  · unfold outTo
    congr 1
    refine sorted_ext _ _ (bitsTo_sorted _ _) (bitsL_sorted _) fun x => ?_
    rw [bitsTo_mem, bitsL_mem]
    constructor
    · rintro ⟨h1, h2, h3⟩; exact ⟨h1, by omega, h3⟩
    · rintro ⟨h1, h2, h3⟩
      exact ⟨h1, (bitsL_lt hc x ((bitsL_mem _ _).2 ⟨h1, h2, h3⟩)).2.1, h3⟩
  · congr 1
    refine sorted_ext _ _ (restTo_sorted _ _ _ _ hsrt _) (bitsL_sorted _) fun x => ?_
    rw [restTo_mem, bitsL_mem]
    have key : 0 ≤ x → ((orSel (msOf gs (withinL gs (maskN set))) c).testBit x.toNat = false ↔ ∀ j, j < (withinL gs (maskN set)).length → c.testBit j = true → x ∉ memAt gs ((withinL gs (maskN set)).getD j 0)) := by
      intro hx0
      unfold orSel
      rw [orTo_bit, List.any_eq_false]
      have hmm : ∀ j, ∀ y ∈ memAt gs ((withinL gs (maskN set)).getD j 0), 0 ≤ y := by
        intro j y hy
        have := memAt_mem (gs := gs) (fun g hg x hx => by have := G.mem g hg x hx; omega) _ y hy
        exact this.1
      constructor
      · intro h j hj hcj hm
        refine h j (List.mem_range.2 (by rw [msOf_len]; exact hj)) ?_
        rw [hcj, msOf_getD _ _ _ hj, (maskN_mem (hmm j) x hx0).2 hm]; rfl
      · intro h j hj e
        rw [List.mem_range, msOf_len] at hj
        rw [Bool.and_eq_true, msOf_getD _ _ _ hj] at e
        exact h j hj e.1 ((maskN_mem (hmm j) x hx0).1 e.2)
    constructor
    · rintro ⟨h1, h2⟩
      have hr := hx x h1
      refine ⟨hr.1, by omega, ?_⟩
      rw [andN_bit _ _ _ hO (by omega), (maskN_mem (fun y hy => (hx y hy).1) x hr.1).2 h1, (key hr.1).2 h2]; rfl
    · rintro ⟨h1, h2, h3⟩
      rw [andN_bit _ _ _ hO (by omega), Bool.and_eq_true, Bool.not_eq_true'] at h3
      exact ⟨(maskN_mem (fun y hy => (hx y hy).1) x h1).1 h3.1, (key h1).1 h3.2⟩
end

/-- The best of the first choices. -/
def candsTo (gs : List Grp) (us : List Int) (set : List Int) (k : Nat) : Option (List Int) := bestOf ((List.range k).map fun c => placesL gs us c set)
theorem candsTo_succ (gs : List Grp) (us set : List Int) (k : Nat) : candsTo gs us set (k + 1) = stepB (candsTo gs us set k) (placesL gs us k set) := by
  simp [candsTo, bestOf, List.range_succ, List.foldl_append]
theorem candsTo_mem (gs : List Grp) (us set : List Int) (k : Nat) (L : List Int) (h : candsTo gs us set k = some L) : ∃ c, c < k ∧ L = placesL gs us c set := by
  rcases bestOf_in _ _ _ h with h | h
  · obtain ⟨c, hc, rfl⟩ := List.mem_map.1 h
    exact ⟨c, List.mem_range.1 hc, rfl⟩
  · cases h
theorem candsTo_short {names : List ByteArray} {gs : List Grp} {set : List Int} (h0 : startI names gs set = 0) (L : List Int) (h : candsTo gs (withinL gs (maskN set)) set (2 ^ (withinL gs (maskN set)).length) = some L) : shortP names gs set = L := by
  unfold shortP
  simp only
  rw [msOf_len]
  have e : ((List.range (2 ^ (withinL gs (maskN set)).length)).map fun c => candL gs.length (withinL gs (maskN set)) (msOf gs (withinL gs (maskN set))) (maskN set) c) = (List.range (2 ^ (withinL gs (maskN set)).length)).map fun c => placesL gs (withinL gs (maskN set)) c set :=
    List.map_congr_left fun c hc => (places_cand h0 (List.mem_range.1 hc)).symm
  rw [e]
  unfold candsTo at h
  rw [h]; rfl

theorem restTo_len (gs : List Grp) (us : List Int) (c : Nat) (l : List Int) : ∀ k, (restTo gs us c l k).length ≤ l.length := by
  intro k
  induction k with
  | zero => exact Nat.le_refl _
  | succ k ih =>
    unfold restTo
    split
    · exact Nat.le_trans (List.length_filter_le _ _) ih
    · exact ih
theorem placesL_len (gs : List Grp) (us : List Int) (c : Nat) (l : List Int) : (placesL gs us c l).length ≤ us.length + l.length := by
  have h1 := bitsTo_len c us.length
  have h2 := restTo_len gs us c l us.length
  simp only [placesL, outTo, List.length_append, List.length_map]
  omega

set_option maxHeartbeats 4000000 in
set_option maxRecDepth 100000 in
theorem rshort_any (v u s : Value) (names : List ByteArray) (gs : List Grp) (set : List Int) (w : World) (hr : RdS w v names) (hg : RdG w u gs) (hs : RdI w s set) (hz : Szs names) (hzg : SzG gs) (hsl : set.length ≤ 1000) :
    Calls Try.prog 16 #[v, u, s] w fun e w' => ∃ r, e = .returned (.tuple #[r, .int .i64 (startI names gs set)]) ∧ RdS w' r (shortL names gs set) ∧ Below w.heap.size w w' := by
  have hC := hid (rgroups_any v u s names gs set w hr hg hs hz hzg)
  by_cases h0 : startI names gs set = 0
  · obtain ⟨G, hM, _, hx, _⟩ := set_facts h0
    have hgl := G.gl
    have hnl := G.nl
    have HL : Hid (shortL names gs set = (shortP names gs set).map (nameOf names gs)) := by unfold shortL; rw [if_pos h0]; rfl
    have HG : groupsL names gs set = withinL gs (maskN set) := groupsL_eq h0
    rw [HG] at hC
    have HSH := hid (fun L h => candsTo_short h0 L h)
    have hul : (withinL gs (maskN set)).length ≤ 16 := by have := within_len gs (maskN set); omega
    have hu := withinTo_mem gs (maskN set) gs.length (Nat.le_refl _)
    have HSH2 := HSH
    have HV : Hid (∀ c, c < 2 ^ (withinL gs (maskN set)).length → ∀ p ∈ placesL gs (withinL gs (maskN set)) c set, vld names gs p) := by
      intro c hc p hp
      rw [places_cand h0 hc] at hp
      exact cand_vld G hM (by rw [msOf_len]; exact hc) p hp
    have HP := fun c s' w' hc h1 h2 h3 => hid (places_any u s' s gs (withinL gs (maskN set)) set c w' h1 h2 h3 hu hc hgl hul hsl (fun x h => by have := hx x h; omega))
    rw [h0] at hC ⊢
    clear h0 HG hx G hM hz hzg hu
    generalize withinL gs (maskN set) = us at *
    obtain ⟨a0, cap0, rfl, hlc0, hcm0, hcell0⟩ := hr.open
    have HCell0 := hid hcell0; clear hcell0
    obtain ⟨ag, capg, rfl, hlcg, hcmg, hcellg⟩ := hg.open
    have HCellg := hid hcellg; clear hcellg
    go_enter Try.func16, Try.ntmps16
    go_wp2_with fail
    refine hC.out.mono ?_
    rintro e w1 ⟨vu, rfl, hu1, hB1⟩
    clear hC
    have hg1 := hg.below hB1
    have hs1 := hs.below hB1
    go_wp2_with fail
    refine (HP 0 _ _ (by omega) hg1 hu1 hs1).out.mono ?_
    rintro e w2 ⟨v0, rfl, h02, hB2⟩
    have hu2 := hu1.below hB2
    have hB := below_tr hB1 hB2
    have HC1 : Hid (candsTo gs us set 1 = some (placesL gs us 0 set)) := rfl
    clear hB1 hB2 hg1 hs1 hu1
    obtain ⟨au, capu, rfl, hlcu, hcmu, _⟩ := hu2.open
    have hpow : (2 : Nat) ^ us.length ≤ 65536 := Nat.pow_le_pow_right (n := 2) (j := 16) (by omega) hul
    have hpos := Nat.two_pow_pos us.length
    have hsh : wrap64 (2 ^ us.length) = (((2 : Nat) ^ us.length : Nat) : Int) := by
      have e1 : ((2 : Int) ^ us.length) = (((2 : Nat) ^ us.length : Nat) : Int) := by simp
      rw [e1]
      generalize (2 : Nat) ^ us.length = z at hpow
      unfold wrap64
      omega
    go_wp2_with fail
    generalize (2 : Nat) ^ us.length = T at *
    go_loopw [10, 11] (fun bv i wr => ∃ (c : Nat) (L : List Int), 1 ≤ c ∧ c ≤ T ∧ i = .int .i64 c ∧ Hid (candsTo gs us set c = some L) ∧ RdI wr bv L ∧ Below w2.heap.size w2 wr) (fun _ i _ => T - (intOf i).toNat)
    case atStart => exact ⟨1, placesL gs us 0 set, by omega, by omega, rfl, HC1, h02, Below.refl _ _⟩
    case round =>
      rename_i wr
      have HBo := hid hB
      clear hB h02 HC1
      obtain ⟨c, L, hc1, hcT, rfl, HCA, hL, hB⟩ := hrel
      by_cases hlt : c < T
      · have hgw := hg.below (below_tr HBo.out hB)
        have hsw := hs.below (below_tr HBo.out hB)
        have huw := hu2.below hB
        have hcs := candsTo_succ gs us set c
        rw [HCA.out] at hcs
        have HPc := HP c _ _ (by omega) hgw huw hsw
        clear hgw hsw huw
        go_wp2_with fail
        refine HPc.out.mono ?_
        rintro e w3 ⟨vp, rfl, hp3, hB3⟩
        have hL3 := hL.below hB3
        have hB' := below_tr hB hB3
        have HBt := hid (better_any _ _ _ _ _ hp3 hL3)
        clear HPc hL hB hB3
        simp only [stepB] at hcs
        generalize betterB (placesL gs us c set) L = bt at *
        cases bt with
        | true =>
          rw [if_pos rfl] at hcs
          have HCS := hid hcs
          clear hcs
          go_wp2_with fail
          refine HBt.out.mono ?_
          rintro e w4 ⟨rfl, hB4⟩
          have hp4 := hp3.below hB4
          have hBz := below_tr hB' hB4
          clear HBt hB4 hB' hp3 hL3
          go_wp2
          go_roundw
          case rel => exact ⟨c + 1, _, by omega, by omega, by go_num, HCS, hp4, hBz⟩
          case measure => simp [intOf]; omega
        | false =>
          rw [if_neg (by simp)] at hcs
          have HCS := hid hcs
          clear hcs
          go_wp2_with fail
          refine HBt.out.mono ?_
          rintro e w4 ⟨rfl, hB4⟩
          have hL4 := hL3.below hB4
          have hBz := below_tr hB' hB4
          clear HBt hB4 hB' hp3 hL3
          go_wp2
          go_roundw
          case rel => exact ⟨c + 1, _, by omega, by omega, by go_num, HCS, hL4, hBz⟩
          case measure => simp [intOf]; omega
      · obtain rfl : c = T := by omega
        have hSP := HSH.out L HCA.out
        obtain ⟨c', hc', hLc⟩ := candsTo_mem _ _ _ _ _ HCA.out
        have hLv : Hid (∀ p ∈ L, vld names gs p) := by rw [hLc]; exact HV.out c' hc'
        have hLl : L.length ≤ 2000 := by
          have := placesL_len gs us c' set
          rw [hLc]; omega
        have HL2 : Hid (shortL names gs set = L.map (nameOf names gs)) := by rw [HL.out, hSP]; rfl
        clear hSP hLc hc' HCA HV HSH HSH2 HP HL
        obtain ⟨aL, capL, rfl, hlcL, hcmL, hcellL⟩ := hL.open
        have HCellL := hid hcellL
        have HBw := hid (below_tr HBo.out hB)
        clear hcellL hL hB
        go_wp2_with fail
        clear hsh hpow hpos hc1 hcT hlt hul hsl hu2 hlcu hcmu HBo hs
        obtain ⟨wo, rfl⟩ : ∃ wo : World, wo = wr := ⟨_, rfl⟩
        go_loopw [13, 14] (fun o i wr => ∃ (k : Nat) (xs : List ByteArray), k ≤ L.length ∧ i = .int .i64 k ∧ Hid (xs = (L.take k).map (nameOf names gs)) ∧ xs.length ≤ k ∧ wr.ownsRow wo.heap.size 9 1 o xs.length (xs.map Value.string) ∧ Below wo.heap.size wo wr) (fun _ i _ => L.length - (intOf i).toNat)
        case atStart => exact ⟨0, [], by omega, rfl, rfl, by simp, World.ownsRow_made _ #[] 0 (Nat.le_refl _) (by unfold maxLen; omega) rfl, below_al _ _⟩
        case round =>
          rename_i wr
          obtain ⟨k, xs, hk, rfl, HX, hxl, hown, hB⟩ := hrel
          by_cases hltk : k < L.length
          · obtain ⟨p, bL, offL, hp, rfl, hcp0⟩ := HCellL.out k hltk
            have hcp := Below.keeps hB _ _ hcp0
            have hpv := hLv.out p (List.mem_of_getElem? hp)
            have HTX : Hid ((L.take (k + 1)).map (nameOf names gs) = xs ++ [nameOf names gs p]) := by rw [List.take_add_one, hp, List.map_append, ← HX.out]; rfl
            have hBw := below_tr HBw.out hB
            clear hp hcp0
            by_cases hpg : p < gs.length
            · obtain ⟨j, rfl⟩ : ∃ j : Nat, p = (j : Int) := ⟨p.toNat, by have := hpv.1; omega⟩
              have hjl : j < gs.length := by omega
              obtain ⟨g, b1, off1, m, hgx, rfl, hcg0, _, _⟩ := HCellg.out j hjl
              have hcg := Below.keeps hBw _ _ hcg0
              have hnm : nameOf names gs (j : Int) = g.name := by unfold nameOf; rw [if_pos hpg, Int.toNat_natCast, hgx]
              rw [hnm] at HTX
              clear hnm hgx hcg0 hBw hpv
              go_wp2_with (at_builtin; refine wpList_ap rfl _ _ 22 rfl wo.heap.size 9 Try.underlying22 infoStr rfl (by decide) (by decide) _ _ _ rfl hown [.string g.name] rfl (by simp [Value.oneCell']) rfl (by simp) (by omega) hB.size ?_; intro v' w4 hown' hb1 _)
              go_roundw
              case rel => exact ⟨k + 1, xs ++ [g.name], by omega, by go_num, HTX.out.symm, by rw [List.length_append, List.length_singleton]; omega, by simpa using hown', hB.trans hb1⟩
              case measure => simp [intOf]; omega
            · have hnn := nm_n hpv hpg
              obtain ⟨j, hj⟩ : ∃ j : Nat, p - (gs.length : Int) = (j : Int) := ⟨(p - gs.length).toNat, by omega⟩
              rw [hj, Int.toNat_natCast] at hnn
              have hjl : j < names.length := (List.getElem?_eq_some_iff.1 hnn).1
              obtain ⟨y, b1, off1, hy, rfl, hcy0⟩ := HCell0.out j hjl
              have hcy := Below.keeps hBw _ _ hcy0
              obtain hye : nameOf names gs p = y := Option.some.inj (hnn.symm.trans hy)
              rw [hye] at HTX
              have hp1 := hpv.1
              have hp2 := hpv.2
              clear hye hnn hy hcy0 hBw hpv
              go_wp2_with (at_builtin; refine wpList_ap rfl _ _ 22 rfl wo.heap.size 9 Try.underlying22 infoStr rfl (by decide) (by decide) _ _ _ rfl hown [.string y] rfl (by simp [Value.oneCell']) rfl (by simp) (by omega) hB.size ?_; intro v' w4 hown' hb1 _)
              go_roundw
              case rel => exact ⟨k + 1, xs ++ [y], by omega, by go_num, HTX.out.symm, by rw [List.length_append, List.length_singleton]; omega, by simpa using hown', hB.trans hb1⟩
              case measure => simp [intOf]; omega
          · obtain rfl : k = L.length := by omega
            have hrz := Rd.of_own (enc := Value.string) hown
            have HXE : Hid (shortL names gs set = xs) := by rw [HL2.out, HX.out, List.take_of_length_le (Nat.le_refl _)]; rfl
            have hBz := below_tr HBw.out hB
            go_wp2
            go_ret2
            exact ⟨_, rfl, by rw [HXE.out]; exact hrz, hBz⟩
  · have hb : (startI names gs set != 0) = true := by simpa using h0
    have HL : Hid (shortL names gs set = []) := by unfold shortL; rw [if_neg h0]; rfl
    clear h0
    generalize startI names gs set = c at *
    go_enter Try.func16, Try.ntmps16
    go_wp2_with fail
    refine hC.out.mono ?_
    rintro e w1 ⟨vu, rfl, hu1, hB1⟩
    go_wp2
    go_ret2
    exact ⟨_, rfl, by rw [HL.out]; exact Rd.nil _, hB1⟩
end Go.Proofs.Ytigaflmhdbgmdaa
