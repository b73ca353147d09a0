/-
  P42.1, first part: the walk of SiglaForms.
-/
import Derived.Test.YtigaflmhdbgmdaaFormC
import Derived.Test.YtigaflmhdbgmdaaAwake
namespace Go.Proofs.Ytigaflmhdbgmdaa
open Go.RowKit

theorem great_small {names : List ByteArray} {gs : List Grp} (h : greatB names gs = false) (h0 : checkI names gs = 0) : names.length ≤ 8 ∧ gs.length ≤ 8 := by
  have G := good_of h0
  have hn := G.nl
  have hg := G.gl
  unfold greatB at h
  simp only [Bool.or_eq_false_iff, Bool.and_eq_false_iff, decide_eq_false_iff_not] at h
  omega

set_option maxHeartbeats 2000000 in
set_option maxRecDepth 100000 in
theorem forms_any (v u s : Value) (names : List ByteArray) (gs : List Grp) (set : List Int) (w : World) (hr : RdS w v names) (hg : RdG w u gs) (hs : RdI w s set) (hz : Szs names) (hzg : SzG gs) :
    Calls Try.prog 4 #[v, u, s] w fun e w' => e = .returned (.bool true) ∧ Below w.heap.size w w' := by
  have HGr := hid (great_any v u names gs w hr hg hz hzg)
  obtain ⟨a2, cap2, rfl, hlc2, hcm2, _⟩ := hs.open
  by_cases hcase : greatB names gs = false ∧ set.length ≤ 10
  · obtain ⟨hgr, hsl⟩ := hcase
    rw [hgr] at HGr
    have HS1 := fun w' h1 h2 h3 => hid (short_any v u (.slice a2 set.length cap2) names gs set w' h1 h2 h3 hz hzg (great_small hgr))
    have HS2 := fun w' h1 h2 h3 => hid (rshort_any v u (.slice a2 set.length cap2) names gs set w' h1 h2 h3 hz hzg (by omega))
    have HG1 := fun w' h1 h2 h3 => hid (groups_any v u (.slice a2 set.length cap2) names gs set w' h1 h2 h3 hz hzg)
    have HG2 := fun w' h1 h2 h3 => hid (rgroups_any v u (.slice a2 set.length cap2) names gs set w' h1 h2 h3 hz hzg)
    have HC1 := fun w' h1 h2 => hid (check_any v u names gs w' h1 h2 hz hzg)
    have HC2 := fun w' h1 h2 => hid (rcheckG_any v u names gs w' h1 h2 hz hzg)
    generalize shortL names gs set = L at *
    generalize groupsL names gs set = U at *
    generalize startI names gs set = E at *
    generalize checkI names gs = C at *
    have HE1 := fun x y w' h1 h2 => hid (equalS_any x y L L w' h1 h2)
    have HE2 := fun x y w' h1 h2 => hid (equalI_any x y U U w' h1 h2)
    rw [decide_eq_true rfl] at HE1 HE2
    clear hgr hz hzg
    go_enter Try.func4, Try.ntmps4
    go_wp2_with fail
    refine HGr.out.mono ?_
    rintro e w1 ⟨rfl, rfl⟩
    go_wp2_with fail
    refine (HS1 _ hr hg hs).out.mono ?_
    rintro e w1 ⟨vl, rfl, hl, hB1⟩
    have hr1 := hr.below hB1
    have hg1 := hg.below hB1
    have hs1 := hs.below hB1
    clear HS1 HGr
    go_wp2_with fail
    refine (HS2 _ hr1 hg1 hs1).out.mono ?_
    rintro e w2 ⟨vk, rfl, hk, hB2⟩
    have hr2 := hr1.below hB2
    have hg2 := hg1.below hB2
    have hs2 := hs1.below hB2
    have hl2 := hl.below hB2
    have hB := below_tr hB1 hB2
    clear HS2 hr1 hg1 hs1 hl hB1 hB2
    go_wp2_with fail
    refine (HG1 _ hr2 hg2 hs2).out.mono ?_
    rintro e w3 ⟨vu, rfl, hu, hB3⟩
    have hr3 := hr2.below hB3
    have hg3 := hg2.below hB3
    have hs3 := hs2.below hB3
    have hl3 := hl2.below hB3
    have hk3 := hk.below hB3
    have hBB := below_tr hB hB3
    clear HG1 hr2 hg2 hs2 hl2 hk hB hB3
    go_wp2_with fail
    refine (HG2 _ hr3 hg3 hs3).out.mono ?_
    rintro e w4 ⟨vw, rfl, hw, hB4⟩
    have hr4 := hr3.below hB4
    have hg4 := hg3.below hB4
    have hl4 := hl3.below hB4
    have hk4 := hk3.below hB4
    have hu4 := hu.below hB4
    have hB := below_tr hBB hB4
    clear HG2 hr3 hg3 hs3 hl3 hk3 hu hBB hB4
    go_wp2_with fail
    refine (HC1 _ hr4 hg4).out.mono ?_
    rintro e w5 ⟨rfl, hB5⟩
    have hr5 := hr4.below hB5
    have hg5 := hg4.below hB5
    have hl5 := hl4.below hB5
    have hk5 := hk4.below hB5
    have hu5 := hu4.below hB5
    have hw5 := hw.below hB5
    have hBB := below_tr hB hB5
    clear HC1 hr4 hg4 hl4 hk4 hu4 hw hB hB5
    go_wp2_with fail
    refine (HC2 _ hr5 hg5).out.mono ?_
    rintro e w6 ⟨rfl, hB6⟩
    have hl6 := hl5.below hB6
    have hk6 := hk5.below hB6
    have hu6 := hu5.below hB6
    have hw6 := hw5.below hB6
    have hB := below_tr hBB hB6
    clear HC2 hr5 hg5 hl5 hk5 hu5 hw5 hBB hB6
    go_wp2_with fail
    refine (HE1 _ _ _ hl6 hk6).out.mono ?_
    rintro e w7 ⟨rfl, hB7⟩
    have hu7 := hu6.below hB7
    have hw7 := hw6.below hB7
    have hBB := below_tr hB hB7
    clear HE1 hl6 hk6 hu6 hw6 hB hB7
    go_wp2_with fail
    refine (HE2 _ _ _ hu7 hw7).out.mono ?_
    rintro e w8 ⟨rfl, hB8⟩
    have hB := below_tr hBB hB8
    clear HE2 hu7 hw7 hBB hB8
    go_wp2_with fail
    refine (awake_any _).mono ?_
    rintro e w9 ⟨rfl, hB9⟩
    have hBB := below_tr hB hB9
    clear hB hB9
    go_wp2
    go_ret
    exact ⟨rfl, hBB⟩
  · have hor : greatB names gs = true ∨ (greatB names gs = false ∧ 10 < set.length) := by
      cases h : greatB names gs with
      | true => exact .inl rfl
      | false => exact .inr ⟨rfl, Nat.lt_of_not_le fun k => hcase ⟨h, k⟩⟩
    clear hcase hz hzg
    rcases hor with h | ⟨h, h10⟩
    all_goals
      rw [h] at HGr
      clear h
      go_enter Try.func4, Try.ntmps4
      go_wp2_with fail
      refine HGr.out.mono ?_
      rintro e w1 ⟨rfl, rfl⟩
      go_wp2_with fail
      refine (awake_any _).mono ?_
      rintro e w2 ⟨rfl, hB2⟩
      go_wp2
      go_ret
      exact ⟨rfl, hB2⟩
end Go.Proofs.Ytigaflmhdbgmdaa
