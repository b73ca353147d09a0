/-
  slices.ContainsFunc over pages with the two functions of the law PagedescLossless. Printed by genlos.py.
-/
import Derived.Test.YtkjapeafhcdnkaaDoorPrs
namespace Go.Proofs.YtkjapeafhcdnkaaDoor
open Go.RowKit

theorem los1_any (p : Pg) (v : Value) (w : World) (hr : RdB w v p.bx) (hz : SzB p.bx) :
    Calls Tryd.prog 17 #[.agg #[.int .i64 p.num, v]] w fun e w' => e = .returned (.bool (badPg p)) ∧ Below w.heap.size w w' := by
  obtain ⟨a, cap, rfl, _, _, _⟩ := hr.open
  have hb0 := below_al w (.cells #[.int .i64 p.num, .slice a p.bx.length cap] 34)
  have HC := hid (pcheck_any p _ _ (hr.below hb0) hz)
  go_enter Tryd.func17, Tryd.ntmps17
  go_wp2_with fail
  refine HC.out.mono ?_
  rintro e w1 ⟨rfl, hB1⟩
  go_wp2
  go_ret
  refine ⟨ret_bool ?_, below_tr hb0 hB1⟩
  unfold badPg
  by_cases h : pgI p = 0
  · rw [h]; rfl
  · rw [decide_eq_true h]; simpa using h

set_option maxHeartbeats 1000000 in
theorem indexLos1_any (v : Value) (l : List Pg) (w : World) (hr : RdPg w v l) (hz : SzPg l) :
    Calls Tryd.prog 51 #[v, .func (.func 17) #[] #[]] w fun e w' => e = .returned (.int .i64 (fIdx badPg l)) ∧ Below w.heap.size w w' := by
  obtain ⟨a, cap, rfl, hlc, hcm, hcell⟩ := hr.open
  have HCell := hid hcell; clear hcell
  have HZ := hid hz
  clear hz hr
  go_enter Tryd.func51, Tryd.ntmps51
  go_wp2
  go_loopw [8] (fun i wr => ∃ k : Nat, k ≤ l.length ∧ i = .int .i64 k ∧ Hid (∀ y ∈ l.take k, badPg y = false) ∧ Hid (Below w.heap.size w wr)) (fun i _ => l.length - (intOf i).toNat)
  case atStart => exact ⟨0, Nat.zero_le _, rfl, by simp [Hid], Below.refl _ _⟩
  case round =>
    obtain ⟨k, hk, rfl, HK, HB⟩ := hrel
    by_cases hlt : k < l.length
    · obtain ⟨p, b, off, u, hp, rfl, c0, c1, hu⟩ := HCell.out k hlt
      obtain ⟨au, cu, rfl, _, _, _⟩ := hu.open
      have hki : (k : Int) < (l.length : Int) := by omega
      have d0 := Below.keeps HB.out _ _ c0
      have d1 := Below.keeps HB.out _ _ c1
      have HCK := hid (los1_any p _ wr (hu.below HB.out) (HZ.out p (List.mem_of_getElem? hp)))
      have HX := hid hp
      clear c0 c1 hu hp
      go_wp2_with fail
      refine HCK.out.mono ?_
      rintro e w3 ⟨rfl, hB3⟩
      have HB3 := hid (below_tr HB.out hB3)
      clear HCK hB3 d0 d1 HB
      cases hbp : badPg p with
      | true =>
        go_wp2
        go_ret
        exact ⟨ret_int (fIdx_hit _ l k p HK.out HX.out hbp).symm, HB3.out⟩
      | false =>
        have HK2 := hid (take_none HK.out HX.out hbp)
        clear HK HX
        go_wp2_with fail
        go_roundw
        case rel => exact ⟨k + 1, by omega, by go_num, HK2.out, HB3.out⟩
        case measure => simp [intOf]; omega
    · go_wp2
      go_ret
      refine ⟨ret_int ?_, HB.out⟩
      have h := HK.out
      rw [List.take_of_length_le (by omega)] at h
      exact (fIdx_none _ l h).symm

theorem containsLos1_any (v : Value) (l : List Pg) (w : World) (hr : RdPg w v l) (hz : SzPg l) :
    Calls Tryd.prog 16 #[v, .func (.func 17) #[] #[]] w fun e w' => e = .returned (.bool (decide (firstP l ≠ 0))) ∧ Below w.heap.size w w' := by
  have HI := indexLos1_any v l w hr hz
  have HF := hid (fIdx_pos badPg l)
  rw [bad_first] at HF
  generalize fIdx badPg l = r at *
  have H2 := hid HI; clear HI
  go_enter Tryd.func16, Tryd.ntmps16
  go_wp2_with (go_at_call 51; refine H2.out.mono ?_; rintro e w' ⟨rfl, hB⟩)
  go_ret
  exact ⟨ret_bool HF.out, hB⟩

theorem los2_any (p : Pg) (v : Value) (w : World) (hr : RdB w v p.bx) (hz : SzB p.bx) :
    Calls Tryd.prog 19 #[.agg #[.int .i64 p.num, v]] w fun e w' => e = .returned (.bool (badPg p)) ∧ Below w.heap.size w w' := by
  obtain ⟨a, cap, rfl, _, _, _⟩ := hr.open
  have hb0 := below_al w (.cells #[.int .i64 p.num, .slice a p.bx.length cap] 34)
  have HC := hid (pcheck_any p _ _ (hr.below hb0) hz)
  go_enter Tryd.func19, Tryd.ntmps19
  go_wp2_with fail
  refine HC.out.mono ?_
  rintro e w1 ⟨rfl, hB1⟩
  go_wp2
  go_ret
  refine ⟨ret_bool ?_, below_tr hb0 hB1⟩
  unfold badPg
  by_cases h : pgI p = 0
  · rw [h]; rfl
  · rw [decide_eq_true h]; simpa using h

set_option maxHeartbeats 1000000 in
theorem indexLos2_any (v : Value) (l : List Pg) (w : World) (hr : RdPg w v l) (hz : SzPg l) :
    Calls Tryd.prog 51 #[v, .func (.func 19) #[] #[]] w fun e w' => e = .returned (.int .i64 (fIdx badPg l)) ∧ Below w.heap.size w w' := by
  obtain ⟨a, cap, rfl, hlc, hcm, hcell⟩ := hr.open
  have HCell := hid hcell; clear hcell
  have HZ := hid hz
  clear hz hr
  go_enter Tryd.func51, Tryd.ntmps51
  go_wp2
  go_loopw [8] (fun i wr => ∃ k : Nat, k ≤ l.length ∧ i = .int .i64 k ∧ Hid (∀ y ∈ l.take k, badPg y = false) ∧ Hid (Below w.heap.size w wr)) (fun i _ => l.length - (intOf i).toNat)
  case atStart => exact ⟨0, Nat.zero_le _, rfl, by simp [Hid], Below.refl _ _⟩
  case round =>
    obtain ⟨k, hk, rfl, HK, HB⟩ := hrel
    by_cases hlt : k < l.length
    · obtain ⟨p, b, off, u, hp, rfl, c0, c1, hu⟩ := HCell.out k hlt
      obtain ⟨au, cu, rfl, _, _, _⟩ := hu.open
      have hki : (k : Int) < (l.length : Int) := by omega
      have d0 := Below.keeps HB.out _ _ c0
      have d1 := Below.keeps HB.out _ _ c1
      have HCK := hid (los2_any p _ wr (hu.below HB.out) (HZ.out p (List.mem_of_getElem? hp)))
      have HX := hid hp
      clear c0 c1 hu hp
      go_wp2_with fail
      refine HCK.out.mono ?_
      rintro e w3 ⟨rfl, hB3⟩
      have HB3 := hid (below_tr HB.out hB3)
      clear HCK hB3 d0 d1 HB
      cases hbp : badPg p with
      | true =>
        go_wp2
        go_ret
        exact ⟨ret_int (fIdx_hit _ l k p HK.out HX.out hbp).symm, HB3.out⟩
      | false =>
        have HK2 := hid (take_none HK.out HX.out hbp)
        clear HK HX
        go_wp2_with fail
        go_roundw
        case rel => exact ⟨k + 1, by omega, by go_num, HK2.out, HB3.out⟩
        case measure => simp [intOf]; omega
    · go_wp2
      go_ret
      refine ⟨ret_int ?_, HB.out⟩
      have h := HK.out
      rw [List.take_of_length_le (by omega)] at h
      exact (fIdx_none _ l h).symm

theorem containsLos2_any (v : Value) (l : List Pg) (w : World) (hr : RdPg w v l) (hz : SzPg l) :
    Calls Tryd.prog 16 #[v, .func (.func 19) #[] #[]] w fun e w' => e = .returned (.bool (decide (firstP l ≠ 0))) ∧ Below w.heap.size w w' := by
  have HI := indexLos2_any v l w hr hz
  have HF := hid (fIdx_pos badPg l)
  rw [bad_first] at HF
  generalize fIdx badPg l = r at *
  have H2 := hid HI; clear HI
  go_enter Tryd.func16, Tryd.ntmps16
  go_wp2_with (go_at_call 51; refine H2.out.mono ?_; rintro e w' ⟨rfl, hB⟩)
  go_ret
  exact ⟨ret_bool HF.out, hB⟩

end Go.Proofs.YtkjapeafhcdnkaaDoor
