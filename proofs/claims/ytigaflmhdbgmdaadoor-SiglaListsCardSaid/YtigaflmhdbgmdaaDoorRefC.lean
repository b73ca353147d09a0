/-
  The reference of layer 42: siglum, set, index, titles, has, within, check.
-/
import Derived.Test.YtigaflmhdbgmdaaDoorRefB
import Derived.Test.YtigaflmhdbgmdaaDoorSigB
namespace Go.Proofs.YtigaflmhdbgmdaaDoor
open Go.RowKit

theorem ext_last (s : ByteArray) (h : 1 ≤ s.size) : (s.extract (s.size - 1) s.size).toList = [s[s.size - 1]'(by omega)] := by
  rw [ByteArray.toList_eq, ByteArray.data_extract, Array.toList_extract, List.extract_eq_take_drop]
  have h2 : s.size - 1 < s.data.toList.length := by simp; omega
  rw [List.drop_eq_getElem_cons h2, show s.size - (s.size - 1) = 1 by omega]
  simp; rfl

set_option maxHeartbeats 400000 in
theorem rsiglum_any (s : ByteArray) (w : World) (hs : s.size ≤ maxLen) :
    Calls Tryd.prog 39 #[.string s] w fun e w' => e = .returned (.bool (sigB s)) ∧ Below w.heap.size w w' := by
  have hs' := hs
  unfold maxLen at hs
  by_cases h1 : 1 ≤ s.size
  · have he := ext_last s h1
    obtain ⟨c, hc⟩ : ∃ c, c = s[s.size - 1]'(by omega) := ⟨_, rfl⟩
    have hlt : s.size - 1 < s.size := by omega
    by_cases h42 : s[s.size - 1]'(by omega) = 42
    · have hcs : cutStar s = (s.extract 0 (s.size - 1), true) := by unfold cutStar; rw [if_pos ⟨h1, by rw [he, h42]⟩]
      have HS : Hid (sigB s = (isNameB (s.extract 0 (s.size - 1)) && decide (s.size ≤ 16))) := by unfold sigB; rw [hcs]; simp [Hid]
      have hb : ((s[s.size - 1]'(by omega)).toNat : Int) = 42 := by rw [h42]; rfl
      have hbb := beq_iff_eq.2 hb
      have hN := fun w' => hid (risName_any (s.extract 0 (s.size - 1)) w' (by simp; omega))
      have h10 : (0 : Int) < s.size := by omega
      clear hcs he hb h42 hc
      generalize isNameB (s.extract 0 (s.size - 1)) = nb at *
      by_cases h16 : (s.size : Int) ≤ 16
      · go_enter Tryd.func39, Tryd.ntmps39
        go_wp2_with (go_at_call 56; refine (hN _).out.mono ?_; rintro e w1 ⟨rfl, hB1⟩)
        go_ret
        refine ⟨ret_bool ?_, by assumption⟩
        rw [HS.out, show decide (s.size ≤ 16) = true by simp; omega]; simp
      · go_enter Tryd.func39, Tryd.ntmps39
        go_wp2_with (go_at_call 56; refine (hN _).out.mono ?_; rintro e w1 ⟨rfl, hB1⟩)
        go_ret
        refine ⟨ret_bool ?_, Below.refl _ _⟩
        rw [HS.out, show decide (s.size ≤ 16) = false by simp; omega]; simp
    · have hcs : cutStar s = (s, false) := by unfold cutStar; rw [if_neg]; rintro ⟨_, h⟩; rw [he] at h; simp at h; exact h42 h
      have HS : Hid (sigB s = isNameB s) := by unfold sigB; rw [hcs]; simp [Hid]
      have hb : ((s[s.size - 1]'(by omega)).toNat : Int) ≠ 42 := by
        intro h; apply h42; apply UInt8.toNat_inj.1; have : (s[s.size - 1]'(by omega)).toNat = 42 := by omega
        rw [this]; rfl
      have hbb := beq_eq_false_iff_ne.2 hb
      have hN := fun w' => hid (risName_any s w' hs')
      have h10 : (0 : Int) < s.size := by omega
      clear hcs he hb h42 hc
      generalize isNameB s = nb at *
      go_enter Tryd.func39, Tryd.ntmps39
      go_wp2_with (go_at_call 56; refine (hN _).out.mono ?_; rintro e w1 ⟨rfl, hB1⟩)
      go_ret
      exact ⟨ret_bool HS.out.symm, by assumption⟩
  · have hcs : cutStar s = (s, false) := by unfold cutStar; rw [if_neg]; rintro ⟨h, _⟩; exact h1 h
    have HS : Hid (sigB s = isNameB s) := by unfold sigB; rw [hcs]; simp [Hid]
    have hN := fun w' => hid (risName_any s w' hs')
    have h10 : ¬ (0 : Int) < s.size := by omega
    clear hcs
    generalize isNameB s = nb at *
    go_enter Tryd.func39, Tryd.ntmps39
    go_wp2_with (go_at_call 56; refine (hN _).out.mono ?_; rintro e w1 ⟨rfl, hB1⟩)
    go_ret
    exact ⟨ret_bool HS.out.symm, by assumption⟩

set_option maxHeartbeats 400000 in
theorem rindex_any (v : Value) (l : List ByteArray) (s : ByteArray) (w : World) (hr : RdS w v l) :
    Calls Tryd.prog 36 #[v, .string s] w fun e w' => e = .returned (.int .i64 (fIdx (fun x => decide (x = s)) l)) ∧ w = w' := by
  obtain ⟨a, cap, rfl, hlc, hcm, hcell⟩ := hr.open
  have HCell := hid hcell; clear hcell
  go_enter Tryd.func36, Tryd.ntmps36
  go_wp2
  go_loop [5] (fun i => ∃ k : Nat, k ≤ l.length ∧ i = .int .i64 k ∧ Hid (∀ y ∈ l.take k, decide (y = s) = false)) (fun i => l.length - (intOf i).toNat)
  case atStart => exact ⟨0, Nat.zero_le _, rfl, by simp [Hid]⟩
  case round =>
    obtain ⟨k, hk, rfl, HK⟩ := hrel
    by_cases hlt : k < l.length
    · obtain ⟨x, b, off, hx, rfl, hc⟩ := HCell.out k hlt
      have HX := hid hx; clear hx
      have hb := ba_beq x s
      by_cases he : x = s
      · have hb' : (x.toList == s.toList) = true := by rw [hb]; simpa using he
        clear hb
        have HE := hid he; clear he
        go_wp2
        go_ret
        exact ⟨ret_int (fIdx_hit _ l k x HK.out HX.out (decide_eq_true HE.out)).symm, rfl⟩
      · have hb' : (x.toList == s.toList) = false := by rw [hb]; simpa using he
        clear hb
        have HE := hid he; clear he
        go_wp2
        go_round
        case rel => exact ⟨k + 1, by omega, by go_num, take_none HK.out HX.out (decide_eq_false HE.out)⟩
        case measure => simp [intOf]; omega
    · go_wp2
      go_ret
      refine ⟨ret_int ?_, rfl⟩
      have h := HK.out
      rw [List.take_of_length_le (by omega)] at h
      exact (fIdx_none _ l h).symm

set_option maxHeartbeats 400000 in
theorem has_any (v : Value) (l : List Int) (s : Int) (w : World) (hr : RdI w v l) :
    Calls Tryd.prog 38 #[v, .int .i64 s] w fun e w' => e = .returned (.bool (l.any fun x => decide (x = s))) ∧ w = w' := by
  obtain ⟨a, cap, rfl, hlc, hcm, hcell⟩ := hr.open
  have HCell := hid hcell; clear hcell
  go_enter Tryd.func38, Tryd.ntmps38
  go_wp2
  go_loop [5] (fun i => ∃ k : Nat, k ≤ l.length ∧ i = .int .i64 k ∧ Hid (∀ y ∈ l.take k, decide (y = s) = false)) (fun i => l.length - (intOf i).toNat)
  case atStart => exact ⟨0, Nat.zero_le _, rfl, by simp [Hid]⟩
  case round =>
    obtain ⟨k, hk, rfl, HK⟩ := hrel
    by_cases hlt : k < l.length
    · obtain ⟨x, b, off, hx, rfl, hc⟩ := HCell.out k hlt
      have HX := hid hx; clear hx
      by_cases he : x = s
      · have hb' : (x == s) = true := beq_iff_eq.2 he
        have HE := hid he; clear he
        go_wp2
        go_ret
        exact ⟨ret_bool (List.any_eq_true.2 ⟨x, List.mem_of_getElem? HX.out, decide_eq_true HE.out⟩).symm, rfl⟩
      · have hb' : (x == s) = false := beq_eq_false_iff_ne.2 he
        have HE := hid he; clear he
        go_wp2
        go_round
        case rel => exact ⟨k + 1, by omega, by go_num, take_none HK.out HX.out (decide_eq_false HE.out)⟩
        case measure => simp [intOf]; omega
    · go_wp2
      go_ret
      refine ⟨ret_bool ?_, rfl⟩
      have h := HK.out
      rw [List.take_of_length_le (by omega)] at h
      exact (List.any_eq_false.2 (fun y hy => by simpa using h y hy)).symm

def subB (a b : List Int) : Bool := a.all fun x => b.any fun y => decide (y = x)

end Go.Proofs.YtigaflmhdbgmdaaDoor
