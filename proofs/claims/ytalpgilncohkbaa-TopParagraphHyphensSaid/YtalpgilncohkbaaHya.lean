/-
  strings.HasPrefix, HasSuffix, TrimPrefix, TrimSuffix; units and folded units of hyphenation.
-/
import Derived.Test.YtalpgilncohkbaaFol
namespace Go.Proofs.Ytalpgilncohkbaa
open Go.RowKit

def hasPreB (s p : ByteArray) : Bool := decide (p.size ≤ s.size) && decide (s.extract 0 p.size = p)
def hasSufB (s p : ByteArray) : Bool := decide (p.size ≤ s.size) && decide (s.extract (s.size - p.size) s.size = p)
def trimPreB (s p : ByteArray) : ByteArray := if hasPreB s p = true then s.extract p.size s.size else s
def trimSufB (s p : ByteArray) : ByteArray := if hasSufB s p = true then s.extract 0 (s.size - p.size) else s
theorem hasPreB_len {s p : ByteArray} (h : hasPreB s p = true) : p.size ≤ s.size := by
  unfold hasPreB at h
  simp only [Bool.and_eq_true, decide_eq_true_eq] at h
  exact h.1
theorem hasSufB_len {s p : ByteArray} (h : hasSufB s p = true) : p.size ≤ s.size := by
  unfold hasSufB at h
  simp only [Bool.and_eq_true, decide_eq_true_eq] at h
  exact h.1
theorem trimPreB_le (s p : ByteArray) : (trimPreB s p).size ≤ s.size := by
  unfold trimPreB
  split
  · rw [ByteArray.size_extract]; omega
  · exact Nat.le_refl _
theorem trimSufB_le (s p : ByteArray) : (trimSufB s p).size ≤ s.size := by
  unfold trimSufB
  split
  · rw [ByteArray.size_extract]; omega
  · exact Nat.le_refl _

set_option maxHeartbeats 1000000 in
theorem slPre_any (s p : ByteArray) (w : World) (_hs : s.size ≤ 1048576) (_hp : p.size ≤ 1048576) :
    Calls Try.prog 75 #[.string s, .string p] w fun e w' => e = .returned (.bool (hasPreB s p)) ∧ w = w' := by
  have HV : Hid (hasPreB s p = (decide (p.size ≤ s.size) && decide (s.extract 0 p.size = p))) := rfl
  by_cases h1 : p.size ≤ s.size
  · have g1 : (p.size : Int) ≤ (s.size : Int) := by omega
    rw [decide_eq_true h1, Bool.true_and] at HV
    have hb := ba_beq (s.extract 0 p.size) p
    go_enter Try.func75, Try.ntmps75
    go_wp2
    go_ret
    exact ⟨ret_bool HV.out.symm, rfl⟩
  · have g1 : ¬ (p.size : Int) ≤ (s.size : Int) := by omega
    rw [decide_eq_false h1, Bool.false_and] at HV
    go_enter Try.func75, Try.ntmps75
    go_wp2
    go_ret
    exact ⟨ret_bool HV.out.symm, rfl⟩
set_option maxHeartbeats 1000000 in
theorem slSuf_any (s p : ByteArray) (w : World) (hs : s.size ≤ 1048576) (hp : p.size ≤ 1048576) :
    Calls Try.prog 76 #[.string s, .string p] w fun e w' => e = .returned (.bool (hasSufB s p)) ∧ w = w' := by
  have HV : Hid (hasSufB s p = (decide (p.size ≤ s.size) && decide (s.extract (s.size - p.size) s.size = p))) := rfl
  by_cases h1 : p.size ≤ s.size
  · have g1 : (p.size : Int) ≤ (s.size : Int) := by omega
    rw [decide_eq_true h1, Bool.true_and] at HV
    have hb := ba_beq (s.extract (s.size - p.size) s.size) p
    have e1 : IntKind.i64.wrap ((s.size : Int) - (p.size : Int)) = (s.size : Int) - (p.size : Int) := IntWalk.i64_in _ (by omega)
    have e2 : ((s.size : Int) - (p.size : Int)).toNat = s.size - p.size := by omega
    have e3 : (0 : Int) ≤ (s.size : Int) - (p.size : Int) := by omega
    have e4 : (s.size : Int) - (p.size : Int) ≤ (s.size : Int) := by omega
    go_enter Try.func76, Try.ntmps76
    go_wp2
    go_ret
    exact ⟨ret_bool HV.out.symm, rfl⟩
  · have g1 : ¬ (p.size : Int) ≤ (s.size : Int) := by omega
    rw [decide_eq_false h1, Bool.false_and] at HV
    go_enter Try.func76, Try.ntmps76
    go_wp2
    go_ret
    exact ⟨ret_bool HV.out.symm, rfl⟩
theorem hasPre_any (s p : ByteArray) (w : World) (hs : s.size ≤ 1048576) (hp : p.size ≤ 1048576) :
    Calls Try.prog 60 #[.string s, .string p] w fun e w' => e = .returned (.bool (hasPreB s p)) ∧ w = w' := by
  have H := hid (slPre_any s p w hs hp)
  go_enter Try.func60, Try.ntmps60
  go_wp2_with fail
  refine H.out.mono ?_
  rintro e w1 ⟨rfl, rfl⟩
  go_wp2
  go_ret
  exact ⟨rfl, rfl⟩
theorem hasSuf_any (s p : ByteArray) (w : World) (hs : s.size ≤ 1048576) (hp : p.size ≤ 1048576) :
    Calls Try.prog 61 #[.string s, .string p] w fun e w' => e = .returned (.bool (hasSufB s p)) ∧ w = w' := by
  have H := hid (slSuf_any s p w hs hp)
  go_enter Try.func61, Try.ntmps61
  go_wp2_with fail
  refine H.out.mono ?_
  rintro e w1 ⟨rfl, rfl⟩
  go_wp2
  go_ret
  exact ⟨rfl, rfl⟩
set_option maxHeartbeats 1000000 in
theorem slTrimPre_any (s p : ByteArray) (w : World) (hs : s.size ≤ 1048576) (hp : p.size ≤ 1048576) :
    Calls Try.prog 73 #[.string s, .string p] w fun e w' => e = .returned (.string (trimPreB s p)) ∧ w = w' := by
  have H := hid (slPre_any s p w hs hp)
  cases hb : hasPreB s p with
  | true =>
    have hl := hasPreB_len hb
    rw [hb] at H
    have HV : Hid (trimPreB s p = s.extract p.size s.size) := by unfold trimPreB; rw [if_pos hb]; rfl
    have g1 : (p.size : Int) ≤ (s.size : Int) := by omega
    clear hb
    go_enter Try.func73, Try.ntmps73
    go_wp2_with fail
    refine H.out.mono ?_
    rintro e w1 ⟨rfl, rfl⟩
    go_wp2
    go_ret
    exact ⟨by rw [HV.out]; rfl, rfl⟩
  | false =>
    rw [hb] at H
    have HV : Hid (trimPreB s p = s) := by unfold trimPreB; rw [hb]; rfl
    clear hb
    go_enter Try.func73, Try.ntmps73
    go_wp2_with fail
    refine H.out.mono ?_
    rintro e w1 ⟨rfl, rfl⟩
    go_wp2
    go_ret
    exact ⟨by rw [HV.out]; rfl, rfl⟩
set_option maxHeartbeats 1000000 in
theorem slTrimSuf_any (s p : ByteArray) (w : World) (hs : s.size ≤ 1048576) (hp : p.size ≤ 1048576) :
    Calls Try.prog 72 #[.string s, .string p] w fun e w' => e = .returned (.string (trimSufB s p)) ∧ w = w' := by
  have H := hid (slSuf_any s p w hs hp)
  cases hb : hasSufB s p with
  | true =>
    have hl := hasSufB_len hb
    rw [hb] at H
    have HV : Hid (trimSufB s p = s.extract 0 (s.size - p.size)) := by unfold trimSufB; rw [if_pos hb]; rfl
    have e1 : IntKind.i64.wrap ((s.size : Int) - (p.size : Int)) = (s.size : Int) - (p.size : Int) := IntWalk.i64_in _ (by omega)
    have e2 : ((s.size : Int) - (p.size : Int)).toNat = s.size - p.size := by omega
    have e3 : (0 : Int) ≤ (s.size : Int) - (p.size : Int) := by omega
    have e4 : (s.size : Int) - (p.size : Int) ≤ (s.size : Int) := by omega
    clear hb
    go_enter Try.func72, Try.ntmps72
    go_wp2_with fail
    refine H.out.mono ?_
    rintro e w1 ⟨rfl, rfl⟩
    go_wp2
    go_ret
    exact ⟨by rw [HV.out]; rfl, rfl⟩
  | false =>
    rw [hb] at H
    have HV : Hid (trimSufB s p = s) := by unfold trimSufB; rw [hb]; rfl
    clear hb
    go_enter Try.func72, Try.ntmps72
    go_wp2_with fail
    refine H.out.mono ?_
    rintro e w1 ⟨rfl, rfl⟩
    go_wp2
    go_ret
    exact ⟨by rw [HV.out]; rfl, rfl⟩
theorem trimPre_any (s p : ByteArray) (w : World) (hs : s.size ≤ 1048576) (hp : p.size ≤ 1048576) :
    Calls Try.prog 56 #[.string s, .string p] w fun e w' => e = .returned (.string (trimPreB s p)) ∧ w = w' := by
  have H := hid (slTrimPre_any s p w hs hp)
  go_enter Try.func56, Try.ntmps56
  go_wp2_with fail
  refine H.out.mono ?_
  rintro e w1 ⟨rfl, rfl⟩
  go_wp2
  go_ret
  exact ⟨rfl, rfl⟩
theorem trimSuf_any (s p : ByteArray) (w : World) (hs : s.size ≤ 1048576) (hp : p.size ≤ 1048576) :
    Calls Try.prog 55 #[.string s, .string p] w fun e w' => e = .returned (.string (trimSufB s p)) ∧ w = w' := by
  have H := hid (slTrimSuf_any s p w hs hp)
  go_enter Try.func55, Try.ntmps55
  go_wp2_with fail
  refine H.out.mono ?_
  rintro e w1 ⟨rfl, rfl⟩
  go_wp2
  go_ret
  exact ⟨rfl, rfl⟩
theorem hunits_any (s : ByteArray) (w : World) (hs : s.size ≤ 1048576) :
    Calls Try.prog 40 #[.string s] w fun e w' => ∃ v, e = .returned v ∧ RdS w' v (clL s) ∧ Below w.heap.size w w' := by
  have H := hid (clusE_any s w hs)
  go_enter Try.func40, Try.ntmps40
  go_wp2_with fail
  refine H.out.mono ?_
  rintro e w1 ⟨v, rfl, hv, hb⟩
  go_wp2
  go_ret
  exact ⟨_, rfl, hv, hb⟩
theorem hfolded_any (s : ByteArray) (w : World) (hs : s.size ≤ 1048576) :
    Calls Try.prog 52 #[.string s] w fun e w' => ∃ v, e = .returned v ∧ RdS w' v (clL (foldB s)) ∧ Below w.heap.size w w' := by
  have H := hid (fold_any s w hs)
  have H2 := fun w' => hid (hunits_any (foldB s) w' (by rw [foldB_size]; exact hs))
  go_enter Try.func52, Try.ntmps52
  go_wp2_with fail
  refine H.out.mono ?_
  rintro e w1 ⟨rfl, hb1⟩
  go_wp2_with fail
  refine (H2 _).out.mono ?_
  rintro e w2 ⟨v, rfl, hv, hb2⟩
  go_wp2
  go_ret
  exact ⟨_, rfl, hv, below_tr hb1 hb2⟩
end Go.Proofs.Ytalpgilncohkbaa
