/-
  pagedesc.number.
-/
import Derived.Test.YtkjapeafhcdnkaaDoorDec
import Derived.Test.YtkjapeafhcdnkaaDoorPl
namespace Go.Proofs.YtkjapeafhcdnkaaDoor
open Go.RowKit

def nokB (s : ByteArray) : Bool := match Lib.atoiAll s.data.toList with
  | .ok v => decide (0 ≤ v) && decide (itoaB v = s)
  | _ => false

set_option maxHeartbeats 1000000 in
theorem number_any (s : ByteArray) (w : World) (he : Env w) (hs : s.size ≤ 1048576) :
    Calls Tryd.prog 72 #[.string s] w fun e w' => e = .returned (.tuple #[.int .i64 (decV s), .bool (nokB s)]) ∧ Below w.heap.size w w' := by
  cases hA : Lib.atoiAll s.data.toList with
  | ok v =>
    have hv := Lib.atoiAll_bounds hA
    have HV : Hid (decV s = v) := by unfold Hid decV; rw [hA]
    have HB : Hid (nokB s = (decide (0 ≤ v) && decide (itoaB v = s))) := by unfold Hid nokB; rw [hA]
    have HA := hid (Tryd.strconv_Atoi_ok s (by omega) v hA w)
    have HI := fun w' (h : Below w.heap.size w w') => hid (itoa_b v w' (he.below h) (by omega) (by omega))
    have hb := ba_beq (itoaB v) s
    have h0 : ∀ w', (w' = w ∨ ∃ t, w' = Lib.bytesWorld w 5 t) → Below w.heap.size w w' := by
      rintro w' (rfl | ⟨t, rfl⟩)
      · exact Below.refl _ _
      · exact Lib.bytesWorld_below _ _ _
    clear hA
    generalize itoaB v = iv at *
    by_cases h1 : 0 ≤ v
    · go_enter Tryd.func72, Tryd.ntmps72
      go_wp2_with fail
      refine HA.out.mono ?_
      rintro e w1 ⟨rfl, hw1⟩
      have HB1 := hid (h0 _ hw1)
      clear hw1
      go_wp2_with fail
      refine (HI _ HB1.out).out.mono ?_
      rintro e w2 ⟨rfl, hB2⟩
      go_wp2
      go_ret2
      exact ⟨by rw [HV.out, HB.out, decide_eq_true h1]; simp, below_tr HB1.out hB2⟩
    · go_enter Tryd.func72, Tryd.ntmps72
      go_wp2_with fail
      refine HA.out.mono ?_
      rintro e w1 ⟨rfl, hw1⟩
      have HB1 := hid (h0 _ hw1)
      clear hw1
      go_wp2
      go_ret2
      exact ⟨by rw [HV.out, HB.out, decide_eq_false (by omega)]; rfl, HB1.out⟩
  | range =>
    have HV : Hid (decV s = Lib.atoiSat s.data.toList) := by unfold Hid decV; rw [hA]
    have HB : Hid (nokB s = false) := by unfold Hid nokB; rw [hA]
    obtain ⟨t, p, h1⟩ := he.e2
    have HA := hid (Tryd.strconv_Atoi_range s (by omega) hA (.iface t p) w h1 (.inr ⟨_, _, rfl⟩))
    clear hA h1
    generalize Lib.atoiSat s.data.toList = sv at *
    go_enter Tryd.func72, Tryd.ntmps72
    go_wp2_with fail
    refine HA.out.mono ?_
    rintro e w1 ⟨N, rfl, _, _, hB⟩
    go_wp2
    go_ret2
    exact ⟨by rw [HV.out, HB.out]; rfl, hB⟩
  | _ =>
    have HV : Hid (decV s = 0) := by unfold Hid decV; rw [hA]
    have HB : Hid (nokB s = false) := by unfold Hid nokB; rw [hA]
    obtain ⟨t, p, h1⟩ := he.e1
    have HA := hid (Tryd.strconv_Atoi_bad s (by omega) (by rw [hA]; intro v h; cases h) (by rw [hA]; intro h; cases h) (.iface t p) w h1 (.inr ⟨_, _, rfl⟩))
    clear hA h1
    go_enter Tryd.func72, Tryd.ntmps72
    go_wp2_with fail
    refine HA.out.mono ?_
    rintro e w1 ⟨N, rfl, _, _, hB⟩
    go_wp2
    go_ret2
    exact ⟨by rw [HV.out, HB.out]; rfl, hB⟩

end Go.Proofs.YtkjapeafhcdnkaaDoor
