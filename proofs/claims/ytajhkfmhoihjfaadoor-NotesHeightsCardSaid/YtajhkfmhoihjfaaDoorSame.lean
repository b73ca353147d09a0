/-
  The reference's Same (of equal matrices); its Order.
-/
import Derived.Test.YtajhkfmhoihjfaaDoorMat
import Derived.Test.YtajhkfmhoihjfaaDoorOrd
namespace Go.Proofs.YtajhkfmhoihjfaaDoor
open Go.RowKit

set_option maxHeartbeats 4000000 in
set_option maxRecDepth 100000 in
theorem same_any (v u : Value) (M : List (List Int)) (w : World) (hr : RdM w v M) (hs : RdM w u M) :
    Calls Tryd.prog 34 #[v, u] w fun e w' => e = .returned (.bool true) ∧ Below w.heap.size w w' := by
  obtain ⟨a1, cap1, rfl, hc1, hm1, hcell1⟩ := hr.open
  obtain ⟨a2, cap2, rfl, hc2, hm2, hcell2⟩ := hs.open
  have HC1 := hid hcell1
  have HC2 := hid hcell2
  clear hcell1 hcell2 hr hs
  have q0 : ((M.length : Int) != (M.length : Int)) = false := by simp
  go_enter Tryd.func34, Tryd.ntmps34
  go_wp2
  go_loopw [5] (fun i wr => ∃ k : Nat, k ≤ M.length ∧ i = .int .i64 k ∧ Hid (Below w.heap.size w wr)) (fun i _ => M.length - (intOf i).toNat)
  case atStart => exact ⟨0, by omega, rfl, Below.refl _ _⟩
  case round =>
    obtain ⟨k, hk, rfl, HB⟩ := hrel
    by_cases hlt : k < M.length
    · obtain ⟨row, b1, o1, u1, hrow, rfl, hcu1, hru1⟩ := HC1.out k hlt
      obtain ⟨row2, b2, o2, u2, hrow2, rfl, hcu2, hru2⟩ := HC2.out k hlt
      rw [hrow] at hrow2
      cases hrow2
      obtain ⟨ra, rc, rfl, hrc1, hrm1, hrcell1⟩ := hru1.open
      obtain ⟨sa, sc, rfl, hsc1, hsm1, hscell1⟩ := hru2.open
      have hd1 := Below.keeps HB.out _ _ hcu1
      have hd2 := Below.keeps HB.out _ _ hcu2
      have HR1 := hid hrcell1
      have HS1 := hid hscell1
      have HU1 := hid hcu1
      have HU2 := hid hcu2
      clear hrow hcu1 hcu2 hru1 hru2 hrcell1 hscell1
      have hki : (k : Int) < (M.length : Int) := by omega
      have q1 : ((row.length : Int) != (row.length : Int)) = false := by simp
      go_wp2
      go_quiet (fail)
      have HBq := hid (below_tr HB.out (below_drewN (Below.refl wr.heap.size wr) nq))
      clear hd1 hd2
      generalize wr.drewN nq = w2 at *
      go_wp2
      obtain ⟨wo, rfl⟩ : ∃ wo : World, wo = w2 := ⟨_, rfl⟩
      go_loopw [6] (fun i wi => ∃ j : Nat, j ≤ row.length ∧ i = .int .i64 j ∧ Hid (Below w.heap.size w wi)) (fun i _ => row.length - (intOf i).toNat)
      case atStart => exact ⟨0, by omega, rfl, HBq.out⟩
      case round =>
        obtain ⟨j, hj, rfl, HBi⟩ := hrel
        have hd1 := Below.keeps HBi.out _ _ HU1.out
        have hd2 := Below.keeps HBi.out _ _ HU2.out
        by_cases hjl : j < row.length
        · obtain ⟨x, rb, ro, hx, rfl, hcx⟩ := HR1.out j hjl
          obtain ⟨y, sb, so, hy, rfl, hcy⟩ := HS1.out j hjl
          rw [hx] at hy
          cases hy
          have hdx := Below.keeps HBi.out _ _ hcx
          have hdy := Below.keeps HBi.out _ _ hcy
          have hji : (j : Int) < (row.length : Int) := by omega
          have q2 : (x != x) = false := by simp
          clear hx hcx hcy
          go_wp2
          go_quiet (fail)
          have HBr := hid (below_tr HBi.out (below_drewN (Below.refl _ _) nq))
          clear hd1 hd2 hdx hdy
          go_wp2
          go_roundw
          case rel => exact ⟨j + 1, by omega, by go_num, HBr.out⟩
          case measure => simp [intOf]; omega
        · have hji : ¬ (j : Int) < (row.length : Int) := by omega
          go_wp2
          go_roundw
          case rel => exact ⟨k + 1, by omega, by go_num, HBi.out⟩
          case measure => simp [intOf]; omega
    · have hki : ¬ (k : Int) < (M.length : Int) := by omega
      go_wp2
      go_ret
      exact ⟨rfl, HB.out⟩
end Go.Proofs.YtajhkfmhoihjfaaDoor
