/-
  The reference's SameBoxes and Same, on lists that are equal.
-/
import Derived.Test.YtkjapeafhcdnkaaDoorPg
namespace Go.Proofs.YtkjapeafhcdnkaaDoor
open Go.RowKit

theorem RdB.drewN {W : World} {v : Value} {l : List Bx} (h : RdB W v l) (n : Nat) : RdB (W.drewN n) v l := h.below (below_drewN (Below.refl _ _) n)

set_option maxHeartbeats 2000000 in
set_option maxRecDepth 100000 in
theorem sameB_any (v u : Value) (l : List Bx) (w : World) (hr : RdB w v l) (hs : RdB w u l) :
    Calls Tryd.prog 24 #[v, u] w fun e w' => e = .returned (.bool true) ∧ ∃ m, w' = w.drewN m := by
  obtain ⟨a, cap, rfl, hlc, hcm, hcell⟩ := hr.open
  obtain ⟨a2, cap2, rfl, hlc2, hcm2, hcell2⟩ := hs.open
  have HCell := hid hcell; clear hcell
  have HCell2 := hid hcell2; clear hcell2
  go_enter Tryd.func24, Tryd.ntmps24
  go_wp2
  go_loopw [5] (fun i wr => ∃ k : Nat, k ≤ l.length ∧ i = .int .i64 k ∧ ∃ m, wr = w.drewN m) (fun i _ => l.length - (intOf i).toNat)
  case atStart => exact ⟨0, Nat.zero_le _, rfl, 0, rfl⟩
  case round =>
    obtain ⟨k, hk, rfl, m, rfl⟩ := hrel
    by_cases hlt : k < l.length
    · obtain ⟨x, b, off, hx, rfl, c0, c1, c2, c3, c4, c5⟩ := HCell.out k hlt
      obtain ⟨x2, b2, off2, hx2, rfl, d0, d1, d2, d3, d4, d5⟩ := HCell2.out k hlt
      obtain rfl : x = x2 := Option.some.inj (hx.symm.trans hx2)
      have hki : (k : Int) < (l.length : Int) := by omega
      clear hx hx2
      go_wp2
      go_quiet ((fail))
      go_wp2
      go_roundw
      case rel => exact ⟨k + 1, by omega, by go_num, m + nq, rfl⟩
      case measure => simp [intOf]; omega
    · have hki : ¬ (k : Int) < (l.length : Int) := by omega
      go_wp2
      go_ret
      exact ⟨rfl, m, rfl⟩

set_option maxHeartbeats 2000000 in
set_option maxRecDepth 100000 in
theorem samePg_any (v u : Value) (l : List Pg) (w : World) (hr : RdPg w v l) (hs : RdPg w u l) :
    Calls Tryd.prog 15 #[v, u] w fun e w' => e = .returned (.bool true) ∧ Below w.heap.size w w' := by
  obtain ⟨a, cap, rfl, hlc, hcm, hcell⟩ := hr.open
  obtain ⟨a2, cap2, rfl, hlc2, hcm2, hcell2⟩ := hs.open
  have HCell := hid hcell; clear hcell
  have HCell2 := hid hcell2; clear hcell2
  go_enter Tryd.func15, Tryd.ntmps15
  go_wp2
  go_loopw [5] (fun i wr => ∃ k : Nat, k ≤ l.length ∧ i = .int .i64 k ∧ Below w.heap.size w wr) (fun i _ => l.length - (intOf i).toNat)
  case atStart => exact ⟨0, Nat.zero_le _, rfl, Below.refl _ _⟩
  case round =>
    rename_i wr
    obtain ⟨k, hk, rfl, hB⟩ := hrel
    by_cases hlt : k < l.length
    · obtain ⟨x, b, off, m, hx, rfl, hc0, hd0, hm0⟩ := HCell.out k hlt
      obtain ⟨x2, b2, off2, m2, hx2, rfl, hc02, hd02, hm02⟩ := HCell2.out k hlt
      obtain rfl : x = x2 := Option.some.inj (hx.symm.trans hx2)
      have hki : (k : Int) < (l.length : Int) := by omega
      have hc := Below.keeps hB _ _ hc0
      have hd := Below.keeps hB _ _ hd0
      have hm := hm0.below hB
      have hc2 := Below.keeps hB _ _ hc02
      have hd2 := Below.keeps hB _ _ hd02
      have hm2 := hm02.below hB
      obtain ⟨am, capm, rfl, hlm, hcmm, _⟩ := hm.open
      obtain ⟨am2, capm2, rfl, hlm2, hcmm2, _⟩ := hm2.open
      have HSI := fun w' h h2 => hid (sameB_any (.slice am x.bx.length capm) (.slice am2 x.bx.length capm2) x.bx w' h h2)
      have q2 : (x.num != x.num) = false := by simp
      clear hx hx2 hc0 hd0 hm0 hc02 hd02 hm02
      go_wp2
      go_quiet ((go_at_call 24; exact Calls.quiet_of (HSI _ (hm.drewN _) (hm2.drewN _)).out))
      go_wp2
      go_roundw
      case rel => exact ⟨k + 1, by omega, by go_num, below_drewN hB nq⟩
      case measure => simp [intOf]; omega
    · have hki : ¬ (k : Int) < (l.length : Int) := by omega
      go_wp2
      go_ret
      exact ⟨rfl, hB⟩
end Go.Proofs.YtkjapeafhcdnkaaDoor
