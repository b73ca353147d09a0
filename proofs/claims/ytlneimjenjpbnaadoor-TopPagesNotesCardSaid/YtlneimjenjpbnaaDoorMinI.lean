/-
  slices.Min of numbers that are all -1 or more; the plain law of certificates.
-/
import Derived.Test.YtlneimjenjpbnaaDoorPot
import Derived.Test.YtlneimjenjpbnaaDoorPp
namespace Go.Proofs.YtlneimjenjpbnaaDoor
open Go.RowKit

def MinR (w : World) (e : Ending) (w' : World) : Prop := ∃ m : Int, -1 ≤ m ∧ e = .returned (.int .i64 m) ∧ Below w.heap.size w w'
theorem MinR.mk {w w' : World} {m : Int} (h : -1 ≤ m) (hb : Below w.heap.size w w') : MinR w (.returned (.int .i64 m)) w' := ⟨m, h, rfl, hb⟩
set_option maxRecDepth 100000 in
set_option maxHeartbeats 1000000 in
theorem minI_any (L : List Int) (v : Value) (w : World) (hr : RdI w v L) (h0 : 0 < L.length) (hL : ∀ x ∈ L, -1 ≤ x) :
    Calls Tryd.prog 33 #[v] w (MinR w) := by
  obtain ⟨a, cap, rfl, hc, hm, hcell⟩ := hr.open
  have HC := hid hcell
  have HL := hid hL
  clear hcell hL hr
  have t0 : ¬ (L.length : Int) < 1 := by omega
  obtain ⟨x0, b, off, hx0, rfl, hc0⟩ := HC.out 0 h0
  rw [Nat.add_zero off] at hc0
  have q1 : (0 : Int) < (L.length : Int) := by omega
  have HX0 : Hid (-1 ≤ x0) := HL.out _ (List.mem_of_getElem? hx0)
  clear hx0
  go_enter Tryd.func33, Tryd.ntmps33
  go_wp2
  go_loopw [3, 4] (fun m i wr => ∃ (k : Nat) (y : Int), 1 ≤ k ∧ k ≤ L.length ∧ i = .int .i64 k ∧ m = .int .i64 y ∧ Hid (-1 ≤ y) ∧ wr = w) (fun _ i _ => L.length - (intOf i).toNat)
  case atStart => exact ⟨1, x0, Nat.le_refl _, by omega, rfl, rfl, HX0.out, rfl⟩
  case round =>
    obtain ⟨k, y, hk1, hk, rfl, rfl, HY, rfl⟩ := hrel
    by_cases hlt : k < L.length
    · obtain ⟨x, b2, off2, hx, he, hcx⟩ := HC.out k hlt
      cases he
      have HX : Hid (-1 ≤ x) := HL.out _ (List.mem_of_getElem? hx)
      have hti : (k : Int) < (L.length : Int) := by omega
      have q2 : (0 : Int) ≤ (k : Int) := by omega
      clear hx
      go_wp2
      go_roundw
      case rel => exact ⟨k + 1, min y x, by omega, by omega, by go_num, rfl, by have := HX.out; have := HY.out; show _ ≤ _; omega, trivial⟩
      case measure => simp [intOf]; omega
    · obtain rfl : k = L.length := by omega
      have hti : ¬ (L.length : Int) < (L.length : Int) := by omega
      go_wp2
      go_ret
      exact MinR.mk HY.out (Below.refl _ _)
end Go.Proofs.YtlneimjenjpbnaaDoor
