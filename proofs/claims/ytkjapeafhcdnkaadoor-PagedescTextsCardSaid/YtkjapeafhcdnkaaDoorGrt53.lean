/-
  The reference's Great, on pages.
-/
import Derived.Test.YtkjapeafhcdnkaaDoorPg
namespace Go.Proofs.YtkjapeafhcdnkaaDoor
open Go.RowKit

/-- Sizes that the statements examine. -/
def SmB (l : List Bx) : Prop := l.length ≤ 10 ∧ ∀ b ∈ l, b.text.size ≤ 60
def SmPg (l : List Pg) : Prop := l.length ≤ 5 ∧ ∀ p ∈ l, SmB p.bx

def GrtR (l : List Pg) (e : Ending) : Prop := ∃ b, e = .returned (.bool b) ∧ (b = false → SmPg l)
theorem take_all {α : Type} {P : α → Prop} {l : List α} {k : Nat} {x : α} (h : ∀ y ∈ l.take k, P y) (hx : l[k]? = some x) (hp : P x) : ∀ y ∈ l.take (k + 1), P y := by
  intro y hy
  rw [List.take_add_one, hx, List.mem_append] at hy
  rcases hy with hy | hy
  · exact h y hy
  · have : y = x := by simpa using hy
    rw [this]; exact hp

set_option maxHeartbeats 1000000 in
set_option maxRecDepth 100000 in
theorem great53_any (v : Value) (l : List Pg) (w : World) (hr : RdPg w v l) (hz : SzPg l) :
    Calls Tryd.prog 11 #[v] w fun e w' => GrtR l e ∧ w = w' := by
  obtain ⟨a, cap, rfl, hlc, hcm, hcell⟩ := hr.open
  have HCell := hid hcell; clear hcell
  have HZ := hid hz; clear hz hr
  go_enter Tryd.func11, Tryd.ntmps11
  go_wp2
  go_loop [3] (fun i => ∃ k : Nat, k ≤ l.length ∧ i = .int .i64 k ∧ Hid (∀ y ∈ l.take k, SmB y.bx)) (fun i => l.length - (intOf i).toNat)
  case atStart => exact ⟨0, Nat.zero_le _, rfl, by simp [Hid]⟩
  case round =>
    obtain ⟨k, hk, rfl, HK⟩ := hrel
    by_cases hlt : k < l.length
    · obtain ⟨p, b, off, u, hx, rfl, hc0, hc1, hu⟩ := HCell.out k hlt
      obtain ⟨au, cu, rfl, hul, hum, hucell⟩ := hu.open
      have HU := hid hucell
      have HX := hid hx
      have HZB := hid (HZ.out p (List.mem_of_getElem? hx))
      have hki : (k : Int) < (l.length : Int) := by omega
      clear hx hucell hu
      by_cases h10 : 10 < p.bx.length
      · have h10i : (10 : Int) < (p.bx.length : Int) := by omega
        go_wp2
        go_ret
        exact ⟨⟨_, rfl, (fun h => by cases h)⟩, rfl⟩
      · have h10i : ¬ (10 : Int) < (p.bx.length : Int) := by omega
        go_wp2
        go_loop [4] (fun i => ∃ j : Nat, j ≤ p.bx.length ∧ i = .int .i64 j ∧ Hid (∀ y ∈ p.bx.take j, y.text.size ≤ 60)) (fun i => p.bx.length - (intOf i).toNat)
        case atStart => exact ⟨0, Nat.zero_le _, rfl, by simp [Hid]⟩
        case round =>
          obtain ⟨j, hj, rfl, HJ⟩ := hrel
          by_cases hjt : j < p.bx.length
          · obtain ⟨x, b2, off2, hx, rfl, c0, c1, c2, c3, c4, c5⟩ := HU.out j hjt
            have hji : (j : Int) < (p.bx.length : Int) := by omega
            have HX2 := hid hx
            have hz1 := HZB.out x (List.mem_of_getElem? hx)
            unfold maxLen at hz1
            clear hx
            by_cases h60 : 60 < x.text.size
            · have h60i : (60 : Int) < (x.text.size : Int) := by omega
              go_wp2
              go_ret
              exact ⟨⟨_, rfl, (fun h => by cases h)⟩, rfl⟩
            · have h60i : ¬ (60 : Int) < (x.text.size : Int) := by omega
              have HJ2 := hid (take_all HJ.out HX2.out (by omega))
              clear HJ HX2
              go_wp2
              go_round
              case rel => exact ⟨j + 1, by omega, by go_num, HJ2.out⟩
              case measure => simp [intOf]; omega
          · have hji : ¬ (j : Int) < (p.bx.length : Int) := by omega
            have HK2 : Hid (∀ y ∈ l.take (k + 1), SmB y.bx) := by
              have h := HJ.out
              rw [List.take_of_length_le (by omega)] at h
              exact take_all HK.out HX.out ⟨by omega, h⟩
            clear HJ HK HX
            go_wp2
            go_round
            case rel => exact ⟨k + 1, by omega, by go_num, HK2.out⟩
            case measure => simp [intOf]; omega
    · have hki : ¬ (k : Int) < (l.length : Int) := by omega
      have HK2 : Hid (∀ y ∈ l, SmB y.bx) := by
        have h := HK.out
        rw [List.take_of_length_le (by omega)] at h
        exact h
      go_wp2
      go_ret
      exact ⟨⟨_, rfl, (fun h => ⟨by have := of_decide_eq_false h; omega, HK2.out⟩)⟩, rfl⟩
end Go.Proofs.YtkjapeafhcdnkaaDoor
