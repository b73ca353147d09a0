/-
  The reference: style, Great, Join.
-/
import Derived.Test.YtlneimjenjpbnaaDoorNoteE
namespace Go.Proofs.YtlneimjenjpbnaaDoor
open Go.RowKit Go.Shelf

def bigS (x : ByteArray) : Bool := (decide (100 < x.size) && decide (x.size ≤ 65536)) || decide (65540 < x.size)
def great50 (l : List ByteArray) : Bool := l.any bigS || decide (10 < l.length)
theorem bigS_cases (x : ByteArray) : (bigS x = true ∧ ((100 < x.size ∧ x.size ≤ 65536) ∨ (100 < x.size ∧ ¬ x.size ≤ 65536 ∧ 65540 < x.size))) ∨ (bigS x = false ∧ ((¬ 100 < x.size) ∨ (100 < x.size ∧ ¬ x.size ≤ 65536 ∧ ¬ 65540 < x.size))) := by
  unfold bigS
  by_cases h1 : 100 < x.size
  · by_cases h2 : x.size ≤ 65536
    · left; exact ⟨by simp [h1, h2], .inl ⟨h1, h2⟩⟩
    · by_cases h3 : 65540 < x.size
      · left; exact ⟨by simp [h3], .inr ⟨h1, h2, h3⟩⟩
      · right; exact ⟨by simp [h2, h3], .inr ⟨h1, h2, h3⟩⟩
  · right; exact ⟨by simp [h1]; omega, .inl h1⟩

set_option maxHeartbeats 1000000 in
set_option maxRecDepth 100000 in
theorem great50_any (v : Value) (l : List ByteArray) (w : World) (hr : RdS w v l) (hz : Szs l) :
    Calls Tryd.prog 6 #[v] w fun e w' => e = .returned (.bool (great50 l)) ∧ w = w' := by
  obtain ⟨a, cap, rfl, hlc, hcm, hcell⟩ := hr.open
  have HCell := hid hcell; clear hcell
  have HZ := hid hz; clear hz
  have HG : Hid (great50 l = (l.any bigS || decide (10 < l.length))) := rfl
  go_enter Tryd.func6, Tryd.ntmps6
  go_wp2
  go_loop [3] (fun i => ∃ k : Nat, k ≤ l.length ∧ i = .int .i64 k ∧ Hid (∀ y ∈ l.take k, bigS y = false)) (fun i => l.length - (intOf i).toNat)
  case atStart => exact ⟨0, Nat.zero_le _, rfl, by simp [Hid]⟩
  case round =>
    obtain ⟨k, hk, rfl, HK⟩ := hrel
    by_cases hlt : k < l.length
    · obtain ⟨x, b, off, hx, rfl, hc⟩ := HCell.out k hlt
      have HX := hid hx
      have hz1 := HZ.out x (List.mem_of_getElem? hx)
      clear hx
      unfold maxLen at hz1
      rcases bigS_cases x with ⟨hb, h | h⟩ | ⟨hb, h | h⟩
      · have HR : Hid (great50 l = true) := by
          rw [HG.out, List.any_eq_true.2 ⟨x, List.mem_of_getElem? HX.out, hb⟩]; rfl
        clear hb
        go_wp2
        go_ret
        exact ⟨ret_bool HR.out.symm, rfl⟩
      · have HR : Hid (great50 l = true) := by
          rw [HG.out, List.any_eq_true.2 ⟨x, List.mem_of_getElem? HX.out, hb⟩]; rfl
        clear hb
        go_wp2
        go_ret
        exact ⟨ret_bool HR.out.symm, rfl⟩
      · have HK2 := hid (take_none HK.out HX.out hb)
        clear hb
        go_wp2
        go_round
        case rel => exact ⟨k + 1, by omega, by go_num, HK2.out⟩
        case measure => simp [intOf]; omega
      · have HK2 := hid (take_none HK.out HX.out hb)
        clear hb
        go_wp2
        go_round
        case rel => exact ⟨k + 1, by omega, by go_num, HK2.out⟩
        case measure => simp [intOf]; omega
    · have HN : Hid (great50 l = decide (10 < l.length)) := by
        have h := HK.out
        rw [List.take_of_length_le (by omega)] at h
        rw [HG.out, List.any_eq_false.2 (fun y hy => by simpa using h y hy)]; rfl
      clear HK HG
      go_wp2
      go_ret
      exact ⟨ret_bool (by rw [HN.out]; exact decide_eq_decide.2 (by omega)), rfl⟩
end Go.Proofs.YtlneimjenjpbnaaDoor
