/-
  slices.IndexFunc, slices.ContainsFunc over numbers with a function that captures nothing; over lists of numbers.
-/
import Derived.Test.YtlneimjenjpbnaaDoorJ02
import Derived.Test.YtlneimjenjpbnaaDoorJ01
import Derived.Test.YtlneimjenjpbnaaDoorPp
namespace Go.Proofs.YtlneimjenjpbnaaDoor
open Go.RowKit

theorem indexFuncI0_any (K : Nat) (eK : ∀ args w, (callFunc K args).run Tryd.prog w = .ok (.enter K args) w) (p : Int → Bool) (v : Value) (l : List Int) (w : World) (hr : RdI w v l)
    (hC : ∀ (x : Int) (W' : World), Below w.heap.size w W' → Calls Tryd.prog K #[.int .i64 x] W' fun e W'' => e = .returned (.bool (p x)) ∧ Below W'.heap.size W' W'') :
    Calls Tryd.prog 37 #[v, .func (.func K) #[] #[]] w fun e w' => e = .returned (.int .i64 (fIdx p l)) ∧ Below w.heap.size w w' := by
  obtain ⟨a, cap, rfl, hlc, hcm, hcell⟩ := hr.open
  have HCell := hid hcell; clear hcell
  have HC := hid hC; clear hC
  go_enter Tryd.func37, Tryd.ntmps37
  go_wp2
  go_loopw [8] (fun i wr => ∃ k : Nat, k ≤ l.length ∧ i = .int .i64 k ∧ Hid (∀ y ∈ l.take k, p y = false) ∧ Below w.heap.size w wr) (fun i _ => l.length - (intOf i).toNat)
  case atStart => exact ⟨0, Nat.zero_le _, rfl, by simp [Hid], Below.refl _ _⟩
  case round =>
    rename_i wr
    obtain ⟨k, hk, rfl, HK, hB⟩ := hrel
    by_cases hlt : k < l.length
    · obtain ⟨x, b, off, hx, rfl, hc0⟩ := HCell.out k hlt
      have hc := Below.keeps hB _ _ hc0
      clear hc0
      have HX := hid hx; clear hx
      by_cases hp : p x = true
      · have HP := hid hp
        go_wp2_with (refine (HC.out _ _ hB).mono ?_; rintro e w' ⟨rfl, hB'⟩)
        go_ret
        exact ⟨ret_int (fIdx_hit _ l k x HK.out HX.out HP.out).symm, hB.trans (hB'.mono hB.size)⟩
      · have hp' : p x = false := by simpa using hp
        have HP := hid hp'
        clear hp
        go_wp2_with (refine (HC.out _ _ hB).mono ?_; rintro e w' ⟨rfl, hB'⟩)
        go_roundw
        case rel => exact ⟨k + 1, by omega, by go_num, take_none HK.out HX.out HP.out, hB.trans (hB'.mono hB.size)⟩
        case measure => simp [intOf]; omega
    · go_wp2
      go_ret
      refine ⟨ret_int ?_, hB⟩
      have h := HK.out
      rw [List.take_of_length_le (by omega)] at h
      exact (fIdx_none _ l h).symm
theorem containsFuncI0_any (K : Nat) (eK : ∀ args w, (callFunc K args).run Tryd.prog w = .ok (.enter K args) w) (p : Int → Bool) (v : Value) (l : List Int) (w : World) (hr : RdI w v l)
    (hC : ∀ (x : Int) (W' : World), Below w.heap.size w W' → Calls Tryd.prog K #[.int .i64 x] W' fun e W'' => e = .returned (.bool (p x)) ∧ Below W'.heap.size W' W'') :
    Calls Tryd.prog 20 #[v, .func (.func K) #[] #[]] w fun e w' => e = .returned (.bool (l.any p)) ∧ Below w.heap.size w w' := by
  have HI := indexFuncI0_any K eK p v l w hr hC
  have HF := hid (fIdx_pos p l)
  generalize fIdx p l = r at *
  have H2 := hid HI; clear HI hC
  go_enter Tryd.func20, Tryd.ntmps20
  go_wp2_with (go_at_call 37; refine H2.out.mono ?_; rintro e w' ⟨rfl, hB'⟩)
  go_ret
  exact ⟨ret_bool HF.out, hB'⟩
/-- Over lists of numbers; what is captured is any array. -/
theorem indexFuncM_any (K : Nat) (eK : ∀ args w, (callFunc K args).run Tryd.prog w = .ok (.enter K args) w) (cs : Array Value) (p : List Int → Bool) (v : Value) (l : List (List Int)) (w : World) (hr : RdM w v l)
    (hC : ∀ (u : Value) (x : List Int) (W' : World), x ∈ l → RdI W' u x → Below w.heap.size w W' → Calls Tryd.prog K (#[u] ++ cs) W' fun e W'' => e = .returned (.bool (p x)) ∧ Below W'.heap.size W' W'') :
    Calls Tryd.prog 38 #[v, .func (.func K) #[] cs] w fun e w' => e = .returned (.int .i64 (fIdx p l)) ∧ Below w.heap.size w w' := by
  obtain ⟨a, cap, rfl, hlc, hcm, hcell⟩ := hr.open
  have HCell := hid hcell; clear hcell
  have HC := hid hC; clear hC
  clear hr
  go_enter Tryd.func38, Tryd.ntmps38
  go_wp2
  go_loopw [8] (fun i wr => ∃ k : Nat, k ≤ l.length ∧ i = .int .i64 k ∧ Hid (∀ y ∈ l.take k, p y = false) ∧ Below w.heap.size w wr) (fun i _ => l.length - (intOf i).toNat)
  case atStart => exact ⟨0, Nat.zero_le _, rfl, by simp [Hid], Below.refl _ _⟩
  case round =>
    rename_i wr
    obtain ⟨k, hk, rfl, HK, hB⟩ := hrel
    by_cases hlt : k < l.length
    · obtain ⟨x, b, off, u, hx, rfl, hc0, hu⟩ := HCell.out k hlt
      have hc := Below.keeps hB _ _ hc0
      have HCx := hid (HC.out u x wr (List.mem_of_getElem? hx) (hu.below hB) hB)
      clear hc0 hu
      have HX := hid hx; clear hx
      by_cases hp : p x = true
      · have HP := hid hp
        rw [hp] at HCx
        clear hp
        go_wp2_with (refine HCx.out.mono ?_; rintro e w' ⟨rfl, hB'⟩)
        go_ret
        exact ⟨ret_int (fIdx_hit _ l k x HK.out HX.out HP.out).symm, hB.trans (hB'.mono hB.size)⟩
      · have hp' : p x = false := by simpa using hp
        have HP := hid hp'
        rw [hp'] at HCx
        clear hp hp'
        go_wp2_with (refine HCx.out.mono ?_; rintro e w' ⟨rfl, hB'⟩)
        go_roundw
        case rel => exact ⟨k + 1, by omega, by go_num, take_none HK.out HX.out HP.out, hB.trans (hB'.mono hB.size)⟩
        case measure => simp [intOf]; omega
    · go_wp2
      go_ret
      refine ⟨ret_int ?_, hB⟩
      have h := HK.out
      rw [List.take_of_length_le (by omega)] at h
      exact (fIdx_none _ l h).symm
theorem containsFuncM_any (K : Nat) (eK : ∀ args w, (callFunc K args).run Tryd.prog w = .ok (.enter K args) w) (cs : Array Value) (p : List Int → Bool) (v : Value) (l : List (List Int)) (w : World) (hr : RdM w v l)
    (hC : ∀ (u : Value) (x : List Int) (W' : World), x ∈ l → RdI W' u x → Below w.heap.size w W' → Calls Tryd.prog K (#[u] ++ cs) W' fun e W'' => e = .returned (.bool (p x)) ∧ Below W'.heap.size W' W'') :
    Calls Tryd.prog 26 #[v, .func (.func K) #[] cs] w fun e w' => e = .returned (.bool (l.any p)) ∧ Below w.heap.size w w' := by
  have HI := indexFuncM_any K eK cs p v l w hr hC
  have HF := hid (fIdx_pos p l)
  generalize fIdx p l = r at *
  have H2 := hid HI; clear HI hC
  go_enter Tryd.func26, Tryd.ntmps26
  go_wp2_with (go_at_call 38; refine H2.out.mono ?_; rintro e w' ⟨rfl, hB'⟩)
  go_ret
  exact ⟨ret_bool HF.out, hB'⟩
theorem length_any (n : Int) (w : World) : Calls Tryd.prog 25 #[.int .i64 n] w fun e w' => e = .returned (.bool (lgB n)) ∧ w = w' := by
  by_cases h1 : 0 ≤ n
  · by_cases h2 : n ≤ 1073741824
    · have HV : Hid (lgB n = true) := lgB_iff.2 ⟨h1, h2⟩
      go_enter Tryd.func25, Tryd.ntmps25
      go_wp2
      go_ret
      exact ⟨by rw [HV.out]; rfl, rfl⟩
    · have HV : Hid (lgB n = false) := by show _ = _; unfold lgB; rw [decide_eq_false h2, Bool.and_false]
      go_enter Tryd.func25, Tryd.ntmps25
      go_wp2
      go_ret
      exact ⟨by rw [HV.out]; rfl, rfl⟩
  · have HV : Hid (lgB n = false) := by show _ = _; unfold lgB; rw [decide_eq_false h1, Bool.false_and]
    go_enter Tryd.func25, Tryd.ntmps25
    go_wp2
    go_ret
    exact ⟨by rw [HV.out]; rfl, rfl⟩
end Go.Proofs.YtlneimjenjpbnaaDoor
