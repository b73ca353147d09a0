/-
  Contracts: closures on a group's name; IndexFunc, ContainsFunc; Clone; Concat.
-/
import Derived.Test.YtigaflmhdbgmdaaDoorSl
import Derived.BigCall
namespace Go.Proofs.YtigaflmhdbgmdaaDoor
open Go.RowKit

set_option maxHeartbeats 400000 in
theorem chk1_any (n s : ByteArray) (m : Value) (b o : Nat) (w : World) (hc : w.cell? ⟨b, o, none⟩ = some (.string s)) :
    Calls Tryd.prog 55 #[.agg #[.string n, m], .pointer (some ⟨b, o, none⟩)] w fun e w' => e = .returned (.bool (decide (n = s))) ∧ Below w.heap.size w w' := by
  have hb := ba_beq n s
  have hc1 := fun ob => cell_al hc ob
  go_enter Tryd.func55, Tryd.ntmps55
  go_wp2
  go_ret
  exact ⟨rfl, (Below.refl _ _).alloc (Nat.le_refl _) _⟩

set_option maxHeartbeats 400000 in
theorem exp1_any (n s : ByteArray) (m : Value) (b o : Nat) (w : World) (hc : w.cell? ⟨b, o, none⟩ = some (.string s)) :
    Calls Tryd.prog 32 #[.agg #[.string n, m], .pointer (some ⟨b, o, none⟩)] w fun e w' => e = .returned (.bool (decide (n = s))) ∧ Below w.heap.size w w' := by
  have hb := ba_beq n s
  have hc1 := fun ob => cell_al hc ob
  go_enter Tryd.func32, Tryd.ntmps32
  go_wp2
  go_ret
  exact ⟨rfl, (Below.refl _ _).alloc (Nat.le_refl _) _⟩

set_option maxHeartbeats 400000 in
theorem indexFuncG_any (K : Nat) (eK : ∀ args w, (callFunc K args).run Tryd.prog w = .ok (.enter K args) w) (c : Value) (p : ByteArray → Bool) (v : Value) (l : List Grp) (w : World) (hr : RdG w v l)
    (hC : ∀ (g : ByteArray) (m : Value) (W' : World), Below w.heap.size w W' → Calls Tryd.prog K #[.agg #[.string g, m], c] W' fun e W'' => e = .returned (.bool (p g)) ∧ Below W'.heap.size W' W'') :
    Calls Tryd.prog 31 #[v, .func (.func K) #[] #[c]] w fun e w' => e = .returned (.int .i64 (fIdx (fun g => p g.name) l)) ∧ Below w.heap.size w w' := by
  obtain ⟨a, cap, rfl, hlc, hcm, hcell⟩ := hr.open
  have HCell := hid hcell; clear hcell
  have HC := hid hC; clear hC
  go_enter Tryd.func31, Tryd.ntmps31
  go_wp2
  go_loopw [8] (fun i wr => ∃ k : Nat, k ≤ l.length ∧ i = .int .i64 k ∧ Hid (∀ y ∈ l.take k, p y.name = false) ∧ Below w.heap.size w wr) (fun i _ => l.length - (intOf i).toNat)
  case atStart => exact ⟨0, Nat.zero_le _, rfl, by simp [Hid], Below.refl _ _⟩
  case round =>
    rename_i wr
    obtain ⟨k, hk, rfl, HK, hB⟩ := hrel
    by_cases hlt : k < l.length
    · obtain ⟨x, b, off, m, hx, rfl, hc0, hd0, _⟩ := HCell.out k hlt
      have hc := Below.keeps hB _ _ hc0
      have hd := Below.keeps hB _ _ hd0
      clear hc0 hd0
      have HX := hid hx; clear hx
      by_cases hp : p x.name = true
      · have HP := hid hp
        go_wp2_with (refine (HC.out _ _ _ hB).mono ?_; rintro e w' ⟨rfl, hB'⟩)
        go_ret
        exact ⟨ret_int (fIdx_hit _ l k x HK.out HX.out HP.out).symm, hB.trans (hB'.mono hB.size)⟩
      · have hp' : p x.name = false := by simpa using hp
        have HP := hid hp'
        clear hp
        go_wp2_with (refine (HC.out _ _ _ hB).mono ?_; rintro e w' ⟨rfl, hB'⟩)
        go_roundw
        case rel => exact ⟨k + 1, by omega, by go_num, take_none HK.out HX.out HP.out, hB.trans (hB'.mono hB.size)⟩
        case measure => simp [intOf]; omega
    · go_wp2
      go_ret
      refine ⟨ret_int ?_, hB⟩
      have h := HK.out
      rw [List.take_of_length_le (by omega)] at h
      exact (fIdx_none _ l h).symm

theorem containsFuncG_any (K : Nat) (eK : ∀ args w, (callFunc K args).run Tryd.prog w = .ok (.enter K args) w) (c : Value) (p : ByteArray → Bool) (v : Value) (l : List Grp) (w : World) (hr : RdG w v l)
    (hC : ∀ (g : ByteArray) (m : Value) (W' : World), Below w.heap.size w W' → Calls Tryd.prog K #[.agg #[.string g, m], c] W' fun e W'' => e = .returned (.bool (p g)) ∧ Below W'.heap.size W' W'') :
    Calls Tryd.prog 54 #[v, .func (.func K) #[] #[c]] w fun e w' => e = .returned (.bool (l.any fun g => p g.name)) ∧ Below w.heap.size w w' := by
  have HI := indexFuncG_any K eK c p v l w hr hC
  have HF := hid (fIdx_pos (fun g : Grp => p g.name) l)
  generalize fIdx (fun g : Grp => p g.name) l = r at *
  have H2 := hid HI; clear HI hC
  go_enter Tryd.func54, Tryd.ntmps54
  go_wp2_with (go_at_call 31; refine H2.out.mono ?_; rintro e w' ⟨rfl, hB'⟩)
  go_ret
  exact ⟨ret_bool HF.out, hB'⟩

end Go.Proofs.YtigaflmhdbgmdaaDoor
