/-
  slices.ContainsFunc over boxes with the law's functions. Printed by gencfb.py.
-/
import Derived.Test.YtkjapeafhcdnkaaDoorMov
import Derived.Test.YtkjapeafhcdnkaaDoorRws
import Derived.Deep.QuietTactic
import Derived.BigQuiet
namespace Go.Proofs.YtkjapeafhcdnkaaDoor
open Go.RowKit

def offK (kind : Int) (b : Bx) : Bool := b.kind != kind
def outK (b : Bx) : Bool := decide (b.kind < 1) || decide (6 < b.kind)
set_option maxHeartbeats 1000000 in
set_option maxRecDepth 100000 in
theorem offK_any (b : Bx) (kind : Int) (c : Nat) (w : World) (hc : w.cell? ⟨c, 0, none⟩ = some (.int .i64 kind)) :
    Calls Tryd.prog 36 #[.agg #[.int .i64 b.kind, .int .i64 b.x, .int .i64 b.y, .int .i64 b.wd, .int .i64 b.blk, .string b.text], .pointer (some ⟨c, 0, none⟩)] w fun e w' => e = .returned (.bool (offK kind b)) ∧ Below w.heap.size w w' := by
  have hb := below_al w (.cells #[.int .i64 b.kind, .int .i64 b.x, .int .i64 b.y, .int .i64 b.wd, .int .i64 b.blk, .string b.text] 42)
  have hc2 := Below.keeps hb _ _ hc
  unfold offK
  go_enter Tryd.func36, Tryd.ntmps36
  go_wp2
  go_ret
  exact ⟨rfl, hb⟩
set_option maxHeartbeats 1000000 in
set_option maxRecDepth 100000 in
theorem outK_any (b : Bx) (w : World) :
    Calls Tryd.prog 37 #[.agg #[.int .i64 b.kind, .int .i64 b.x, .int .i64 b.y, .int .i64 b.wd, .int .i64 b.blk, .string b.text]] w fun e w' => e = .returned (.bool (outK b)) ∧ Below w.heap.size w w' := by
  have hb := below_al w (.cells #[.int .i64 b.kind, .int .i64 b.x, .int .i64 b.y, .int .i64 b.wd, .int .i64 b.blk, .string b.text] 42)
  unfold outK
  by_cases h1 : b.kind < 1
  · go_enter Tryd.func37, Tryd.ntmps37
    go_wp2
    go_ret
    exact ⟨ret_bool (by simp [h1]), hb⟩
  · go_enter Tryd.func37, Tryd.ntmps37
    go_wp2
    go_ret
    exact ⟨ret_bool (by simp; omega), hb⟩

set_option maxHeartbeats 1000000 in
set_option maxRecDepth 100000 in
theorem indexOff_any (v : Value) (l : List Bx) (kind : Int) (c : Nat) (w : World) (hr : RdB w v l) (hc : w.cell? ⟨c, 0, none⟩ = some (.int .i64 kind)) :
    Calls Tryd.prog 66 #[v, .func (.func 36) #[] #[.pointer (some ⟨c, 0, none⟩)]] w fun e w' => e = .returned (.int .i64 (fIdx (offK kind) l)) ∧ Below w.heap.size w w' := by
  obtain ⟨a, cap, rfl, hlc, hcm, hcell⟩ := hr.open
  have HCell := hid hcell; clear hcell
  have eK := enters_of Tryd.func36 (by kernel_rfl) rfl
  have HQ := hid hc
  clear hc
  clear hr
  go_enter Tryd.func66, Tryd.ntmps66
  go_wp2
  go_loopw [8] (fun i wr => ∃ k : Nat, k ≤ l.length ∧ i = .int .i64 k ∧ Hid (∀ y ∈ l.take k, offK kind y = false) ∧ Below w.heap.size w wr) (fun i _ => l.length - (intOf i).toNat)
  case atStart => exact ⟨0, Nat.zero_le _, rfl, by simp [Hid], Below.refl _ _⟩
  case round =>
    rename_i wr
    obtain ⟨k, hk, rfl, HK, hB⟩ := hrel
    by_cases hlt : k < l.length
    · obtain ⟨x, b, off, hx, rfl, d0, d1, d2, d3, d4, d5⟩ := HCell.out k hlt
      have e0 := Below.keeps hB _ _ d0
      have e1 := Below.keeps hB _ _ d1
      have e2 := Below.keeps hB _ _ d2
      have e3 := Below.keeps hB _ _ d3
      have e4 := Below.keeps hB _ _ d4
      have e5 := Below.keeps hB _ _ d5
      have HX := hid hx
      have HCx := hid (offK_any x kind c wr (Below.keeps hB _ _ HQ.out))
      clear d0 d1 d2 d3 d4 d5 hx
      by_cases hp : offK kind x = true
      · have HP := hid hp
        rw [hp] at HCx
        clear hp
        go_wp2_with fail
        refine HCx.out.mono ?_
        rintro e w' ⟨rfl, hB2⟩
        go_wp2
        go_ret
        exact ⟨ret_int (fIdx_hit _ l k x HK.out HX.out HP.out).symm, below_tr hB hB2⟩
      · have hp' : offK kind x = false := by simpa using hp
        have HP := hid hp'
        rw [hp'] at HCx
        clear hp hp'
        go_wp2_with fail
        refine HCx.out.mono ?_
        rintro e w' ⟨rfl, hB2⟩
        go_wp2
        go_roundw
        case rel => exact ⟨k + 1, by omega, by go_num, take_none HK.out HX.out HP.out, below_tr hB hB2⟩
        case measure => simp [intOf]; omega
    · go_wp2
      go_ret
      refine ⟨ret_int ?_, hB⟩
      have h := HK.out
      rw [List.take_of_length_le (by omega)] at h
      exact (fIdx_none _ l h).symm
theorem containsOff_any (v : Value) (l : List Bx) (kind : Int) (c : Nat) (w : World) (hr : RdB w v l) (hc : w.cell? ⟨c, 0, none⟩ = some (.int .i64 kind)) :
    Calls Tryd.prog 35 #[v, .func (.func 36) #[] #[.pointer (some ⟨c, 0, none⟩)]] w fun e w' => e = .returned (.bool (l.any (offK kind))) ∧ Below w.heap.size w w' := by
  have HI := indexOff_any v l kind c w hr hc
  have HF := hid (fIdx_pos (offK kind) l)
  generalize fIdx (offK kind) l = r at *
  have H2 := hid HI; clear HI hr
  go_enter Tryd.func35, Tryd.ntmps35
  go_wp2_with (go_at_call 66; refine H2.out.mono ?_; rintro e w' ⟨rfl, hB⟩)
  go_ret
  exact ⟨ret_bool HF.out, hB⟩

set_option maxHeartbeats 1000000 in
set_option maxRecDepth 100000 in
theorem indexOut_any (v : Value) (l : List Bx)  (w : World) (hr : RdB w v l) :
    Calls Tryd.prog 66 #[v, .func (.func 37) #[] #[]] w fun e w' => e = .returned (.int .i64 (fIdx (outK) l)) ∧ Below w.heap.size w w' := by
  obtain ⟨a, cap, rfl, hlc, hcm, hcell⟩ := hr.open
  have HCell := hid hcell; clear hcell
  have eK := enters_of Tryd.func37 (by kernel_rfl) rfl
  clear hr
  go_enter Tryd.func66, Tryd.ntmps66
  go_wp2
  go_loopw [8] (fun i wr => ∃ k : Nat, k ≤ l.length ∧ i = .int .i64 k ∧ Hid (∀ y ∈ l.take k, outK y = false) ∧ Below w.heap.size w wr) (fun i _ => l.length - (intOf i).toNat)
  case atStart => exact ⟨0, Nat.zero_le _, rfl, by simp [Hid], Below.refl _ _⟩
  case round =>
    rename_i wr
    obtain ⟨k, hk, rfl, HK, hB⟩ := hrel
    by_cases hlt : k < l.length
    · obtain ⟨x, b, off, hx, rfl, d0, d1, d2, d3, d4, d5⟩ := HCell.out k hlt
      have e0 := Below.keeps hB _ _ d0
      have e1 := Below.keeps hB _ _ d1
      have e2 := Below.keeps hB _ _ d2
      have e3 := Below.keeps hB _ _ d3
      have e4 := Below.keeps hB _ _ d4
      have e5 := Below.keeps hB _ _ d5
      have HX := hid hx
      have HCx := hid (outK_any x wr)
      clear d0 d1 d2 d3 d4 d5 hx
      by_cases hp : outK x = true
      · have HP := hid hp
        rw [hp] at HCx
        clear hp
        go_wp2_with fail
        refine HCx.out.mono ?_
        rintro e w' ⟨rfl, hB2⟩
        go_wp2
        go_ret
        exact ⟨ret_int (fIdx_hit _ l k x HK.out HX.out HP.out).symm, below_tr hB hB2⟩
      · have hp' : outK x = false := by simpa using hp
        have HP := hid hp'
        rw [hp'] at HCx
        clear hp hp'
        go_wp2_with fail
        refine HCx.out.mono ?_
        rintro e w' ⟨rfl, hB2⟩
        go_wp2
        go_roundw
        case rel => exact ⟨k + 1, by omega, by go_num, take_none HK.out HX.out HP.out, below_tr hB hB2⟩
        case measure => simp [intOf]; omega
    · go_wp2
      go_ret
      refine ⟨ret_int ?_, hB⟩
      have h := HK.out
      rw [List.take_of_length_le (by omega)] at h
      exact (fIdx_none _ l h).symm
theorem containsOut_any (v : Value) (l : List Bx)  (w : World) (hr : RdB w v l) :
    Calls Tryd.prog 35 #[v, .func (.func 37) #[] #[]] w fun e w' => e = .returned (.bool (l.any (outK))) ∧ Below w.heap.size w w' := by
  have HI := indexOut_any v l  w hr 
  have HF := hid (fIdx_pos (outK) l)
  generalize fIdx (outK) l = r at *
  have H2 := hid HI; clear HI hr
  go_enter Tryd.func35, Tryd.ntmps35
  go_wp2_with (go_at_call 66; refine H2.out.mono ?_; rintro e w' ⟨rfl, hB⟩)
  go_ret
  exact ⟨ret_bool HF.out, hB⟩
end Go.Proofs.YtkjapeafhcdnkaaDoor
