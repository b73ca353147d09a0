/-
  pagedesc.box, pagedesc.Check.
-/
import Derived.Test.YtkjapeafhcdnkaaDoorPg
import Derived.Test.YtkjapeafhcdnkaaDoorDec
import Derived.Lib.ConvBytes
import Derived.Lib.AtoiErrMem
namespace Go.Proofs.YtkjapeafhcdnkaaDoor
open Go.RowKit

theorem bytes_conv (s : ByteArray) (hs : s.size ≤ 1048576) (w' : World) : ∃ a cap, ((convert 9 70 (.string s)).run Tryd.prog w' = .ok (.slice a s.size cap) (Lib.bytesWorld w' 5 s)) ∧ RdY (Lib.bytesWorld w' 5 s) (.slice a s.size cap) (bytesL s) := by
  refine ⟨_, _, Lib.run_convert_string_bytes w' _ _ 5 s Tryd.underlying9 Tryd.underlying70 Tryd.underlying5, ?_⟩
  refine ⟨_, _, by rw [show (bytesL s).length = s.size by simp [bytesL]], by rw [show (bytesL s).length = s.size by simp [bytesL]]; exact grownCap_ge _ _ _ _, grownCap_le_maxLen _ _ _ _ (by unfold maxLen; omega), ?_⟩
  intro i x hx
  obtain ⟨hil, hxe⟩ := List.getElem?_eq_some_iff.1 hx
  have hil2 : i < s.size := by simpa [bytesL] using hil
  refine ⟨_, _, rfl, ?_⟩
  rw [Nat.zero_add, Lib.bytesWorld_cell w' _ s i hil2]
  have : x = ((s.data.toList.getD i 0).toNat : Int) := by
    rw [← hxe]
    simp [bytesL, List.getD_eq_getElem?_getD, hil2]
  rw [this]
theorem row6_nw (W : World) (b : Bx) (t : TypeId) : ∀ (i : Nat) (x : Value), b.cells[i]? = some x → (W.alloc (.cells b.cells t)).cell? ⟨W.heap.size, i, none⟩ = some x := fun i _ h => cell_nw W _ t i h

set_option maxRecDepth 100000 in
set_option maxHeartbeats 2000000 in
theorem box_any (b : Bx) (w : World) (hz : b.text.size ≤ maxLen) :
    Calls Tryd.prog 52 #[.agg #[.int .i64 b.kind, .int .i64 b.x, .int .i64 b.y, .int .i64 b.wd, .int .i64 b.blk, .string b.text]] w fun e w' => e = .returned (.int .i64 (boxI b)) ∧ Below w.heap.size w w' := by
  obtain ⟨kind, x, y, wd, blk, text⟩ := b
  simp only at hz ⊢
  unfold maxLen at hz
  have hb0 := below_al w (.cells #[.int .i64 kind, .int .i64 x, .int .i64 y, .int .i64 wd, .int .i64 blk, .string text] 42)
  have HD : Hid (boxI ⟨kind, x, y, wd, blk, text⟩ = if kind < 1 ∨ 6 < kind then 8 else if (!lenB x || !lenB y || !lenB wd || decide (blk < 0) || decide (63 < blk)) = true then 2
    else if decide (kind = 3) ≠ decide (0 < blk) then 9 else if 65536 < text.size then 4 else if (bytesL text).any badC = true then 11 else 0) := rfl
  have CALL := fun n w' => hid (length_any n w')
  by_cases k1 : kind < 1
  · have HV : Hid (boxI ⟨kind, x, y, wd, blk, text⟩ = 8) := by unfold Hid; rw [HD.out, if_pos (.inl k1)]
    clear HD CALL
    go_enter Tryd.func52, Tryd.ntmps52
    go_wp2
    go_ret
    exact ⟨ret_int HV.out.symm, hb0⟩
  by_cases k2 : 6 < kind
  · have HV : Hid (boxI ⟨kind, x, y, wd, blk, text⟩ = 8) := by unfold Hid; rw [HD.out, if_pos (.inr k2)]
    clear HD CALL
    go_enter Tryd.func52, Tryd.ntmps52
    go_wp2
    go_ret
    exact ⟨ret_int HV.out.symm, hb0⟩
  have HD2 : Hid (boxI ⟨kind, x, y, wd, blk, text⟩ = if (!lenB x || !lenB y || !lenB wd || decide (blk < 0) || decide (63 < blk)) = true then 2
    else if decide (kind = 3) ≠ decide (0 < blk) then 9 else if 65536 < text.size then 4 else if (bytesL text).any badC = true then 11 else 0) := by unfold Hid; rw [HD.out, if_neg (by omega)]
  clear HD
  cases lx : lenB x with
  | false =>
    have HV : Hid (boxI ⟨kind, x, y, wd, blk, text⟩ = 2) := by unfold Hid; rw [HD2.out, if_pos (by simp [lx])]
    clear HD2
    go_enter Tryd.func52, Tryd.ntmps52
    go_wp2_with (go_at_call 62; refine (CALL _ _).out.mono ?_; rintro e w' ⟨rfl, rfl⟩)
    go_ret
    exact ⟨ret_int HV.out.symm, hb0⟩
  | true =>
  cases ly : lenB y with
  | false =>
    have HV : Hid (boxI ⟨kind, x, y, wd, blk, text⟩ = 2) := by unfold Hid; rw [HD2.out, if_pos (by simp [ly])]
    clear HD2
    go_enter Tryd.func52, Tryd.ntmps52
    go_wp2_with (go_at_call 62; refine (CALL _ _).out.mono ?_; rintro e w' ⟨rfl, rfl⟩)
    go_ret
    exact ⟨ret_int HV.out.symm, hb0⟩
  | true =>
  cases lwd : lenB wd with
  | false =>
    have HV : Hid (boxI ⟨kind, x, y, wd, blk, text⟩ = 2) := by unfold Hid; rw [HD2.out, if_pos (by simp [lwd])]
    clear HD2
    go_enter Tryd.func52, Tryd.ntmps52
    go_wp2_with (go_at_call 62; refine (CALL _ _).out.mono ?_; rintro e w' ⟨rfl, rfl⟩)
    go_ret
    exact ⟨ret_int HV.out.symm, hb0⟩
  | true =>
  by_cases b1 : blk < 0
  · have HV : Hid (boxI ⟨kind, x, y, wd, blk, text⟩ = 2) := by unfold Hid; rw [HD2.out, if_pos (by simp [b1])]
    clear HD2
    go_enter Tryd.func52, Tryd.ntmps52
    go_wp2_with (go_at_call 62; refine (CALL _ _).out.mono ?_; rintro e w' ⟨rfl, rfl⟩)
    go_ret
    exact ⟨ret_int HV.out.symm, hb0⟩
  by_cases b2 : 63 < blk
  · have HV : Hid (boxI ⟨kind, x, y, wd, blk, text⟩ = 2) := by unfold Hid; rw [HD2.out, if_pos (by simp [b2])]
    clear HD2
    go_enter Tryd.func52, Tryd.ntmps52
    go_wp2_with (go_at_call 62; refine (CALL _ _).out.mono ?_; rintro e w' ⟨rfl, rfl⟩)
    go_ret
    exact ⟨ret_int HV.out.symm, hb0⟩
  have HD3 : Hid (boxI ⟨kind, x, y, wd, blk, text⟩ = if decide (kind = 3) ≠ decide (0 < blk) then 9 else if 65536 < text.size then 4 else if (bytesL text).any badC = true then 11 else 0) := by
    unfold Hid; rw [HD2.out, if_neg (by simp [lx, ly, lwd]; omega)]
  clear HD2
  by_cases m1 : decide (kind = 3) ≠ decide (0 < blk)
  · have HV : Hid (boxI ⟨kind, x, y, wd, blk, text⟩ = 9) := by unfold Hid; rw [HD3.out, if_pos m1]
    by_cases q1 : kind = 3
    · have q2 : ¬ 0 < blk := fun h => m1 (by rw [decide_eq_true q1, decide_eq_true h])
      have qd : decide (0 < blk) = false := decide_eq_false q2
      have qe : blk ≤ 0 := by omega
      subst q1
      clear HD3 m1
      go_enter Tryd.func52, Tryd.ntmps52
      go_wp2_with (go_at_call 62; refine (CALL _ _).out.mono ?_; rintro e w' ⟨rfl, rfl⟩)
      go_ret
      exact ⟨ret_int HV.out.symm, hb0⟩
    · have q2 : 0 < blk := Classical.byContradiction fun h => m1 (by rw [decide_eq_false q1, decide_eq_false h])
      have q3 : (kind == 3) = false := beq_eq_false_iff_ne.2 q1
      clear HD3 m1
      go_enter Tryd.func52, Tryd.ntmps52
      go_wp2_with (go_at_call 62; refine (CALL _ _).out.mono ?_; rintro e w' ⟨rfl, rfl⟩)
      go_ret
      exact ⟨ret_int HV.out.symm, hb0⟩
  have HD4 : Hid (boxI ⟨kind, x, y, wd, blk, text⟩ = if 65536 < text.size then 4 else if (bytesL text).any badC = true then 11 else 0) := by unfold Hid; rw [HD3.out, if_neg m1]
  clear HD3
  have m2 : (kind == 3) = decide (0 < blk) := by
    have h : decide (kind = 3) = decide (0 < blk) := Classical.byContradiction m1
    rw [← h]; rfl
  clear m1
  by_cases s1 : 65536 < text.size
  · have s1i : (65536 : Int) < (text.size : Int) := by omega
    have HV : Hid (boxI ⟨kind, x, y, wd, blk, text⟩ = 4) := by unfold Hid; rw [HD4.out, if_pos s1]
    clear HD4
    cases hk : decide (0 < blk) with
    | true =>
      rw [hk] at m2
      have q1 : 0 < blk := of_decide_eq_true hk
      go_enter Tryd.func52, Tryd.ntmps52
      go_wp2_with (go_at_call 62; refine (CALL _ _).out.mono ?_; rintro e w' ⟨rfl, rfl⟩)
      go_ret
      exact ⟨ret_int HV.out.symm, hb0⟩
    | false =>
      rw [hk] at m2
      have q1 : ¬ 0 < blk := of_decide_eq_false hk
      go_enter Tryd.func52, Tryd.ntmps52
      go_wp2_with (go_at_call 62; refine (CALL _ _).out.mono ?_; rintro e w' ⟨rfl, rfl⟩)
      go_ret
      exact ⟨ret_int HV.out.symm, hb0⟩
  have s1i : ¬ (65536 : Int) < (text.size : Int) := by omega
  have HV : Hid (boxI ⟨kind, x, y, wd, blk, text⟩ = if (bytesL text).any badC = true then 11 else 0) := by unfold Hid; rw [HD4.out, if_neg s1]
  clear HD4
  obtain ⟨av, cap, hcv, hry⟩ := bytes_conv text (by omega) (w.alloc (.cells #[.int .i64 kind, .int .i64 x, .int .i64 y, .int .i64 wd, .int .i64 blk, .string text] 42))
  have HCF := hid (containsFnB_any 77 (enters_of Tryd.func77 (by kernel_rfl) rfl) badC _ (bytesL text) _ hry (fun x W' _ _ => badC_any x W'))
  have HB2 := hid (below_tr hb0 (Lib.bytesWorld_below (w.alloc (.cells #[.int .i64 kind, .int .i64 x, .int .i64 y, .int .i64 wd, .int .i64 blk, .string text] 42)) 5 text))
  clear hry
  cases hk : decide (0 < blk)
  all_goals rw [hk] at m2
  all_goals cases ht : (bytesL text).any badC
  all_goals rw [ht] at HCF HV
  · have q1 : ¬ 0 < blk := of_decide_eq_false hk
    clear ht hk
    go_enter Tryd.func52, Tryd.ntmps52
    go_wp2_with (first | (go_at_call 62; refine (CALL _ _).out.mono ?_; rintro e w' ⟨rfl, rfl⟩) | (go_at_call 76; refine HCF.out.mono ?_; rintro e w4 ⟨rfl, hB4⟩))
    go_ret
    exact ⟨ret_int HV.out.symm, below_tr HB2.out hB4⟩
  · have q1 : ¬ 0 < blk := of_decide_eq_false hk
    clear ht hk
    go_enter Tryd.func52, Tryd.ntmps52
    go_wp2_with (first | (go_at_call 62; refine (CALL _ _).out.mono ?_; rintro e w' ⟨rfl, rfl⟩) | (go_at_call 76; refine HCF.out.mono ?_; rintro e w4 ⟨rfl, hB4⟩))
    go_ret
    exact ⟨ret_int HV.out.symm, below_tr HB2.out hB4⟩
  · have q1 : 0 < blk := of_decide_eq_true hk
    clear ht hk
    go_enter Tryd.func52, Tryd.ntmps52
    go_wp2_with (first | (go_at_call 62; refine (CALL _ _).out.mono ?_; rintro e w' ⟨rfl, rfl⟩) | (go_at_call 76; refine HCF.out.mono ?_; rintro e w4 ⟨rfl, hB4⟩))
    go_ret
    exact ⟨ret_int HV.out.symm, below_tr HB2.out hB4⟩
  · have q1 : 0 < blk := of_decide_eq_true hk
    clear ht hk
    go_enter Tryd.func52, Tryd.ntmps52
    go_wp2_with (first | (go_at_call 62; refine (CALL _ _).out.mono ?_; rintro e w' ⟨rfl, rfl⟩) | (go_at_call 76; refine HCF.out.mono ?_; rintro e w4 ⟨rfl, hB4⟩))
    go_ret
    exact ⟨ret_int HV.out.symm, below_tr HB2.out hB4⟩

set_option maxRecDepth 100000 in
set_option maxHeartbeats 2000000 in
theorem pcheck_any (p : Pg) (v : Value) (w : World) (hr : RdB w v p.bx) (hz : SzB p.bx) :
    Calls Tryd.prog 18 #[.agg #[.int .i64 p.num, v]] w fun e w' => e = .returned (.int .i64 (pgI p)) ∧ Below w.heap.size w w' := by
  obtain ⟨num, l⟩ := p
  simp only at hr hz ⊢
  have HD : Hid (pgI ⟨num, l⟩ = if num < 1 ∨ 1024 < num then 2 else if 4096 < l.length then 4 else firstE l) := rfl
  have hb0 := below_al w (.cells #[.int .i64 num, v] 34)
  obtain ⟨ad, cap, rfl, hlc, hcm, hcell⟩ := (hr.below hb0).open
  have HC := hid hcell
  clear hcell hr
  by_cases k1 : num < 1
  · have HV : Hid (pgI ⟨num, l⟩ = 2) := by unfold Hid; rw [HD.out, if_pos (.inl k1)]
    go_enter Tryd.func18, Tryd.ntmps18
    go_wp2
    go_ret
    exact ⟨ret_int HV.out.symm, hb0⟩
  by_cases k2 : 1024 < num
  · have HV : Hid (pgI ⟨num, l⟩ = 2) := by unfold Hid; rw [HD.out, if_pos (.inr k2)]
    go_enter Tryd.func18, Tryd.ntmps18
    go_wp2
    go_ret
    exact ⟨ret_int HV.out.symm, hb0⟩
  by_cases k3 : 4096 < l.length
  · have k3i : (4096 : Int) < (l.length : Int) := by omega
    have HV : Hid (pgI ⟨num, l⟩ = 4) := by unfold Hid; rw [HD.out, if_neg (by omega), if_pos k3]
    go_enter Tryd.func18, Tryd.ntmps18
    go_wp2
    go_ret
    exact ⟨ret_int HV.out.symm, hb0⟩
  have k3i : ¬ (4096 : Int) < (l.length : Int) := by omega
  have HV : Hid (pgI ⟨num, l⟩ = firstE l) := by unfold Hid; rw [HD.out, if_neg (by omega), if_neg k3]
  clear HD
  go_enter Tryd.func18, Tryd.ntmps18
  go_wp2
  generalize w.alloc (.cells #[.int .i64 num, .slice ad l.length cap] 34) = w0 at *
  go_loopw [21] (fun i wr => ∃ k : Nat, k ≤ l.length ∧ i = .int .i64 k ∧ Hid (∀ y ∈ l.take k, boxI y = 0) ∧ Hid (Below w0.heap.size w0 wr)) (fun i _ => l.length - (intOf i).toNat)
  case atStart => exact ⟨0, Nat.zero_le _, rfl, by simp [Hid], Below.refl _ _⟩
  case round =>
    obtain ⟨k, hk, rfl, HN, HB⟩ := hrel
    by_cases hlt : k < l.length
    · obtain ⟨x, b, o, hx, rfl, d0, d1, d2, d3, d4, d5⟩ := HC.out k hlt
      have hki : (k : Int) < (l.length : Int) := by omega
      have e0 := Below.keeps HB.out _ _ d0
      have e1 := Below.keeps HB.out _ _ d1
      have e2 := Below.keeps HB.out _ _ d2
      have e3 := Below.keeps HB.out _ _ d3
      have e4 := Below.keeps HB.out _ _ d4
      have e5 := Below.keeps HB.out _ _ d5
      clear d0 d1 d2 d3 d4 d5
      have hb1 := below_al wr (.cells #[.int .i64 x.kind, .int .i64 x.x, .int .i64 x.y, .int .i64 x.wd, .int .i64 x.blk, .string x.text] 42)
      have HX := hid hx
      have HBX := fun w' => hid (box_any x w' (hz x (List.mem_of_getElem? hx)))
      clear hx
      go_wp2_with fail
      refine (HBX _).out.mono ?_
      rintro e w3 ⟨rfl, hB3⟩
      have HB3 := hid (below_tr HB.out (below_tr hb1 hB3))
      clear hB3 hb1 HBX
      by_cases hbx : boxI x = 0
      · have HN2 : Hid (∀ y ∈ l.take (k + 1), boxI y = 0) := by
          intro y hy
          rw [List.take_add_one, HX.out, List.mem_append] at hy
          rcases hy with hy | hy
          · exact HN.out y hy
          · have : y = x := by simpa using hy
            rw [this]; exact hbx
        clear HX HN
        go_wp2_with fail
        go_roundw
        case rel => exact ⟨k + 1, by omega, by go_num, HN2.out, HB3.out⟩
        case measure => simp [intOf]; omega
      · have hbb : (boxI x == 0) = false := beq_eq_false_iff_ne.2 hbx
        have HV2 : Hid (pgI ⟨num, l⟩ = boxI x) := by unfold Hid; rw [HV.out]; exact firstE_hit l k x HN.out HX.out hbx
        go_wp2
        go_ret
        exact ⟨ret_int HV2.out.symm, below_tr hb0 HB3.out⟩
    · have hki : ¬ (k : Int) < (l.length : Int) := by omega
      have HV2 : Hid (pgI ⟨num, l⟩ = 0) := by
        have h := HN.out
        rw [List.take_of_length_le (by omega)] at h
        unfold Hid; rw [HV.out]; exact firstE_none l h
      go_wp2
      go_ret
      exact ⟨ret_int HV2.out.symm, below_tr hb0 HB.out⟩
end Go.Proofs.YtkjapeafhcdnkaaDoor
