/-
  The reference's Check of a page.
-/
import Derived.Test.YtkjapeafhcdnkaaDoorPg
import Derived.Test.YtkjapeafhcdnkaaDoorRws
namespace Go.Proofs.YtkjapeafhcdnkaaDoor
open Go.RowKit

theorem rlength_any (n : Int) (w : World) : Calls Tryd.prog 53 #[.int .i64 n] w fun e w' => e = .returned (.bool (lenB n)) ∧ w = w' := by
  unfold lenB
  by_cases h0 : 0 ≤ n
  · by_cases h1 : n ≤ 1073741824
    · go_enter Tryd.func53, Tryd.ntmps53
      go_wp2
      go_ret
      exact ⟨ret_bool (by simp [h0, h1]), rfl⟩
    · go_enter Tryd.func53, Tryd.ntmps53
      go_wp2
      go_ret
      exact ⟨ret_bool (by simp [h1]), rfl⟩
  · go_enter Tryd.func53, Tryd.ntmps53
    go_wp2
    go_ret
    exact ⟨ret_bool (by simp; omega), rfl⟩
theorem bytesL_at {s : ByteArray} {k : Nat} (h : k < s.size) : (bytesL s)[k]? = some ((s[k].toNat : Nat) : Int) := by
  have h2 : k < s.data.toList.length := by simpa using h
  unfold bytesL
  rw [List.getElem?_map, List.getElem?_eq_getElem h2]
  rfl
theorem bytesL_len (s : ByteArray) : (bytesL s).length = s.size := by simp [bytesL]

set_option maxRecDepth 100000 in
set_option maxHeartbeats 4000000 in
theorem rpcheck_any (p : Pg) (v : Value) (w : World) (hr : RdB w v p.bx) (hz : SzB p.bx) :
    Calls Tryd.prog 20 #[.agg #[.int .i64 p.num, v]] w fun e w' => e = .returned (.int .i64 (pgI p)) ∧ Below w.heap.size w w' := by
  obtain ⟨num, l⟩ := p
  simp only at hr hz ⊢
  have HD : Hid (pgI ⟨num, l⟩ = if num < 1 ∨ 1024 < num then 2 else if 4096 < l.length then 4 else firstE l) := rfl
  have CALL := fun n w' => hid (rlength_any n w')
  have hb0 := below_al w (.cells #[.int .i64 num, v] 34)
  obtain ⟨ad, cap, rfl, hlc, hcm, hcell⟩ := (hr.below hb0).open
  have HC := hid hcell
  clear hcell hr
  by_cases k1 : num < 1
  · have HV : Hid (pgI ⟨num, l⟩ = 2) := by unfold Hid; rw [HD.out, if_pos (.inl k1)]
    clear CALL
    go_enter Tryd.func20, Tryd.ntmps20
    go_wp2
    go_ret
    exact ⟨ret_int HV.out.symm, hb0⟩
  by_cases k2 : 1024 < num
  · have HV : Hid (pgI ⟨num, l⟩ = 2) := by unfold Hid; rw [HD.out, if_pos (.inr k2)]
    clear CALL
    go_enter Tryd.func20, Tryd.ntmps20
    go_wp2
    go_ret
    exact ⟨ret_int HV.out.symm, hb0⟩
  by_cases k3 : 4096 < l.length
  · have k3i : (4096 : Int) < (l.length : Int) := by omega
    have HV : Hid (pgI ⟨num, l⟩ = 4) := by unfold Hid; rw [HD.out, if_neg (by omega), if_pos k3]
    clear CALL
    go_enter Tryd.func20, Tryd.ntmps20
    go_wp2
    go_ret
    exact ⟨ret_int HV.out.symm, hb0⟩
  have k3i : ¬ (4096 : Int) < (l.length : Int) := by omega
  have HV0 : Hid (pgI ⟨num, l⟩ = firstE l) := by unfold Hid; rw [HD.out, if_neg (by omega), if_neg k3]
  have hro := row_nw w #[.int .i64 num, .slice ad l.length cap] 34 rfl
  have HRO := hid hro
  clear HD hro
  go_enter Tryd.func20, Tryd.ntmps20
  go_wp2
  generalize w.alloc (.cells #[.int .i64 num, .slice ad l.length cap] 34) = w0 at *
  go_loopw [3] (fun i wr => ∃ k : Nat, k ≤ l.length ∧ i = .int .i64 k ∧ Hid (∀ y ∈ l.take k, boxI y = 0) ∧ Hid (Below w0.heap.size w0 wr)) (fun i _ => l.length - (intOf i).toNat)
  case atStart => exact ⟨0, Nat.zero_le _, rfl, by simp [Hid], Below.refl _ _⟩
  case round =>
    obtain ⟨k, hk, rfl, HN, HB⟩ := hrel
    have pg1 := (HRO.out.below HB.out).cell 1 rfl
    by_cases hlt : k < l.length
    · obtain ⟨x, b, o, hx, rfl, d0, d1, d2, d3, d4, d5⟩ := HC.out k hlt
      have hki : (k : Int) < (l.length : Int) := by omega
      have e0 := Below.keeps HB.out _ _ d0
      have e1 := Below.keeps HB.out _ _ d1
      have e2 := Below.keeps HB.out _ _ d2
      have e3 := Below.keeps HB.out _ _ d3
      have e4 := Below.keeps HB.out _ _ d4
      have e5 := Below.keeps HB.out _ _ d5
      have HX := hid hx
      have hz1 := hz x (List.mem_of_getElem? hx)
      clear d0 d1 d2 d3 d4 d5 hx
      obtain ⟨kind, bx, by_, wd, blk, text⟩ := x
      simp only at e0 e1 e2 e3 e4 e5 hz1
      unfold maxLen at hz1
      have hb1 := hid (below_tr HB.out (below_al wr (.cells #[.int .i64 kind, .int .i64 bx, .int .i64 by_, .int .i64 wd, .int .i64 blk, .string text] 42)))
      have HRET : ∀ c : Int, boxI ⟨kind, bx, by_, wd, blk, text⟩ = c → c ≠ 0 → Hid (pgI ⟨num, l⟩ = c) := fun c h h2 => by unfold Hid; rw [HV0.out, ← h]; exact firstE_hit l k _ HN.out HX.out (by rw [h]; exact h2)
      have HRET2 := hid HRET
      clear HRET
      have HD : Hid (boxI ⟨kind, bx, by_, wd, blk, text⟩ = if kind < 1 ∨ 6 < kind then 8 else if (!lenB bx || !lenB by_ || !lenB wd || decide (blk < 0) || decide (63 < blk)) = true then 2
        else if decide (kind = 3) ≠ decide (0 < blk) then 9 else if 65536 < text.size then 4 else if (bytesL text).any badC = true then 11 else 0) := rfl
      by_cases k1 : kind < 1
      · skip
        have HV := HRET2.out 8 (by rw [HD.out, if_pos (.inl k1)]) (by decide)
        clear HD HX
        go_wp2_with (go_at_call 53; refine (CALL _ _).out.mono ?_; rintro e w' ⟨rfl, rfl⟩)
        go_ret
        exact ⟨ret_int HV.out.symm, below_tr hb0 hb1.out⟩
      by_cases k2 : 6 < kind
      · skip
        have HV := HRET2.out 8 (by rw [HD.out, if_pos (.inr k2)]) (by decide)
        clear HD HX
        go_wp2_with (go_at_call 53; refine (CALL _ _).out.mono ?_; rintro e w' ⟨rfl, rfl⟩)
        go_ret
        exact ⟨ret_int HV.out.symm, below_tr hb0 hb1.out⟩
      have HD2 : Hid (boxI ⟨kind, bx, by_, wd, blk, text⟩ = if (!lenB bx || !lenB by_ || !lenB wd || decide (blk < 0) || decide (63 < blk)) = true then 2
        else if decide (kind = 3) ≠ decide (0 < blk) then 9 else if 65536 < text.size then 4 else if (bytesL text).any badC = true then 11 else 0) := by unfold Hid; rw [HD.out, if_neg (by omega)]
      clear HD
      cases lx : lenB bx with
      | false =>
        have HV := HRET2.out 2 (by rw [HD2.out, if_pos (by simp [lx])]) (by decide)
        clear HD2 HX
        go_wp2_with (go_at_call 53; refine (CALL _ _).out.mono ?_; rintro e w' ⟨rfl, rfl⟩)
        go_ret
        exact ⟨ret_int HV.out.symm, below_tr hb0 hb1.out⟩
      | true =>
      cases ly : lenB by_ with
      | false =>
        have HV := HRET2.out 2 (by rw [HD2.out, if_pos (by simp [ly])]) (by decide)
        clear HD2 HX
        go_wp2_with (go_at_call 53; refine (CALL _ _).out.mono ?_; rintro e w' ⟨rfl, rfl⟩)
        go_ret
        exact ⟨ret_int HV.out.symm, below_tr hb0 hb1.out⟩
      | true =>
      cases lwd : lenB wd with
      | false =>
        have HV := HRET2.out 2 (by rw [HD2.out, if_pos (by simp [lwd])]) (by decide)
        clear HD2 HX
        go_wp2_with (go_at_call 53; refine (CALL _ _).out.mono ?_; rintro e w' ⟨rfl, rfl⟩)
        go_ret
        exact ⟨ret_int HV.out.symm, below_tr hb0 hb1.out⟩
      | true =>
      by_cases b1 : blk < 0
      · skip
        have HV := HRET2.out 2 (by rw [HD2.out, if_pos (by simp [b1])]) (by decide)
        clear HD2 HX
        go_wp2_with (go_at_call 53; refine (CALL _ _).out.mono ?_; rintro e w' ⟨rfl, rfl⟩)
        go_ret
        exact ⟨ret_int HV.out.symm, below_tr hb0 hb1.out⟩
      by_cases b2 : 63 < blk
      · skip
        have HV := HRET2.out 2 (by rw [HD2.out, if_pos (by simp [b2])]) (by decide)
        clear HD2 HX
        go_wp2_with (go_at_call 53; refine (CALL _ _).out.mono ?_; rintro e w' ⟨rfl, rfl⟩)
        go_ret
        exact ⟨ret_int HV.out.symm, below_tr hb0 hb1.out⟩
      have HD3 : Hid (boxI ⟨kind, bx, by_, wd, blk, text⟩ = if decide (kind = 3) ≠ decide (0 < blk) then 9 else if 65536 < text.size then 4 else if (bytesL text).any badC = true then 11 else 0) := by
        unfold Hid; rw [HD2.out, if_neg (by simp [lx, ly, lwd]; omega)]
      clear HD2
      by_cases m1 : decide (kind = 3) ≠ decide (0 < blk)
      · have HV := HRET2.out 9 (by rw [HD3.out, if_pos m1]) (by decide)
        by_cases q1 : kind = 3
        · have q2 : ¬ 0 < blk := fun h => m1 (by rw [decide_eq_true q1, decide_eq_true h])
          have qd : decide (0 < blk) = false := decide_eq_false q2
          have qe : blk ≤ 0 := by omega
          subst q1
          clear HD3 m1 HX
          go_wp2_with (go_at_call 53; refine (CALL _ _).out.mono ?_; rintro e w' ⟨rfl, rfl⟩)
          go_ret
          exact ⟨ret_int HV.out.symm, below_tr hb0 hb1.out⟩
        · have q2 : 0 < blk := Classical.byContradiction fun h => m1 (by rw [decide_eq_false q1, decide_eq_false h])
          have q3 : (kind == 3) = false := beq_eq_false_iff_ne.2 q1
          clear HD3 m1 HX
          go_wp2_with (go_at_call 53; refine (CALL _ _).out.mono ?_; rintro e w' ⟨rfl, rfl⟩)
          go_ret
          exact ⟨ret_int HV.out.symm, below_tr hb0 hb1.out⟩
      have HD4 : Hid (boxI ⟨kind, bx, by_, wd, blk, text⟩ = if 65536 < text.size then 4 else if (bytesL text).any badC = true then 11 else 0) := by unfold Hid; rw [HD3.out, if_neg m1]
      clear HD3
      have m2 : (kind == 3) = decide (0 < blk) := by
        have h : decide (kind = 3) = decide (0 < blk) := Classical.byContradiction m1
        rw [← h]; rfl
      clear m1
      cases hkb : decide (0 < blk)
      all_goals rw [hkb] at m2
      · have q1 : ¬ 0 < blk := of_decide_eq_false hkb
        clear hkb
        by_cases s1 : 65536 < text.size
        · have s1i : (65536 : Int) < (text.size : Int) := by omega
          have HV := HRET2.out 4 (by rw [HD4.out, if_pos s1]) (by decide)
          clear HD4 HX
          go_wp2_with (go_at_call 53; refine (CALL _ _).out.mono ?_; rintro e w' ⟨rfl, rfl⟩)
          go_ret
          exact ⟨ret_int HV.out.symm, below_tr hb0 hb1.out⟩
        have s1i : ¬ (65536 : Int) < (text.size : Int) := by omega
        have HV : Hid (boxI ⟨kind, bx, by_, wd, blk, text⟩ = if (bytesL text).any badC = true then 11 else 0) := by unfold Hid; rw [HD4.out, if_neg s1]
        clear HD4
        have hR := hid (row_nw wr #[.int .i64 kind, .int .i64 bx, .int .i64 by_, .int .i64 wd, .int .i64 blk, .string text] 42 rfl)
        go_wp2_with (go_at_call 53; refine (CALL _ _).out.mono ?_; rintro e w' ⟨rfl, rfl⟩)
        generalize wr.alloc (.cells #[.int .i64 kind, .int .i64 bx, .int .i64 by_, .int .i64 wd, .int .i64 blk, .string text] 42) = w2 at *
        generalize wr.heap.size = Q at *
        have t5 := hR.out.cell 5 rfl
        go_loop [5] (fun i => ∃ j : Nat, j ≤ text.size ∧ i = .int .i64 j ∧ Hid (∀ y ∈ (bytesL text).take j, badC y = false)) (fun i => text.size - (intOf i).toNat)
        case atStart => exact ⟨0, Nat.zero_le _, rfl, by simp [Hid]⟩
        case round =>
          obtain ⟨j, hj, rfl, HJ⟩ := hrel
          by_cases hjt : j < text.size
          · have hji : (j : Int) < (text.size : Int) := by omega
            have HAT := hid (bytesL_at hjt)
            by_cases c1 : ((text[j].toNat : Nat) : Int) < 32
            · skip
              have HBAD : Hid ((bytesL text).any badC = true) := List.any_eq_true.2 ⟨_, List.mem_of_getElem? HAT.out, by unfold badC; simp [c1]⟩
              rw [HBAD.out] at HV
              have HV2 := HRET2.out 11 HV.out (by decide)
              clear HV HBAD HAT HX HRET2
              go_wp2
              go_ret
              exact ⟨ret_int HV2.out.symm, below_tr hb0 hb1.out⟩
            by_cases c2 : (126 : Int) < ((text[j].toNat : Nat) : Int)
            · skip
              have HBAD : Hid ((bytesL text).any badC = true) := List.any_eq_true.2 ⟨_, List.mem_of_getElem? HAT.out, by unfold badC; simp [c2]⟩
              rw [HBAD.out] at HV
              have HV2 := HRET2.out 11 HV.out (by decide)
              clear HV HBAD HAT HX HRET2
              go_wp2
              go_ret
              exact ⟨ret_int HV2.out.symm, below_tr hb0 hb1.out⟩
            have HJ2 := hid (take_none HJ.out HAT.out (by unfold badC; simp [c1, c2]))
            have c1d : decide (((text[j].toNat : Nat) : Int) < 32) = false := decide_eq_false c1
            have c2d : decide ((126 : Int) < ((text[j].toNat : Nat) : Int)) = false := decide_eq_false c2
            clear HJ HAT HV HX HRET2
            go_wp2
            go_round
            case rel => exact ⟨j + 1, by omega, by go_num, HJ2.out⟩
            case measure => simp [intOf]; omega
          · have hji : ¬ (j : Int) < (text.size : Int) := by omega
            have HN2 : Hid (∀ y ∈ l.take (k + 1), boxI y = 0) := by
              have h := HJ.out
              rw [List.take_of_length_le (by rw [bytesL_len]; omega)] at h
              have h2 : (bytesL text).any badC = false := List.any_eq_false.2 (fun y hy => by simpa using h y hy)
              rw [h2] at HV
              intro y hy
              rw [List.take_add_one, HX.out, List.mem_append] at hy
              rcases hy with hy | hy
              · exact HN.out y hy
              · have : y = ⟨kind, bx, by_, wd, blk, text⟩ := by simpa using hy
                rw [this]; exact HV.out
            clear HV HJ HX HN HRET2
            go_wp2
            go_roundw
            case rel => exact ⟨k + 1, by omega, by go_num, HN2.out, hb1.out⟩
            case measure => simp [intOf]; omega
      · have q1 : 0 < blk := of_decide_eq_true hkb
        clear hkb
        by_cases s1 : 65536 < text.size
        · have s1i : (65536 : Int) < (text.size : Int) := by omega
          have HV := HRET2.out 4 (by rw [HD4.out, if_pos s1]) (by decide)
          clear HD4 HX
          go_wp2_with (go_at_call 53; refine (CALL _ _).out.mono ?_; rintro e w' ⟨rfl, rfl⟩)
          go_ret
          exact ⟨ret_int HV.out.symm, below_tr hb0 hb1.out⟩
        have s1i : ¬ (65536 : Int) < (text.size : Int) := by omega
        have HV : Hid (boxI ⟨kind, bx, by_, wd, blk, text⟩ = if (bytesL text).any badC = true then 11 else 0) := by unfold Hid; rw [HD4.out, if_neg s1]
        clear HD4
        have hR := hid (row_nw wr #[.int .i64 kind, .int .i64 bx, .int .i64 by_, .int .i64 wd, .int .i64 blk, .string text] 42 rfl)
        go_wp2_with (go_at_call 53; refine (CALL _ _).out.mono ?_; rintro e w' ⟨rfl, rfl⟩)
        generalize wr.alloc (.cells #[.int .i64 kind, .int .i64 bx, .int .i64 by_, .int .i64 wd, .int .i64 blk, .string text] 42) = w2 at *
        generalize wr.heap.size = Q at *
        have t5 := hR.out.cell 5 rfl
        go_loop [5] (fun i => ∃ j : Nat, j ≤ text.size ∧ i = .int .i64 j ∧ Hid (∀ y ∈ (bytesL text).take j, badC y = false)) (fun i => text.size - (intOf i).toNat)
        case atStart => exact ⟨0, Nat.zero_le _, rfl, by simp [Hid]⟩
        case round =>
          obtain ⟨j, hj, rfl, HJ⟩ := hrel
          by_cases hjt : j < text.size
          · have hji : (j : Int) < (text.size : Int) := by omega
            have HAT := hid (bytesL_at hjt)
            by_cases c1 : ((text[j].toNat : Nat) : Int) < 32
            · skip
              have HBAD : Hid ((bytesL text).any badC = true) := List.any_eq_true.2 ⟨_, List.mem_of_getElem? HAT.out, by unfold badC; simp [c1]⟩
              rw [HBAD.out] at HV
              have HV2 := HRET2.out 11 HV.out (by decide)
              clear HV HBAD HAT HX HRET2
              go_wp2
              go_ret
              exact ⟨ret_int HV2.out.symm, below_tr hb0 hb1.out⟩
            by_cases c2 : (126 : Int) < ((text[j].toNat : Nat) : Int)
            · skip
              have HBAD : Hid ((bytesL text).any badC = true) := List.any_eq_true.2 ⟨_, List.mem_of_getElem? HAT.out, by unfold badC; simp [c2]⟩
              rw [HBAD.out] at HV
              have HV2 := HRET2.out 11 HV.out (by decide)
              clear HV HBAD HAT HX HRET2
              go_wp2
              go_ret
              exact ⟨ret_int HV2.out.symm, below_tr hb0 hb1.out⟩
            have HJ2 := hid (take_none HJ.out HAT.out (by unfold badC; simp [c1, c2]))
            have c1d : decide (((text[j].toNat : Nat) : Int) < 32) = false := decide_eq_false c1
            have c2d : decide ((126 : Int) < ((text[j].toNat : Nat) : Int)) = false := decide_eq_false c2
            clear HJ HAT HV HX HRET2
            go_wp2
            go_round
            case rel => exact ⟨j + 1, by omega, by go_num, HJ2.out⟩
            case measure => simp [intOf]; omega
          · have hji : ¬ (j : Int) < (text.size : Int) := by omega
            have HN2 : Hid (∀ y ∈ l.take (k + 1), boxI y = 0) := by
              have h := HJ.out
              rw [List.take_of_length_le (by rw [bytesL_len]; omega)] at h
              have h2 : (bytesL text).any badC = false := List.any_eq_false.2 (fun y hy => by simpa using h y hy)
              rw [h2] at HV
              intro y hy
              rw [List.take_add_one, HX.out, List.mem_append] at hy
              rcases hy with hy | hy
              · exact HN.out y hy
              · have : y = ⟨kind, bx, by_, wd, blk, text⟩ := by simpa using hy
                rw [this]; exact HV.out
            clear HV HJ HX HN HRET2
            go_wp2
            go_roundw
            case rel => exact ⟨k + 1, by omega, by go_num, HN2.out, hb1.out⟩
            case measure => simp [intOf]; omega
    · have hki : ¬ (k : Int) < (l.length : Int) := by omega
      have HV2 : Hid (pgI ⟨num, l⟩ = 0) := by
        have h := HN.out
        rw [List.take_of_length_le (by omega)] at h
        unfold Hid; rw [HV0.out]; exact firstE_none l h
      go_wp2
      go_ret
      exact ⟨ret_int HV2.out.symm, below_tr hb0 HB.out⟩
end Go.Proofs.YtkjapeafhcdnkaaDoor
