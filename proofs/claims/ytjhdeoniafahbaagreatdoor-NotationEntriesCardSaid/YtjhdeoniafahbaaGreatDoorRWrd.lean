/-
  The reference's word, checkWords, Check of a lemma.
-/
import Derived.Test.YtjhdeoniafahbaaGreatDoorRTok
namespace Go.Proofs.YtjhdeoniafahbaaGreatDoor
open Go.RowKit

set_option maxRecDepth 100000 in
set_option maxHeartbeats 1000000 in
theorem rwd_any (s : ByteArray) (w : World) (he : Env w) (hs : s.size ≤ 65536) :
    Calls Tryz.prog 110 #[.string s] w fun e w' => e = .returned (.bool (wordB s)) ∧ Below w.heap.size w w' := by
  have HI := hid (rword_any s w (by unfold maxLen; omega))
  rw [rword_is] at HI
  have HW : Hid (wordB s = (isWordB s || (if s.size = 1 then (decide (firstK s = 5) || decide (firstK s = 4)) else gapB s))) := rfl
  cases hi : isWordB s with
  | true =>
    rw [hi] at HI
    have HW2 : Hid (wordB s = true) := by unfold Hid; rw [HW.out, hi]; rfl
    clear hi
    go_enter Tryz.func110, Tryz.ntmps110
    go_wp2_with fail
    refine HI.out.mono ?_
    rintro e w1 ⟨rfl, hB⟩
    go_wp2
    go_ret
    exact ⟨ret_bool HW2.out.symm, hB⟩
  | false =>
    rw [hi] at HI
    have HT := fun n hn w' (h : Below w.heap.size w w') => hid (rtok_any s n w' (he.below h) hs hn)
    unfold tokV at HT
    by_cases h1 : 1 < s.size
    · have h1i : (1 : Int) < (s.size : Int) := by omega
      have HW2 : Hid (wordB s = decide (tokE s 2 = 0)) := by
        unfold Hid tokE; rw [HW.out, hi, if_neg (by omega), if_pos rfl]
        cases gapB s <;> rfl
      have HT2 := HT 2 (.inl rfl)
      generalize tokE s 2 = te at *
      clear hi HW HT h1
      go_enter Tryz.func110, Tryz.ntmps110
      go_wp2_with fail
      refine HI.out.mono ?_
      rintro e w1 ⟨rfl, hB⟩
      go_wp2_with fail
      refine (HT2 _ hB).out.mono ?_
      rintro e w2 ⟨rfl, hB2⟩
      go_wp2
      go_ret
      refine ⟨ret_bool ?_, below_tr hB hB2⟩
      rw [HW2.out]
      by_cases h : te = 0
      · rw [h]; rfl
      · rw [decide_eq_false h]; exact beq_eq_false_iff_ne.2 h
    · have h1i : ¬ (1 : Int) < (s.size : Int) := by omega
      have HW2 : Hid (wordB s = decide (tokE s 8 = 0)) := by
        unfold Hid tokE; rw [HW.out, hi]
        by_cases h0 : s.size = 1
        · rw [if_pos h0, if_neg (show ¬ (8 : Int) = 2 by omega)]
          by_cases h5 : firstK s = 5
          · rw [h5]; simp [h0]
          · by_cases h4 : firstK s = 4
            · rw [h4]; simp [h0]
            · simp [h5, h4]
        · rw [if_neg h0, if_neg (show ¬ (8 : Int) = 2 by omega), if_neg (fun h => h0 h.1)]
          have e : s = ⟨#[]⟩ := by
            cases s with | mk d => exact congrArg ByteArray.mk (Array.eq_empty_of_size_eq_zero (by have h : ByteArray.size ⟨d⟩ = 0 := by omega
                                                                                                   exact h))
          rw [e]; decide +kernel
      have HT2 := HT 8 (.inr rfl)
      generalize tokE s 8 = te at *
      clear hi HW HT h1
      go_enter Tryz.func110, Tryz.ntmps110
      go_wp2_with fail
      refine HI.out.mono ?_
      rintro e w1 ⟨rfl, hB⟩
      go_wp2_with fail
      refine (HT2 _ hB).out.mono ?_
      rintro e w2 ⟨rfl, hB2⟩
      go_wp2
      go_ret
      refine ⟨ret_bool ?_, below_tr hB hB2⟩
      rw [HW2.out]
      by_cases h : te = 0
      · rw [h]; rfl
      · rw [decide_eq_false h]; exact beq_eq_false_iff_ne.2 h

set_option maxRecDepth 100000 in
set_option maxHeartbeats 1000000 in
theorem rcheckW_any (v : Value) (ws : List ByteArray) (w : World) (he : Env w) (hr : RdS w v ws) (hz : ∀ s ∈ ws, s.size ≤ 65536) :
    Calls Tryz.prog 81 #[v] w fun e w' => e = .returned (.int .i64 (lcheckI ws)) ∧ Below w.heap.size w w' := by
  have HW := fun s (h : s ∈ ws) w' (hb : Below w.heap.size w w') => hid (rwd_any s w' (he.below hb) (hz s h))
  have HI : Hid (lcheckI ws = if 4096 < ws.length then 4 else if (ws.any fun s => !wordB s) = true then 11 else 0) := rfl
  obtain ⟨ad, cap, rfl, hlc, hcm, hcell⟩ := hr.open
  have HC := hid hcell
  clear hcell hr he hz
  by_cases hbig : 4096 < ws.length
  · have hbi : (4096 : Int) < (ws.length : Int) := by omega
    have HI2 : Hid (lcheckI ws = 4) := by unfold Hid; rw [HI.out, if_pos hbig]
    go_enter Tryz.func81, Tryz.ntmps81
    go_wp2
    go_ret
    exact ⟨ret_int HI2.out.symm, Below.refl _ _⟩
  · have hbi : ¬ (4096 : Int) < (ws.length : Int) := by omega
    have HI2 : Hid (lcheckI ws = if (ws.any fun s => !wordB s) = true then 11 else 0) := by unfold Hid; rw [HI.out, if_neg hbig]
    clear HI
    go_enter Tryz.func81, Tryz.ntmps81
    go_wp2
    go_loopw [3] (fun i wr => ∃ k : Nat, k ≤ ws.length ∧ i = .int .i64 k ∧ Hid ((ws.take k).any (fun s => !wordB s) = false) ∧ Hid (Below w.heap.size w wr)) (fun i _ => ws.length - (intOf i).toNat)
    case atStart => exact ⟨0, Nat.zero_le _, rfl, rfl, Below.refl _ _⟩
    case round =>
      obtain ⟨k, hk, rfl, HN, HB⟩ := hrel
      by_cases hlt : k < ws.length
      · obtain ⟨x, b, o, hx, rfl, hc⟩ := HC.out k hlt
        have hki : (k : Int) < (ws.length : Int) := by omega
        have dc := Below.keeps HB.out _ _ hc
        have HWk := HW x (List.mem_of_getElem? hx) _ HB.out
        have HS := hid (any_snoc (fun s => !wordB s) ws k x hx)
        cases hw : wordB x with
        | true =>
          rw [hw] at HWk
          have HN2 : Hid ((ws.take (k + 1)).any (fun s => !wordB s) = false) := by unfold Hid; rw [HS.out, HN.out, hw]; rfl
          clear hc hx hw HS HN
          go_wp2_with fail
          refine HWk.out.mono ?_
          rintro e w1 ⟨rfl, hB1⟩
          have HB1 := hid (below_tr HB.out hB1)
          clear hB1 HB
          go_wp2_with fail
          go_roundw
          case rel => exact ⟨k + 1, by omega, by go_num, HN2.out, HB1.out⟩
          case measure => simp [intOf]; omega
        | false =>
          rw [hw] at HWk
          have HN2 : Hid (lcheckI ws = 11) := by
            unfold Hid; rw [HI2.out, if_pos]
            exact any_take_true (k := k + 1) (by rw [HS.out, hw]; simp)
          clear hc hx hw HS HN
          go_wp2_with fail
          refine HWk.out.mono ?_
          rintro e w1 ⟨rfl, hB1⟩
          go_wp2
          go_ret
          exact ⟨ret_int HN2.out.symm, below_tr HB.out hB1⟩
      · have hki : ¬ (k : Int) < (ws.length : Int) := by omega
        have HN2 : Hid (lcheckI ws = 0) := by
          have h := HN.out
          rw [List.take_of_length_le (by omega)] at h
          unfold Hid; rw [HI2.out, if_neg (by rw [h]; simp)]
        clear HN
        go_wp2
        go_ret
        exact ⟨ret_int HN2.out.symm, HB.out⟩

set_option maxRecDepth 100000 in
set_option maxHeartbeats 1000000 in
theorem rlck_any (f l : ByteArray) (n : Int) (w : World) (he : Env w) (hf : f.size ≤ 65536) (hl : l.size ≤ 65536) :
    Calls Tryz.prog 78 #[.agg #[.string f, .string l, .int .i64 n]] w fun e w' => e = .returned (.int .i64 (lemCk f l n)) ∧ Below w.heap.size w w' := by
  have hb0 := below_al w (.cells #[.string f, .string l, .int .i64 n] 28)
  have hr0 := row_nw w #[.string f, .string l, .int .i64 n] 28 rfl
  have HI : Hid (lemCk f l n = if (!wordB f || (decide (l.size ≠ 0) && !wordB l)) = true then 11 else if n < 0 ∨ 65536 < n then 2 else 0) := rfl
  have HWf := hid (rwd_any f (w.alloc (.cells #[.string f, .string l, .int .i64 n] 28)) (he.below hb0) hf)
  have HWl := fun w' (h : Below w.heap.size w w') => hid (rwd_any l w' (he.below h) hl)
  have hE := ba_isE l
  cases hwf : wordB f with
  | false =>
    rw [hwf] at HWf
    have HI2 : Hid (lemCk f l n = 11) := by unfold Hid; rw [HI.out, hwf]; rfl
    clear hwf HI
    go_enter Tryz.func78, Tryz.ntmps78
    go_wp2_with fail
    refine HWf.out.mono ?_
    rintro e w1 ⟨rfl, hB1⟩
    go_wp2
    go_ret
    exact ⟨ret_int HI2.out.symm, below_tr hb0 hB1⟩
  | true =>
    rw [hwf] at HWf HI
    clear hwf
    by_cases hl0 : l.size = 0
    · rw [decide_eq_true hl0] at hE
      have HI2 : Hid (lemCk f l n = if n < 0 ∨ 65536 < n then 2 else 0) := by unfold Hid; rw [HI.out, if_neg (by simp [hl0])]
      clear HI hl0
      go_enter Tryz.func78, Tryz.ntmps78
      go_wp2_with fail
      refine HWf.out.mono ?_
      rintro e w1 ⟨rfl, hB1⟩
      have hr1 := hr0.below hB1
      have c1 := hr1.cell 1 rfl
      have c2 := hr1.cell 2 rfl
      by_cases hn0 : n < 0
      · have HI3 : Hid (lemCk f l n = 2) := by unfold Hid; rw [HI2.out, if_pos (.inl hn0)]
        go_wp2
        go_ret
        exact ⟨ret_int HI3.out.symm, below_tr hb0 hB1⟩
      · by_cases hn1 : 65536 < n
        · have HI3 : Hid (lemCk f l n = 2) := by unfold Hid; rw [HI2.out, if_pos (.inr hn1)]
          go_wp2
          go_ret
          exact ⟨ret_int HI3.out.symm, below_tr hb0 hB1⟩
        · have HI3 : Hid (lemCk f l n = 0) := by unfold Hid; rw [HI2.out, if_neg (by omega)]
          go_wp2
          go_ret
          exact ⟨ret_int HI3.out.symm, below_tr hb0 hB1⟩
    · rw [decide_eq_false hl0] at hE
      cases hwl : wordB l with
      | false =>
        have HI2 : Hid (lemCk f l n = 11) := by unfold Hid; rw [HI.out, if_pos (by simp [hl0, hwl])]
        rw [hwl] at HWl
        clear HI hl0 hwl
        go_enter Tryz.func78, Tryz.ntmps78
        go_wp2_with fail
        refine HWf.out.mono ?_
        rintro e w1 ⟨rfl, hB1⟩
        have hr1 := hr0.below hB1
        have c1 := hr1.cell 1 rfl
        go_wp2_with fail
        refine (HWl _ (below_tr hb0 hB1)).out.mono ?_
        rintro e w2 ⟨rfl, hB2⟩
        go_wp2
        go_ret
        exact ⟨ret_int HI2.out.symm, below_tr (below_tr hb0 hB1) hB2⟩
      | true =>
        have HI2 : Hid (lemCk f l n = if n < 0 ∨ 65536 < n then 2 else 0) := by unfold Hid; rw [HI.out, if_neg (by simp [hwl])]
        rw [hwl] at HWl
        clear HI hl0 hwl
        go_enter Tryz.func78, Tryz.ntmps78
        go_wp2_with fail
        refine HWf.out.mono ?_
        rintro e w1 ⟨rfl, hB1⟩
        have hr1 := hr0.below hB1
        have c1 := hr1.cell 1 rfl
        go_wp2_with fail
        refine (HWl _ (below_tr hb0 hB1)).out.mono ?_
        rintro e w2 ⟨rfl, hB2⟩
        have hr2 := hr1.below hB2
        have c2 := hr2.cell 2 rfl
        by_cases hn0 : n < 0
        · have HI3 : Hid (lemCk f l n = 2) := by unfold Hid; rw [HI2.out, if_pos (.inl hn0)]
          go_wp2
          go_ret
          exact ⟨ret_int HI3.out.symm, below_tr (below_tr hb0 hB1) hB2⟩
        · by_cases hn1 : 65536 < n
          · have HI3 : Hid (lemCk f l n = 2) := by unfold Hid; rw [HI2.out, if_pos (.inr hn1)]
            go_wp2
            go_ret
            exact ⟨ret_int HI3.out.symm, below_tr (below_tr hb0 hB1) hB2⟩
          · have HI3 : Hid (lemCk f l n = 0) := by unfold Hid; rw [HI2.out, if_neg (by omega)]
            go_wp2
            go_ret
            exact ⟨ret_int HI3.out.symm, below_tr (below_tr hb0 hB1) hB2⟩

end Go.Proofs.YtjhdeoniafahbaaGreatDoor
