/-
  The items of a paragraph: paragraph.length, checkItem, Check, check.
-/
import Derived.Test.YtalpgilncohkbaaJ01
import Derived.Test.YtalpgilncohkbaaPrs8
namespace Go.Proofs.Ytalpgilncohkbaa
open Go.RowKit

structure It where
  k : Int
  w : Int
  s : Int
  h : Int
  p : Int
  t : ByteArray
def encIt (x : It) : List Value := [.int .i64 x.k, .int .i64 x.w, .int .i64 x.s, .int .i64 x.h, .int .i64 x.p, .string x.t]
abbrev RdIt (W : World) (v : Value) (l : List It) : Prop := RdC 6 encIt W v l
def lgP (n : Int) : Prop := 0 ≤ n ∧ n ≤ 1073741824
/-- The shape of an item that words give. -/
def ItS (x : It) : Prop :=
  (x.k = 1 ∧ x.s = 0 ∧ x.h = 0 ∧ x.p = 0 ∧ 0 ≤ x.w ∧ x.w ≤ 1099511627776) ∨ (x.k = 2 ∧ x.p = 0 ∧ x.t = ⟨#[]⟩ ∧ lgP x.w ∧ lgP x.s ∧ lgP x.h) ∨ (x.k = 3 ∧ x.s = 0 ∧ x.h = 0 ∧ lgP x.w ∧ (x.p = -10000 ∨ (0 ≤ x.p ∧ x.p ≤ 10000)))
def ckIt (x : It) : Int := if 1073741824 < x.w then 2 else 0
theorem ItS.bd {x : It} (h : ItS x) : 0 ≤ x.w ∧ x.w ≤ 1099511627776 ∧ lgP x.s ∧ lgP x.h := by
  unfold lgP
  rcases h with ⟨_, h2, h3, _, h5, h6⟩ | ⟨_, _, _, ⟨h4, h5⟩, ⟨h6, h7⟩, ⟨h8, h9⟩⟩ | ⟨_, h2, h3, ⟨h4, h5⟩, _⟩ <;> omega
def wid (x : It) : Int := x.w + x.s + x.h
def widN (l : List It) : Nat → Int
  | 0 => 0
  | i + 1 => widN l i + (match l[i]? with | some x => wid x | none => 0)
def ckGo : List It → Int
  | [] => 0
  | x :: r => if ckIt x ≠ 0 then ckIt x else ckGo r
/-- Why items are none. -/
def ckIts (l : List It) : Int := if 4096 < l.length then 4 else if ckGo l ≠ 0 then ckGo l else if 1073741824 < widN l l.length then 4 else 0
theorem ckGo_ok : ∀ {l : List It}, ckGo l = 0 → ∀ x ∈ l, ckIt x = 0
  | [], _, _, hg => by cases hg
  | x :: r, h, g, hg => by
    rw [ckGo] at h
    split at h
    · rename_i h1; exact absurd h h1
    · rename_i h1
      rcases List.mem_cons.1 hg with rfl | hg
      · exact Classical.not_not.1 h1
      · exact ckGo_ok h g hg
theorem length_any (n : Int) (w : World) : Calls Try.prog 26 #[.int .i64 n] w fun e w' => e = .returned (.bool (decide (0 ≤ n) && decide (n ≤ 1073741824))) ∧ w = w' := by
  by_cases h1 : 0 ≤ n
  · have e : (decide (0 ≤ n) && decide (n ≤ 1073741824)) = decide (n ≤ 1073741824) := by rw [decide_eq_true h1, Bool.true_and]
    have HV := hid e
    clear e
    go_enter Try.func26, Try.ntmps26
    go_wp2
    go_ret
    exact ⟨ret_bool HV.out.symm, rfl⟩
  · have e : (decide (0 ≤ n) && decide (n ≤ 1073741824)) = false := by rw [decide_eq_false h1, Bool.false_and]
    have HV := hid e
    clear e
    go_enter Try.func26, Try.ntmps26
    go_wp2
    go_ret
    exact ⟨ret_bool HV.out.symm, rfl⟩
theorem length_ok {n : Int} (h : lgP n) (w : World) : Calls Try.prog 26 #[.int .i64 n] w fun e w' => e = .returned (.bool true) ∧ w = w' := by
  have H := length_any n w
  rw [decide_eq_true h.1, decide_eq_true h.2] at H
  exact H
theorem length_no {n : Int} (h : 1073741824 < n) (w : World) : Calls Try.prog 26 #[.int .i64 n] w fun e w' => e = .returned (.bool false) ∧ w = w' := by
  have H := length_any n w
  rw [decide_eq_false (p := n ≤ 1073741824) (by omega), Bool.and_false] at H
  exact H

set_option maxRecDepth 100000 in
set_option maxHeartbeats 4000000 in
theorem ckit_any (x : It) (w : World) (hx : ItS x) :
    Calls Try.prog 45 #[.agg (encIt x).toArray] w fun e w' => e = .returned (.int .i64 (ckIt x)) ∧ Below w.heap.size w w' := by
  obtain ⟨k, wi, s, h, p, t⟩ := x
  have HV : Hid (ckIt ⟨k, wi, s, h, p, t⟩ = if 1073741824 < wi then 2 else 0) := rfl
  show Calls Try.prog 45 #[.agg #[.int .i64 k, .int .i64 wi, .int .i64 s, .int .i64 h, .int .i64 p, .string t]] w _
  have HB := hid (below_al w (.cells #[.int .i64 k, .int .i64 wi, .int .i64 s, .int .i64 h, .int .i64 p, .string t] 43))
  have HR := hid (row_nw w #[.int .i64 k, .int .i64 wi, .int .i64 s, .int .i64 h, .int .i64 p, .string t] 43 rfl)
  unfold ItS at hx
  simp only at hx
  rcases hx with ⟨rfl, rfl, rfl, rfl, h5, h6⟩ | ⟨rfl, rfl, rfl, h4, h5, h6⟩ | ⟨rfl, rfl, rfl, h4, h5⟩
  · by_cases hw : 1073741824 < wi
    · have HL := fun w' => hid (length_no hw w')
      rw [if_pos hw] at HV
      have c0 := HR.out.cell 0 (x := .int .i64 1) rfl
      have c1 := HR.out.cell 1 (x := .int .i64 wi) rfl
      have c2 := HR.out.cell 2 (x := .int .i64 0) rfl
      have c3 := HR.out.cell 3 (x := .int .i64 0) rfl
      have c4 := HR.out.cell 4 (x := .int .i64 0) rfl
      have c5 := HR.out.cell 5 (x := .string t) rfl
      go_enter Try.func45, Try.ntmps45
      go_wp2_with fail
      refine (HL _).out.mono ?_
      rintro e w1 ⟨rfl, rfl⟩
      go_wp2_with fail
      go_ret
      exact ⟨by rw [HV.out]; rfl, HB.out⟩
    · have HL := fun w' => hid (length_ok (n := wi) ⟨h5, by omega⟩ w')
      have HL0 := fun w' => hid (length_ok (n := 0) ⟨by omega, by omega⟩ w')
      rw [if_neg hw] at HV
      have c0 := HR.out.cell 0 (x := .int .i64 1) rfl
      have c1 := HR.out.cell 1 (x := .int .i64 wi) rfl
      have c2 := HR.out.cell 2 (x := .int .i64 0) rfl
      have c3 := HR.out.cell 3 (x := .int .i64 0) rfl
      have c4 := HR.out.cell 4 (x := .int .i64 0) rfl
      have c5 := HR.out.cell 5 (x := .string t) rfl
      go_enter Try.func45, Try.ntmps45
      go_wp2_with fail
      refine (HL _).out.mono ?_
      rintro e w1 ⟨rfl, rfl⟩
      go_wp2_with fail
      refine (HL0 _).out.mono ?_
      rintro e w1 ⟨rfl, rfl⟩
      go_wp2_with fail
      refine (HL0 _).out.mono ?_
      rintro e w1 ⟨rfl, rfl⟩
      go_wp2_with fail
      go_ret
      exact ⟨by rw [HV.out]; rfl, HB.out⟩
  · have HL := fun w' => hid (length_ok h4 w')
    have HL1 := fun w' => hid (length_ok h5 w')
    have HL2 := fun w' => hid (length_ok h6 w')
    rw [if_neg (by have := h4.2; omega)] at HV
    clear h4 h5 h6
    have c0 := HR.out.cell 0 (x := .int .i64 2) rfl
    have c1 := HR.out.cell 1 (x := .int .i64 wi) rfl
    have c2 := HR.out.cell 2 (x := .int .i64 s) rfl
    have c3 := HR.out.cell 3 (x := .int .i64 h) rfl
    have c4 := HR.out.cell 4 (x := .int .i64 0) rfl
    have c5 := HR.out.cell 5 (x := .string ⟨#[]⟩) rfl
    go_enter Try.func45, Try.ntmps45
    go_wp2_with fail
    refine (HL _).out.mono ?_
    rintro e w1 ⟨rfl, rfl⟩
    go_wp2_with fail
    refine (HL1 _).out.mono ?_
    rintro e w1 ⟨rfl, rfl⟩
    go_wp2_with fail
    refine (HL2 _).out.mono ?_
    rintro e w1 ⟨rfl, rfl⟩
    go_wp2_with fail
    go_ret
    exact ⟨by rw [HV.out]; rfl, HB.out⟩
  · have HL := fun w' => hid (length_ok h4 w')
    have HL0 := fun w' => hid (length_ok (n := 0) ⟨by omega, by omega⟩ w')
    rw [if_neg (by have := h4.2; omega)] at HV
    clear h4
    rcases h5 with rfl | ⟨h6, h7⟩
    · skip
      have c0 := HR.out.cell 0 (x := .int .i64 3) rfl
      have c1 := HR.out.cell 1 (x := .int .i64 wi) rfl
      have c2 := HR.out.cell 2 (x := .int .i64 0) rfl
      have c3 := HR.out.cell 3 (x := .int .i64 0) rfl
      have c4 := HR.out.cell 4 (x := .int .i64 (-10000)) rfl
      have c5 := HR.out.cell 5 (x := .string t) rfl
      go_enter Try.func45, Try.ntmps45
      go_wp2_with fail
      refine (HL _).out.mono ?_
      rintro e w1 ⟨rfl, rfl⟩
      go_wp2_with fail
      refine (HL0 _).out.mono ?_
      rintro e w1 ⟨rfl, rfl⟩
      go_wp2_with fail
      refine (HL0 _).out.mono ?_
      rintro e w1 ⟨rfl, rfl⟩
      go_wp2_with fail
      go_ret
      exact ⟨by rw [HV.out]; rfl, HB.out⟩
    · have e1 : (p != -10000) = true := bne_iff_ne.2 (by omega)
      have e2 : ¬ p < 0 := by omega
      have e3 : ¬ 10000 < p := by omega
      have c0 := HR.out.cell 0 (x := .int .i64 3) rfl
      have c1 := HR.out.cell 1 (x := .int .i64 wi) rfl
      have c2 := HR.out.cell 2 (x := .int .i64 0) rfl
      have c3 := HR.out.cell 3 (x := .int .i64 0) rfl
      have c4 := HR.out.cell 4 (x := .int .i64 p) rfl
      have c5 := HR.out.cell 5 (x := .string t) rfl
      go_enter Try.func45, Try.ntmps45
      go_wp2_with fail
      refine (HL _).out.mono ?_
      rintro e w1 ⟨rfl, rfl⟩
      go_wp2_with fail
      refine (HL0 _).out.mono ?_
      rintro e w1 ⟨rfl, rfl⟩
      go_wp2_with fail
      refine (HL0 _).out.mono ?_
      rintro e w1 ⟨rfl, rfl⟩
      go_wp2_with fail
      go_ret
      exact ⟨by rw [HV.out]; rfl, HB.out⟩

set_option maxRecDepth 100000 in
set_option maxHeartbeats 4000000 in
theorem ckits_any (v : Value) (l : List It) (w : World) (hv : RdIt w v l) (hS : ∀ x ∈ l, ItS x) :
    Calls Try.prog 31 #[v] w fun e w' => e = .returned (.int .i64 (ckIts l)) ∧ Below w.heap.size w w' := by
  obtain ⟨a, cap, rfl, hlc, hcm, hcell⟩ := hv.open
  have HCell := hid hcell; clear hcell hv
  have HS := hid hS; clear hS
  have HV : Hid (ckIts l = if 4096 < l.length then 4 else if ckGo l ≠ 0 then ckGo l else if 1073741824 < widN l l.length then 4 else 0) := rfl
  by_cases h1 : 4096 < l.length
  · have g1 : (4096 : Int) < (l.length : Int) := by omega
    rw [if_pos h1] at HV
    go_enter Try.func31, Try.ntmps31
    go_wp2
    go_ret
    exact ⟨by rw [HV.out]; rfl, Below.refl _ _⟩
  rw [if_neg h1] at HV
  have g1 : ¬ (4096 : Int) < (l.length : Int) := by omega
  have hl : l.length ≤ 4096 := by omega
  clear h1
  go_enter Try.func31, Try.ntmps31
  go_wp2
  go_loopw [3, 12] (fun sm i wr => ∃ k : Nat, k ≤ l.length ∧ i = .int .i64 k ∧ sm = .int .i64 (widN l k) ∧ Hid (ckGo (l.drop k) = ckGo l) ∧ Hid (0 ≤ widN l k ∧ widN l k ≤ (k : Int) * 3298534883328) ∧ Hid (Below w.heap.size w wr)) (fun _ i _ => l.length - (intOf i).toNat)
  case atStart => exact ⟨0, Nat.zero_le _, rfl, rfl, rfl, ⟨Int.le_refl _, by simp [widN]⟩, Below.refl _ _⟩
  case round =>
    obtain ⟨k, hk, rfl, rfl, HK, HW, HB⟩ := hrel
    by_cases hlt : k < l.length
    · have hti : (k : Int) < (l.length : Int) := by omega
      have hk0 : (0 : Int) ≤ (k : Int) := by omega
      obtain ⟨x, hx⟩ : ∃ x, l[k]? = some x := ⟨_, List.getElem?_eq_getElem hlt⟩
      obtain ⟨b, off, rfl, hc⟩ := HCell.out k x hx
      have hs := HS.out x (List.mem_of_getElem? hx)
      have c0 := Below.keeps HB.out _ _ (hc 0 _ rfl)
      have c1 := Below.keeps HB.out _ _ (hc 1 _ rfl)
      have c2 := Below.keeps HB.out _ _ (hc 2 _ rfl)
      have c3 := Below.keeps HB.out _ _ (hc 3 _ rfl)
      have c4 := Below.keeps HB.out _ _ (hc 4 _ rfl)
      have c5 := Below.keeps HB.out _ _ (hc 5 _ rfl)
      rw [Nat.add_zero] at c0
      have hdr : l.drop k = x :: l.drop (k + 1) := by
        obtain ⟨h2, h3⟩ := List.getElem?_eq_some_iff.1 hx
        rw [List.drop_eq_getElem_cons h2, h3]
      rw [hdr, ckGo] at HK
      have HWN : Hid (widN l (k + 1) = widN l k + wid x) := by show _ = _; rw [widN, hx]
      obtain ⟨hb1, hb2, ⟨hb3, hb4⟩, ⟨hb5, hb6⟩⟩ := hs.bd
      have HC := fun w' => hid (ckit_any x w' hs)
      obtain ⟨xk, xw, xs, xh, xp, xt⟩ := x
      simp only at hb1 hb2 hb3 hb4 hb5 hb6
      have HWD : Hid (wid ⟨xk, xw, xs, xh, xp, xt⟩ = xw + xs + xh) := rfl
      have HC2 : ∀ w' : World, Hid (Calls Try.prog 45 #[.agg #[.int .i64 xk, .int .i64 xw, .int .i64 xs, .int .i64 xh, .int .i64 xp, .string xt]] w' fun e w'' => e = .returned (.int .i64 (ckIt ⟨xk, xw, xs, xh, xp, xt⟩)) ∧ Below w'.heap.size w' w'') := HC
      have HBA := hid (below_tr HB.out (below_al wr (.cells #[.int .i64 xk, .int .i64 xw, .int .i64 xs, .int .i64 xh, .int .i64 xp, .string xt] 43)))
      have HRW := hid (row_nw wr #[.int .i64 xk, .int .i64 xw, .int .i64 xs, .int .i64 xh, .int .i64 xp, .string xt] 43 rfl)
      have hw1 := HW.out.1
      have hw2 := HW.out.2
      have v1 : IntKind.i64.wrap (xw + xs) = xw + xs := IntWalk.i64_in _ (by omega)
      have v2 : IntKind.i64.wrap (xw + xs + xh) = xw + xs + xh := IntWalk.i64_in _ (by omega)
      have v3 : IntKind.i64.wrap (widN l k + (xw + xs + xh)) = widN l k + (xw + xs + xh) := IntWalk.i64_in _ (by omega)
      have HWB : Hid (0 ≤ widN l (k + 1) ∧ widN l (k + 1) ≤ ((k + 1 : Nat) : Int) * 3298534883328) := by
        show _ ∧ _
        rw [HWN.out, HWD.out]
        omega
      rw [HWD.out] at HWN
      clear hx hc hs hdr HC HWD
      generalize hE : ckIt ⟨xk, xw, xs, xh, xp, xt⟩ = E at *
      clear hE
      by_cases h0 : E = 0
      · subst h0
        rw [if_neg (by simp)] at HK
        go_wp2_with (first | (refine wpList_load_row rfl 43 _ rfl wr.heap.size rfl 43 _ (0, 0) _ HRW.out Try.underlying43 rfl (by kernel_rfl) ?_) | (go_at_call 45; refine (HC2 _).out.mono ?_; rintro e w2 ⟨rfl, hb2x⟩; have d1 := (HRW.out.below hb2x).cell 1 (x := .int .i64 xw) rfl; have d2 := (HRW.out.below hb2x).cell 2 (x := .int .i64 xs) rfl; have d3 := (HRW.out.below hb2x).cell 3 (x := .int .i64 xh) rfl))
        go_roundw
        case rel => exact ⟨k + 1, by omega, by go_num, by rw [HWN.out], HK.out, HWB.out, below_tr HBA.out hb2x⟩
        case measure => simp [intOf]; omega
      · rw [if_pos h0] at HK
        have HE : Hid (ckIts l = E) := by show _ = _; rw [HV.out, if_pos (by rw [← HK.out]; exact h0), ← HK.out]
        have g2 : (E != 0) = true := bne_iff_ne.2 h0
        clear h0 HV HK
        go_wp2_with (first | (refine wpList_load_row rfl 43 _ rfl wr.heap.size rfl 43 _ (0, 0) _ HRW.out Try.underlying43 rfl (by kernel_rfl) ?_) | (go_at_call 45; refine (HC2 _).out.mono ?_; rintro e w2 ⟨rfl, hb2x⟩))
        go_ret
        exact ⟨by rw [HE.out]; rfl, below_tr HBA.out hb2x⟩
    · obtain rfl : k = l.length := by omega
      have hti : ¬ (l.length : Int) < (l.length : Int) := by omega
      have HZ : Hid (ckGo l = 0) := by
        show _ = _
        have h := HK.out
        rw [List.drop_length] at h
        exact h.symm
      rw [if_neg (by simp [HZ.out])] at HV
      clear HK HZ
      by_cases hs : 1073741824 < widN l l.length
      · rw [if_pos hs] at HV
        go_wp2
        go_ret
        exact ⟨by rw [HV.out]; rfl, HB.out⟩
      · rw [if_neg hs] at HV
        go_wp2
        go_ret
        exact ⟨by rw [HV.out]; rfl, HB.out⟩
/-- What is known of items that are valid. -/
theorem ckIts_ok {l : List It} (h : ckIts l = 0) : l.length ≤ 4096 ∧ (∀ x ∈ l, x.w ≤ 1073741824) ∧ widN l l.length ≤ 1073741824 := by
  unfold ckIts at h
  split at h
  · cases h
  rename_i h1
  split at h
  · rename_i h2; exact absurd h h2
  rename_i h2
  split at h
  · cases h
  rename_i h3
  refine ⟨by omega, fun x hx => ?_, by omega⟩
  have h4 := ckGo_ok (Classical.not_not.1 h2) x hx
  unfold ckIt at h4
  split at h4
  · cases h4
  · omega
set_option maxHeartbeats 1000000 in
theorem pcheck_any (v : Value) (l : List It) (wd : Int) (w : World) (hv : RdIt w v l) (hS : ∀ x ∈ l, ItS x) (hok : ckIts l = 0) (hw : lgP wd) :
    Calls Try.prog 18 #[v, .int .i64 wd] w fun e w' => e = .returned (.int .i64 0) ∧ Below w.heap.size w w' := by
  have HC := hid (ckits_any v l w hv hS)
  have HL := fun w' => hid (length_ok hw w')
  obtain ⟨a, cap, rfl, _, _, _⟩ := hv.open
  rw [hok] at HC
  clear hv hS hok
  go_enter Try.func18, Try.ntmps18
  go_wp2_with fail
  refine HC.out.mono ?_
  rintro e w1 ⟨rfl, hb1⟩
  go_wp2_with fail
  refine (HL _).out.mono ?_
  rintro e w2 ⟨rfl, rfl⟩
  go_wp2
  go_ret
  exact ⟨rfl, hb1⟩
end Go.Proofs.Ytalpgilncohkbaa
