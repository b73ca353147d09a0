/-
  pagebreak.Check.
-/
import Derived.Test.YtlneimjenjpbnaaDoorFnI
import Derived.Deep.CutRange
import Derived.Deep.CutBlock
namespace Go.Proofs.YtlneimjenjpbnaaDoor
open Go.RowKit

def ppC (p : PP) (vl vn vp : Value) : Array Value := #[vl, vn, vp, .int .i64 p.h, .int .i64 p.gap]
/-- The values read as the lists of the page problem. -/
structure RdP5 (W : World) (vl vn vp : Value) (p : PP) : Prop where
  l : RdI W vl p.lines
  n : RdM W vn p.notes
  s : RdI W vp p.pens
theorem RdP5.below {W W' : World} {vl vn vp : Value} {p : PP} (h : RdP5 W vl vn vp p) (hb : Below W.heap.size W W') : RdP5 W' vl vn vp p := ⟨h.l.below hb, h.n.below hb, h.s.below hb⟩
theorem chk1_51 (n : Int) (w : World) : Calls Tryd.prog 24 #[.int .i64 n] w fun e w' => e = .returned (.bool (!lgB n)) ∧ Below w.heap.size w w' := by
  have HL := fun w' => hid (length_any n w')
  generalize lgB n = b at *
  go_enter Tryd.func24, Tryd.ntmps24
  go_wp2_with fail
  (with_reducible refine (HL _).out.mono ?_)
  rintro e w1 ⟨rfl, rfl⟩
  go_wp2
  go_ret
  exact ⟨rfl, Below.refl _ _⟩
theorem chk3_51 (n : Int) (w : World) : Calls Tryd.prog 28 #[.int .i64 n] w fun e w' => e = .returned (.bool (!pnB n)) ∧ Below w.heap.size w w' := by
  by_cases h1 : n < 0
  · have HV : Hid (pnB n = false) := by show _ = _; unfold pnB; rw [decide_eq_false (by omega), Bool.false_and]
    go_enter Tryd.func28, Tryd.ntmps28
    go_wp2
    go_ret
    exact ⟨by rw [HV.out]; rfl, Below.refl _ _⟩
  · by_cases h2 : 10000 < n
    · have HV : Hid (pnB n = false) := by show _ = _; unfold pnB; rw [decide_eq_false (show ¬ n ≤ 10000 by omega), Bool.and_false]
      go_enter Tryd.func28, Tryd.ntmps28
      go_wp2
      go_ret
      exact ⟨by rw [HV.out]; rfl, Below.refl _ _⟩
    · have HV : Hid (pnB n = true) := pnB_iff.2 ⟨by omega, by omega⟩
      go_enter Tryd.func28, Tryd.ntmps28
      go_wp2
      go_ret
      exact ⟨by rw [HV.out]; rfl, Below.refl _ _⟩
theorem chk2_51 (u : Value) (x : List Int) (B : Nat) (w : World) (hr : RdI w u x) (hc : w.cell? ⟨B, 0, none⟩ = some (.func (.func 24) #[] #[])) : Calls Tryd.prog 27 #[u, .pointer (some ⟨B, 0, none⟩)] w fun e w' => e = .returned (.bool (x.any fun n => !lgB n)) ∧ Below w.heap.size w w' := by
  have HC := hid (containsFuncI0_any 24 (enters_of Tryd.func24 (by kernel_rfl) rfl) (fun n => !lgB n) u x w hr (fun n w' _ => chk1_51 n w'))
  generalize (x.any fun n => !lgB n) = b at *
  clear hr
  go_enter Tryd.func27, Tryd.ntmps27
  go_wp2_with fail
  (with_reducible refine HC.out.mono ?_)
  rintro e w1 ⟨rfl, hB⟩
  go_wp2
  go_ret
  exact ⟨rfl, hB⟩

theorem st_func (W : World) (K : Nat) (t : TypeId) : (store ⟨W.heap.size, 0, none⟩ (.func (.func K) #[] #[])).run Tryd.prog (W.alloc (.cells #[Value.nilFunc] t)) = .ok () (W.alloc (.cells #[.func (.func K) #[] #[]] t)) := by
  have hr := row_nw W #[Value.nilFunc] t rfl
  have hc := hr.cell 0 (x := Value.nilFunc) rfl
  have hf := hr.frozen 0
  rw [run_store _ _ _ _ _ rfl, hc]
  simp only [hf]
  have e : (W.alloc (.cells #[Value.nilFunc] t)).setCell ⟨W.heap.size, 0, none⟩ (.func (.func K) #[] #[]) = W.alloc (.cells #[.func (.func K) #[] #[]] t) := by
    simp only [World.setCell, World.alloc]
    congr 1
    refine Array.ext (by simp) fun i h1 h2 => ?_
    rw [Array.getElem_modify, Array.getElem_push, Array.getElem_push]
    by_cases hi : i < W.heap.size
    · rw [dif_pos hi, dif_pos hi, if_neg (by omega)]
    · have : i = W.heap.size := by simp at h2; omega
      rw [dif_neg hi, dif_neg hi, if_pos this.symm]; rfl
  rw [e]; rfl

set_option maxRecDepth 100000 in
set_option maxHeartbeats 4000000 in
theorem ppchk_any (p : PP) (vl vn vp : Value) (w : World) (hr : RdP5 w vl vn vp p) :
    Calls Tryd.prog 10 #[.agg (ppC p vl vn vp)] w fun e w' => e = .returned (.int .i64 (ppI p)) ∧ Below w.heap.size w w' := by
  have HB0 := hid (below_al w (.cells (ppC p vl vn vp) 38))
  have HR0 := hid (row_nw w (ppC p vl vn vp) 38 rfl)
  have HD := hid (hr.below HB0.out)
  have HI : Hid (ppI p = if 4096 < p.lines.length then 4 else if p.notes.length ≠ p.lines.length ∨ p.pens.length ≠ p.lines.length then 9
    else if (p.notes.any fun l => decide (l.length ≠ p.nb)) = true then 9 else if 16 < p.nb then 4
    else if (p.lines.any fun n => !lgB n) = true ∨ (p.notes.any fun l => l.any fun n => !lgB n) = true ∨ (p.pens.any fun n => !pnB n) = true ∨ p.h < 1 ∨ lgB p.h = false ∨ lgB p.gap = false then 2 else 0) := rfl
  have HNB : Hid (p.nb = (p.notes.headD []).length) := rfl
  obtain ⟨a1, c1, rfl, _, _, _⟩ := hr.l.open
  obtain ⟨a2, c2, rfl, hl2, hm2, _⟩ := hr.n.open
  obtain ⟨a3, c3, rfl, _, _, _⟩ := hr.s.open
  clear hr
  unfold ppC at *
  generalize ppI p = ri at *
  obtain ⟨lines, notes, pens, hh, gap⟩ := p
  simp only at *
  have c0 := HR0.out.cell 0 (x := .slice a1 lines.length c1) rfl
  have c1' := HR0.out.cell 1 (x := .slice a2 notes.length c2) rfl
  have c2' := HR0.out.cell 2 (x := .slice a3 pens.length c3) rfl
  have c3' := HR0.out.cell 3 (x := .int .i64 hh) rfl
  have c4 := HR0.out.cell 4 (x := .int .i64 gap) rfl
  go_enter Tryd.func10, Tryd.ntmps10
  go_upto_region 1 with fail
  generalize w.alloc (.cells #[.slice a1 lines.length c1, .slice a2 notes.length c2, .slice a3 pens.length c3, .int .i64 hh, .int .i64 gap] 38) = W0 at *
  generalize w.heap.size = B0 at HR0 c0 c1' c2' c3' c4 ⊢
  by_cases k1 : 4096 < lines.length
  · have k1i : (4096 : Int) < (lines.length : Int) := by omega
    have HV : Hid (ri = 4) := by show _ = _; rw [HI.out, if_pos k1]
    clear HI
    go_wp2
    go_ret
    exact ⟨by rw [HV.out]; rfl, HB0.out⟩
  have k1i : ¬ (4096 : Int) < (lines.length : Int) := by omega
  by_cases k2 : notes.length = lines.length
  case neg =>
    have q1 : ((notes.length : Int) != (lines.length : Int)) = true := bne_iff_ne.2 (by omega)
    have q2 : ((notes.length : Int) == (lines.length : Int)) = false := beq_eq_false_iff_ne.2 (by omega)
    have HV : Hid (ri = 9) := by show _ = _; rw [HI.out, if_neg k1, if_pos (.inl k2)]
    clear HI k2
    go_wp2
    go_ret
    exact ⟨by rw [HV.out]; rfl, HB0.out⟩
  have q1 : ((notes.length : Int) != (lines.length : Int)) = false := by rw [k2]; simp
  have q2 : ((notes.length : Int) == (lines.length : Int)) = true := by rw [k2]; simp
  by_cases k3 : pens.length = lines.length
  case neg =>
    have q3 : ((pens.length : Int) != (lines.length : Int)) = true := bne_iff_ne.2 (by omega)
    have q4 : ((pens.length : Int) == (lines.length : Int)) = false := beq_eq_false_iff_ne.2 (by omega)
    have HV : Hid (ri = 9) := by show _ = _; rw [HI.out, if_neg k1, if_pos (.inr k3)]
    clear HI k3 k2
    go_wp2
    go_ret
    exact ⟨by rw [HV.out]; rfl, HB0.out⟩
  have q3 : ((pens.length : Int) != (lines.length : Int)) = false := by rw [k3]; simp
  have q4 : ((pens.length : Int) == (lines.length : Int)) = true := by rw [k3]; simp
  have HI2 : Hid (ri = if (notes.any fun l => decide (l.length ≠ PP.nb ⟨lines, notes, pens, hh, gap⟩)) = true then 9 else if 16 < PP.nb ⟨lines, notes, pens, hh, gap⟩ then 4
    else if (lines.any fun n => !lgB n) = true ∨ (notes.any fun l => l.any fun n => !lgB n) = true ∨ (pens.any fun n => !pnB n) = true ∨ hh < 1 ∨ lgB hh = false ∨ lgB gap = false then 2 else 0) := by
    show _ = _; rw [HI.out, if_neg k1, if_neg (by omega)]
  clear HI k1 k2 k3
  obtain ⟨nb, hnb⟩ : ∃ nb, nb = PP.nb ⟨lines, notes, pens, hh, gap⟩ := ⟨_, rfl⟩
  rw [← hnb] at HI2
  have HNB2 : Hid (nb = (notes.headD []).length) := hnb
  clear HNB hnb
  have HDn := hid HD.out.n
  obtain ⟨_, _, he2, _, _, hcell⟩ := HDn.out.open
  simp only [Value.slice.injEq] at he2
  obtain ⟨rfl, _, rfl⟩ := he2
  have HCL := hid hcell
  clear hcell
  go_upto_block 0 with fail
  go_cut [4] from 29 to 41 (fun _ wx => Hid (W0 = wx) ∧ Hid ((notes.any fun l => decide (l.length ≠ nb)) = false))
  case first =>
    have HI3 : Hid ((notes.any fun l => decide (l.length ≠ nb)) = true → ri = 9) := fun h => by rw [HI2.out, if_pos h]
    clear HI2 c0 c2' c3' c4
    go_wp2_with fail
    go_loop [29] (fun i => ∃ k : Nat, k ≤ notes.length ∧ i = .int .i64 k ∧ Hid (∀ l ∈ notes.take k, decide (l.length ≠ nb) = false)) (fun i => notes.length - (intOf i).toNat)
    case atStart => exact ⟨0, Nat.zero_le _, rfl, by simp [Hid]⟩
    case round =>
      obtain ⟨k, hk, rfl, HK⟩ := hrel
      by_cases hlt : k < notes.length
      · obtain ⟨row, b, off, u, hx, rfl, d0, hu⟩ := HCL.out k hlt
        obtain ⟨row0, b', off', u0, hx0, heb, e0, hu0⟩ := HCL.out 0 (by omega)
        cases heb
        rw [Nat.add_zero] at e0
        obtain ⟨au, cu, rfl, _, _, _⟩ := hu.open
        obtain ⟨au0, cu0, rfl, _, _, _⟩ := hu0.open
        have hki : (k : Int) < (notes.length : Int) := by omega
        have hk0 : (0 : Int) ≤ (k : Int) := by omega
        have h0i : (0 : Int) < (notes.length : Int) := by omega
        have h0n : 0 < notes.length := by omega
        have hr0 : nb = row0.length := by
          rw [HNB2.out, List.headD_eq_head?_getD, List.head?_eq_getElem?, hx0]; rfl
        by_cases hne : row.length = row0.length
        · have q5 : ((row.length : Int) != (row0.length : Int)) = false := by rw [hne]; simp
          have q6 : ((row.length : Int) == (row0.length : Int)) = true := by rw [hne]; simp
          have HK2 : Hid (∀ l ∈ notes.take (k + 1), decide (l.length ≠ nb) = false) := take_none HK.out hx (decide_eq_false (by rw [hr0]; exact not_not_intro hne))
          clear HK hx hx0 hne hr0 hu hu0
          go_wp2_with fail
          go_round
          case rel => exact ⟨k + 1, by omega, by go_num, HK2.out⟩
          case measure => simp [intOf]; omega
        · have q5 : ((row.length : Int) != (row0.length : Int)) = true := bne_iff_ne.2 (by omega)
          have q6 : ((row.length : Int) == (row0.length : Int)) = false := beq_eq_false_iff_ne.2 (by omega)
          have HV : Hid (ri = 9) := HI3.out (List.any_eq_true.2 ⟨row, List.mem_of_getElem? hx, decide_eq_true (by rw [hr0]; exact hne)⟩)
          clear HK hx hx0 hne hr0 hu hu0 HI3
          go_wp2
          go_ret
          exact ⟨by rw [HV.out]; rfl, HB0.out⟩
      · have hki : ¬ (k : Int) < (notes.length : Int) := by omega
        have HF : Hid ((notes.any fun l => decide (l.length ≠ nb)) = false) := by
          show _ = _
          rw [List.any_eq_false]
          intro l hl
          have h := HK.out
          rw [List.take_of_length_le (by omega)] at h
          rw [h l hl]; simp
        clear HK
        go_wp2_with fail
        go_meet
        exact ⟨rfl, HF.out⟩
  case rest =>
    obtain ⟨hwc, HF⟩ := hcut
    obtain rfl := hwc.out
    clear hwc
    have HI3 : Hid (ri = if 16 < nb then 4 else if (lines.any fun n => !lgB n) = true ∨ (notes.any fun l => l.any fun n => !lgB n) = true ∨ (pens.any fun n => !pnB n) = true ∨ hh < 1 ∨ lgB hh = false ∨ lgB gap = false then 2 else 0) := by
      show _ = _; rw [HI2.out, HF.out, if_neg (by simp)]
    clear HI2 HF
    go_upto_region 11 with fail
    go_cut [53] from 42 to 53 (fun bv wx => ∃ b : Bool, bv = .bool b ∧ Hid (W0 = wx) ∧ Hid (b = decide (16 < nb)))
    case first =>
      clear HI3
      by_cases hn0 : notes.length = 0
      · have h0i : ¬ (0 : Int) < (notes.length : Int) := by omega
        have HNN : Hid (false = decide (16 < nb)) := by
          show _ = _
          have : notes = [] := List.eq_nil_of_length_eq_zero hn0
          rw [HNB2.out, this]; rfl
        clear hn0
        go_wp2_with fail
        go_meet
        exact ⟨false, rfl, rfl, HNN.out⟩
      · obtain ⟨row0, b', off', u0, hx0, heb, e0, hu0⟩ := HCL.out 0 (Nat.pos_of_ne_zero hn0)
        subst heb
        rw [Nat.add_zero] at e0
        obtain ⟨au0, cu0, rfl, _, _, _⟩ := hu0.open
        have h0i : (0 : Int) < (notes.length : Int) := by omega
        have h0n : 0 < notes.length := by omega
        have hr0 : nb = row0.length := by
          rw [HNB2.out, List.headD_eq_head?_getD, List.head?_eq_getElem?, hx0]; rfl
        by_cases h16 : 16 < row0.length
        · have h16i : (16 : Int) < (row0.length : Int) := by omega
          have HNN : Hid (true = decide (16 < nb)) := by show _ = _; rw [hr0, decide_eq_true h16]
          clear hn0 hx0 hu0 hr0
          go_wp2_with fail
          go_meet
          exact ⟨true, rfl, rfl, HNN.out⟩
        · have h16i : ¬ (16 : Int) < (row0.length : Int) := by omega
          have HNN : Hid (false = decide (16 < nb)) := by show _ = _; rw [hr0, decide_eq_false h16]
          clear hn0 hx0 hu0 hr0
          go_wp2_with fail
          go_meet
          exact ⟨false, rfl, rfl, HNN.out⟩
    case rest =>
      obtain ⟨b16, rfl, hwc, HN16⟩ := hcut
      obtain rfl := hwc.out
      clear hwc
      cases b16 with
      | true =>
        have HV : Hid (ri = 4) := by show _ = _; rw [HI3.out, if_pos (of_decide_eq_true HN16.out.symm)]
        clear HI3 HN16
        go_wp2
        go_ret
        exact ⟨by rw [HV.out]; rfl, HB0.out⟩
      | false =>
      have HI4 : Hid (ri = if (lines.any fun n => !lgB n) = true ∨ (notes.any fun l => l.any fun n => !lgB n) = true ∨ (pens.any fun n => !pnB n) = true ∨ hh < 1 ∨ lgB hh = false ∨ lgB gap = false then 2 else 0) := by
        show _ = _; rw [HI3.out, if_neg (of_decide_eq_false HN16.out.symm)]
      clear HI3 HN16 HNB2 HCL
      have HR1 := hid (row_nw W0 #[.func (.func 24) #[] #[]] 57 rfl)
      have HB1 := hid (below_tr HB0.out (below_al W0 (.cells #[.func (.func 24) #[] #[]] 57)))
      have HD1 := hid (HD.out.below (below_al W0 (.cells #[.func (.func 24) #[] #[]] 57)))
      have HR0b := hid (HR0.out.al (.cells #[.func (.func 24) #[] #[]] 57))
      have hst := st_func W0 24 57
      go_upto_region 14 with fail
      clear hst c0 c1' c2' c3' c4 HD HR0 HB0 HDn
      generalize W0.alloc (.cells #[.func (.func 24) #[] #[]] 57) = W1 at *
      generalize W0.heap.size = B1 at *
      have c0 := HR0b.out.cell 0 (x := .slice a1 lines.length c1) rfl
      have c1' := HR0b.out.cell 1 (x := .slice a2 notes.length c2) rfl
      have c2' := HR0b.out.cell 2 (x := .slice a3 pens.length c3) rfl
      have c3' := HR0b.out.cell 3 (x := .int .i64 hh) rfl
      have c4 := HR0b.out.cell 4 (x := .int .i64 gap) rfl
      have cb := HR1.out.cell 0 (x := .func (.func 24) #[] #[]) rfl
      have HL1 := hid (containsFuncI0_any 24 (enters_of Tryd.func24 (by kernel_rfl) rfl) (fun n => !lgB n) _ lines W1 HD1.out.l (fun n w' _ => chk1_51 n w'))
      cases hb1 : (lines.any fun n => !lgB n) with
      | true =>
        rw [hb1] at HL1 HI4
        clear hb1
        go_wp2_with fail
        (with_reducible refine HL1.out.mono ?_)
        rintro e w2 ⟨rfl, hB2⟩
        have HB2 := hid (below_tr HB1.out hB2)
        have HV : Hid (ri = 2) := by show _ = _; rw [HI4.out, if_pos (by simp)]
        clear HI4 hB2
        go_wp2
        go_ret
        exact ⟨by rw [HV.out]; rfl, HB2.out⟩
      | false =>
      rw [hb1] at HL1 HI4
      clear hb1
      go_wp2_with fail
      (with_reducible refine HL1.out.mono ?_)
      rintro e w2 ⟨rfl, hB2⟩
      have HB2 := hid (below_tr HB1.out hB2)
      have HR2 := hid (HR1.out.below hB2)
      have HR02 := hid (HR0b.out.below hB2)
      have HD2 := hid (HD1.out.below hB2)
      clear hB2 HB1 HR1 HR0b HD1 HL1 c0 c1' c2' c3' c4 cb
      have c0 := HR02.out.cell 0 (x := .slice a1 lines.length c1) rfl
      have c1' := HR02.out.cell 1 (x := .slice a2 notes.length c2) rfl
      have c2' := HR02.out.cell 2 (x := .slice a3 pens.length c3) rfl
      have c3' := HR02.out.cell 3 (x := .int .i64 hh) rfl
      have c4 := HR02.out.cell 4 (x := .int .i64 gap) rfl
      have cb := HR2.out.cell 0 (x := .func (.func 24) #[] #[]) rfl
      have HL2 := hid (containsFuncM_any 27 (enters_of Tryd.func27 (by kernel_rfl) rfl) #[.pointer (some ⟨B1, 0, none⟩)] (fun l => l.any fun n => !lgB n) _ notes w2 HD2.out.n (fun u x w' _ hu hb => by
        have h := chk2_51 u x B1 w' hu (Below.keeps hb _ _ cb)
        simpa using h))
      cases hb2 : (notes.any fun l => l.any fun n => !lgB n) with
      | true =>
        rw [hb2] at HL2 HI4
        clear hb2
        go_wp2_with fail
        (with_reducible refine HL2.out.mono ?_)
        rintro e w3 ⟨rfl, hB3⟩
        have HB3 := hid (below_tr HB2.out hB3)
        have HV : Hid (ri = 2) := by show _ = _; rw [HI4.out, if_pos (by simp)]
        clear HI4 hB3
        go_wp2
        go_ret
        exact ⟨by rw [HV.out]; rfl, HB3.out⟩
      | false =>
      rw [hb2] at HL2 HI4
      clear hb2
      go_wp2_with fail
      (with_reducible refine HL2.out.mono ?_)
      rintro e w3 ⟨rfl, hB3⟩
      have HB3 := hid (below_tr HB2.out hB3)
      have HR3 := hid (HR2.out.below hB3)
      have HR03 := hid (HR02.out.below hB3)
      have HD3 := hid (HD2.out.below hB3)
      clear hB3 HB2 HR2 HR02 HD2 HL2 c0 c1' c2' c3' c4 cb
      have c0 := HR03.out.cell 0 (x := .slice a1 lines.length c1) rfl
      have c1' := HR03.out.cell 1 (x := .slice a2 notes.length c2) rfl
      have c2' := HR03.out.cell 2 (x := .slice a3 pens.length c3) rfl
      have c3' := HR03.out.cell 3 (x := .int .i64 hh) rfl
      have c4 := HR03.out.cell 4 (x := .int .i64 gap) rfl
      have cb := HR3.out.cell 0 (x := .func (.func 24) #[] #[]) rfl
      have HL3 := hid (containsFuncI0_any 28 (enters_of Tryd.func28 (by kernel_rfl) rfl) (fun n => !pnB n) _ pens w3 HD3.out.s (fun n w' _ => chk3_51 n w'))
      cases hb3 : (pens.any fun n => !pnB n) with
      | true =>
        rw [hb3] at HL3 HI4
        clear hb3
        go_wp2_with fail
        (with_reducible refine HL3.out.mono ?_)
        rintro e w4 ⟨rfl, hB4⟩
        have HB4 := hid (below_tr HB3.out hB4)
        have HV : Hid (ri = 2) := by show _ = _; rw [HI4.out, if_pos (by simp)]
        clear HI4 hB4
        go_wp2
        go_ret
        exact ⟨by rw [HV.out]; rfl, HB4.out⟩
      | false =>
      rw [hb3] at HL3 HI4
      clear hb3
      go_wp2_with fail
      (with_reducible refine HL3.out.mono ?_)
      rintro e w4 ⟨rfl, hB4⟩
      have HB4 := hid (below_tr HB3.out hB4)
      have HR4 := hid (HR3.out.below hB4)
      have HR04 := hid (HR03.out.below hB4)
      clear hB4 HB3 HR3 HR03 HD3 HL3 c0 c1' c2' c3' c4 cb
      have c0 := HR04.out.cell 0 (x := .slice a1 lines.length c1) rfl
      have c1' := HR04.out.cell 1 (x := .slice a2 notes.length c2) rfl
      have c2' := HR04.out.cell 2 (x := .slice a3 pens.length c3) rfl
      have c3' := HR04.out.cell 3 (x := .int .i64 hh) rfl
      have c4 := HR04.out.cell 4 (x := .int .i64 gap) rfl
      have cb := HR4.out.cell 0 (x := .func (.func 24) #[] #[]) rfl
      by_cases hh1 : hh < 1
      · have HV : Hid (ri = 2) := by show _ = _; rw [HI4.out, if_pos (.inr (.inr (.inr (.inl hh1))))]
        clear HI4
        go_wp2
        go_ret
        exact ⟨by rw [HV.out]; rfl, HB4.out⟩
      have HCh := fun w' => hid (chk1_51 hh w')
      have HCg := fun w' => hid (chk1_51 gap w')
      cases hb4 : lgB hh with
      | false =>
        rw [hb4] at HCh
        have HV : Hid (ri = 2) := by show _ = _; rw [HI4.out, if_pos (.inr (.inr (.inr (.inr (.inl hb4)))))]
        clear HI4 hb4 HCg
        go_wp2_with fail
        (with_reducible refine (HCh _).out.mono ?_)
        rintro e w5 ⟨rfl, hB5⟩
        have HB5 := hid (below_tr HB4.out hB5)
        clear hB5
        go_wp2
        go_ret
        exact ⟨by rw [HV.out]; rfl, HB5.out⟩
      | true =>
      rw [hb4] at HCh
      go_wp2_with fail
      (with_reducible refine (HCh _).out.mono ?_)
      rintro e w5 ⟨rfl, hB5⟩
      have HB5 := hid (below_tr HB4.out hB5)
      have HR5 := hid (HR4.out.below hB5)
      have HR05 := hid (HR04.out.below hB5)
      clear hB5 HB4 HR4 HR04 HCh c0 c1' c2' c3' c4 cb
      have c0 := HR05.out.cell 0 (x := .slice a1 lines.length c1) rfl
      have c1' := HR05.out.cell 1 (x := .slice a2 notes.length c2) rfl
      have c2' := HR05.out.cell 2 (x := .slice a3 pens.length c3) rfl
      have c3' := HR05.out.cell 3 (x := .int .i64 hh) rfl
      have c4 := HR05.out.cell 4 (x := .int .i64 gap) rfl
      have cb := HR5.out.cell 0 (x := .func (.func 24) #[] #[]) rfl
      cases hb5 : lgB gap with
      | false =>
        rw [hb5] at HCg
        have HV : Hid (ri = 2) := by show _ = _; rw [HI4.out, if_pos (.inr (.inr (.inr (.inr (.inr hb5)))))]
        clear HI4 hb5 hb4
        go_wp2_with fail
        (with_reducible refine (HCg _).out.mono ?_)
        rintro e w6 ⟨rfl, hB6⟩
        have HB6 := hid (below_tr HB5.out hB6)
        clear hB6
        go_wp2
        go_ret
        exact ⟨by rw [HV.out]; rfl, HB6.out⟩
      | true =>
      rw [hb5] at HCg
      have HV : Hid (ri = 0) := by
        show _ = _
        rw [HI4.out, if_neg]
        rintro (h | h | h | h | h | h)
        · cases h
        · cases h
        · cases h
        · omega
        · rw [hb4] at h; cases h
        · rw [hb5] at h; cases h
      clear HI4 hb4 hb5
      go_wp2_with fail
      (with_reducible refine (HCg _).out.mono ?_)
      rintro e w6 ⟨rfl, hB6⟩
      have HB6 := hid (below_tr HB5.out hB6)
      clear hB6
      go_wp2
      go_ret
      exact ⟨by rw [HV.out]; rfl, HB6.out⟩
end Go.Proofs.YtlneimjenjpbnaaDoor
