/-
  pagedesc.Overlap.
-/
import Derived.Test.YtkjapeafhcdnkaaDoorTwo
import Derived.Test.YtkjapeafhcdnkaaDoorBnd53
import Derived.Deep.QuietTactic
import Derived.BigQuiet
import Derived.IntWalk
namespace Go.Proofs.YtkjapeafhcdnkaaDoor
open Go.RowKit

set_option maxRecDepth 100000 in
set_option maxHeartbeats 4000000 in
/-- The pairs that meet, of a page that is fine, at a height that is a length. -/
theorem overlap_yes (p : Pg) (v : Value) (h : Int) (w : World) (hr : RdB w v p.bx) (hz : SzB p.bx) (hg : pgI p = 0) (hh : lenB h = true) :
    Calls Tryd.prog 29 #[.agg #[.int .i64 p.num, v], .int .i64 h] w fun e w' => ∃ u, e = .returned (.tuple #[u, .int .i64 0]) ∧ RdP w' u (ovAll h p.bx p.bx.length) ∧ Below w.heap.size w w' := by
  have HG := hid (pg_good hg).2.2.2
  have hl4 := (pg_good hg).2.2.1
  have hh1 : 0 ≤ h ∧ h ≤ 1073741824 := by unfold lenB at hh; simpa using hh
  have HLN := fun w' => hid (length_any h w')
  rw [hh] at HLN
  obtain ⟨num, l⟩ := p
  simp only at hr hz HG hl4 ⊢
  have hb0 := below_al w (.cells #[.int .i64 num, v] 34)
  have hro := row_nw w #[.int .i64 num, v] 34 rfl
  have HCK := hid (pcheck_any ⟨num, l⟩ v _ (hr.below hb0) hz)
  rw [hg] at HCK
  obtain ⟨ad, cap, rfl, hlc, hcm, hcell⟩ := (hr.below hb0).open
  have HC := hid hcell
  have HRO := hid hro
  obtain ⟨hh2, hh3⟩ := hh1
  clear hcell hr hro hg hh
  go_enter Tryd.func29, Tryd.ntmps29
  go_wp2_with fail
  generalize w.alloc (.cells #[.int .i64 num, .slice ad l.length cap] 34) = w0 at *
  refine HCK.out.mono ?_
  rintro e w1 ⟨rfl, hB1⟩
  have HB1 := hid hB1
  have pg1 := (HRO.out.below hB1).cell 1 rfl
  clear HCK hB1
  go_wp2_with (go_at_call 62; refine (HLN _).out.mono ?_; rintro e w' ⟨rfl, rfl⟩)
  go_loopw [6, 24] (fun va i wr => ∃ (k : Nat), k ≤ l.length ∧ i = .int .i64 k ∧ Hid (PrI wr w0.heap.size va (ovAll h l k)) ∧ Hid (Below w0.heap.size w0 wr)) (fun _ i _ => l.length - (intOf i).toNat)
  case atStart => exact ⟨0, Nat.zero_le _, rfl, PrI.nil _ _, HB1.out⟩
  case round =>
    obtain ⟨k, hk, rfl, HP, HB⟩ := hrel
    by_cases hlt : k < l.length
    · obtain ⟨x, b, o, hx, rfl, d0, d1, d2, d3, d4, d5⟩ := HC.out k hlt
      have hki : (k : Int) < (l.length : Int) := by omega
      have e0 := Below.keeps HB.out _ _ d0
      have e1 := Below.keeps HB.out _ _ d1
      have e2 := Below.keeps HB.out _ _ d2
      have e3 := Below.keeps HB.out _ _ d3
      have e4 := Below.keeps HB.out _ _ d4
      have e5 := Below.keeps HB.out _ _ d5
      obtain ⟨_, _, i1, i2, i5, i6, i3, i4, _⟩ := bx_good (HG.out x (List.mem_of_getElem? hx))
      have hwx : IntKind.i64.wrap (x.x + x.wd) = x.x + x.wd := IntWalk.i64_in _ (by omega)
      have HX := hid hx
      have hb2 := hid (below_tr HB.out (below_al wr (.cells x.cells 42)))
      have q0 := hid (row_nw wr x.cells 42 rfl)
      have HP2 := hid (HP.out.below (below_al wr (.cells x.cells 42)))
      have pg2 := (HRO.out.below hb2.out).cell 1 rfl
      unfold Bx.cells at q0 hb2 HP2 pg2
      clear d0 d1 d2 d3 d4 d5 hx HP HB pg1
      have HRO2 := HRO
      by_cases hcap : cap = k + 1
      · have hlk : l.length = k + 1 := by omega
        have hn0 : l.length - (k + 1) = 0 := by omega
        have HPE : Hid (∀ W v, PrI W w0.heap.size v (ovAll h l k) → PrI W w0.heap.size v (ovAll h l (k + 1))) := by
          intro W v hp
          rw [← ovTo_end, hn0, ovTo_zero]; exact hp
        clear hlk hwx
        go_wp2_with fail
        generalize wr.alloc (.cells #[.int .i64 x.kind, .int .i64 x.x, .int .i64 x.y, .int .i64 x.wd, .int .i64 x.blk, .string x.text] 42) = w2 at *
        generalize wr.heap.size = P at *
        have hni : (((l.length - (k + 1) : Nat)) : Int) = 0 := by omega
        go_loopw [6, 35] (fun va i wi => i = .int .i64 0 ∧ Hid (PrI wi w0.heap.size va (ovAll h l k)) ∧ Hid (Below w0.heap.size w0 wi)) (fun _ i _ => 0)
        case atStart => exact ⟨rfl, HP2.out, hb2.out⟩
        case round =>
          obtain ⟨rfl, HP3, HB3⟩ := hrel
          go_wp2_with fail
          go_roundw
          case rel => exact ⟨k + 1, by omega, by go_num, HPE.out _ _ HP3.out, HB3.out⟩
          case measure => simp [intOf]; omega
      · go_wp2_with fail
        generalize wr.alloc (.cells #[.int .i64 x.kind, .int .i64 x.x, .int .i64 x.y, .int .i64 x.wd, .int .i64 x.blk, .string x.text] 42) = w2 at *
        generalize wr.heap.size = P at *
        have r1 := q0
        clear e0 e1 e2 e3 e4 e5 pg2
        go_loopw [6, 35] (fun va i wi => ∃ (j : Nat), j ≤ l.length - (k + 1) ∧ i = .int .i64 j ∧ Hid (PrI wi w0.heap.size va (ovTo h l k j)) ∧ Hid (Row wi P #[.int .i64 x.kind, .int .i64 x.x, .int .i64 x.y, .int .i64 x.wd, .int .i64 x.blk, .string x.text] 42) ∧ Hid (Below w0.heap.size w0 wi)) (fun _ i _ => (l.length - (k + 1)) - (intOf i).toNat)
        case atStart => exact ⟨0, Nat.zero_le _, rfl, by rw [ovTo_zero]; exact HP2.out, q0.out, hb2.out⟩
        case round =>
          obtain ⟨j, hj, rfl, HP3, HQ3, HB3⟩ := hrel
          by_cases hjt : j < l.length - (k + 1)
          · obtain ⟨y, b', o', hy, he, d0, d1, d2, d3, d4, d5⟩ := HC.out (k + 1 + j) (by omega)
            cases he
            have ho : o + (k + 1 + j) * 6 = o + (k + 1) * 6 + j * 6 := by omega
            rw [ho] at d0 d1 d2 d3 d4 d5
            have hji : (j : Int) < ((l.length - (k + 1) : Nat) : Int) := by omega
            have e0 := Below.keeps HB3.out _ _ d0
            have e1 := Below.keeps HB3.out _ _ d1
            have e2 := Below.keeps HB3.out _ _ d2
            have e3 := Below.keeps HB3.out _ _ d3
            have e4 := Below.keeps HB3.out _ _ d4
            have e5 := Below.keeps HB3.out _ _ d5
            obtain ⟨_, _, y1, y2, y5, y6, y3, y4, _⟩ := bx_good (HG.out y (List.mem_of_getElem? hy))
            have hwy : IntKind.i64.wrap (y.x + y.wd) = y.x + y.wd := IntWalk.i64_in _ (by omega)
            have hwh : IntKind.i64.wrap (min x.y y.y + h) = min x.y y.y + h := IntWalk.i64_in _ (by omega)
            have HYES := fun hm => hid (ovTo_yes (h := h) HX.out hy hm)
            have HNO := fun hm => hid (ovTo_no (h := h) HX.out hy hm)
            have HLEN := hid (ovTo_len h l k j hl4 hk (by omega))
            have HM : Hid (meetB h x y = (decide (max x.x y.x < min (x.x + x.wd) (y.x + y.wd)) && decide (max x.y y.y < min x.y y.y + h))) := rfl
            have hb4 := hid (below_tr HB3.out (below_al wr (.cells y.cells 42)))
            have q4 := hid (row_nw wr y.cells 42 rfl)
            have HP4 := hid (HP3.out.below (below_al wr (.cells y.cells 42)))
            have HQ4 := hid (HQ3.out.al (.cells y.cells 42))
            unfold Bx.cells at q4 hb4 HP4 HQ4
            clear d0 d1 d2 d3 d4 d5 hy HP3 HQ3 HB3 ho
            go_wp2_with fail
            generalize wr.alloc (.cells #[.int .i64 y.kind, .int .i64 y.x, .int .i64 y.y, .int .i64 y.wd, .int .i64 y.blk, .string y.text] 42) = w4 at *
            generalize wr.heap.size = Q at *
            have x1 := HQ4.out.cell 1 rfl
            have x3 := HQ4.out.cell 3 rfl
            have z1 := q4.out.cell 1 rfl
            have z3 := q4.out.cell 3 rfl
            clear e0 e1 e2 e3 e4 e5
            go_quiet (fail)
            have hb5 := hid (below_drewN hb4.out nq)
            have q5 := hid (q4.out.below (below_drewN (Below.refl _ _) nq))
            have HP5 := hid (HP4.out.below (below_drewN (Below.refl _ _) nq))
            have HQ5 := hid (HQ4.out.below (below_drewN (Below.refl _ _) nq))
            clear x1 x3 z1 z3 hb4 q4 HP4 HQ4
            generalize w4.drewN nq = w5 at *
            have x2 := HQ5.out.cell 2 rfl
            have z2 := q5.out.cell 2 rfl
            go_wp2_with fail
            go_quiet (fail)
            have hb6 := hid (below_drewN hb5.out nq)
            have HP6 := hid (HP5.out.below (below_drewN (Below.refl _ _) nq))
            have HQ6 := hid (HQ5.out.below (below_drewN (Below.refl _ _) nq))
            clear x2 z2 hb5 q5 HP5 HQ5 q0 hb2 r1
            generalize w5.drewN nq = w6 at *
            by_cases g1 : max x.x y.x < min (x.x + x.wd) (y.x + y.wd)
            · by_cases g2 : max x.y y.y < min x.y y.y + h
              · have HY := HYES (by rw [HM.out, decide_eq_true g1, decide_eq_true g2]; rfl)
                clear HYES HNO HM
                obtain ⟨vs, hown, htw⟩ := HP6.out.ex
                have hown1 := own_belowT hown (below_al w6 (.cells #[.int .i64 (k : Int), .int .i64 ((k : Int) + 1 + (j : Int))] 3))
                have hbs : w0.heap.size ≤ w6.heap.size := hb6.out.size
                have HPU := fun v' w9 a b => hid (PrI.push (x := (k, k + 1 + j)) (y := (k : Int)) (z := (k : Int) + 1 + (j : Int)) (v' := v') (w1 := w9) rfl (by simp only; omega) hbs hown htw a b)
                have HO1 := hid hown1
                have hka : (k : Int) + 1 + (j : Int) ≤ 4096 := by omega
                have hlen := HLEN.out
                clear hown htw hown1
                go_wp2_with (at_builtin; refine wpList_ap rfl _ _ 50 rfl w0.heap.size 53 Tryd.underlying50 infoSlT rfl (by decide) (by decide) _ _ vs rfl HO1.out [.slice (some ⟨w6.heap.size, 0, none⟩) 2 2] rfl (by simp [Value.oneCell']) rfl (by simp) (by omega) (by simp; omega) ?_; intro v' w9 hown2 hb2 hg2)
                have HP9 := hid (HPU _ _ hown2 hg2).out
                rw [← HY.out] at HP9
                have HQ9 : Hid (Row w9 P #[.int .i64 x.kind, .int .i64 x.x, .int .i64 x.y, .int .i64 x.wd, .int .i64 x.blk, .string x.text] 42) := by
                  refine (hg2.block P (by have := HQ6.out.lt; simp; omega) (fun e => ?_)).trans (HQ6.out.al _)
                  obtain ⟨c1, f1, a1⟩ := Lib.ownsRow_kind HO1.out P e.symm
                  have h9 : (w6.alloc _).heap[P]? = _ := HQ6.out.al (.cells #[.int .i64 (k : Int), .int .i64 ((k : Int) + 1 + (j : Int))] 3)
                  rw [a1] at h9; cases h9
                have HB9 := hid (hb6.out.trans ((below_al w6 (.cells #[.int .i64 (k : Int), .int .i64 ((k : Int) + 1 + (j : Int))] 3)).mono hbs |>.trans hb2))
                clear HPU HO1 HY hown2 hg2 hb2 HP6 HQ6 hb6
                go_wp2_with fail
                go_roundw
                case rel => exact ⟨j + 1, by omega, by go_num, HP9.out, HQ9.out, HB9.out⟩
                case measure => simp [intOf]; omega
              · have HN := HNO (by rw [HM.out, decide_eq_false g2, Bool.and_false])
                clear HYES HNO HM
                rw [← HN.out] at HP6
                clear HN
                go_wp2_with fail
                go_roundw
                case rel => exact ⟨j + 1, by omega, by go_num, HP6.out, HQ6.out, hb6.out⟩
                case measure => simp [intOf]; omega
            · have HN := HNO (by rw [HM.out, decide_eq_false g1, Bool.false_and])
              clear HYES HNO HM
              rw [← HN.out] at HP6
              clear HN
              go_wp2_with fail
              go_roundw
              case rel => exact ⟨j + 1, by omega, by go_num, HP6.out, HQ6.out, hb6.out⟩
              case measure => simp [intOf]; omega
          · have hji : ¬ (j : Int) < ((l.length - (k + 1) : Nat) : Int) := by omega
            have hje : j = l.length - (k + 1) := by omega
            rw [hje, ovTo_end] at HP3
            clear hje
            go_wp2_with fail
            go_roundw
            case rel => exact ⟨k + 1, by omega, by go_num, HP3.out, HB3.out⟩
            case measure => simp [intOf]; omega
    · have hki : ¬ (k : Int) < (l.length : Int) := by omega
      have hkl : k = l.length := by omega
      have HRD := hid HP.out.rd
      rw [hkl] at HRD
      clear hkl
      go_wp2_with fail
      go_ret2
      exact ⟨_, rfl, HRD.out, below_tr hb0 HB.out⟩

set_option maxRecDepth 100000 in
set_option maxHeartbeats 1000000 in
theorem overlap_bad (p : Pg) (v : Value) (h : Int) (w : World) (hr : RdB w v p.bx) (hz : SzB p.bx) (hg : pgI p ≠ 0) :
    Calls Tryd.prog 29 #[.agg #[.int .i64 p.num, v], .int .i64 h] w fun e w' => e = .returned (.tuple #[.slice none 0 0, .int .i64 1]) ∧ Below w.heap.size w w' := by
  have hb0 := below_al w (.cells #[.int .i64 p.num, v] 34)
  have HCK := hid (pcheck_any p v _ (hr.below hb0) hz)
  obtain ⟨ad, cap, rfl, hlc, hcm, hcell⟩ := (hr.below hb0).open
  have hq : (pgI p != 0) = true := by simpa using hg
  clear hcell hr hg
  go_enter Tryd.func29, Tryd.ntmps29
  go_wp2_with fail
  generalize w.alloc (.cells #[.int .i64 p.num, .slice ad p.bx.length cap] 34) = w0 at *
  refine HCK.out.mono ?_
  rintro e w1 ⟨rfl, hB1⟩
  have HB1 := hid (below_tr hb0 hB1)
  go_wp2
  go_ret2
  exact ⟨rfl, HB1.out⟩

set_option maxRecDepth 100000 in
set_option maxHeartbeats 1000000 in
theorem overlap_far (p : Pg) (v : Value) (h : Int) (w : World) (hr : RdB w v p.bx) (hz : SzB p.bx) (hg : pgI p = 0) (hh : lenB h = false) :
    Calls Tryd.prog 29 #[.agg #[.int .i64 p.num, v], .int .i64 h] w fun e w' => e = .returned (.tuple #[.slice none 0 0, .int .i64 2]) ∧ Below w.heap.size w w' := by
  have hb0 := below_al w (.cells #[.int .i64 p.num, v] 34)
  have HCK := hid (pcheck_any p v _ (hr.below hb0) hz)
  have HLN := fun w' => hid (length_any h w')
  rw [hh] at HLN
  rw [hg] at HCK
  obtain ⟨ad, cap, rfl, hlc, hcm, hcell⟩ := (hr.below hb0).open
  clear hcell hr hg hh
  go_enter Tryd.func29, Tryd.ntmps29
  go_wp2_with fail
  generalize w.alloc (.cells #[.int .i64 p.num, .slice ad p.bx.length cap] 34) = w0 at *
  refine HCK.out.mono ?_
  rintro e w1 ⟨rfl, hB1⟩
  have HB1 := hid (below_tr hb0 hB1)
  go_wp2_with (go_at_call 62; refine (HLN _).out.mono ?_; rintro e w' ⟨rfl, rfl⟩)
  go_ret2
  exact ⟨rfl, HB1.out⟩
end Go.Proofs.YtkjapeafhcdnkaaDoor
