/-
  pagedesc.Move.
-/
import Derived.Test.YtkjapeafhcdnkaaDoorMov
namespace Go.Proofs.YtkjapeafhcdnkaaDoor
open Go.RowKit

set_option maxRecDepth 100000 in
set_option maxHeartbeats 4000000 in
/-- A page that is fine is moved: the boxes are moved, or one of them would leave the range. -/
theorem move_yes (p : Pg) (v : Value) (dx dy : Int) (w : World) (hr : RdB w v p.bx) (hz : SzB p.bx) (hg : pgI p = 0) (hf : mvFar dx dy = false) :
    Calls Tryd.prog 40 #[.agg #[.int .i64 p.num, v], .int .i64 dx, .int .i64 dy] w fun e w' => MvR p dx dy w e w' := by
  have HG := hid (pg_good hg).2.2.2
  have hl4 := (pg_good hg).2.2.1
  have hfar : (-1073741824 ≤ dx ∧ dx ≤ 1073741824) ∧ -1073741824 ≤ dy ∧ dy ≤ 1073741824 := by
    unfold mvFar at hf
    simp only [Bool.or_eq_false_iff, decide_eq_false_iff_not] at hf
    omega
  have hmx : ¬ 1073741824 < max dx dy := by omega
  have hmn : ¬ min dx dy < -1073741824 := by omega
  obtain ⟨⟨fx1, fx2⟩, fy1, fy2⟩ := hfar
  have HLN := fun n w' => hid (length_any n w')
  obtain ⟨num, l⟩ := p
  simp only at hr hz HG hl4 ⊢
  have hb0 := below_tr (below_al w (.cells #[.int .i64 num, v] 34)) (below_al _ (.cells #[.int .i64 0, .slice none 0 0] 34))
  have hro := (row_nw w #[.int .i64 num, v] 34 rfl).al (.cells #[.int .i64 0, .slice none 0 0] 34)
  have hrr := row_nw (w.alloc (.cells #[.int .i64 num, v] 34)) #[.int .i64 0, .slice none 0 0] 34 (n := w.heap.size + 1) (by simp)
  have HCK := hid (pcheck_any ⟨num, l⟩ v _ (hr.below hb0) hz)
  rw [hg] at HCK
  have HCL := fun w' (h : Below w.heap.size w w') => hid (cloneB_any v l w' (hr.below h) hl4)
  obtain ⟨ad, cap, rfl, hlc, hcm, _⟩ := (hr.below hb0).open
  have HRO := hid hro
  have HRR := hid hrr
  have HZ := hid hz
  clear hr hro hrr hg hf hz
  go_enter Tryd.func40, Tryd.ntmps40
  go_wp2_with fail
  generalize (w.alloc (.cells #[.int .i64 num, .slice ad l.length cap] 34)).alloc (.cells #[.int .i64 0, .slice none 0 0] 34) = w0 at *
  refine HCK.out.mono ?_
  rintro e w1 ⟨rfl, hB1⟩
  have hb1 := below_tr hb0 hB1
  have HRO1 := hid (HRO.out.below hB1)
  have HRR1 := hid (HRR.out.below hB1)
  have pg1 := HRO1.out.cell 1 rfl
  have HCLN := HCL w1 hb1
  clear HCK HRO HRR HCL hB1 hb0
  go_wp2_with fail
  refine HCLN.out.mono ?_
  rintro e w2 ⟨v2, rfl, hown, hB2⟩
  have hb2 := below_tr hb1 hB2
  have HRO2 := hid (HRO1.out.below hB2)
  have HRR2 := hid (HRR1.out.below hB2)
  have pf := HRO2.out.frozen 1
  have hplt : w.heap.size + 1 < w1.heap.size := HRR1.out.lt
  have HRO3 : Hid (Row (w2.setCell ⟨w.heap.size, 1, none⟩ v2) w.heap.size #[.int .i64 num, v2] 34) := HRO2.out.set 1 v2
  have HRR3 : Hid (Row (w2.setCell ⟨w.heap.size, 1, none⟩ v2) (w.heap.size + 1) #[.int .i64 0, .slice none 0 0] 34) := HRR2.out.other ⟨w.heap.size, 1, none⟩ v2 (by simp)
  have HB3 := hid (hb2.setCell (p := ⟨w.heap.size, 1, none⟩) (Nat.le_refl _) v2)
  have HOW3 : Hid ((w2.setCell ⟨w.heap.size, 1, none⟩ v2).ownsRow w1.heap.size 42 6 v2 l.length (boxCs l)) :=
    own_setO hown ⟨w.heap.size, 1, none⟩ v2 (own_far hown (by simp only; omega))
  obtain ⟨ad2, cap2, rfl, hlc2, hcm2, hex⟩ := own_form hown
  clear HCLN HRO1 HRR1 HRR2 hown hB2 hb2 hb1 pg1
  have pg2 := HRO2.out.cell 1 rfl
  have pg3 := HRO3.out.cell 1 rfl
  clear HRO2
  go_wp2_with fail
  generalize w2.setCell ⟨w.heap.size, 1, none⟩ (.slice ad2 l.length cap2) = w3 at *
  generalize w1.heap.size = B at *
  go_loopw [32] (fun i wr => ∃ k : Nat, k ≤ l.length ∧ i = .int .i64 k ∧ Hid (Row wr w.heap.size #[.int .i64 num, .slice ad2 l.length cap2] 34) ∧ Hid (Row wr (w.heap.size + 1) #[.int .i64 0, .slice none 0 0] 34) ∧ Hid (Below w.heap.size w wr) ∧
      Hid (wr.ownsRow B 42 6 (.slice ad2 l.length cap2) l.length (boxCs (mvTo dx dy l k))) ∧ Hid (∀ b ∈ l.take k, mvOk dx dy b = true)) (fun i _ => l.length - (intOf i).toNat)
  case atStart => exact ⟨0, Nat.zero_le _, rfl, HRO3.out, HRR3.out, HB3.out, HOW3.out, by simp [Hid]⟩
  case round =>
    obtain ⟨k, hk, rfl, HRO, HRR, HB, HOW, HOK⟩ := hrel
    clear HRO3 HRR3 HB3 HOW3 pg3
    have hw0 : w.heap.size + 1 < B := hplt
    by_cases hlt : k < l.length
    · have hki : (k : Int) < (l.length : Int) := by omega
      obtain ⟨g, rfl, hbg, _⟩ := hex (by omega)
      have hx : l[k]? = some l[k] := List.getElem?_eq_getElem hlt
      generalize l[k] = x at *
      have hat : ∀ j, j < 6 → wr.cell? ⟨g, k * 6 + j, none⟩ = x.cl[j]? := by
        intro j hj
        rw [World.ownsRow.cellAt HOW.out (k * 6 + j) (by omega)]
        exact boxCs_at _ k j x (mvTo_at hx) hj
      have e0 := hat 0 (by omega)
      have e1 := hat 1 (by omega)
      have e2 := hat 2 (by omega)
      have e3 := hat 3 (by omega)
      have e4 := hat 4 (by omega)
      have e5 := hat 5 (by omega)
      clear hat
      simp only [Bx.cl, Bx.cells, Nat.add_zero, List.getElem?_cons_zero, List.getElem?_cons_succ] at e0 e1 e2 e3 e4 e5
      obtain ⟨_, _, i1, i2, i5, i6, i3, i4, _⟩ := bx_good (HG.out x (List.mem_of_getElem? hx))
      have HX := hid hx
      have HRO6 := hid (HRO.out.al (.cells (mvB dx dy x).cells 42))
      have HRR6 := hid (HRR.out.al (.cells (mvB dx dy x).cells 42))
      have HB6 := hid (below_tr HB.out (below_al wr (.cells (mvB dx dy x).cells 42)))
      have HOW6 := hid (own_belowT HOW.out (below_al wr (.cells (mvB dx dy x).cells 42)))
      have q6 := hid (row_nw wr (mvB dx dy x).cells 42 rfl)
      have hgq : g < wr.heap.size := by
        have := (HOW.out.lt g rfl).2
        exact this
      have pg0 := HRO.out.cell 1 rfl
      unfold Bx.cells at HRO6 HRR6 HB6 HOW6 q6
      simp only [mvB] at HRO6 HRR6 HB6 HOW6 q6
      clear hx HRO HRR HB HOW
      go_wp2_with fail
      generalize wr.alloc (.cells #[.int .i64 x.kind, .int .i64 (x.x + dx), .int .i64 (x.y + dy), .int .i64 x.wd, .int .i64 x.blk, .string x.text] 42) = w6 at *
      generalize wr.heap.size = Q at *
      have zx := q6.out.cell 1 rfl
      have zy := q6.out.cell 2 rfl
      have hokd : Hid (mvOk dx dy x = (lenB (x.x + dx) && lenB (x.y + dy))) := rfl
      have HLX := HLN (x.x + dx)
      have HLY := HLN (x.y + dy)
      clear e0 e1 e2 e3 e4 e5 HLN pg0
      have hdone : Hid (mvOk dx dy x = false → l.all (mvOk dx dy) = false) := fun h => by
        cases h2 : l.all (mvOk dx dy)
        · rfl
        · rw [List.all_eq_true] at h2
          rw [h2 x (List.mem_of_getElem? HX.out)] at h; cases h
      cases c1 : lenB (x.x + dx) with
      | false =>
        have HV := hid (hdone.out (by rw [hokd.out, c1]; rfl))
        rw [c1] at HLX
        have HX1 := HLX w6
        have HX2 := HX1
        clear hdone hokd HLX HLY
        have rc0 := HRR6.out.cell 0 rfl
        have rc1 := HRR6.out.cell 1 rfl
        have rf0 := HRR6.out.frozen 0
        have HRR7 := HRR6.out.set 0 (.int .i64 0)
        have rf1 := HRR7.frozen 1
        have rc2 := HRR7.cell 1 rfl
        have HRR8 := HRR7.set 1 (.slice none 0 0)
        have r0 := HRR8.cell 0 rfl
        have r1 := HRR8.cell 1 rfl
        have HB8 := hid ((HB6.out.setCell (p := ⟨w.heap.size + 1, 0, none⟩) (by simp) (.int .i64 0)).setCell (p := ⟨w.heap.size + 1, 1, none⟩) (by simp) (.slice none 0 0))
        clear HRR7 HRR8
        go_wp2_with (go_at_call 62; first | (refine HX1.out.mono ?_; rintro e w' ⟨rfl, rfl⟩) | (refine HX2.out.mono ?_; rintro e w' ⟨rfl, rfl⟩))
        refine bodyPost_ret (v := .tuple #[.agg #[.int .i64 0, .slice none 0 0], .int .i64 2]) ((results_ct rfl _ _ _).trans ?_) rfl (MvR.no (p := ⟨num, l⟩) HV.out HB8.out)
        simp [go_sem, r0, r1]
      | true =>
        rw [c1] at HLX
        have HX1 := HLX w6
        cases c2 : lenB (x.y + dy) with
        | false =>
          have HV := hid (hdone.out (by rw [hokd.out, c1, c2]; rfl))
          rw [c2] at HLY
          have HX2 := HLY w6
          clear hdone hokd HLX HLY
          have rc0 := HRR6.out.cell 0 rfl
          have rc1 := HRR6.out.cell 1 rfl
          have rf0 := HRR6.out.frozen 0
          have HRR7 := HRR6.out.set 0 (.int .i64 0)
          have rf1 := HRR7.frozen 1
          have rc2 := HRR7.cell 1 rfl
          have HRR8 := HRR7.set 1 (.slice none 0 0)
          have r0 := HRR8.cell 0 rfl
          have r1 := HRR8.cell 1 rfl
          have HB8 := hid ((HB6.out.setCell (p := ⟨w.heap.size + 1, 0, none⟩) (by simp) (.int .i64 0)).setCell (p := ⟨w.heap.size + 1, 1, none⟩) (by simp) (.slice none 0 0))
          clear HRR7 HRR8
          go_wp2_with (go_at_call 62; first | (refine HX1.out.mono ?_; rintro e w' ⟨rfl, rfl⟩) | (refine HX2.out.mono ?_; rintro e w' ⟨rfl, rfl⟩))
          refine bodyPost_ret (v := .tuple #[.agg #[.int .i64 0, .slice none 0 0], .int .i64 2]) ((results_ct rfl _ _ _).trans ?_) rfl (MvR.no (p := ⟨num, l⟩) HV.out HB8.out)
          simp [go_sem, r0, r1]
        | true =>
          rw [c2] at HLY
          have HX2 := HLY w6
          have HOK2 : Hid (∀ b ∈ l.take (k + 1), mvOk dx dy b = true) := by
            intro b hb
            rw [List.take_add_one, HX.out, List.mem_append] at hb
            rcases hb with hb | hb
            · exact HOK.out b hb
            · have : b = x := by simpa using hb
              rw [this, hokd.out, c1, c2]; rfl
          clear hdone hokd HLX HLY HOK
          have pg6 := HRO6.out.cell 1 rfl
          have hat : ∀ j, j < 6 → w6.cell? ⟨g, k * 6 + j, none⟩ = x.cl[j]? := by
            intro j hj
            rw [World.ownsRow.cellAt HOW6.out (k * 6 + j) (by omega)]
            exact boxCs_at _ k j x (mvTo_at HX.out) hj
          have e0 := hat 0 (by omega)
          have e1 := hat 1 (by omega)
          have e2 := hat 2 (by omega)
          have e3 := hat 3 (by omega)
          have e4 := hat 4 (by omega)
          have e5 := hat 5 (by omega)
          clear hat
          simp only [Bx.cl, Bx.cells, Nat.add_zero, List.getElem?_cons_zero, List.getElem?_cons_succ] at e0 e1 e2 e3 e4 e5
          have fz := own_frozen HOW6.out
          have f0 := fz (k * 6)
          have f1 := fz (k * 6 + 1)
          have f2 := fz (k * 6 + 2)
          have f3 := fz (k * 6 + 3)
          have f4 := fz (k * 6 + 4)
          have f5 := fz (k * 6 + 5)
          clear fz
          have q60 := q6.out.cell 0 rfl
          have q61 := q6.out.cell 1 rfl
          have q62 := q6.out.cell 2 rfl
          have q63 := q6.out.cell 3 rfl
          have q64 := q6.out.cell 4 rfl
          have q65 := q6.out.cell 5 rfl
          go_wp2_with (go_at_call 62; first | (refine HX1.out.mono ?_; rintro e w' ⟨rfl, rfl⟩) | (refine HX2.out.mono ?_; rintro e w' ⟨rfl, rfl⟩))
          have s0 := (World.ownsRow.stored HOW6.out (k * 6) (.int .i64 x.kind)).1
          have s1 := (World.ownsRow.stored s0 (k * 6 + 1) (.int .i64 (x.x + dx))).1
          have s2 := (World.ownsRow.stored s1 (k * 6 + 2) (.int .i64 (x.y + dy))).1
          have s3 := (World.ownsRow.stored s2 (k * 6 + 3) (.int .i64 x.wd)).1
          have s4 := (World.ownsRow.stored s3 (k * 6 + 4) (.int .i64 x.blk)).1
          have s5 := (World.ownsRow.stored s4 (k * 6 + 5) (.string x.text)).1
          have hms := mvTo_set (dx := dx) (dy := dy) HX.out (.int .i64 x.kind) (.int .i64 (x.x + dx)) (.int .i64 (x.y + dy)) (.int .i64 x.wd) (.int .i64 x.blk) (.string x.text) rfl
          rw [hms] at s5
          clear hms
          have hwg : w.heap.size ≤ g := by omega
          have hg1 : w.heap.size ≠ g := by omega
          have hg2 : w.heap.size + 1 ≠ g := by omega
          have HB7 := (((((HB6.out.setCell (p := ⟨g, k * 6, none⟩) hwg (.int .i64 x.kind)).setCell (p := ⟨g, k * 6 + 1, none⟩) hwg (.int .i64 (x.x + dx))).setCell (p := ⟨g, k * 6 + 2, none⟩) hwg (.int .i64 (x.y + dy))).setCell (p := ⟨g, k * 6 + 3, none⟩) hwg (.int .i64 x.wd)).setCell (p := ⟨g, k * 6 + 4, none⟩) hwg (.int .i64 x.blk)).setCell (p := ⟨g, k * 6 + 5, none⟩) hwg (.string x.text)
          have HRO7 := (((((HRO6.out.other ⟨g, k * 6, none⟩ (.int .i64 x.kind) hg1).other ⟨g, k * 6 + 1, none⟩ (.int .i64 (x.x + dx)) hg1).other ⟨g, k * 6 + 2, none⟩ (.int .i64 (x.y + dy)) hg1).other ⟨g, k * 6 + 3, none⟩ (.int .i64 x.wd) hg1).other ⟨g, k * 6 + 4, none⟩ (.int .i64 x.blk) hg1).other ⟨g, k * 6 + 5, none⟩ (.string x.text) hg1
          have HRR7 := (((((HRR6.out.other ⟨g, k * 6, none⟩ (.int .i64 x.kind) hg2).other ⟨g, k * 6 + 1, none⟩ (.int .i64 (x.x + dx)) hg2).other ⟨g, k * 6 + 2, none⟩ (.int .i64 (x.y + dy)) hg2).other ⟨g, k * 6 + 3, none⟩ (.int .i64 x.wd) hg2).other ⟨g, k * 6 + 4, none⟩ (.int .i64 x.blk) hg2).other ⟨g, k * 6 + 5, none⟩ (.string x.text) hg2
          go_roundw
          case rel => exact ⟨k + 1, by omega, by go_num, HRO7, HRR7, HB7, s5, HOK2.out⟩
          case measure => simp [intOf]; omega
    · have hki : ¬ (k : Int) < (l.length : Int) := by omega
      have hkl : k = l.length := by omega
      have HV : Hid (l.all (mvOk dx dy) = true) := by
        have h := HOK.out
        rw [hkl, List.take_length] at h
        exact List.all_eq_true.2 h
      have HOWE : Hid (wr.ownsRow B 42 6 (.slice ad2 l.length cap2) (l.map (mvB dx dy)).length (boxCs (l.map (mvB dx dy)))) := by
        have h := HOW.out
        rw [hkl] at h
        have e : mvTo dx dy l l.length = l.map (mvB dx dy) := by simp [mvTo]
        rw [e] at h
        rw [List.length_map]; exact h
      clear hkl HOK HLN
      have p0 := HRO.out.cell 0 rfl
      have p1 := HRO.out.cell 1 rfl
      have rc0 := HRR.out.cell 0 rfl
      have rc1 := HRR.out.cell 1 rfl
      have rf0 := HRR.out.frozen 0
      have HRR7 := HRR.out.set 0 (.int .i64 num)
      have rf1 := HRR7.frozen 1
      have rc2 := HRR7.cell 1 rfl
      have HRR8 := HRR7.set 1 (.slice ad2 l.length cap2)
      have r0 := HRR8.cell 0 rfl
      have r1 := HRR8.cell 1 rfl
      have HB8 := hid ((HB.out.setCell (p := ⟨w.heap.size + 1, 0, none⟩) (by simp) (.int .i64 num)).setCell (p := ⟨w.heap.size + 1, 1, none⟩) (by simp) (.slice ad2 l.length cap2))
      have HR8 : Hid (RdB ((wr.setCell ⟨w.heap.size + 1, 0, none⟩ (.int .i64 num)).setCell ⟨w.heap.size + 1, 1, none⟩ (.slice ad2 l.length cap2)) (.slice ad2 l.length cap2) (l.map (mvB dx dy))) :=
        RdB.of_own (own_setO (own_setO HOWE.out _ _ (own_far HOWE.out (by simp only; omega))) _ _ (own_far HOWE.out (by simp only; omega)))
      clear HRR7 HRR8 HRO HRR HOW
      go_wp2_with fail
      refine bodyPost_ret (v := .tuple #[.agg #[.int .i64 num, .slice ad2 l.length cap2], .int .i64 0]) ((results_ct rfl _ _ _).trans ?_) rfl (MvR.yes (p := ⟨num, l⟩) HV.out HR8.out HB8.out)
      simp [go_sem, r0, r1]

set_option maxRecDepth 100000 in
set_option maxHeartbeats 2000000 in
theorem move_bad (p : Pg) (v : Value) (dx dy : Int) (w : World) (hr : RdB w v p.bx) (hz : SzB p.bx) (hg : pgI p ≠ 0) :
    Calls Tryd.prog 40 #[.agg #[.int .i64 p.num, v], .int .i64 dx, .int .i64 dy] w fun e w' => e = .returned (.tuple #[.agg #[.int .i64 0, .slice none 0 0], .int .i64 1]) ∧ Below w.heap.size w w' := by
  have hb0 := below_tr (below_al w (.cells #[.int .i64 p.num, v] 34)) (below_al _ (.cells #[.int .i64 0, .slice none 0 0] 34))
  have hrr := row_nw (w.alloc (.cells #[.int .i64 p.num, v] 34)) #[.int .i64 0, .slice none 0 0] 34 (n := w.heap.size + 1) (by simp)
  have HCK := hid (pcheck_any p v _ (hr.below hb0) hz)
  obtain ⟨ad, cap, rfl, hlc, hcm, _⟩ := (hr.below hb0).open
  have HRR := hid hrr
  have hq : (pgI p != 0) = true := by simpa using hg
  clear hg
  clear hr hrr hz
  go_enter Tryd.func40, Tryd.ntmps40
  go_wp2_with fail
  generalize (w.alloc (.cells #[.int .i64 p.num, .slice ad p.bx.length cap] 34)).alloc (.cells #[.int .i64 0, .slice none 0 0] 34) = w0 at *
  refine HCK.out.mono ?_
  rintro e w1 ⟨rfl, hB1⟩
  have hb1 := below_tr hb0 hB1
  have HRR1 := hid (HRR.out.below hB1)
  clear HRR hB1 hb0
  have rc0 := HRR1.out.cell 0 rfl
  have rc1 := HRR1.out.cell 1 rfl
  have rf0 := HRR1.out.frozen 0
  have HRR7 := HRR1.out.set 0 (.int .i64 0)
  have rf1 := HRR7.frozen 1
  have rc2 := HRR7.cell 1 rfl
  have HRR8 := HRR7.set 1 (.slice none 0 0)
  have r0 := HRR8.cell 0 rfl
  have r1 := HRR8.cell 1 rfl
  have HB8 := hid ((hb1.setCell (p := ⟨w.heap.size + 1, 0, none⟩) (by simp) (.int .i64 0)).setCell (p := ⟨w.heap.size + 1, 1, none⟩) (by simp) (.slice none 0 0))
  clear HRR7 HRR8 HRR1 HCK
  go_wp2_with fail
  refine bodyPost_ret (v := .tuple #[.agg #[.int .i64 0, .slice none 0 0], .int .i64 1]) ((results_ct rfl _ _ _).trans ?_) rfl ⟨rfl, HB8.out⟩
  simp [go_sem, r0, r1]

set_option maxRecDepth 100000 in
set_option maxHeartbeats 2000000 in
theorem move_far (p : Pg) (v : Value) (dx dy : Int) (w : World) (hr : RdB w v p.bx) (hz : SzB p.bx) (hg : pgI p = 0) (hf : mvFar dx dy = true) :
    Calls Tryd.prog 40 #[.agg #[.int .i64 p.num, v], .int .i64 dx, .int .i64 dy] w fun e w' => e = .returned (.tuple #[.agg #[.int .i64 0, .slice none 0 0], .int .i64 2]) ∧ Below w.heap.size w w' := by
  have hb0 := below_tr (below_al w (.cells #[.int .i64 p.num, v] 34)) (below_al _ (.cells #[.int .i64 0, .slice none 0 0] 34))
  have hrr := row_nw (w.alloc (.cells #[.int .i64 p.num, v] 34)) #[.int .i64 0, .slice none 0 0] 34 (n := w.heap.size + 1) (by simp)
  have HCK := hid (pcheck_any p v _ (hr.below hb0) hz)
  obtain ⟨ad, cap, rfl, hlc, hcm, _⟩ := (hr.below hb0).open
  have HRR := hid hrr
  rw [hg] at HCK
  clear hg
  clear hr hrr hz
  unfold mvFar at hf
  by_cases g1 : 1073741824 < max dx dy
  · clear hf
    go_enter Tryd.func40, Tryd.ntmps40
    go_wp2_with fail
    generalize (w.alloc (.cells #[.int .i64 p.num, .slice ad p.bx.length cap] 34)).alloc (.cells #[.int .i64 0, .slice none 0 0] 34) = w0 at *
    refine HCK.out.mono ?_
    rintro e w1 ⟨rfl, hB1⟩
    have hb1 := below_tr hb0 hB1
    have HRR1 := hid (HRR.out.below hB1)
    clear HRR hB1 hb0
    have rc0 := HRR1.out.cell 0 rfl
    have rc1 := HRR1.out.cell 1 rfl
    have rf0 := HRR1.out.frozen 0
    have HRR7 := HRR1.out.set 0 (.int .i64 0)
    have rf1 := HRR7.frozen 1
    have rc2 := HRR7.cell 1 rfl
    have HRR8 := HRR7.set 1 (.slice none 0 0)
    have r0 := HRR8.cell 0 rfl
    have r1 := HRR8.cell 1 rfl
    have HB8 := hid ((hb1.setCell (p := ⟨w.heap.size + 1, 0, none⟩) (by simp) (.int .i64 0)).setCell (p := ⟨w.heap.size + 1, 1, none⟩) (by simp) (.slice none 0 0))
    clear HRR7 HRR8 HRR1 HCK
    go_wp2_with fail
    refine bodyPost_ret (v := .tuple #[.agg #[.int .i64 0, .slice none 0 0], .int .i64 2]) ((results_ct rfl _ _ _).trans ?_) rfl ⟨rfl, HB8.out⟩
    simp [go_sem, r0, r1]

  · have g2 : min dx dy < -1073741824 := by
      simp only [Bool.or_eq_true, decide_eq_true_eq] at hf
      exact hf.resolve_left g1
    clear hf
    go_enter Tryd.func40, Tryd.ntmps40
    go_wp2_with fail
    generalize (w.alloc (.cells #[.int .i64 p.num, .slice ad p.bx.length cap] 34)).alloc (.cells #[.int .i64 0, .slice none 0 0] 34) = w0 at *
    refine HCK.out.mono ?_
    rintro e w1 ⟨rfl, hB1⟩
    have hb1 := below_tr hb0 hB1
    have HRR1 := hid (HRR.out.below hB1)
    clear HRR hB1 hb0
    have rc0 := HRR1.out.cell 0 rfl
    have rc1 := HRR1.out.cell 1 rfl
    have rf0 := HRR1.out.frozen 0
    have HRR7 := HRR1.out.set 0 (.int .i64 0)
    have rf1 := HRR7.frozen 1
    have rc2 := HRR7.cell 1 rfl
    have HRR8 := HRR7.set 1 (.slice none 0 0)
    have r0 := HRR8.cell 0 rfl
    have r1 := HRR8.cell 1 rfl
    have HB8 := hid ((hb1.setCell (p := ⟨w.heap.size + 1, 0, none⟩) (by simp) (.int .i64 0)).setCell (p := ⟨w.heap.size + 1, 1, none⟩) (by simp) (.slice none 0 0))
    clear HRR7 HRR8 HRR1 HCK
    go_wp2_with fail
    refine bodyPost_ret (v := .tuple #[.agg #[.int .i64 0, .slice none 0 0], .int .i64 2]) ((results_ct rfl _ _ _).trans ?_) rfl ⟨rfl, HB8.out⟩
    simp [go_sem, r0, r1]

end Go.Proofs.YtkjapeafhcdnkaaDoor
