/-
  The reference's Move.
-/
import Derived.Test.YtkjapeafhcdnkaaDoorMvW
import Derived.Test.YtkjapeafhcdnkaaDoorRck53
namespace Go.Proofs.YtkjapeafhcdnkaaDoor
open Go.RowKit

theorem boxCs_take {l : List Bx} {k : Nat} {x : Bx} (dx dy : Int) (h : l[k]? = some x) : boxCs ((l.take (k + 1)).map (mvB dx dy)) = boxCs ((l.take k).map (mvB dx dy)) ++ (mvB dx dy x).cl := by
  rw [List.take_add_one, h]; simp [boxCs]

theorem own_row {W : World} {base : Nat} {e t : TypeId} {s n P : Nat} {v : Value} {xs : List Value} {cs : Array Value} (h : W.ownsRow base e s v n xs) (hr : Row W P cs t) (he : e ≠ t) : v.ownBlock ≠ some P := fun e1 => by
  obtain ⟨c1, f1, a1⟩ := Lib.ownsRow_kind h P e1
  have h9 : W.heap[P]? = _ := hr
  rw [a1] at h9; cases h9; exact he rfl
theorem row_kind {W w' : World} {base : Nat} {e t : TypeId} {s n P : Nat} {v : Value} {xs : List Value} {cs : Array Value} (hr : Row W P cs t) (h : W.ownsRow base e s v n xs) (he : e ≠ t) (hg : W.grownBy w' v.ownBlock) : Row w' P cs t :=
  (hg.block P hr.lt (fun e1 => own_row h hr he e1.symm)).trans hr

set_option maxRecDepth 100000 in
set_option maxHeartbeats 4000000 in
theorem rmove_yes (p : Pg) (v : Value) (dx dy : Int) (w : World) (hr : RdB w v p.bx) (hz : SzB p.bx) (hg : pgI p = 0) (hf : mvFar dx dy = false) :
    Calls Tryd.prog 41 #[.agg #[.int .i64 p.num, v], .int .i64 dx, .int .i64 dy] w fun e w' => MvR p dx dy w e w' := by
  have HG := hid (pg_good hg).2.2.2
  have hl4 := (pg_good hg).2.2.1
  have hfar : (-1073741824 ≤ dx ∧ dx ≤ 1073741824) ∧ -1073741824 ≤ dy ∧ dy ≤ 1073741824 := by
    unfold mvFar at hf
    simp only [Bool.or_eq_false_iff, decide_eq_false_iff_not] at hf
    omega
  obtain ⟨⟨fx1, fx2⟩, fy1, fy2⟩ := hfar
  have HLN := fun n w' => hid (rlength_any n w')
  obtain ⟨num, l⟩ := p
  simp only at hr hz HG hl4 ⊢
  have hb0 := below_tr (below_al w (.cells #[.int .i64 num, v] 34)) (below_al _ (.cells #[.int .i64 0, .slice none 0 0] 34))
  have hro := (row_nw w #[.int .i64 num, v] 34 rfl).al (.cells #[.int .i64 0, .slice none 0 0] 34)
  have hrr := row_nw (w.alloc (.cells #[.int .i64 num, v] 34)) #[.int .i64 0, .slice none 0 0] 34 (n := w.heap.size + 1) (by simp)
  have HCK := hid (rpcheck_any ⟨num, l⟩ v _ (hr.below hb0) hz)
  rw [hg] at HCK
  obtain ⟨ad, cap, rfl, hlc, hcm, hcell⟩ := hr.open
  have HC := hid hcell
  have HRO := hid hro
  have HRR := hid hrr
  have HZ := hid hz
  clear hr hro hrr hg hf hz hcell
  go_enter Tryd.func41, Tryd.ntmps41
  go_wp2_with fail
  generalize (w.alloc (.cells #[.int .i64 num, .slice ad l.length cap] 34)).alloc (.cells #[.int .i64 0, .slice none 0 0] 34) = w0 at *
  refine HCK.out.mono ?_
  rintro e w1 ⟨rfl, hB1⟩
  have hb1 := below_tr hb0 hB1
  have HRO1 := hid (HRO.out.below hB1)
  have HRR1 := hid (HRR.out.below hB1)
  have pg0 := HRO1.out.cell 0 rfl
  have hplt : w.heap.size + 1 < w1.heap.size := HRR1.out.lt
  have hbE := below_al w1 (.cells #[] 42)
  have hbO := below_al (w1.alloc (.cells #[] 42)) (.cells #[.int .i64 num, .slice (some ⟨w1.heap.size, 0, none⟩) 0 0] 34)
  have HRO2 := hid (HRO1.out.below (below_tr hbE hbO))
  have HRR2 := hid (HRR1.out.below (below_tr hbE hbO))
  have HB2 := hid (below_tr hb1 (below_tr hbE hbO))
  have HRU2 := hid (row_nw (w1.alloc (.cells #[] 42)) #[.int .i64 num, .slice (some ⟨w1.heap.size, 0, none⟩) 0 0] 34 (n := w1.heap.size + 1) (by simp))
  have HOW2 : Hid (((w1.alloc (.cells #[] 42)).alloc (.cells #[.int .i64 num, .slice (some ⟨w1.heap.size, 0, none⟩) 0 0] 34)).ownsRow w1.heap.size 42 6 (.slice (some ⟨w1.heap.size, 0, none⟩) 0 0) 0 []) :=
    own_belowT (World.ownsRow_made w1 #[] 0 (Nat.le_refl _) (Nat.zero_le _) rfl) hbO
  clear HCK HRO HRR hB1 hb0 HRO1 HRR1 hb1 hbE hbO
  go_wp2_with fail
  generalize (w1.alloc (.cells #[] 42)).alloc (.cells #[.int .i64 num, .slice (some ⟨w1.heap.size, 0, none⟩) 0 0] 34) = w2 at *
  generalize w1.heap.size = B at *
  go_loopw [9] (fun i wr => ∃ (k : Nat) (au : Option Addr) (cu : Nat), k ≤ l.length ∧ i = .int .i64 k ∧ Hid (Row wr w.heap.size #[.int .i64 num, .slice ad l.length cap] 34) ∧ Hid (Row wr (w.heap.size + 1) #[.int .i64 0, .slice none 0 0] 34) ∧ Hid (Row wr (B + 1) #[.int .i64 num, .slice au k cu] 34) ∧ Hid (Below w.heap.size w wr) ∧
      Hid (wr.ownsRow B 42 6 (.slice au k cu) k (boxCs ((l.take k).map (mvB dx dy)))) ∧ Hid (∀ b ∈ l.take k, mvOk dx dy b = true)) (fun i _ => l.length - (intOf i).toNat)
  case atStart => exact ⟨0, _, _, Nat.zero_le _, rfl, HRO2.out, HRR2.out, HRU2.out, HB2.out, HOW2.out, by simp [Hid]⟩
  case round =>
    obtain ⟨k, au, cu, hk, rfl, HRO, HRR, HRU, HB, HOW, HOK⟩ := hrel
    clear HRO2 HRR2 HB2 HOW2 pg0 HRU2
    have pg1 := HRO.out.cell 1 rfl
    by_cases hlt : k < l.length
    · have hki : (k : Int) < (l.length : Int) := by omega
      obtain ⟨x, b, o, hx, rfl, d0, d1, d2, d3, d4, d5⟩ := HC.out k hlt
      have e0 := Below.keeps HB.out _ _ d0
      have e1 := Below.keeps HB.out _ _ d1
      have e2 := Below.keeps HB.out _ _ d2
      have e3 := Below.keeps HB.out _ _ d3
      have e4 := Below.keeps HB.out _ _ d4
      have e5 := Below.keeps HB.out _ _ d5
      obtain ⟨_, _, i1, i2, i5, i6, i3, i4, _⟩ := bx_good (HG.out x (List.mem_of_getElem? hx))
      have HX := hid hx
      have HRO6 := hid (HRO.out.al (.cells (mvB dx dy x).cells 42))
      have HRR6 := hid (HRR.out.al (.cells (mvB dx dy x).cells 42))
      have HRU6 := hid (HRU.out.al (.cells (mvB dx dy x).cells 42))
      have HB6 := hid (below_tr HB.out (below_al wr (.cells (mvB dx dy x).cells 42)))
      have HOW6 := hid (own_belowT HOW.out (below_al wr (.cells (mvB dx dy x).cells 42)))
      have q6 := hid (row_nw wr (mvB dx dy x).cells 42 rfl)
      unfold Bx.cells at HRO6 HRR6 HB6 HOW6 q6 HRU6
      simp only [mvB] at HRO6 HRR6 HB6 HOW6 q6 HRU6
      clear hx HRO HRR HB HOW d0 d1 d2 d3 d4 d5 HRU
      go_wp2_with fail
      generalize wr.alloc (.cells #[.int .i64 x.kind, .int .i64 (x.x + dx), .int .i64 (x.y + dy), .int .i64 x.wd, .int .i64 x.blk, .string x.text] 42) = w6 at *
      generalize wr.heap.size = Q at *
      have zx := q6.out.cell 1 rfl
      have zy := q6.out.cell 2 rfl
      have hokd : Hid (mvOk dx dy x = (lenB (x.x + dx) && lenB (x.y + dy))) := rfl
      have HLX := HLN (x.x + dx)
      have HLY := HLN (x.y + dy)
      clear e0 e1 e2 e3 e4 e5 HLN pg1
      have hdone : Hid (mvOk dx dy x = false → l.all (mvOk dx dy) = false) := fun h => by
        cases h2 : l.all (mvOk dx dy)
        · rfl
        · rw [List.all_eq_true] at h2
          rw [h2 x (List.mem_of_getElem? HX.out)] at h; cases h
      cases c1 : lenB (x.x + dx) with
      | false =>
        have HV := hid (hdone.out (by rw [hokd.out, c1]; rfl))
        rw [c1] at HLX
        have HX1 := HLX w6
        have HX2 := HX1
        clear hdone hokd HLX HLY
        have rc0 := HRR6.out.cell 0 rfl
        have rc1 := HRR6.out.cell 1 rfl
        have rf0 := HRR6.out.frozen 0
        have HRR7 := HRR6.out.set 0 (.int .i64 0)
        have rf1 := HRR7.frozen 1
        have rc2 := HRR7.cell 1 rfl
        have HRR8 := HRR7.set 1 (.slice none 0 0)
        have r0 := HRR8.cell 0 rfl
        have r1 := HRR8.cell 1 rfl
        have HB8 := hid ((HB6.out.setCell (p := ⟨w.heap.size + 1, 0, none⟩) (by simp) (.int .i64 0)).setCell (p := ⟨w.heap.size + 1, 1, none⟩) (by simp) (.slice none 0 0))
        clear HRR7 HRR8
        go_wp2_with (go_at_call 53; first | (refine HX1.out.mono ?_; clear HX1; rintro e w' ⟨rfl, rfl⟩) | (refine HX2.out.mono ?_; rintro e w' ⟨rfl, rfl⟩))
        refine bodyPost_ret (v := .tuple #[.agg #[.int .i64 0, .slice none 0 0], .int .i64 2]) ((results_ct rfl _ _ _).trans ?_) rfl (MvR.no (p := ⟨num, l⟩) HV.out HB8.out)
        simp [go_sem, r0, r1]
      | true =>
        rw [c1] at HLX
        have HX1 := HLX w6
        cases c2 : lenB (x.y + dy) with
        | false =>
          have HV := hid (hdone.out (by rw [hokd.out, c1, c2]; rfl))
          rw [c2] at HLY
          have HX2 := HLY w6
          clear hdone hokd HLX HLY
          have rc0 := HRR6.out.cell 0 rfl
          have rc1 := HRR6.out.cell 1 rfl
          have rf0 := HRR6.out.frozen 0
          have HRR7 := HRR6.out.set 0 (.int .i64 0)
          have rf1 := HRR7.frozen 1
          have rc2 := HRR7.cell 1 rfl
          have HRR8 := HRR7.set 1 (.slice none 0 0)
          have r0 := HRR8.cell 0 rfl
          have r1 := HRR8.cell 1 rfl
          have HB8 := hid ((HB6.out.setCell (p := ⟨w.heap.size + 1, 0, none⟩) (by simp) (.int .i64 0)).setCell (p := ⟨w.heap.size + 1, 1, none⟩) (by simp) (.slice none 0 0))
          clear HRR7 HRR8
          go_wp2_with (go_at_call 53; first | (refine HX1.out.mono ?_; clear HX1; rintro e w' ⟨rfl, rfl⟩) | (refine HX2.out.mono ?_; rintro e w' ⟨rfl, rfl⟩))
          refine bodyPost_ret (v := .tuple #[.agg #[.int .i64 0, .slice none 0 0], .int .i64 2]) ((results_ct rfl _ _ _).trans ?_) rfl (MvR.no (p := ⟨num, l⟩) HV.out HB8.out)
          simp [go_sem, r0, r1]
        | true =>
          rw [c2] at HLY
          have HX2 := HLY w6
          have HOK2 : Hid (∀ b ∈ l.take (k + 1), mvOk dx dy b = true) := by
            intro b hb
            rw [List.take_add_one, HX.out, List.mem_append] at hb
            rcases hb with hb | hb
            · exact HOK.out b hb
            · have : b = x := by simpa using hb
              rw [this, hokd.out, c1, c2]; rfl
          clear hdone hokd HLX HLY HOK
          have pu1 := HRU6.out.cell 1 rfl
          have pf1 := HRU6.out.frozen 1
          have q60 := q6.out.cell 0 rfl
          have q63 := q6.out.cell 3 rfl
          have q64 := q6.out.cell 4 rfl
          have q65 := q6.out.cell 5 rfl
          have hBs : B ≤ w6.heap.size := by have := HRU6.out.lt; omega
          go_wp2_with (first | (go_at_call 53; first | (refine HX1.out.mono ?_; clear HX1; rintro e w' ⟨rfl, rfl⟩) | (refine HX2.out.mono ?_; rintro e w' ⟨rfl, rfl⟩)) | (at_builtin; refine wpList_ap2 rfl _ _ 32 rfl B 42 Tryd.underlying32 infoBx rfl (by decide) (by decide) _ k _ rfl HOW6.out [.int .i64 x.kind, .int .i64 (x.x + dx), .int .i64 (x.y + dy), .int .i64 x.wd, .int .i64 x.blk, .string x.text] rfl (by simp [Value.oneCell']) rfl (by simp) (by omega) hBs ?_; intro g cg w9 hown2 hb2 hg2 hat hlt2; have HRU9 := row_kind HRU6.out HOW6.out (by decide) hg2; have pu9 := HRU9.cell 1 rfl; have pf9 := HRU9.frozen 1))
          have HRO9 := (row_kind HRO6.out HOW6.out (by decide) hg2).other ⟨B + 1, 1, none⟩ (.slice (some ⟨g, 0, none⟩) (k + 1) cg) (by simp only; omega)
          have HRR9 := (row_kind HRR6.out HOW6.out (by decide) hg2).other ⟨B + 1, 1, none⟩ (.slice (some ⟨g, 0, none⟩) (k + 1) cg) (by simp only; omega)
          have HRU8 := HRU9.set 1 (.slice (some ⟨g, 0, none⟩) (k + 1) cg)
          have HB9 := (HB6.out.trans (hb2.mono (show w.heap.size ≤ B by omega))).setCell (p := ⟨B + 1, 1, none⟩) (show w.heap.size ≤ B + 1 by omega) (.slice (some ⟨g, 0, none⟩) (k + 1) cg)
          have HOW9 := own_setO hown2 ⟨B + 1, 1, none⟩ (.slice (some ⟨g, 0, none⟩) (k + 1) cg) (own_row hown2 HRU9 (by decide))
          go_roundw
          case rel => exact ⟨k + 1, _, _, by omega, by go_num, HRO9, HRR9, HRU8, HB9, by rw [boxCs_take dx dy HX.out]; exact HOW9, HOK2.out⟩
          case measure => simp [intOf]; omega
    · have hki : ¬ (k : Int) < (l.length : Int) := by omega
      have hkl : k = l.length := by omega
      have HV : Hid (l.all (mvOk dx dy) = true) := by
        have h := HOK.out
        rw [hkl, List.take_length] at h
        exact List.all_eq_true.2 h
      have hBR : w.heap.size + 1 < B := hplt
      have o1 := own_setO HOW.out ⟨w.heap.size + 1, 0, none⟩ (.int .i64 num) (own_far HOW.out (by simp only; omega))
      have HOWE := hid (own_setO o1 ⟨w.heap.size + 1, 1, none⟩ (.slice au k cu) (own_far HOW.out (by simp only; omega)))
      have HR8 : Hid (RdB ((wr.setCell ⟨w.heap.size + 1, 0, none⟩ (.int .i64 num)).setCell ⟨w.heap.size + 1, 1, none⟩ (.slice au k cu)) (.slice au k cu) (l.map (mvB dx dy))) := by
        have h := HOWE.out
        rw [hkl, List.take_length] at h
        rw [hkl]
        exact RdB.of_own (by rw [List.length_map]; exact h)
      clear hkl HOK HLN o1 HOWE HOW
      have p0 := HRU.out.cell 0 rfl
      have p1 := HRU.out.cell 1 rfl
      have rc0 := HRR.out.cell 0 rfl
      have rc1 := HRR.out.cell 1 rfl
      have rf0 := HRR.out.frozen 0
      have HRR7 := HRR.out.set 0 (.int .i64 num)
      have rf1 := HRR7.frozen 1
      have rc2 := HRR7.cell 1 rfl
      have HRR8 := HRR7.set 1 (.slice au k cu)
      have r0 := HRR8.cell 0 rfl
      have r1 := HRR8.cell 1 rfl
      have HB8 := hid ((HB.out.setCell (p := ⟨w.heap.size + 1, 0, none⟩) (by simp) (.int .i64 num)).setCell (p := ⟨w.heap.size + 1, 1, none⟩) (by simp) (.slice au k cu))
      clear HRR7 HRR8 HRO HRR HRU
      go_wp2_with fail
      refine bodyPost_ret (v := .tuple #[.agg #[.int .i64 num, .slice au k cu], .int .i64 0]) ((results_ct rfl _ _ _).trans ?_) rfl (MvR.yes (p := ⟨num, l⟩) HV.out HR8.out HB8.out)
      simp [go_sem, r0, r1]

set_option maxRecDepth 100000 in
set_option maxHeartbeats 2000000 in
theorem rmove_bad (p : Pg) (v : Value) (dx dy : Int) (w : World) (hr : RdB w v p.bx) (hz : SzB p.bx) (hg : pgI p ≠ 0) :
    Calls Tryd.prog 41 #[.agg #[.int .i64 p.num, v], .int .i64 dx, .int .i64 dy] w fun e w' => e = .returned (.tuple #[.agg #[.int .i64 0, .slice none 0 0], .int .i64 1]) ∧ Below w.heap.size w w' := by
  have hb0 := below_tr (below_al w (.cells #[.int .i64 p.num, v] 34)) (below_al _ (.cells #[.int .i64 0, .slice none 0 0] 34))
  have hrr := row_nw (w.alloc (.cells #[.int .i64 p.num, v] 34)) #[.int .i64 0, .slice none 0 0] 34 (n := w.heap.size + 1) (by simp)
  have HCK := hid (rpcheck_any p v _ (hr.below hb0) hz)
  obtain ⟨ad, cap, rfl, hlc, hcm, _⟩ := (hr.below hb0).open
  have HRR := hid hrr
  have hq : (pgI p != 0) = true := by simpa using hg
  clear hg
  clear hr hrr hz
  go_enter Tryd.func41, Tryd.ntmps41
  go_wp2_with fail
  generalize (w.alloc (.cells #[.int .i64 p.num, .slice ad p.bx.length cap] 34)).alloc (.cells #[.int .i64 0, .slice none 0 0] 34) = w0 at *
  refine HCK.out.mono ?_
  rintro e w1 ⟨rfl, hB1⟩
  have hb1 := below_tr hb0 hB1
  have HRR1 := hid (HRR.out.below hB1)
  clear HRR hB1 hb0
  have rc0 := HRR1.out.cell 0 rfl
  have rc1 := HRR1.out.cell 1 rfl
  have rf0 := HRR1.out.frozen 0
  have HRR7 := HRR1.out.set 0 (.int .i64 0)
  have rf1 := HRR7.frozen 1
  have rc2 := HRR7.cell 1 rfl
  have HRR8 := HRR7.set 1 (.slice none 0 0)
  have r0 := HRR8.cell 0 rfl
  have r1 := HRR8.cell 1 rfl
  have HB8 := hid ((hb1.setCell (p := ⟨w.heap.size + 1, 0, none⟩) (by simp) (.int .i64 0)).setCell (p := ⟨w.heap.size + 1, 1, none⟩) (by simp) (.slice none 0 0))
  clear HRR7 HRR8 HRR1 HCK
  go_wp2_with fail
  refine bodyPost_ret (v := .tuple #[.agg #[.int .i64 0, .slice none 0 0], .int .i64 1]) ((results_ct rfl _ _ _).trans ?_) rfl ⟨rfl, HB8.out⟩
  simp [go_sem, r0, r1]

set_option maxRecDepth 100000 in
set_option maxHeartbeats 2000000 in
theorem rmove_far (p : Pg) (v : Value) (dx dy : Int) (w : World) (hr : RdB w v p.bx) (hz : SzB p.bx) (hg : pgI p = 0) (hf : mvFar dx dy = true) :
    Calls Tryd.prog 41 #[.agg #[.int .i64 p.num, v], .int .i64 dx, .int .i64 dy] w fun e w' => e = .returned (.tuple #[.agg #[.int .i64 0, .slice none 0 0], .int .i64 2]) ∧ Below w.heap.size w w' := by
  have hb0 := below_tr (below_al w (.cells #[.int .i64 p.num, v] 34)) (below_al _ (.cells #[.int .i64 0, .slice none 0 0] 34))
  have hrr := row_nw (w.alloc (.cells #[.int .i64 p.num, v] 34)) #[.int .i64 0, .slice none 0 0] 34 (n := w.heap.size + 1) (by simp)
  have HCK := hid (rpcheck_any p v _ (hr.below hb0) hz)
  obtain ⟨ad, cap, rfl, hlc, hcm, _⟩ := (hr.below hb0).open
  have HRR := hid hrr
  rw [hg] at HCK
  clear hg
  clear hr hrr hz
  have hor : dx < -1073741824 ∨ (¬ dx < -1073741824 ∧ 1073741824 < dx) ∨ (¬ dx < -1073741824 ∧ ¬ 1073741824 < dx ∧ dy < -1073741824) ∨ (¬ dx < -1073741824 ∧ ¬ 1073741824 < dx ∧ ¬ dy < -1073741824 ∧ 1073741824 < dy) := by
    unfold mvFar at hf
    simp only [Bool.or_eq_true, decide_eq_true_eq] at hf
    omega
  clear hf
  rcases hor with g1 | ⟨g1, g2⟩ | ⟨g1, g2, g3⟩ | ⟨g1, g2, g3, g4⟩
  · go_enter Tryd.func41, Tryd.ntmps41
    go_wp2_with fail
    generalize (w.alloc (.cells #[.int .i64 p.num, .slice ad p.bx.length cap] 34)).alloc (.cells #[.int .i64 0, .slice none 0 0] 34) = w0 at *
    refine HCK.out.mono ?_
    rintro e w1 ⟨rfl, hB1⟩
    have hb1 := below_tr hb0 hB1
    have HRR1 := hid (HRR.out.below hB1)
    clear HRR hB1 hb0
    have rc0 := HRR1.out.cell 0 rfl
    have rc1 := HRR1.out.cell 1 rfl
    have rf0 := HRR1.out.frozen 0
    have HRR7 := HRR1.out.set 0 (.int .i64 0)
    have rf1 := HRR7.frozen 1
    have rc2 := HRR7.cell 1 rfl
    have HRR8 := HRR7.set 1 (.slice none 0 0)
    have r0 := HRR8.cell 0 rfl
    have r1 := HRR8.cell 1 rfl
    have HB8 := hid ((hb1.setCell (p := ⟨w.heap.size + 1, 0, none⟩) (by simp) (.int .i64 0)).setCell (p := ⟨w.heap.size + 1, 1, none⟩) (by simp) (.slice none 0 0))
    clear HRR7 HRR8 HRR1 HCK
    go_wp2_with fail
    refine bodyPost_ret (v := .tuple #[.agg #[.int .i64 0, .slice none 0 0], .int .i64 2]) ((results_ct rfl _ _ _).trans ?_) rfl ⟨rfl, HB8.out⟩
    simp [go_sem, r0, r1]
  · go_enter Tryd.func41, Tryd.ntmps41
    go_wp2_with fail
    generalize (w.alloc (.cells #[.int .i64 p.num, .slice ad p.bx.length cap] 34)).alloc (.cells #[.int .i64 0, .slice none 0 0] 34) = w0 at *
    refine HCK.out.mono ?_
    rintro e w1 ⟨rfl, hB1⟩
    have hb1 := below_tr hb0 hB1
    have HRR1 := hid (HRR.out.below hB1)
    clear HRR hB1 hb0
    have rc0 := HRR1.out.cell 0 rfl
    have rc1 := HRR1.out.cell 1 rfl
    have rf0 := HRR1.out.frozen 0
    have HRR7 := HRR1.out.set 0 (.int .i64 0)
    have rf1 := HRR7.frozen 1
    have rc2 := HRR7.cell 1 rfl
    have HRR8 := HRR7.set 1 (.slice none 0 0)
    have r0 := HRR8.cell 0 rfl
    have r1 := HRR8.cell 1 rfl
    have HB8 := hid ((hb1.setCell (p := ⟨w.heap.size + 1, 0, none⟩) (by simp) (.int .i64 0)).setCell (p := ⟨w.heap.size + 1, 1, none⟩) (by simp) (.slice none 0 0))
    clear HRR7 HRR8 HRR1 HCK
    go_wp2_with fail
    refine bodyPost_ret (v := .tuple #[.agg #[.int .i64 0, .slice none 0 0], .int .i64 2]) ((results_ct rfl _ _ _).trans ?_) rfl ⟨rfl, HB8.out⟩
    simp [go_sem, r0, r1]
  · go_enter Tryd.func41, Tryd.ntmps41
    go_wp2_with fail
    generalize (w.alloc (.cells #[.int .i64 p.num, .slice ad p.bx.length cap] 34)).alloc (.cells #[.int .i64 0, .slice none 0 0] 34) = w0 at *
    refine HCK.out.mono ?_
    rintro e w1 ⟨rfl, hB1⟩
    have hb1 := below_tr hb0 hB1
    have HRR1 := hid (HRR.out.below hB1)
    clear HRR hB1 hb0
    have rc0 := HRR1.out.cell 0 rfl
    have rc1 := HRR1.out.cell 1 rfl
    have rf0 := HRR1.out.frozen 0
    have HRR7 := HRR1.out.set 0 (.int .i64 0)
    have rf1 := HRR7.frozen 1
    have rc2 := HRR7.cell 1 rfl
    have HRR8 := HRR7.set 1 (.slice none 0 0)
    have r0 := HRR8.cell 0 rfl
    have r1 := HRR8.cell 1 rfl
    have HB8 := hid ((hb1.setCell (p := ⟨w.heap.size + 1, 0, none⟩) (by simp) (.int .i64 0)).setCell (p := ⟨w.heap.size + 1, 1, none⟩) (by simp) (.slice none 0 0))
    clear HRR7 HRR8 HRR1 HCK
    go_wp2_with fail
    refine bodyPost_ret (v := .tuple #[.agg #[.int .i64 0, .slice none 0 0], .int .i64 2]) ((results_ct rfl _ _ _).trans ?_) rfl ⟨rfl, HB8.out⟩
    simp [go_sem, r0, r1]
  · go_enter Tryd.func41, Tryd.ntmps41
    go_wp2_with fail
    generalize (w.alloc (.cells #[.int .i64 p.num, .slice ad p.bx.length cap] 34)).alloc (.cells #[.int .i64 0, .slice none 0 0] 34) = w0 at *
    refine HCK.out.mono ?_
    rintro e w1 ⟨rfl, hB1⟩
    have hb1 := below_tr hb0 hB1
    have HRR1 := hid (HRR.out.below hB1)
    clear HRR hB1 hb0
    have rc0 := HRR1.out.cell 0 rfl
    have rc1 := HRR1.out.cell 1 rfl
    have rf0 := HRR1.out.frozen 0
    have HRR7 := HRR1.out.set 0 (.int .i64 0)
    have rf1 := HRR7.frozen 1
    have rc2 := HRR7.cell 1 rfl
    have HRR8 := HRR7.set 1 (.slice none 0 0)
    have r0 := HRR8.cell 0 rfl
    have r1 := HRR8.cell 1 rfl
    have HB8 := hid ((hb1.setCell (p := ⟨w.heap.size + 1, 0, none⟩) (by simp) (.int .i64 0)).setCell (p := ⟨w.heap.size + 1, 1, none⟩) (by simp) (.slice none 0 0))
    clear HRR7 HRR8 HRR1 HCK
    go_wp2_with fail
    refine bodyPost_ret (v := .tuple #[.agg #[.int .i64 0, .slice none 0 0], .int .i64 2]) ((results_ct rfl _ _ _).trans ?_) rfl ⟨rfl, HB8.out⟩
    simp [go_sem, r0, r1]
end Go.Proofs.YtkjapeafhcdnkaaDoor
