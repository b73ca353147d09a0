/-
  paragraph.Items.
-/
import Derived.Test.YtalpgilncohkbaaIta
import Derived.Deep.RegionLaw
namespace Go.Proofs.Ytalpgilncohkbaa
open Go.RowKit

theorem lgB_any (n : Int) (w : World) : Calls Try.prog 26 #[.int .i64 n] w fun e w' => e = .returned (.bool (lgB n)) ∧ w = w' := length_any n w
/-- A call that gives a list of strings. -/
theorem step_clus {P : Program} {ops : Array Oper} {o : Oper} {a : Act} {w : World} {K : Act → World → Prop} {Q : Exit → Act → World → Prop} {E : Prop}
    (hg : o.guard = none) (f : Nat) (ef : ∀ args w, (callFunc f args).run P w = .ok (.enter f args) w) (x : Operand) (ts : Array TypeId) (hop : o.op = Op.call { callee := Callee.value (Operand.func f), args := #[x], argTypes := ts }) (v : Value) (hx : a.eval x = v) (n : Nat)
    (hc : Calls P f #[v] w fun e w' => ∃ ad c, e = .returned (.slice ad n c) ∧ Below w.heap.size w w')
    (hK : ∀ (ad : Option Addr) (c : Nat) (w' : World), Below w.heap.size w w' → K (a.put o.dst (.slice ad n c)) w') :
    if Region.wanted o (yielded ops a.tmps) = true then Oper.wp P o a w K Q else E := by
  have hw : Region.wanted o (yielded ops a.tmps) = true := by simp [Region.wanted, hg]
  rw [if_pos hw]
  have hrun : (execOp a.eval o).run P w = .ok (.enter f #[v]) w := by
    simp [execOp, hop, resolve, invoke, go_sem, ef]
    rw [← hx]
    cases x <;> first | rfl | simp [go_sem]
  unfold Oper.wp
  rw [hrun, Oper.upon_enter]
  refine hc.mono ?_
  rintro e w' ⟨ad, c, rfl, hr⟩
  exact hK ad c w' hr
theorem clusN_any (s : ByteArray) (w : World) (hs : s.size ≤ 1048576) : Calls Try.prog 30 #[.string s] w fun e w' => ∃ ad c, e = .returned (.slice ad (clN s) c) ∧ Below w.heap.size w w' := by
  refine (clusE_any s w hs).mono ?_
  rintro e w' ⟨v, rfl, hv, hb⟩
  obtain ⟨a, c, rfl, _⟩ := hv.open
  exact ⟨a, c, by rw [clL_len], hb⟩

theorem rdIt_own {W : World} {base : Nat} {v : Value} {l : List It} (h : W.ownsRow base 43 6 v l.length (l.flatMap encIt)) : RdIt W v l := RdC.of_own (s := 6) (enc := encIt) (fun _ => rfl) h
/-- What Items hands back. -/
def ItR (st : St) (P : List Grp) (ws : List Wd) (w : World) (e : Ending) (w' : World) : Prop := ∃ v1, e = .returned (.tuple #[v1, .int .i64 (itE st P ws)]) ∧ (itE st P ws = 0 → RdIt w' v1 (itmF st P ws)) ∧ Below w.heap.size w w'
theorem ItR.mk {st : St} {P : List Grp} {ws : List Wd} {w w' : World} {v1 : Value} {E : Int} (h0 : itE st P ws = E) (h : E = 0 → RdIt w' v1 (itmF st P ws)) (hb : Below w.heap.size w w') : ItR st P ws w (.returned (.tuple #[v1, .int .i64 E])) w' := by
  subst h0
  exact ⟨_, rfl, h, hb⟩
set_option maxRecDepth 100000 in
set_option maxHeartbeats 8000000 in
theorem items_any (st : St) (vp vw : Value) (P : List Grp) (ws : List Wd) (w : World) (hp : RdG w vp P) (hzp : SzG P) (hw : RdWd w vw ws) (hl : ws.length ≤ 5) (hsz : ∀ x ∈ ws, x.t.size ≤ 20) :
    Calls Try.prog 14 #[.agg st.cells, vp, vw] w fun e w' => ItR st P ws w e w' := by
  have HEV : Hid (itE st P ws = if styB st = false then 2 else if hchkI P ≠ 0 then 1 else if ws.any badW = true then 1 else if ckIts (itmF st P ws) ≠ 0 then 4 else 0) := rfl
  have HSV : Hid (styB st = (lgB st.letter && (lgB st.sp && (lgB st.stretch && (lgB st.shrink && (decide (0 ≤ st.hyphen) && decide (st.hyphen ≤ 10000))))))) := rfl
  have HB0 := hid (below_al w (.cells st.cells 25))
  have HR0 := hid (row_nw w st.cells 25 rfl)
  have HP0 := hid (hp.below HB0.out)
  have HW0 := hid (hw.below HB0.out)
  have HPw := hid hp
  have HWw := hid hw
  have HZP := hid hzp
  have HSZ := hid hsz
  obtain ⟨ap, cp, rfl, _, _, _⟩ := hp.open
  obtain ⟨aw, cw, rfl, hwc, hwm, _⟩ := hw.open
  clear hp hw hzp hsz
  have HLg := fun n w' => hid (lgB_any n w')
  have x8 := HR0.out.cell 8 (x := .int .i64 st.letter) rfl
  have x5 := HR0.out.cell 5 (x := .int .i64 st.sp) rfl
  have x6 := HR0.out.cell 6 (x := .int .i64 st.stretch) rfl
  have x7 := HR0.out.cell 7 (x := .int .i64 st.shrink) rfl
  have x9 := HR0.out.cell 9 (x := .int .i64 st.hyphen) rfl
  unfold St.cells at HR0 HB0 HP0 HW0 x5 x6 x7 x8 x9 ⊢
  go_enter Try.func14, Try.ntmps14
  go_upto_region 1 with fail
  generalize w.alloc (.cells #[.int .i64 st.width, .int .i64 st.lh, .int .i64 st.nh, .int .i64 st.ph, .int .i64 st.gap, .int .i64 st.sp, .int .i64 st.stretch, .int .i64 st.shrink, .int .i64 st.letter, .int .i64 st.hyphen, .int .i64 st.every, .slice st.pos.1 st.pos.2.1 st.pos.2.2, .slice st.lay.1 st.lay.2.1 st.lay.2.2] 25) = W0 at *
  obtain ⟨Bs, hBs⟩ : ∃ Bs, Bs = w.heap.size := ⟨_, rfl⟩
  rw [← hBs] at HR0 x5 x6 x7 x8 x9 ⊢
  have HBS := hid hBs
  clear hBs
  go_cut [46] from 15 to 47 (fun v wx => v = .bool (!styB st) ∧ wx = W0)
  case first =>
    --RA<
    cases h0 : lgB st.letter with
    | false =>
      have HV : Hid (styB st = false) := by show _ = _; rw [HSV.out]; simp [*]
      have L0 := HLg
      go_wp2_with fail
      refine (HLg _ _).out.mono ?_
      rintro e w1 ⟨rfl, rfl⟩
      rw [h0]
      go_wp2_with fail
      go_meet
      exact ⟨by rw [HV.out]; first | rfl | (simp; omega), rfl⟩
    | true =>
      cases h1 : lgB st.sp with
      | false =>
        have HV : Hid (styB st = false) := by show _ = _; rw [HSV.out]; simp [*]
        have L1 := HLg
        go_wp2_with fail
        refine (HLg _ _).out.mono ?_
        rintro e w1 ⟨rfl, rfl⟩
        rw [h0]
        go_wp2_with fail
        refine (HLg _ _).out.mono ?_
        rintro e w1 ⟨rfl, rfl⟩
        rw [h1]
        go_wp2_with fail
        go_meet
        exact ⟨by rw [HV.out]; first | rfl | (simp; omega), rfl⟩
      | true =>
        cases h2 : lgB st.stretch with
        | false =>
          have HV : Hid (styB st = false) := by show _ = _; rw [HSV.out]; simp [*]
          have L2 := HLg
          go_wp2_with fail
          refine (HLg _ _).out.mono ?_
          rintro e w1 ⟨rfl, rfl⟩
          rw [h0]
          go_wp2_with fail
          refine (HLg _ _).out.mono ?_
          rintro e w1 ⟨rfl, rfl⟩
          rw [h1]
          go_wp2_with fail
          refine (HLg _ _).out.mono ?_
          rintro e w1 ⟨rfl, rfl⟩
          rw [h2]
          go_wp2_with fail
          go_meet
          exact ⟨by rw [HV.out]; first | rfl | (simp; omega), rfl⟩
        | true =>
          cases h3 : lgB st.shrink with
          | false =>
            have HV : Hid (styB st = false) := by show _ = _; rw [HSV.out]; simp [*]
            have L3 := HLg
            go_wp2_with fail
            refine (HLg _ _).out.mono ?_
            rintro e w1 ⟨rfl, rfl⟩
            rw [h0]
            go_wp2_with fail
            refine (HLg _ _).out.mono ?_
            rintro e w1 ⟨rfl, rfl⟩
            rw [h1]
            go_wp2_with fail
            refine (HLg _ _).out.mono ?_
            rintro e w1 ⟨rfl, rfl⟩
            rw [h2]
            go_wp2_with fail
            refine (HLg _ _).out.mono ?_
            rintro e w1 ⟨rfl, rfl⟩
            rw [h3]
            go_wp2_with fail
            go_meet
            exact ⟨by rw [HV.out]; first | rfl | (simp; omega), rfl⟩
          | true =>
            by_cases h4 : 0 ≤ st.hyphen
            · have g4 : ¬ st.hyphen < 0 := by omega
              by_cases h5 : st.hyphen ≤ 10000
              · have g5 : ¬ 10000 < st.hyphen := by omega
                have HV : Hid (styB st = true) := by show _ = _; rw [HSV.out]; simp [*]
                go_wp2_with fail
                refine (HLg _ _).out.mono ?_
                rintro e w1 ⟨rfl, rfl⟩
                rw [h0]
                go_wp2_with fail
                refine (HLg _ _).out.mono ?_
                rintro e w1 ⟨rfl, rfl⟩
                rw [h1]
                go_wp2_with fail
                refine (HLg _ _).out.mono ?_
                rintro e w1 ⟨rfl, rfl⟩
                rw [h2]
                go_wp2_with fail
                refine (HLg _ _).out.mono ?_
                rintro e w1 ⟨rfl, rfl⟩
                rw [h3]
                go_wp2_with fail
                go_meet
                exact ⟨by rw [HV.out]; first | rfl | (simp; omega), rfl⟩
              · have g5 : 10000 < st.hyphen := by omega
                have HV : Hid (styB st = false) := by show _ = _; rw [HSV.out]; simp [*]
                go_wp2_with fail
                refine (HLg _ _).out.mono ?_
                rintro e w1 ⟨rfl, rfl⟩
                rw [h0]
                go_wp2_with fail
                refine (HLg _ _).out.mono ?_
                rintro e w1 ⟨rfl, rfl⟩
                rw [h1]
                go_wp2_with fail
                refine (HLg _ _).out.mono ?_
                rintro e w1 ⟨rfl, rfl⟩
                rw [h2]
                go_wp2_with fail
                refine (HLg _ _).out.mono ?_
                rintro e w1 ⟨rfl, rfl⟩
                rw [h3]
                go_wp2_with fail
                go_meet
                exact ⟨by rw [HV.out]; first | rfl | (simp; omega), rfl⟩
            · have g4 : st.hyphen < 0 := by omega
              have HV : Hid (styB st = false) := by show _ = _; rw [HSV.out]; simp [*]
              go_wp2_with fail
              refine (HLg _ _).out.mono ?_
              rintro e w1 ⟨rfl, rfl⟩
              rw [h0]
              go_wp2_with fail
              refine (HLg _ _).out.mono ?_
              rintro e w1 ⟨rfl, rfl⟩
              rw [h1]
              go_wp2_with fail
              refine (HLg _ _).out.mono ?_
              rintro e w1 ⟨rfl, rfl⟩
              rw [h2]
              go_wp2_with fail
              refine (HLg _ _).out.mono ?_
              rintro e w1 ⟨rfl, rfl⟩
              rw [h3]
              go_wp2_with fail
              go_meet
              exact ⟨by rw [HV.out]; first | rfl | (simp; omega), rfl⟩
    --RA>
  case rest =>
    obtain ⟨rfl, rfl⟩ := hcut
    obtain ⟨W0, rfl⟩ : ∃ W0 : World, W0 = wc := ⟨_, rfl⟩
    clear HSV HLg x5 x6 x7 x8 x9
    cases hst : styB st with
    | false =>
      have HE : Hid (itE st P ws = 2) := by show _ = _; rw [HEV.out, if_pos hst]
      clear hst HEV
      go_wp2_with fail
      refine bodyPost_ret (results_tmp2 rfl _ _ _) rfl ?_
      exact ItR.mk HE.out (fun h => by cases h) (HB0.out)
    | true =>
      rw [if_neg (by rw [hst]; simp)] at HEV
      have HSO := hid (styB_ok hst)
      have HC := hid (hchk_any (.slice ap P.length cp) P W0 HP0.out HZP.out)
      clear hst
      by_cases h0 : hchkI P = 0
      case neg =>
        have HE : Hid (itE st P ws = 1) := by show _ = _; rw [HEV.out, if_pos h0]
        have g2 : (hchkI P != 0) = true := bne_iff_ne.2 h0
        clear h0 HEV
        generalize hchkI P = E at *
        go_wp2_with fail
        refine HC.out.mono ?_
        rintro e w1 ⟨rfl, hb1⟩
        go_wp2_with fail
        refine bodyPost_ret (results_tmp2 rfl _ _ _) rfl ?_
        exact ItR.mk HE.out (fun h => by cases h) (below_tr HB0.out hb1)
      case pos =>
        rw [if_neg (by simp [h0])] at HEV
        have HPK := hid h0
        rw [h0] at HC
        clear h0
        have HCF := hid (fun w' (h : RdWd w' (.slice aw ws.length cw) ws) => containsFnW_any 28 (fun _ _ => rfl) badW _ ws w' h (fun x W' _ _ => pit1_any x W'))
        cases hbw : ws.any badW with
        | true =>
          have HE : Hid (itE st P ws = 1) := by show _ = _; rw [HEV.out, if_pos hbw]
          rw [hbw] at HCF
          clear hbw HEV
          go_wp2_with fail
          refine HC.out.mono ?_
          rintro e w1 ⟨rfl, hb1⟩
          go_wp2_with fail
          refine (HCF.out _ (HW0.out.below hb1)).mono ?_
          rintro e w2 ⟨rfl, hb2⟩
          go_wp2_with fail
          refine bodyPost_ret (results_tmp2 rfl _ _ _) rfl ?_
          exact ItR.mk HE.out (fun h => by cases h) (below_tr HB0.out (below_tr hb1 hb2))
        | false =>
          rw [if_neg (by rw [hbw]; simp)] at HEV
          rw [hbw] at HCF
          clear hbw
          have hl6 : ¬ (4096 : Int) < (ws.length : Int) := by omega
          go_wp2_with fail
          refine HC.out.mono ?_
          rintro e w1 ⟨rfl, hb1⟩
          go_wp2_with fail
          refine (HCF.out _ (HW0.out.below hb1)).mono ?_
          rintro e w2 ⟨rfl, hb2⟩
          have hb12 := below_tr hb1 hb2
          have HI0 : Hid (ItI w Bs st (.slice none 0 0) (itmN st P ws 0) w2) := ⟨HR0.out.below hb12, World.ownsRow_nil _ _ _ _, below_tr HB0.out hb12⟩
          clear hb12 hb1 hb2 HC HCF HR0 HB0 HP0 HW0
          go_wp2_with fail
          go_loopw [8, 59] (fun v8 i wr => ∃ k : Nat, k ≤ ws.length ∧ i = .int .i64 k ∧ Hid (ItI w Bs st v8 (itmN st P ws k) wr)) (fun _ i _ => ws.length - (intOf i).toNat)
          case atStart => exact ⟨0, Nat.zero_le _, rfl, HI0.out⟩
          case round =>
            clear HI0
            obtain ⟨k, hk, rfl, HI⟩ := hrel
            by_cases hlt : k < ws.length
            case pos =>
              --RL<
              have hti : (k : Int) < (ws.length : Int) := by omega
              have hk0 : (0 : Int) ≤ (k : Int) := by omega
              obtain ⟨x, hx⟩ : ∃ x, ws[k]? = some x := ⟨_, List.getElem?_eq_getElem hlt⟩
              obtain ⟨_, _, er, _, _, hcell⟩ := HWw.out.open
              cases er
              obtain ⟨b, off, rfl, hc⟩ := hcell k x hx
              have HX := hid hx
              have hxs := HSZ.out x (List.mem_of_getElem? hx)
              have c0 := Below.keeps HI.out.bel _ _ (hc 0 _ rfl)
              have c1 := Below.keeps HI.out.bel _ _ (hc 1 _ rfl)
              have c2 := Below.keeps HI.out.bel _ _ (hc 2 _ rfl)
              have c3 := Below.keeps HI.out.bel _ _ (hc 3 _ rfl)
              have c4 := Below.keeps HI.out.bel _ _ (hc 4 _ rfl)
              have c5 := Below.keeps HI.out.bel _ _ (hc 5 _ rfl)
              have c6 := Below.keeps HI.out.bel _ _ (hc 6 _ rfl)
              rw [Nat.add_zero] at c0
              have HIN : Hid (itmN st P ws (k + 1) = itmN st P ws k ++ wdI st P k x) := by show _ = _; rw [itmN, hx]
              have hil := itmN_len (st := st) (P := P) HSZ.out k
              have HRX := hid (row_nw wr #[.string x.t, .int .i64 x.c1, .int .i64 x.c2, .int .i64 x.c3, .bool x.jo, .bool x.ve, .string x.nm] 35 rfl)
              have HIX := hid (HI.out.below (below_al wr (.cells #[.string x.t, .int .i64 x.c1, .int .i64 x.c2, .int .i64 x.c3, .bool x.jo, .bool x.ve, .string x.nm] 35)))
              obtain ⟨L, hL⟩ : ∃ L, L = itmN st P ws k := ⟨_, rfl⟩
              rw [← hL] at HI HIX HIN hil
              have HLL := hid hL
              clear hc hcell hx hL
              go_upto_region 10 with fail
              go_cut [9, 10] from 61 to 64 (fun u9 u10 wx => u9 = .int .i64 (k : Int) ∧ u10 = .pointer (some ⟨wr.heap.size, 0, none⟩) ∧ wx = wr.alloc (.cells #[.string x.t, .int .i64 x.c1, .int .i64 x.c2, .int .i64 x.c3, .bool x.jo, .bool x.ve, .string x.nm] 35))
              case first =>
                go_wp2_with fail
                go_meet
                exact ⟨rfl, rfl, rfl⟩
              obtain ⟨rfl, rfl, rfl⟩ := hcut
              rename_i hK0
              refine hK0 _ _ ?_
              clear hK0
              go_step
              clear c0 c1 c2 c3 c4 c5 c6
              generalize wr.alloc (.cells #[.string x.t, .int .i64 x.c1, .int .i64 x.c2, .int .i64 x.c3, .bool x.jo, .bool x.ve, .string x.nm] 35) = W9 at *
              generalize wr.heap.size = B10 at *
              have HPI : Hid (preI st k x = if k = 0 then [] else if x.ve = true then [penV] else if x.jo = true then [] else [glue st]) := rfl
              go_cut [8] from 64 to 88 (fun v wx => Hid (ItI w Bs st v (L ++ preI st k x) wx) ∧ Hid (Row wx B10 #[.string x.t, .int .i64 x.c1, .int .i64 x.c2, .int .i64 x.c3, .bool x.jo, .bool x.ve, .string x.nm] 35))
              case first =>
                --RP<
                by_cases k0 : k = 0
                · subst k0
                  rw [if_pos rfl] at HPI
                  go_wp2_with fail
                  go_meet
                  exact ⟨by rw [HPI.out, List.append_nil]; exact HIX, HRX⟩
                · rw [if_neg k0] at HPI
                  have g0 : ((k : Int) == 0) = false := beq_eq_false_iff_ne.2 (by omega)
                  have v5 := HRX.out.cell 5 (x := .bool x.ve) rfl
                  have v4 := HRX.out.cell 4 (x := .bool x.jo) rfl
                  have ho := HIX.out.own
                  have hsz := HIX.out.bel.size
                  clear k0
                  cases hve : x.ve with
                  | true =>
                    rw [hve] at HPI v5
                    rw [if_pos rfl] at HPI
                    go_wp2_with (at_builtin; refine wpList_ap2 rfl _ _ 30 rfl w.heap.size 43 Try.underlying30 infoItm rfl (by decide) (by decide) _ _ _ rfl ho (encIt (penV)) rfl (by simp [encIt, Value.oneCell']) rfl (by simp) (by omega) hsz ?_; intro g5 cap5 w5 ho5 hb5 hgr5 hat5 _)
                    go_meet
                    exact ⟨by rw [HPI.out]; exact hid (HIX.out.push penV ho5 hb5 hgr5), hid (HRX.out.kgr ho (by decide) hgr5)⟩
                  | false =>
                    rw [hve] at HPI v5
                    rw [if_neg Bool.false_ne_true] at HPI
                    cases hjo : x.jo with
                    | true =>
                      rw [hjo] at HPI v4
                      rw [if_pos rfl] at HPI
                      go_wp2_with fail
                      go_meet
                      exact ⟨by rw [HPI.out, List.append_nil]; exact HIX, HRX⟩
                    | false =>
                      rw [hjo] at HPI v4
                      rw [if_neg Bool.false_ne_true] at HPI
                      have s5 := HIX.out.row.cell 5 (x := .int .i64 st.sp) rfl
                      have s6 := HIX.out.row.cell 6 (x := .int .i64 st.stretch) rfl
                      have s7 := HIX.out.row.cell 7 (x := .int .i64 st.shrink) rfl
                      go_wp2_with (at_builtin; refine wpList_ap2 rfl _ _ 30 rfl w.heap.size 43 Try.underlying30 infoItm rfl (by decide) (by decide) _ _ _ rfl ho (encIt (glue st)) rfl (by simp [encIt, Value.oneCell']) rfl (by simp) (by omega) hsz ?_; intro g5 cap5 w5 ho5 hb5 hgr5 hat5 _)
                      go_meet
                      exact ⟨by rw [HPI.out]; exact hid (HIX.out.push (glue st) ho5 hb5 hgr5), hid (HRX.out.kgr ho (by decide) hgr5)⟩
                --RP>
              case rest =>
                obtain ⟨HI1, HR1⟩ := hcut
                have hpl : (preI st k x).length ≤ 1 := by
                  rw [HPI.out]
                  split
                  · simp
                  split
                  · simp
                  split <;> simp
                have HWD : Hid (wdI st P k x = preI st k x ++ bxN st (prtF P x.t) (prtF P x.t).length) := rfl
                have HPT := hid (fun w' (h : RdG w' (.slice ap P.length cp) P) => parts_any (.slice ap P.length cp) P x.t w' h HZP.out HPK.out hxs)
                have hprl := prtF_len P hxs
                have HPS := hid (prtF_sz P hxs)
                obtain ⟨pr, hpr⟩ : ∃ pr, pr = prtF P x.t := ⟨_, rfl⟩
                rw [← hpr] at HPT HWD hprl HPS
                generalize preI st k x = L0 at *
                have t0 := HR1.out.cell 0 (x := .string x.t) rfl
                clear HPI HIX HRX hpr HI
                go_wp2_with fail
                refine (HPT.out _ (HPw.out.below HI1.out.bel)).mono ?_
                rintro e w11 ⟨v11, rfl, hv11, hb11⟩
                have HI2 := hid (HI1.out.below hb11)
                have HO2 := hid hv11
                obtain ⟨a11, c11, rfl, _⟩ := hv11.rd.open
                clear HI1 HR1 HPT hv11 hb11 t0
                go_wp2_with fail
                go_loopw [8, 100] (fun v8 j wr => ∃ q : Nat, q ≤ pr.length ∧ j = .int .i64 q ∧ Hid (ItI w Bs st v8 (L ++ (L0 ++ bxN st pr q)) wr) ∧ Hid (OwnS wr (.slice a11 pr.length c11) pr)) (fun _ j _ => pr.length - (intOf j).toNat)
                case atStart => exact ⟨0, Nat.zero_le _, rfl, by show ItI _ _ _ _ _ _; rw [bxN, List.append_nil]; exact HI2.out, HO2.out⟩
                case round =>
                  clear HI2 HO2
                  obtain ⟨q, hq, rfl, HI, HO⟩ := hrel
                  by_cases hqt : q < pr.length
                  case pos =>
                    --RI<
                    have htq : (q : Int) < (pr.length : Int) := by omega
                    have hq0 : (0 : Int) ≤ (q : Int) := by omega
                    obtain ⟨y, bp, op, hy, hya, hcy⟩ := HO.out.rd.open51 hqt
                    subst hya
                    have hys := HPS.out y (List.mem_of_getElem? hy)
                    have HBX : Hid (bxN st pr (q + 1) = bxN st pr q ++ ((if q = 0 then [] else [penH st]) ++ [boxI st y])) := by show _ = _; rw [bxN, hy]
                    have hbl := bxN_len st pr q
                    have hcy2 := clN_le y
                    obtain ⟨L1, hL1⟩ : ∃ L1, L1 = L ++ (L0 ++ bxN st pr q) := ⟨_, rfl⟩
                    have hll1 : L1.length ≤ 900 := by rw [hL1, List.length_append, List.length_append]; omega
                    rw [← hL1] at HI
                    have HL1 := hid hL1
                    clear hy hL1
                    go_upto_if 106 with fail
                    go_cut [8] from 106 to 115 (fun v wx => Hid (ItI w Bs st v (L1 ++ (if q = 0 then [] else [penH st])) wx) ∧ Hid (OwnS wx (.slice (some ⟨bp, op, none⟩) pr.length c11) pr))
                    case first =>
                      by_cases q0 : q = 0
                      · subst q0
                        have g0 : ¬ (0 : Int) < ((0 : Nat) : Int) := by omega
                        go_wp2_with fail
                        go_meet
                        exact ⟨by rw [if_pos trivial, List.append_nil]; exact HI, HO⟩
                      · have g0 : (0 : Int) < (q : Int) := by omega
                        have s8 := HI.out.row.cell 8 (x := .int .i64 st.letter) rfl
                        have s9 := HI.out.row.cell 9 (x := .int .i64 st.hyphen) rfl
                        have ho := HI.out.own
                        have hsz := HI.out.bel.size
                        have HQ0 := hid q0
                        clear q0
                        go_wp2_with (at_builtin; refine wpList_ap2 rfl _ _ 30 rfl w.heap.size 43 Try.underlying30 infoItm rfl (by decide) (by decide) _ _ _ rfl ho (encIt (penH st)) rfl (by simp [encIt, Value.oneCell']) rfl (by simp) (by omega) hsz ?_; intro g5 cap5 w5 ho5 hb5 hgr5 hat5 _)
                        go_meet
                        exact ⟨by rw [if_neg HQ0.out]; exact hid (HI.out.push (penH st) ho5 hb5 hgr5), hid (HO.out.kgr ho hgr5)⟩
                    case rest =>
                      obtain ⟨HI3, HO3⟩ := hcut
                      clear HI HO
                      obtain ⟨L2, hL2⟩ : ∃ L2, L2 = L1 ++ (if q = 0 then [] else [penH st]) := ⟨_, rfl⟩
                      have hll : L2.length ≤ 1000 := by
                        rw [hL2, List.length_append]
                        have : (if q = 0 then ([] : List It) else [penH st]).length ≤ 1 := by split <;> simp
                        omega
                      rw [← hL2] at HI3
                      have HL2 := hid hL2
                      have HCU := fun w' => hid (clusN_any y w' (by omega))
                      have EC := enters_of Try.func30 (by kernel_rfl) rfl
                      have s8 := HI3.out.row.cell 8 (x := .int .i64 st.letter) rfl
                      have hw1 : IntKind.i64.wrap (st.letter * (clN y : Int)) = st.letter * (clN y : Int) := by
                        obtain ⟨h1, h2⟩ := HSO.out.le
                        have h3 : 0 ≤ st.letter * (clN y : Int) := Int.mul_nonneg h1 (by omega)
                        have h4 : st.letter * (clN y : Int) ≤ 1073741824 * 20 := Int.mul_le_mul h2 (by omega) (by omega) (by omega)
                        exact IntWalk.i64_in _ (by omega)
                      obtain ⟨W3, rfl⟩ : ∃ W3 : World, W3 = wc := ⟨_, rfl⟩
                      clear hL2
                      go_upto_region 24 with fail
                      --RQ<
                      have HI3d := hid (HI3.out.below (Below.refl W3.heap.size W3).drew)
                      have HO3d := hid (HO3.out.below (Below.refl W3.heap.size W3).drew)
                      have s8d := HI3d.out.row.cell 8 (x := .int .i64 st.letter) rfl
                      have HREL : Hid (L2 ++ [boxI st y] = L ++ (L0 ++ bxN st pr (q + 1))) := by
                        show _ = _
                        rw [HBX.out, HL2.out, HL1.out]
                        simp only [List.append_assoc]
                      clear HI3 HO3 s8
                      go_region_law (first
                        | (refine step_clus rfl 30 EC (.tmp 118) #[9] rfl (.string y) (by rfl) (clN y) (HCU _).out ?_; intro ad6 c6 w6 hB6; have HI6 := hid ((HI3d.out.below hB6).below (below_al w6 (.cells (encIt (boxI st y)).toArray 43))); have HO6 := hid ((HO3d.out.below hB6).below (below_al w6 (.cells (encIt (boxI st y)).toArray 43))); have z8 := Below.keeps hB6 _ _ s8d)
                        | (refine step_ap rfl (.tmp 115) (.tmp 124) 30 rfl w.heap.size 43 Try.underlying30 infoItm rfl (by decide) (by decide) u8 L2.length (L2.flatMap encIt) ?_ ?_ 1 (by decide) (encIt (boxI st y)) rfl ?_ w6.heap.size ?_ ?_ ?_ ?_ ?_; (focus (first | rfl | (simp [Act.eval]; done))); (focus (exact HI6.out.own)); (focus (simp [encIt, Value.oneCell']; done)); (focus (first | rfl | (simp [Act.eval]; done))); (focus (intro j u hj; exact cell_nw w6 (encIt (boxI st y)).toArray _ j (by simpa using hj))); (focus omega); (focus (exact HI6.out.bel.size)); intro g9 c9 w9 ho9 hb9 hg9 hat9; have HI9 := hid (HI6.out.push (boxI st y) ho9 hb9 hg9); have HO9 := hid (HO6.out.kgr HI6.out.own hg9)))
                      all_goals (go_wp2_with fail; go_roundw)
                      all_goals (first | (simp [intOf]; omega; done) | exact ⟨q + 1, by omega, by go_num, by rw [← HREL.out]; exact HI9.out, HO9.out⟩)
                      --RQ>
                    --RI>
                  case neg =>
                    --RE<
                    obtain rfl : q = pr.length := by omega
                    have htq : ¬ (pr.length : Int) < (pr.length : Int) := by omega
                    rw [HWD.out] at HIN
                    rw [← HIN.out] at HI
                    go_wp2_with fail
                    go_roundw
                    case rel => exact ⟨k + 1, by omega, by go_num, HI.out⟩
                    case measure => simp [intOf]; omega
                    --RE>
              --RL>
            case neg =>
              --RN<
              obtain rfl : k = ws.length := by omega
              have hti : ¬ (ws.length : Int) < (ws.length : Int) := by omega
              have HF : Hid (itmF st P ws = itmN st P ws ws.length) := rfl
              rw [HF.out] at HEV
              have hil := itmN_len (st := st) (P := P) HSZ.out ws.length
              obtain ⟨L, hL⟩ : ∃ L, L = itmN st P ws ws.length := ⟨_, rfl⟩
              have HIS : Hid (∀ x ∈ L, ItS x) := by rw [hL]; exact itmN_s HSO.out HSZ.out _
              rw [← hL] at HI HEV hil HF
              clear hL
              have HRD := hid (rdIt_own HI.out.own)
              have HCK := hid (ckits_any _ L wr HRD.out HIS.out)
              obtain ⟨a8, c8, e8, _⟩ := HRD.out.open
              subst e8
              by_cases h0 : ckIts L = 0
              · rw [if_neg (by simp [h0])] at HEV
                rw [h0] at HCK
                clear h0
                go_wp2_with fail
                refine HCK.out.mono ?_
                rintro e w3 ⟨rfl, hb3⟩
                go_wp2_with fail
                refine bodyPost_ret (results_tmp2 rfl _ _ _) rfl ?_
                exact ItR.mk HEV.out (fun _ => by rw [HF.out]; exact HRD.out.below hb3) (below_tr HI.out.bel hb3)
              · rw [if_pos h0] at HEV
                have g2 : (ckIts L != 0) = true := bne_iff_ne.2 h0
                clear h0
                generalize ckIts L = E at *
                go_wp2_with fail
                refine HCK.out.mono ?_
                rintro e w3 ⟨rfl, hb3⟩
                go_wp2_with fail
                refine bodyPost_ret (results_tmp2 rfl _ _ _) rfl ?_
                exact ItR.mk HEV.out (fun h => by cases h) (below_tr HI.out.bel hb3)
              --RN>
end Go.Proofs.Ytalpgilncohkbaa
