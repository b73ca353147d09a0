/-
  TopParagraphHyphens: the walk.
-/
import Derived.Test.YtalpgilncohkbaaPl48
import Derived.Test.YtalpgilncohkbaaAwk48
import Derived.Deep.RegionWith
namespace Go.Proofs.Ytalpgilncohkbaa
open Go.RowKit
attribute [local go_sem] Oper.semAt_some

theorem rdWd_at {W : World} {a : Option Addr} {n c : Nat} {l : List Wd} (h : RdWd W (.slice a n c) l) {i : Nat} {x : Wd} (hx : l[i]? = some x) : ∃ b off, a = some ⟨b, off, none⟩ ∧ W.cell? ⟨b, off + i * 7, none⟩ = some (.string x.t) := by
  obtain ⟨a', c', e, _, _, h4⟩ := h
  cases e
  obtain ⟨b, off, rfl, h5⟩ := h4 i x hx
  exact ⟨b, off, rfl, h5 0 _ rfl⟩
set_option maxRecDepth 100000 in
set_option maxHeartbeats 8000000 in
theorem tph_any (st : St) (ap : Option Addr) (cp : Nat) (aw : Option Addr) (cw : Nat) (P : List Grp) (ws : List Wd) (wd : Int) (w : World) (hp : RdG w (.slice ap P.length cp) P) (hzp : SzG P) (hw : RdWd w (.slice aw ws.length cw) ws) :
    Calls Try.prog 3 #[.agg #[.int .i64 st.width, .int .i64 st.lh, .int .i64 st.nh, .int .i64 st.ph, .int .i64 st.gap, .int .i64 st.sp, .int .i64 st.stretch, .int .i64 st.shrink, .int .i64 st.letter, .int .i64 st.hyphen, .int .i64 st.every, .slice st.pos.1 st.pos.2.1 st.pos.2.2, .slice st.lay.1 st.lay.2.1 st.lay.2.2, .slice ap P.length cp, .slice aw ws.length cw], .int .i64 wd] w fun e w' => e = .returned (.bool true) ∧ Below w.heap.size w w' := by
  have HB0 := hid (below_al w (.cells #[.int .i64 st.width, .int .i64 st.lh, .int .i64 st.nh, .int .i64 st.ph, .int .i64 st.gap, .int .i64 st.sp, .int .i64 st.stretch, .int .i64 st.shrink, .int .i64 st.letter, .int .i64 st.hyphen, .int .i64 st.every, .slice st.pos.1 st.pos.2.1 st.pos.2.2, .slice st.lay.1 st.lay.2.1 st.lay.2.2, .slice ap P.length cp, .slice aw ws.length cw] 29))
  have HR0 := hid (row_nw w #[.int .i64 st.width, .int .i64 st.lh, .int .i64 st.nh, .int .i64 st.ph, .int .i64 st.gap, .int .i64 st.sp, .int .i64 st.stretch, .int .i64 st.shrink, .int .i64 st.letter, .int .i64 st.hyphen, .int .i64 st.every, .slice st.pos.1 st.pos.2.1 st.pos.2.2, .slice st.lay.1 st.lay.2.1 st.lay.2.2, .slice ap P.length cp, .slice aw ws.length cw] 29 rfl)
  have HP := hid (fun w' (h : Below w.heap.size w w') => hp.below h)
  have HW := hid (fun w' (h : Below w.heap.size w w') => hw.below h)
  have HZP := hid hzp
  have HCW := hid (fun w' (h : RdWd w' (.slice aw ws.length cw) ws) => containsFnW_any 6 (fun _ _ => rfl) (fun x => decide (x.t.size = 0)) _ ws w' h (fun x W' _ _ => tph1_any x W'))
  have HIT := hid (fun w' (h1 : RdG w' (.slice ap P.length cp) P) (h2 : RdWd w' (.slice aw ws.length cw) ws) => top48_any st ap cp aw cw P ws w' h1 hzp h2)
  obtain ⟨_, _, _, hlp, hmp, _⟩ := hp.open
  obtain ⟨_, _, _, hlw, hmw, _⟩ := hw.open
  clear hp hzp hw
  have x0 := HR0.out.cell 0 (x := .int .i64 st.width) rfl
  have x1 := HR0.out.cell 1 (x := .int .i64 st.lh) rfl
  have x2 := HR0.out.cell 2 (x := .int .i64 st.nh) rfl
  have x3 := HR0.out.cell 3 (x := .int .i64 st.ph) rfl
  have x4 := HR0.out.cell 4 (x := .int .i64 st.gap) rfl
  have x5 := HR0.out.cell 5 (x := .int .i64 st.sp) rfl
  have x6 := HR0.out.cell 6 (x := .int .i64 st.stretch) rfl
  have x7 := HR0.out.cell 7 (x := .int .i64 st.shrink) rfl
  have x8 := HR0.out.cell 8 (x := .int .i64 st.letter) rfl
  have x9 := HR0.out.cell 9 (x := .int .i64 st.hyphen) rfl
  have x10 := HR0.out.cell 10 (x := .int .i64 st.every) rfl
  have x11 := HR0.out.cell 11 (x := .slice st.pos.1 st.pos.2.1 st.pos.2.2) rfl
  have x12 := HR0.out.cell 12 (x := .slice st.lay.1 st.lay.2.1 st.lay.2.2) rfl
  have x13 := HR0.out.cell 13 (x := .slice ap P.length cp) rfl
  have x14 := HR0.out.cell 14 (x := .slice aw ws.length cw) rfl
  go_enter Try.func3, Try.ntmps3
  go_upto_region 1 with fail
  generalize w.alloc (.cells #[.int .i64 st.width, .int .i64 st.lh, .int .i64 st.nh, .int .i64 st.ph, .int .i64 st.gap, .int .i64 st.sp, .int .i64 st.stretch, .int .i64 st.shrink, .int .i64 st.letter, .int .i64 st.hyphen, .int .i64 st.every, .slice st.pos.1 st.pos.2.1 st.pos.2.2, .slice st.lay.1 st.lay.2.1 st.lay.2.2, .slice ap P.length cp, .slice aw ws.length cw] 29) = W0 at *
  obtain ⟨Bs, hBs⟩ : ∃ Bs, Bs = w.heap.size := ⟨_, rfl⟩
  rw [← hBs] at HR0 x0 x1 x2 x3 x4 x5 x6 x7 x8 x9 x10 x11 x12 x13 x14 ⊢
  have HBS := hid hBs
  clear hBs
  go_wp2_with fail
  refine (HIT.out W0 (HP.out _ HB0.out) (HW.out _ HB0.out)).mono ?_
  rintro e w1 ⟨v1, ok, rfl, hk, hb1⟩
  have HB1 := hid (below_tr HB0.out hb1)
  have HR1 := hid (HR0.out.below hb1)
  have HK := hid hk
  clear hb1 HR0 x0 x1 x2 x3 x4 x5 x6 x7 x8 x9 x10 x11 x12 x13 x14 hk HIT
  have x13 := HR1.out.cell 13 (x := .slice ap P.length cp) rfl
  have x14 := HR1.out.cell 14 (x := .slice aw ws.length cw) rfl
  cases ok with
  | false =>
    go_wp2_with fail
    refine (awake48_any _).mono ?_
    rintro e w2 ⟨rfl, hb2⟩
    have HB2 := hid (below_tr HB1.out hb2)
    clear hb2
    go_wp2_with fail
    go_ret
    exact ⟨rfl, HB2.out⟩
  | true =>
  by_cases g1 : wd < 0
  · go_wp2_with fail
    refine (awake48_any _).mono ?_
    rintro e w2 ⟨rfl, hb2⟩
    have HB2 := hid (below_tr HB1.out hb2)
    clear hb2
    go_wp2_with fail
    go_ret
    exact ⟨rfl, HB2.out⟩
  by_cases g2 : (1073741824 : Int) < wd
  · go_wp2_with fail
    refine (awake48_any _).mono ?_
    rintro e w2 ⟨rfl, hb2⟩
    have HB2 := hid (below_tr HB1.out hb2)
    clear hb2
    go_wp2_with fail
    go_ret
    exact ⟨rfl, HB2.out⟩
  have d1 : 0 ≤ wd := by omega
  have d2 : wd ≤ 1073741824 := by omega
  clear g1 g2
  generalize ws.any (fun x => decide (x.t.size = 0)) = bz at HCW
  have HKK := hid (HK.out rfl)
  obtain ⟨l, hl⟩ : ∃ l, l = itmF st P ws := ⟨_, rfl⟩
  have HS : Hid (∀ x ∈ l, ItS x) := by
    rw [hl]
    exact itmN_s (itE_ok HKK.out.e).1 (fun x hx => by have := HKK.out.wz x hx; omega) ws.length
  have HOK : Hid (ckIts l = 0) := by rw [hl]; exact (itE_ok HKK.out.e).2.2.2
  have HG : Hid (Good P ws l 0 0) := by rw [hl]; exact hyphens_plain HKK.out.e
  have HRD := hid HKK.out.rd
  rw [← hl] at HRD
  have HWZ := hid HKK.out.wz
  have hw5 := HKK.out.w5
  clear hl HK HKK
  obtain ⟨av, cv, rfl, hlc, hcm, _⟩ := HRD.out.open
  have hl4 := (ckIts_ok HOK.out).1
  go_wp2_with fail
  refine (HCW.out _ (HW.out _ HB1.out)).mono ?_
  rintro e w2 ⟨rfl, hb2⟩
  have HB2 := hid (below_tr HB1.out hb2)
  have HR2 := hid (HR1.out.below hb2)
  have HRD2 := hid (HRD.out.below hb2)
  clear hb2 HR1 HRD HCW x13 x14 HB1
  cases bz with
  | true =>
    go_wp2_with fail
    refine (awake48_any _).mono ?_
    rintro e w3 ⟨rfl, hb3⟩
    have HB3 := hid (below_tr HB2.out hb3)
    clear hb3
    go_wp2_with fail
    go_ret
    exact ⟨rfl, HB3.out⟩
  | false =>
  go_wp2_with fail
  by_cases h0 : 0 ≤ potL l wd 0
  case neg =>
    refine (hbk_no _ l wd w2 HRD2.out HS.out HOK.out (by omega) (by omega) (by omega)).mono ?_
    rintro e w3 ⟨rfl, hb3⟩
    have HB3 := hid (below_tr HB2.out hb3)
    clear hb3 h0
    go_wp2_with fail
    refine (awake48_any _).mono ?_
    rintro e w4 ⟨rfl, hb4⟩
    have HB4 := hid (below_tr HB3.out hb4)
    clear hb4
    go_wp2_with fail
    go_ret
    exact ⟨rfl, HB4.out⟩
  case pos =>
  refine (hbk_any _ l wd w2 HRD2.out HS.out HOK.out (by omega) (by omega) h0).mono ?_
  rintro e w3 ⟨vb, rfl, hrb, hb3⟩
  obtain ⟨B, hB⟩ : ∃ B, B = (brkL l wd).map Int.ofNat := ⟨_, rfl⟩
  rw [← hB] at hrb
  have HRB := hid hrb
  have HB3 := hid (below_tr HB2.out hb3)
  have HR3 := hid (HR2.out.below hb3)
  have HRD3 := hid (HRD2.out.below hb3)
  clear hb3 h0 hrb hB HR2 HRD2 HB2 HS HOK d1 d2
  generalize potL l wd 0 = p0 at *
  go_wp2_with fail
  go_loopw [10, 11, 53] (fun iw io ik wr => ∃ (k wi off : Nat), k ≤ l.length ∧ ik = .int .i64 k ∧ iw = .int .i64 wi ∧ io = .int .i64 off ∧ off ≤ 10 ∧ wi ≤ 5 ∧ Hid (Good P ws (l.drop k) wi off) ∧ Hid (Below w3.heap.size w3 wr)) (fun _ _ ik _ => l.length - (intOf ik).toNat)
  case atStart => exact ⟨0, 0, 0, Nat.zero_le _, rfl, rfl, rfl, Nat.zero_le _, Nat.zero_le _, HG.out, Below.refl _ _⟩
  case round =>
    rename_i wr
    obtain ⟨k, wi, off, hk, rfl, rfl, rfl, ho10, hwi5, HGD, HBW⟩ := hrel
    have HRr := hid (HR3.out.below HBW.out)
    have HRDr := hid (HRD3.out.below HBW.out)
    have HBr := hid (below_tr HB3.out HBW.out)
    have x13 := HRr.out.cell 13 (x := .slice ap P.length cp) rfl
    have x14 := HRr.out.cell 14 (x := .slice aw ws.length cw) rfl
    by_cases hlt : k < l.length
    case neg =>
      have hti : ¬ (k : Int) < (l.length : Int) := by omega
      have HE : Hid (wi = ws.length) := by
        have h := HGD.out
        rw [List.drop_eq_nil_of_le (by omega)] at h
        exact h
      obtain rfl := HE.out
      go_wp2_with fail
      refine (awake48_any _).mono ?_
      rintro e w4 ⟨rfl, hb4⟩
      have HB4 := hid (below_tr HBr.out hb4)
      clear hb4
      go_wp2_with fail
      go_ret
      exact ⟨rfl, HB4.out⟩
    case pos =>
    have hti : (k : Int) < (l.length : Int) := by omega
    have hk0 : (0 : Int) ≤ (k : Int) := by omega
    obtain ⟨y, b, o, hy, rfl, c0, c1, c2, c3, c4, c5⟩ := RdIt.at HRDr.out hlt
    have HGY : Hid (Good P ws (y :: l.drop (k + 1)) wi off) := by
      have h := HGD.out
      rw [List.drop_eq_getElem_cons hlt] at h
      have e : l[k] = y := Option.some.inj ((List.getElem?_eq_getElem hlt).symm.trans hy)
      rw [e] at h
      exact h
    clear hy HGD
    have wk : IntKind.i64.wrap ((k : Int) + 1) = ((k + 1 : Nat) : Int) := by rw [← Int.natCast_succ]; exact IntWalk.i64_in _ (by omega)
    have z13 := cell_al x13 (.cells #[.int .i64 y.k, .int .i64 y.w, .int .i64 y.s, .int .i64 y.h, .int .i64 y.p, .string y.t] 43)
    have z14 := cell_al x14 (.cells #[.int .i64 y.k, .int .i64 y.w, .int .i64 y.s, .int .i64 y.h, .int .i64 y.p, .string y.t] 43)
    have HB' := hid (below_al wr (.cells #[.int .i64 y.k, .int .i64 y.w, .int .i64 y.s, .int .i64 y.h, .int .i64 y.p, .string y.t] 43))
    have HBW2 := hid (below_tr HBW.out HB'.out)
    by_cases hk1 : y.k = 1
    · have i1 : (y.k == 1) = true := by rw [hk1]; rfl
      obtain ⟨x, hx, hle, hG⟩ : ∃ x, ws[wi]? = some x ∧ off + y.t.size ≤ x.t.size ∧ Good P ws (l.drop (k + 1)) (if off + y.t.size = x.t.size then wi + 1 else wi) (if off + y.t.size = x.t.size then 0 else off + y.t.size) := by
        have h := HGY.out
        rw [Good, if_pos hk1] at h
        exact h
      have hwl : wi < ws.length := (List.getElem?_eq_some_iff.1 hx).1
      have j1 : ¬ (ws.length : Int) ≤ (wi : Int) := by omega
      have j2 : (wi : Int) < (ws.length : Int) := by omega
      have j3 : (0 : Int) ≤ (wi : Int) := by omega
      obtain ⟨bw, ow, rfl, cw0⟩ := rdWd_at ((HW.out _ HBr.out)) hx
      have zw0 := cell_al cw0 (.cells #[.int .i64 y.k, .int .i64 y.w, .int .i64 y.s, .int .i64 y.h, .int .i64 y.p, .string y.t] 43)
      have hx10 := HWZ.out x (List.mem_of_getElem? hx)
      obtain ⟨o2, ho2⟩ : ∃ o2, o2 = off + y.t.size := ⟨_, rfl⟩
      have w1 : IntKind.i64.wrap ((off : Int) + (y.t.size : Int)) = (o2 : Int) := by rw [show (off : Int) + (y.t.size : Int) = (o2 : Int) by omega]; exact IntWalk.i64_in _ (by omega)
      have w2 : IntKind.i64.wrap ((wi : Int) + 1) = ((wi + 1 : Nat) : Int) := by rw [← Int.natCast_succ]; exact IntWalk.i64_in _ (by omega)
      rw [← ho2] at hG hle
      have HG := hid hG
      clear hG hx HGY hk1
      by_cases heq : o2 = x.t.size
      · have i2 : ((o2 : Int) == (x.t.size : Int)) = true := by rw [heq]; simp
        rw [if_pos heq, if_pos heq] at HG
        clear heq
        go_wp2_with fail
        go_roundw
        case rel => exact ⟨k + 1, wi + 1, 0, by omega, by go_num, by go_num, rfl, by omega, by omega, HG.out, HBW2.out⟩
        case measure => simp [intOf]; omega
      · have i2 : ((o2 : Int) == (x.t.size : Int)) = false := beq_eq_false_iff_ne.2 (by omega)
        rw [if_neg heq, if_neg heq] at HG
        clear heq
        go_wp2_with fail
        go_roundw
        case rel => exact ⟨k + 1, wi, o2, by omega, by go_num, rfl, by rw [ho2, Int.natCast_add], by omega, by omega, HG.out, HBW2.out⟩
        case measure => simp [intOf]; omega
    · have i1 : (y.k == 1) = false := beq_eq_false_iff_ne.2 hk1
      obtain ⟨hor, hG⟩ : (off = 0 ∨ ∃ x, ws[wi]? = some x ∧ y.t = eqS ∧ hckI P x.t = 0 ∧ (off : Int) ∈ (ptsF P x.t).map Int.ofNat) ∧ Good P ws (l.drop (k + 1)) wi off := by
        have h := HGY.out
        rw [Good, if_neg hk1] at h
        exact h
      have HG := hid hG
      have HOR := hid hor
      clear hG hor hk1 HGY
      by_cases h00 : off = 0
      · subst h00
        clear HOR
        go_wp2_with fail
        go_roundw
        case rel => exact ⟨k + 1, wi, 0, by omega, by go_num, rfl, rfl, by omega, by omega, HG.out, HBW2.out⟩
        case measure => simp [intOf]; omega
      · have i2 : ((off : Int) == 0) = false := beq_eq_false_iff_ne.2 (by omega)
        have HRB2 := hid (HRB.out.below HBW2.out)
        cases hcb : B.any (fun z => decide ((k : Int) = z)) with
        | false =>
          have HC1 := hid (containsI_any vb B (k : Int) _ HRB2.out)
          rw [hcb] at HC1
          clear hcb h00 HOR
          go_wp2_with fail
          refine HC1.out.mono ?_
          rintro e w4 ⟨rfl, rfl⟩
          go_wp2_with fail
          go_roundw
          case rel => exact ⟨k + 1, wi, off, by omega, by go_num, rfl, rfl, by omega, by omega, HG.out, HBW2.out⟩
          case measure => simp [intOf]; omega
        | true =>
          have HC1 := hid (containsI_any vb B (k : Int) _ HRB2.out)
          rw [hcb] at HC1
          clear hcb
          obtain ⟨x, hx, hye, hc, hm⟩ : ∃ x, ws[wi]? = some x ∧ y.t = eqS ∧ hckI P x.t = 0 ∧ (off : Int) ∈ (ptsF P x.t).map Int.ofNat := HOR.out.resolve_left h00
          have hwl : wi < ws.length := (List.getElem?_eq_some_iff.1 hx).1
          have j2 : (wi : Int) < (ws.length : Int) := by omega
          have j3 : (0 : Int) ≤ (wi : Int) := by omega
          obtain ⟨bw, ow, rfl, cw0⟩ := rdWd_at ((HW.out _ HBr.out)) hx
          have hx10 := HWZ.out x (List.mem_of_getElem? hx)
          have zw0 := cell_al cw0 (.cells #[.int .i64 y.k, .int .i64 y.w, .int .i64 y.s, .int .i64 y.h, .int .i64 y.p, .string y.t] 43)
          have zy := cell_nw wr #[.int .i64 y.k, .int .i64 y.w, .int .i64 y.s, .int .i64 y.h, .int .i64 y.p, .string y.t] 43 5 (x := .string y.t) rfl
          have HPT := hid (fun w' (h : RdG w' (.slice ap P.length cp) P) => hpoints_any _ P x.t w' h HZP.out (by omega))
          rw [hc] at HPT
          have HMM := hid hm
          have HB5 := hid (below_tr HBr.out HB'.out)
          have HYE := hid hye
          clear hye hx hc hm HOR h00 cw0 hwl hx10
          go_wp2_with fail
          refine HC1.out.mono ?_
          rintro e w4 ⟨rfl, rfl⟩
          go_upto_region 18 with fail
          clear c0 c1 c2 c3 c4 c5 x13 x14 HC1
          generalize wr.alloc (.cells #[.int .i64 y.k, .int .i64 y.w, .int .i64 y.s, .int .i64 y.h, .int .i64 y.p, .string y.t] 43) = W5 at *
          go_cut [14, 15] from 90 to 102 (fun pv ev wx => ev = .int .i64 0 ∧ Hid (RdI wx pv ((ptsF P x.t).map Int.ofNat)) ∧ Hid (Below W5.heap.size W5 wx))
          case first => as_aux_lemma =>
            go_region_with (go_at_call 10; refine (HPT.out _ (HP.out _ (below_tr HB5.out (Below.refl _ W5).drew))).mono ?_; rintro e w6 ⟨vp, rfl, hrp, hb6⟩)
            all_goals go_wp2_with fail
            all_goals go_meet
            all_goals exact ⟨rfl, hrp trivial, below_tr (Below.refl _ W5).drew hb6⟩
          case rest =>
          obtain ⟨rfl, HRP, HB6⟩ := hcut
          have y5 := Below.keeps HB6.out _ _ zy
          have HC2 := hid (containsI_any u14 ((ptsF P x.t).map Int.ofNat) (off : Int) wc HRP.out)
          have hany : (((ptsF P x.t).map Int.ofNat).any fun z => decide ((off : Int) = z)) = true := List.any_eq_true.2 ⟨_, HMM.out, decide_eq_true rfl⟩
          rw [hany] at HC2
          have HBW3 := hid (below_tr HBW2.out HB6.out)
          rw [HYE.out] at y5
          unfold eqS at y5
          clear HYE
          clear hany zy z13 z14 zw0 HRP HB6 HPT
          go_wp2_with fail
          refine HC2.out.mono ?_
          rintro e w7 ⟨rfl, rfl⟩
          go_wp2_with fail
          go_roundw
          case rel => exact ⟨k + 1, wi, off, by omega, by go_num, rfl, rfl, by omega, by omega, HG.out, HBW3.out⟩
          case measure => simp [intOf]; omega
end Go.Proofs.Ytalpgilncohkbaa
