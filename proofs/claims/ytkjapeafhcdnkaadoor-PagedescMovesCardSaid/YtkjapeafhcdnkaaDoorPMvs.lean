/-
  The law PagedescMoves: the walk.
-/
import Derived.Test.YtkjapeafhcdnkaaDoorAwk53
import Derived.Test.YtkjapeafhcdnkaaDoorGrt53
import Derived.Test.YtkjapeafhcdnkaaDoorRck53
import Derived.Test.YtkjapeafhcdnkaaDoorOvl
import Derived.Test.YtkjapeafhcdnkaaDoorMvW
import Derived.Test.YtkjapeafhcdnkaaDoorPlMv
import Derived.Test.YtkjapeafhcdnkaaDoorSame53
namespace Go.Proofs.YtkjapeafhcdnkaaDoor
open Go.RowKit

theorem bounds_in {l : List Bx} {b0 : Bx} (h : ∀ b ∈ l, boxI b = 0) (h0 : l[0]? = some b0) : 0 ≤ fX b0.x l ∧ fX b0.x l ≤ 1073741824 ∧ 0 ≤ fY b0.y l ∧ fY b0.y l ≤ 1073741824 ∧ 0 ≤ fR (b0.x + b0.wd) l ∧ fR (b0.x + b0.wd) l ≤ 2147483648 ∧ 0 ≤ fD b0.y l ∧ fD b0.y l ≤ 1073741824 := by
  have hb := h b0 (List.mem_of_getElem? h0)
  have key : ∀ (l : List Bx) (a b c d : Int), (∀ x ∈ l, boxI x = 0) → 0 ≤ a → a ≤ 1073741824 → 0 ≤ b → b ≤ 1073741824 → 0 ≤ c → c ≤ 2147483648 → 0 ≤ d → d ≤ 1073741824 →
      0 ≤ fX a l ∧ fX a l ≤ 1073741824 ∧ 0 ≤ fY b l ∧ fY b l ≤ 1073741824 ∧ 0 ≤ fR c l ∧ fR c l ≤ 2147483648 ∧ 0 ≤ fD d l ∧ fD d l ≤ 1073741824 := by
    intro l
    induction l with
    | nil => intro a b c d _ h1 h2 h3 h4 h5 h6 h7 h8; exact ⟨h1, h2, h3, h4, h5, h6, h7, h8⟩
    | cons x r ih =>
      intro a b c d hx h1 h2 h3 h4 h5 h6 h7 h8
      obtain ⟨_, _, x1, x2, y1, y2, w1, w2, _⟩ := bx_good (hx x (by simp))
      exact ih (min a x.x) (min b x.y) (max c (x.x + x.wd)) (max d x.y) (fun y hy => hx y (by simp [hy])) (by omega) (by omega) (by omega) (by omega) (by omega) (by omega) (by omega) (by omega)
  obtain ⟨_, _, x1, x2, y1, y2, w1, w2, _⟩ := bx_good hb
  exact key l _ _ _ _ h (by omega) (by omega) (by omega) (by omega) (by omega) (by omega) (by omega) (by omega)

set_option maxRecDepth 100000 in
set_option maxHeartbeats 4000000 in
theorem pmoves_any (p : Pg) (v : Value) (dx dy ht m : Int) (w : World) (he : Env w) (hm : w.cell? ⟨0, 0, none⟩ = some (.int .i64 m)) (hr : RdB w v p.bx) (hz : SzB p.bx) (hx1 : -32768 ≤ dx) (hx2 : dx ≤ 32767) (hy1 : -32768 ≤ dy) (hy2 : dy ≤ 32767) (hh1 : 0 ≤ ht) (hh2 : ht ≤ 65535) :
    Calls Tryd.prog 10 #[.agg #[.int .i64 p.num, v], .int .i16 dx, .int .i16 dy, .int .u16 ht] w fun e w' => e = .returned (.bool true) ∧ Below w.heap.size w w' := by
  have AW := fun w' (h : Below w.heap.size w w') => hid (awake53_any m w' (he.below h) (Below.keeps h _ _ hm))
  have hb1 := below_al w (.cells #[.int .i64 p.num, v] 34)
  have hro := hid (row_nw w #[.int .i64 p.num, v] 34 rfl)
  obtain ⟨ad, cap, rfl, hlc, hcm, hcell⟩ := hr.open
  have hb2 := below_tr hb1 (below_al (w.alloc (.cells #[.int .i64 p.num, .slice ad p.bx.length cap] 34)) (.cells #[.int .i64 p.num, .slice ad p.bx.length cap] 34))
  have hrg : Row _ (w.heap.size + 1) #[.int .i64 p.num, .slice ad p.bx.length cap] 34 := row_nw (w.alloc (.cells #[.int .i64 p.num, .slice ad p.bx.length cap] 34)) #[.int .i64 p.num, .slice ad p.bx.length cap] 34 (by simp)
  have HRG := hid hrg
  have HCK := fun w' (h : Below w.heap.size w w') => hid (rpcheck_any p _ w' (hr.below h) hz)
  have hro2 := hid (hro.out.al (.cells #[.int .i64 p.num, .slice ad p.bx.length cap] 34))
  have HR := hid hr
  clear hrg he hm hcell hro hr
  go_enter Tryd.func10, Tryd.ntmps10
  go_wp2_with fail
  generalize (w.alloc (.cells #[.int .i64 p.num, .slice ad p.bx.length cap] 34)).alloc (.cells #[.int .i64 p.num, .slice ad p.bx.length cap] 34) = w1 at *
  have hpg : RdPg w1 (.slice (some ⟨w.heap.size + 1, 0, none⟩) 1 1) [p] := rdPg_one (HRG.out.cell 0 rfl) (HRG.out.cell 1 rfl) (HR.out.below hb2)
  have HGR := great53_any _ [p] w1 hpg (fun q hq => by
    have : q = p := by simpa using hq
    rw [this]; exact hz)
  refine HGR.mono ?_
  clear HGR
  rintro e w2 ⟨⟨b, rfl, _⟩, rfl⟩
  have p0 := hro2.out.cell 0 rfl
  have p1 := hro2.out.cell 1 rfl
  cases b with
  | true =>
    go_wp2_with fail
    refine (AW _ hb2).out.mono ?_
    rintro e w3 ⟨rfl, hB3⟩
    go_wp2
    go_ret
    exact ⟨rfl, below_tr hb2 hB3⟩
  | false =>
    have HC := HCK _ hb2
    go_wp2_with fail
    refine HC.out.mono ?_
    rintro e w3 ⟨rfl, hB3⟩
    have hb3 := below_tr hb2 hB3
    have hro3 := hid (hro2.out.below hB3)
    clear HC HCK p0 p1 hro2 hb1 hb2 hB3 HRG hpg
    have p0 := hro3.out.cell 0 rfl
    have p1 := hro3.out.cell 1 rfl
    by_cases hg : pgI p = 0
    · have hq : (pgI p != 0) = false := by simp [hg]
      have hf : mvFar dx dy = false := by unfold mvFar; simp; omega
      have HMV := hid (move_yes p _ dx dy w3 (HR.out.below hb3) hz hg hf)
      have hcx : IntKind.i64.wrap dx = dx := IntWalk.i64_in _ (by omega)
      have hcy : IntKind.i64.wrap dy = dy := IntWalk.i64_in _ (by omega)
      have HGP := hid hg
      clear hg hf
      go_wp2_with fail
      refine HMV.out.mono ?_
      rintro e w4 hmv
      cases hall : p.bx.all (mvOk dx dy) with
      | false =>
        obtain ⟨rfl, hB4⟩ := hmv.2 hall
        have hb4 := below_tr hb3 hB4
        have hb5 := hid (below_tr hb4 (below_al w4 (.cells #[.int .i64 0, .slice none 0 0] 34)))
        have hr5 := row_nw w4 #[.int .i64 0, .slice none 0 0] 34 rfl
        have c0 := hr5.cell 0 rfl
        have c1 := hr5.cell 1 rfl
        have HA := AW _ hb5.out
        clear hmv hall hr5 AW HMV
        go_wp2_with fail
        refine HA.out.mono ?_
        rintro e w6 ⟨rfl, hB6⟩
        go_wp2
        go_ret
        exact ⟨rfl, below_tr hb5.out hB6⟩
      | true =>
        obtain ⟨u4, rfl, hru4, hB4⟩ := hmv.1 hall
        obtain ⟨a4, k4, hu4, hlc4, hcm4, _⟩ := hru4.open
        rw [List.length_map] at hu4 hlc4
        subst hu4
        have hb4 := below_tr hb3 hB4
        have HG4 := hid (pg_mv HGP.out hall)
        have HBK := hid (mv_backOk (dx := dx) (dy := dy) (pg_good HGP.out).2.2.2)
        have hro5 := hid ((hro3.out.below hB4).al (.cells #[.int .i64 p.num, .slice a4 p.bx.length k4] 34))
        have hrq5 := hid (row_nw w4 #[.int .i64 p.num, .slice a4 p.bx.length k4] 34 rfl)
        have HR5 := hid (hru4.below (below_al w4 (.cells #[.int .i64 p.num, .slice a4 p.bx.length k4] 34)))
        have hb5 := hid (below_tr hb4 (below_al w4 (.cells #[.int .i64 p.num, .slice a4 p.bx.length k4] 34)))
        have hf2 : mvFar (-dx) (-dy) = false := by unfold mvFar; simp; omega
        have HM2 := hid (move_yes ⟨p.num, p.bx.map (mvB dx dy)⟩ (.slice a4 p.bx.length k4) (-dx) (-dy) _ HR5.out (szB_mv hz) HG4.out hf2)
        have HAL := hid (hall)
        have c0 := hrq5.out.cell 0 rfl
        have c1 := hrq5.out.cell 1 rfl
        clear hmv hall hf2 HMV hru4 hB4 p0 p1
        go_wp2_with fail
        generalize w4.alloc (.cells #[.int .i64 p.num, .slice a4 p.bx.length k4] 34) = w5 at *
        generalize w4.heap.size = Q at *
        refine HM2.out.mono ?_
        rintro e w6 hmv
        obtain ⟨u6, rfl, hru6, hB6⟩ := hmv.1 HBK.out
        simp only [mv_back] at hru6
        obtain ⟨a6, k6, hu6, hlc6, hcm6, _⟩ := hru6.open
        subst hu6
        have hro7 := hid ((hro5.out.below hB6).al (.cells #[.int .i64 p.num, .slice a6 p.bx.length k6] 34))
        have hrq7 := hid ((hrq5.out.below hB6).al (.cells #[.int .i64 p.num, .slice a6 p.bx.length k6] 34))
        have hrs7 := hid (row_nw w6 #[.int .i64 p.num, .slice a6 p.bx.length k6] 34 rfl)
        have HRS7 := hid (hru6.below (below_al w6 (.cells #[.int .i64 p.num, .slice a6 p.bx.length k6] 34)))
        have HRQ7 := hid ((HR5.out.below hB6).below (below_al w6 (.cells #[.int .i64 p.num, .slice a6 p.bx.length k6] 34)))
        have hb7 := hid (below_tr (below_tr hb5.out hB6) (below_al w6 (.cells #[.int .i64 p.num, .slice a6 p.bx.length k6] 34)))
        have HR7 := hid (HR.out.below hb7.out)
        have hht : lenB ht = true := by unfold lenB; simp; omega
        have HOV := hid (overlap_yes p _ ht _ HR7.out hz HGP.out hht)
        have hch : IntKind.i64.wrap ht = ht := IntWalk.i64_in _ (by omega)
        have p0 := hro7.out.cell 0 rfl
        have p1 := hro7.out.cell 1 rfl
        clear HM2 hmv hro5 hrq5 HR5 hb5 hb4 hB6 hru6 c0 c1 HR hro3 hb3
        go_wp2_with fail
        generalize w6.alloc (.cells #[.int .i64 p.num, .slice a6 p.bx.length k6] 34) = w7 at *
        generalize w6.heap.size = S at *
        refine HOV.out.mono ?_
        rintro e w8 ⟨u8, rfl, hru8, hB8⟩
        have HRQ8 := hid (HRQ7.out.below hB8)
        have HOV2 := hid (overlap_yes ⟨p.num, p.bx.map (mvB dx dy)⟩ _ ht _ HRQ8.out (szB_mv hz) HG4.out hht)
        have hrq8 := hid (hrq7.out.below hB8)
        have c0 := hrq8.out.cell 0 rfl
        have c1 := hrq8.out.cell 1 rfl
        have hb8 := below_tr hb7.out hB8
        clear HOV p0 p1
        go_wp2_with fail
        refine HOV2.out.mono ?_
        rintro e w9 ⟨u9, rfl, hru9, hB9⟩
        simp only [ovAll_mv, List.length_map] at hru9
        have hb9 := below_tr hb8 hB9
        have hro9 := hid ((hro7.out.below hB8).below hB9)
        have hrs9 := hid ((hrs7.out.below hB8).below hB9)
        have HRS9 := hid ((HRS7.out.below hB8).below hB9)
        have hrq9 := hid (hrq8.out.below hB9)
        have HRQ9 := hid (HRQ8.out.below hB9)
        have HT8 := hid (hru8.below hB9)
        have HT9 := hid hru9
        have s0 := hrs9.out.cell 0 rfl
        have s1 := hrs9.out.cell 1 rfl
        have hroA := hid (hro9.out.al (.cells #[.int .i64 p.num, .slice a6 p.bx.length k6] 34))
        have p0 := hroA.out.cell 0 rfl
        have p1 := hroA.out.cell 1 rfl
        have HR9 := hid ((HR7.out.below hB8).below hB9)
        clear HOV2 hru8 hru9 hro7 hrs7 HRS7 hrq7 HRQ7 HRQ8 hrq8 hB8 hB9 hb8 c0 c1 HR7
        have hbA := below_tr (below_al w9 (.cells #[.int .i64 p.num, .slice a6 p.bx.length k6] 34)) (below_al _ (.cells #[.int .i64 p.num, .slice ad p.bx.length cap] 34))
        have hrS := (row_nw w9 #[.int .i64 p.num, .slice a6 p.bx.length k6] 34 rfl).al (.cells #[.int .i64 p.num, .slice ad p.bx.length cap] 34)
        have hrT := row_nw (w9.alloc (.cells #[.int .i64 p.num, .slice a6 p.bx.length k6] 34)) #[.int .i64 p.num, .slice ad p.bx.length cap] 34 (n := w9.heap.size + 1) (by simp)
        have HSM := hid (samePg_any _ _ [p] _ (rdPg_one (p := p) (hrS.cell 0 rfl) (hrS.cell 1 rfl) (HRS9.out.below hbA)) (rdPg_one (p := p) (hrT.cell 0 rfl) (hrT.cell 1 rfl) (HR9.out.below hbA)))
        have HbA := hid hbA
        clear hrS hrT hbA
        go_wp2_with fail
        refine HSM.out.mono ?_
        rintro e wC ⟨rfl, hBC⟩
        have hbC := below_tr HbA.out hBC
        have HTT := hid (sameT_any _ _ _ wC (HT8.out.below hbC) (HT9.out.below hbC))
        have hroC := hid (hro9.out.below hbC)
        have hrqC := hid (hrq9.out.below hbC)
        have HRC := hid (HR9.out.below hbC)
        have HRQC := hid (HRQ9.out.below hbC)
        have HBC := hid (below_tr hb9 hbC)
        clear HSM HbA hBC hbC HT8 HT9 hro9 hrq9 HR9 HRQ9 hb9 HRS9 hrs9 s0 s1 p0 p1 hroA
        go_wp2_with fail
        refine HTT.out.mono ?_
        rintro e wD ⟨rfl, hBD⟩
        have hroD := hid (hroC.out.below hBD)
        have hrqD := hid (hrqC.out.below hBD)
        have HRD := hid (HRC.out.below hBD)
        have HRQD := hid (HRQC.out.below hBD)
        have HBD := hid (below_tr HBC.out hBD)
        have p0 := hroD.out.cell 0 rfl
        have p1 := hroD.out.cell 1 rfl
        clear HTT hBD hroC hrqC HRC HRQC HBC
        by_cases hn : p.bx = []
        · have hn0 : p.bx.length = 0 := by rw [hn]; rfl
          have HBN := hid (bounds_none p _ wD HRD.out hz HGP.out hn)
          have HBQ := fun w' h => hid (bounds_none ⟨p.num, p.bx.map (mvB dx dy)⟩ _ w' (HRQD.out.below h) (szB_mv hz) HG4.out (by simp [hn]))
          have hni : ((p.bx.length : Nat) : Int) = 0 := by omega
          clear hn hn0
          go_wp2_with fail
          refine HBN.out.mono ?_
          rintro e wE ⟨rfl, hBE⟩
          have hrqE := hid (hrqD.out.below hBE)
          have c0 := hrqE.out.cell 0 rfl
          have c1 := hrqE.out.cell 1 rfl
          have HBE := hid (below_tr HBD.out hBE)
          have HQ := HBQ wE hBE
          have hroE := hid (hroD.out.below hBE)
          clear HBN HBQ p0 p1 hBE
          go_wp2_with fail
          refine HQ.out.mono ?_
          rintro e wF ⟨rfl, hBF⟩
          have p1 := (hroE.out.below hBF).cell 1 rfl
          have HBF := hid (below_tr HBE.out hBF)
          have HA := AW _ HBF.out
          clear HQ hBF c0 c1 AW
          go_wp2_with fail
          refine HA.out.mono ?_
          rintro e wG ⟨rfl, hBG⟩
          go_wp2
          go_ret
          exact ⟨rfl, below_tr HBF.out hBG⟩
        · have hlp : 0 < p.bx.length := by
            cases hc : p.bx with
            | nil => exact absurd hc hn
            | cons a r => simp
          obtain ⟨b0, hb0⟩ : ∃ b0, p.bx[0]? = some b0 := ⟨p.bx[0], List.getElem?_eq_getElem hlp⟩
          obtain ⟨_, _, g1, g2, g5, g6, g3, g4, _⟩ := bx_good ((pg_good HGP.out).2.2.2 b0 (List.mem_of_getElem? hb0))
          have HBN := hid (bounds_yes p b0 _ wD HRD.out hz HGP.out hb0)
          have HBQ := fun w' h => hid (bounds_yes ⟨p.num, p.bx.map (mvB dx dy)⟩ (mvB dx dy b0) _ w' (HRQD.out.below h) (szB_mv hz) HG4.out (by simp [hb0]))
          have HV : Hid (fX (b0.x + dx) (p.bx.map (mvB dx dy)) = fX b0.x p.bx + dx ∧ fY (b0.y + dy) (p.bx.map (mvB dx dy)) = fY b0.y p.bx + dy ∧ fR (b0.x + dx + b0.wd) (p.bx.map (mvB dx dy)) = fR (b0.x + b0.wd) p.bx + dx ∧ fD (b0.y + dy) (p.bx.map (mvB dx dy)) = fD b0.y p.bx + dy) :=
            ⟨fX_mv dx dy _ _, fY_mv dx dy _ _, by rw [← fR_mv dx dy p.bx (b0.x + b0.wd)]; congr 1; omega, fD_mv dx dy _ _⟩
          have hin := bounds_in (pg_good HGP.out).2.2.2 hb0
          obtain ⟨n1, n2, n3, n4, n5, n6, n7, n8⟩ := hin
          simp only [mvB] at HBQ
          have HBQ2 := fun w' h => hid ((HBQ w' h).out)
          simp only [HV.out.1, HV.out.2.1, HV.out.2.2.1, HV.out.2.2.2] at HBQ2
          generalize fX b0.x p.bx = X at *
          generalize fY b0.y p.bx = Y at *
          generalize fR (b0.x + b0.wd) p.bx = R at *
          generalize fD b0.y p.bx = D at *
          have hni : ((p.bx.length : Nat) : Int) ≠ 0 := by omega
          have hni2 : (((p.bx.length : Nat) : Int) == 0) = false := beq_eq_false_iff_ne.2 hni
          clear hn hb0 HBQ HV
          go_wp2_with fail
          refine HBN.out.mono ?_
          rintro e wE ⟨rfl, hBE⟩
          have hrqE := hid (hrqD.out.below hBE)
          have c0 := hrqE.out.cell 0 rfl
          have c1 := hrqE.out.cell 1 rfl
          have HBE := hid (below_tr HBD.out hBE)
          have HQ := HBQ2 wE hBE
          have hroE := hid (hroD.out.below hBE)
          clear HBN HBQ2 p0 p1 hBE
          go_wp2_with fail
          refine HQ.out.mono ?_
          rintro e wF ⟨rfl, hBF⟩
          have p1 := (hroE.out.below hBF).cell 1 rfl
          have HBF := hid (below_tr HBE.out hBF)
          have HA := AW _ HBF.out
          clear HQ hBF c0 c1 AW
          go_wp2_with fail
          refine HA.out.mono ?_
          rintro e wG ⟨rfl, hBG⟩
          go_wp2
          go_ret
          exact ⟨rfl, below_tr HBF.out hBG⟩
    · have hq : (pgI p != 0) = true := by simpa using hg
      go_wp2_with fail
      refine (AW _ hb3).out.mono ?_
      rintro e w4 ⟨rfl, hB4⟩
      go_wp2
      go_ret
      exact ⟨rfl, below_tr hb3 hB4⟩
end Go.Proofs.YtkjapeafhcdnkaaDoor
