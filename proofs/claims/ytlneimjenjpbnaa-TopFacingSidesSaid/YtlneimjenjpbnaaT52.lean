/-
  P52 (TopFacingSides): facing pages are pages of both sides, and cost at least what both sides alone cost.
-/
import Derived.Test.YtlneimjenjpbnaaAwk52
import Derived.Test.YtlneimjenjpbnaaGr52
import Derived.Test.YtlneimjenjpbnaaPbc
import Derived.Test.YtlneimjenjpbnaaPbk
import Derived.Deep.RegionHeld3
namespace Go.Proofs.Ytlneimjenjpbnaa
open Go.RowKit

theorem run_max_ok {P : Program} {w : World} (ts : Array TypeId) (t : TypeId) (k : IntKind) (x : Int) : (Builtin.max_ ts t #[.int k x, .int k x, .int k x, .int k x]).run P w = .ok (.int k x) w := by
  simp [Builtin.max_, Builtin.max2, go_sem]
attribute [local go_sem] run_max_ok

theorem tgreat_any (s : FS) (x : FV) (w : World) (h : FaR w x s) :
    Calls Try.prog 4 #[.agg #[x.l1, x.l2, x.l3, .int .i64 s.L.h, .int .i64 s.L.gap, x.r1, x.r2, x.r3, .int .i64 s.R.h, .int .i64 s.R.gap, x.a]] w (SomeB w) := by
  have HB0 := hid (below_al w (.cells #[x.l1, x.l2, x.l3, .int .i64 s.L.h, .int .i64 s.L.gap, x.r1, x.r2, x.r3, .int .i64 s.R.h, .int .i64 s.R.gap, x.a] 27))
  have HG := hid (great52_any s x _ (h.below HB0.out).l (h.below HB0.out).r (h.below HB0.out).a)
  unfold ppC at HG
  clear h
  go_enter Try.func4, Try.ntmps4
  go_wp2_with fail
  refine HG.out.mono ?_
  rintro e w2 ⟨b, rfl, hb2⟩
  have HB2 := hid (below_tr HB0.out hb2)
  clear hb2
  go_wp2_with fail
  go_ret
  exact ⟨b, rfl, HB2.out⟩

set_option maxRecDepth 100000 in
set_option maxHeartbeats 8000000 in
theorem tfs_any (s : FS) (l1 l2 l3 r1 r2 r3 va : Value) (w : World) (hr : FaR w ⟨l1, l2, l3, r1, r2, r3, va, .slice none 0 0, .slice none 0 0⟩ s) :
    Calls Try.prog 3 #[.agg #[l1, l2, l3, .int .i64 s.L.h, .int .i64 s.L.gap, r1, r2, r3, .int .i64 s.R.h, .int .i64 s.R.gap, va]] w fun e w' => e = .returned (.bool true) ∧ Below w.heap.size w w' := by
  obtain ⟨a1, c1, e1, _, _, _⟩ := hr.l.l.open
  obtain ⟨a2, c2, e2, _, _, _⟩ := hr.l.n.open
  obtain ⟨a3, c3, e3, _, _, _⟩ := hr.l.s.open
  obtain ⟨a4, c4, e4, _, _, _⟩ := hr.r.l.open
  obtain ⟨a5, c5, e5, _, _, _⟩ := hr.r.n.open
  obtain ⟨a6, c6, e6, _, _, _⟩ := hr.r.s.open
  obtain ⟨a7, c7, e7, _, _, _⟩ := hr.a.open
  dsimp only at e1 e2 e3 e4 e5 e6 e7
  subst e1 e2 e3 e4 e5 e6 e7
  have HR := hid hr
  clear hr
  have HB0 := hid (below_al w (.cells #[.slice a1 s.L.lines.length c1, .slice a2 s.L.notes.length c2, .slice a3 s.L.pens.length c3, .int .i64 s.L.h, .int .i64 s.L.gap, .slice a4 s.R.lines.length c4, .slice a5 s.R.notes.length c5, .slice a6 s.R.pens.length c6, .int .i64 s.R.h, .int .i64 s.R.gap, .slice a7 s.A.length c7] 27))
  have HS0 := hid (row_nw w #[.slice a1 s.L.lines.length c1, .slice a2 s.L.notes.length c2, .slice a3 s.L.pens.length c3, .int .i64 s.L.h, .int .i64 s.L.gap, .slice a4 s.R.lines.length c4, .slice a5 s.R.notes.length c5, .slice a6 s.R.pens.length c6, .int .i64 s.R.h, .int .i64 s.R.gap, .slice a7 s.A.length c7] 27 rfl)
  have HG := hid (fun w' h => tgreat_any s ⟨.slice a1 s.L.lines.length c1, .slice a2 s.L.notes.length c2, .slice a3 s.L.pens.length c3, .slice a4 s.R.lines.length c4, .slice a5 s.R.notes.length c5, .slice a6 s.R.pens.length c6, .slice a7 s.A.length c7, .slice none 0 0, .slice none 0 0⟩ w' h)
  have HAW := hid awake52_any
  go_enter Try.func3, Try.ntmps3
  go_wp2_with fail
  (with_reducible refine (HG.out _ (HR.out.below HB0.out)).mono ?_)
  rintro e w2 ⟨b, rfl, hb2⟩
  have HB2 := hid (below_tr HB0.out hb2)
  have HS2 := hid (HS0.out.below hb2)
  clear hb2 HB0 HS0 HG
  cases b with
  | true =>
    go_wp2_with fail
    (with_reducible refine (HAW.out _).mono ?_)
    rintro e w3 ⟨rfl, hb3⟩
    have HB3 := hid (below_tr HB2.out hb3)
    clear hb3
    go_wp2_with fail
    go_ret
    exact ⟨rfl, HB3.out⟩
  | false =>
  have y0 := HS2.out.cell 0 (x := .slice a1 s.L.lines.length c1) rfl
  have y1 := HS2.out.cell 1 (x := .slice a2 s.L.notes.length c2) rfl
  have y2 := HS2.out.cell 2 (x := .slice a3 s.L.pens.length c3) rfl
  have y3 := HS2.out.cell 3 (x := .int .i64 s.L.h) rfl
  have y4 := HS2.out.cell 4 (x := .int .i64 s.L.gap) rfl
  have y5 := HS2.out.cell 5 (x := .slice a4 s.R.lines.length c4) rfl
  have y6 := HS2.out.cell 6 (x := .slice a5 s.R.notes.length c5) rfl
  have y7 := HS2.out.cell 7 (x := .slice a6 s.R.pens.length c6) rfl
  have y8 := HS2.out.cell 8 (x := .int .i64 s.R.h) rfl
  have y9 := HS2.out.cell 9 (x := .int .i64 s.R.gap) rfl
  have y10 := HS2.out.cell 10 (x := .slice a7 s.A.length c7) rfl
  have HBAD := hid (fun w' h hz => fbk_bad s ⟨.slice a1 s.L.lines.length c1, .slice a2 s.L.notes.length c2, .slice a3 s.L.pens.length c3, .slice a4 s.R.lines.length c4, .slice a5 s.R.notes.length c5, .slice a6 s.R.pens.length c6, .slice a7 s.A.length c7, .slice none 0 0, .slice none 0 0⟩ w' h hz)
  have HNO := hid (fun w' h hz h0 => fbk_no s ⟨.slice a1 s.L.lines.length c1, .slice a2 s.L.notes.length c2, .slice a3 s.L.pens.length c3, .slice a4 s.R.lines.length c4, .slice a5 s.R.notes.length c5, .slice a6 s.R.pens.length c6, .slice a7 s.A.length c7, .slice none 0 0, .slice none 0 0⟩ w' h hz h0)
  have HOKK := hid (fun w' h hz h0 => fbk_any s ⟨.slice a1 s.L.lines.length c1, .slice a2 s.L.notes.length c2, .slice a3 s.L.pens.length c3, .slice a4 s.R.lines.length c4, .slice a5 s.R.notes.length c5, .slice a6 s.R.pens.length c6, .slice a7 s.A.length c7, .slice none 0 0, .slice none 0 0⟩ w' h hz h0)
  unfold ppC at HBAD HNO HOKK
  go_wp2_with fail
  clear y0 y1 y2 y3 y4 y5 y6 y7 y8 y9 y10
  by_cases hz : fcI s = 0
  case neg =>
    (with_reducible refine (HBAD.out _ (HR.out.below HB2.out) hz).mono ?_)
    rintro e w3 ⟨rfl, hb3⟩
    have HB3 := hid (below_tr HB2.out hb3)
    have i1 : (fcI s != 0) = true := bne_iff_ne.2 hz
    have i2 : (fcI s == 0) = false := beq_eq_false_iff_ne.2 hz
    clear hb3 hz HBAD HNO HOKK
    generalize fcI s = E at *
    go_wp2_with fail
    (with_reducible refine (HAW.out _).mono ?_)
    rintro e w4 ⟨rfl, hb4⟩
    have HB4 := hid (below_tr HB3.out hb4)
    clear hb4
    go_wp2_with fail
    go_ret
    exact ⟨rfl, HB4.out⟩
  by_cases h0 : 0 ≤ fpot s (0, 0)
  case neg =>
    (with_reducible refine (HNO.out _ (HR.out.below HB2.out) hz (by omega)).mono ?_)
    rintro e w3 ⟨rfl, hb3⟩
    have HB3 := hid (below_tr HB2.out hb3)
    clear hb3 hz h0 HBAD HNO HOKK
    go_wp2_with fail
    (with_reducible refine (HAW.out _).mono ?_)
    rintro e w4 ⟨rfl, hb4⟩
    have HB4 := hid (below_tr HB3.out hb4)
    clear hb4
    go_wp2_with fail
    go_ret
    exact ⟨rfl, HB4.out⟩
  (with_reducible refine (HOKK.out _ (HR.out.below HB2.out) hz h0).mono ?_)
  rintro e w3 ⟨ve, rfl, hve, hb3⟩
  have HB3 := hid (below_tr HB2.out hb3)
  have HS3 := hid (HS2.out.below hb3)
  clear hb3 HBAD HNO HOKK HS2
  obtain ⟨⟨hL1, hL2⟩, ⟨hR1, hR2⟩, hsum, hp1, hp2, hge⟩ := facing_sides (fc_full hz).ok h0
  have hbr := fbr_len s
  have hfb := fpot_bd (fc_full hz).ok (totF s) (0, 0) (Nat.zero_le _) (Nat.zero_le _) posF_le
  have htot : totF s ≤ 65536 := by
    have h := (fc_full hz).tb
    have h2 : totF s = s.L.n * (s.R.n + 1) + s.R.n := rfl
    rw [Nat.add_mul, Nat.one_mul] at h
    omega
  have HZL := hid (fc_full hz).l0
  have HZR := hid (fc_full hz).r0
  have HVE := hid hve
  obtain ⟨ae, ce, hvv, _⟩ := hve.open
  have hsl : (spM (fbr s)).length = (fbr s).length := by unfold spM; simp
  have HAL := hid (fun w' h => (show Calls Try.prog _ #[ve, .int .i64 0] w' _ from alone_any (fbr s) ve 0 w' (by omega) h (by omega)))
  have HAR := hid (fun w' h => (show Calls Try.prog _ #[ve, .int .i64 1] w' _ from alone_any (fbr s) ve 1 w' (by omega) h (by omega)))
  have hm0 : (fbr s).map (sdF 0) = (fbr s).map (·.1) := List.map_congr_left fun x _ => rfl
  have hm1 : (fbr s).map (sdF 1) = (fbr s).map (·.2) := List.map_congr_left fun x _ => rfl
  rw [hm0] at HAL
  rw [hm1] at HAR
  have HCL := hid (fun vl w' h he => pbc_any s.L (.slice a1 s.L.lines.length c1) (.slice a2 s.L.notes.length c2) (.slice a3 s.L.pens.length c3) vl (aloneF 0 ((fbr s).map (·.1))) w' h HZL.out he hL1)
  have HCR := hid (fun vl w' h he => pbc_any s.R (.slice a4 s.R.lines.length c4) (.slice a5 s.R.notes.length c5) (.slice a6 s.R.pens.length c6) vl (aloneF 0 ((fbr s).map (·.2))) w' h HZR.out he hR1)
  rw [hL2] at HCL
  rw [hR2] at HCR
  have HKL := hid (fun w' h => pbk_any s.L (.slice a1 s.L.lines.length c1) (.slice a2 s.L.notes.length c2) (.slice a3 s.L.pens.length c3) w' h HZL.out hp1)
  have HKR := hid (fun w' h => pbk_any s.R (.slice a4 s.R.lines.length c4) (.slice a5 s.R.notes.length c5) (.slice a6 s.R.pens.length c6) w' h HZR.out hp2)
  unfold ppC at HCL HCR HKL HKR
  have hn1 : fpot s (0, 0) ≤ 65536 * 40000 := by have := hfb.2; omega
  subst hvv
  generalize (costF s.L 0 (aloneF 0 ((fbr s).map (·.1)))).1 = ca at *
  generalize (costF s.R 0 (aloneF 0 ((fbr s).map (·.2)))).1 = cb at *
  generalize fpot s (0, 0) = n at *
  generalize pot s.L 0 = pl at *
  generalize pot s.R 0 = pr at *
  have HSUM := hid hsum
  clear hL1 hL2 hR1 hR2 hsum hbr hfb htot hve hsl hm0 hm1 hz
  have HFA := hid (fun w' (hb : Below w3.heap.size w3 w') => (HR.out.below HB3.out).below hb)
  have hB3 := Below.refl w3.heap.size w3
  obtain ⟨Bs, hBs⟩ : ∃ Bs, Bs = w.heap.size := ⟨_, rfl⟩
  rw [← hBs] at HS3 ⊢
  have HBS := hid hBs
  clear hBs
  have HSh : Hid (∀ w', Below w3.heap.size w3 w' → (w'.cell? ⟨Bs, 0, none⟩ = some (.slice a1 s.L.lines.length c1) ∧ w'.cell? ⟨Bs, 1, none⟩ = some (.slice a2 s.L.notes.length c2) ∧ w'.cell? ⟨Bs, 2, none⟩ = some (.slice a3 s.L.pens.length c3) ∧ w'.cell? ⟨Bs, 3, none⟩ = some (.int .i64 s.L.h) ∧ w'.cell? ⟨Bs, 4, none⟩ = some (.int .i64 s.L.gap) ∧ w'.cell? ⟨Bs, 5, none⟩ = some (.slice a4 s.R.lines.length c4) ∧ w'.cell? ⟨Bs, 6, none⟩ = some (.slice a5 s.R.notes.length c5) ∧ w'.cell? ⟨Bs, 7, none⟩ = some (.slice a6 s.R.pens.length c6) ∧ w'.cell? ⟨Bs, 8, none⟩ = some (.int .i64 s.R.h) ∧ w'.cell? ⟨Bs, 9, none⟩ = some (.int .i64 s.R.gap) ∧ w'.cell? ⟨Bs, 10, none⟩ = some (.slice a7 s.A.length c7)) ∧ Below w3.heap.size w3 w') := fun w' hb => ⟨⟨(HS3.out.below hb).cell 0 rfl, (HS3.out.below hb).cell 1 rfl, (HS3.out.below hb).cell 2 rfl, (HS3.out.below hb).cell 3 rfl, (HS3.out.below hb).cell 4 rfl, (HS3.out.below hb).cell 5 rfl, (HS3.out.below hb).cell 6 rfl, (HS3.out.below hb).cell 7 rfl, (HS3.out.below hb).cell 8 rfl, (HS3.out.below hb).cell 9 rfl, (HS3.out.below hb).cell 10 rfl⟩, hb⟩
  go_upto_region 6 with fail
  go_cut [6, 7] from 42 to 50 (fun v u wx => v = .int .i64 ca ∧ u = .int .i64 0 ∧ Hid (Below w3.heap.size w3 wx))
  case first =>
    go_region_held3 (fun w' => (w'.cell? ⟨Bs, 0, none⟩ = some (.slice a1 s.L.lines.length c1) ∧ w'.cell? ⟨Bs, 1, none⟩ = some (.slice a2 s.L.notes.length c2) ∧ w'.cell? ⟨Bs, 2, none⟩ = some (.slice a3 s.L.pens.length c3) ∧ w'.cell? ⟨Bs, 3, none⟩ = some (.int .i64 s.L.h) ∧ w'.cell? ⟨Bs, 4, none⟩ = some (.int .i64 s.L.gap) ∧ w'.cell? ⟨Bs, 5, none⟩ = some (.slice a4 s.R.lines.length c4) ∧ w'.cell? ⟨Bs, 6, none⟩ = some (.slice a5 s.R.notes.length c5) ∧ w'.cell? ⟨Bs, 7, none⟩ = some (.slice a6 s.R.pens.length c6) ∧ w'.cell? ⟨Bs, 8, none⟩ = some (.int .i64 s.R.h) ∧ w'.cell? ⟨Bs, 9, none⟩ = some (.int .i64 s.R.gap) ∧ w'.cell? ⟨Bs, 10, none⟩ = some (.slice a7 s.A.length c7)) ∧ Below w3.heap.size w3 w')
      (with_reducible exact HSh.out _ (by first | with_reducible assumption | with_reducible exact Below.drew (by with_reducible assumption)))
      (first
        | (go_at_call 8; go_split_ands; (with_reducible refine (HAL.out _ (HVE.out.below (by with_reducible assumption))).mono ?_); rintro e wz ⟨vL, rfl, hRL, hBL⟩; have zs := below_tr (by with_reducible assumption : Below w3.heap.size w3 _) hBL)
        | (go_at_call 7; go_split_ands; (with_reducible refine (HCL.out _ _ (HFA.out _ (by with_reducible assumption)).l hRL).mono ?_); rintro e wz ⟨rfl, hBC⟩; have zs := below_tr (by with_reducible assumption : Below w3.heap.size w3 _) hBC))
    all_goals go_split_ands
    all_goals (dsimp only [Exit.then]; go_step; go_meet)
    all_goals exact ⟨rfl, rfl, hid (by with_reducible assumption)⟩
  case rest =>
    obtain ⟨rfl, rfl, HBA⟩ := hcut
    obtain ⟨W4, rfl⟩ : ∃ W4 : World, W4 = wc := ⟨_, rfl⟩
    have HS4 := hid (HS3.out.below HBA.out)
    have HFA4 := hid (fun w' (hb : Below W4.heap.size W4 w') => HFA.out w' (below_tr HBA.out hb))
    have HB4 := hid (below_tr HB3.out HBA.out)
    have HVE4 := hid (HVE.out.below HBA.out)
    clear HSh HFA HB3 HVE HS3 HBA hB3 HAL HCL
    have hB4 := Below.refl W4.heap.size W4
    have HSh : Hid (∀ w', Below W4.heap.size W4 w' → (w'.cell? ⟨Bs, 0, none⟩ = some (.slice a1 s.L.lines.length c1) ∧ w'.cell? ⟨Bs, 1, none⟩ = some (.slice a2 s.L.notes.length c2) ∧ w'.cell? ⟨Bs, 2, none⟩ = some (.slice a3 s.L.pens.length c3) ∧ w'.cell? ⟨Bs, 3, none⟩ = some (.int .i64 s.L.h) ∧ w'.cell? ⟨Bs, 4, none⟩ = some (.int .i64 s.L.gap) ∧ w'.cell? ⟨Bs, 5, none⟩ = some (.slice a4 s.R.lines.length c4) ∧ w'.cell? ⟨Bs, 6, none⟩ = some (.slice a5 s.R.notes.length c5) ∧ w'.cell? ⟨Bs, 7, none⟩ = some (.slice a6 s.R.pens.length c6) ∧ w'.cell? ⟨Bs, 8, none⟩ = some (.int .i64 s.R.h) ∧ w'.cell? ⟨Bs, 9, none⟩ = some (.int .i64 s.R.gap) ∧ w'.cell? ⟨Bs, 10, none⟩ = some (.slice a7 s.A.length c7)) ∧ Below W4.heap.size W4 w') := fun w' hb => ⟨⟨(HS4.out.below hb).cell 0 rfl, (HS4.out.below hb).cell 1 rfl, (HS4.out.below hb).cell 2 rfl, (HS4.out.below hb).cell 3 rfl, (HS4.out.below hb).cell 4 rfl, (HS4.out.below hb).cell 5 rfl, (HS4.out.below hb).cell 6 rfl, (HS4.out.below hb).cell 7 rfl, (HS4.out.below hb).cell 8 rfl, (HS4.out.below hb).cell 9 rfl, (HS4.out.below hb).cell 10 rfl⟩, hb⟩
    go_upto_region 7 with fail
    go_cut [8, 9] from 50 to 58 (fun v u wx => v = .int .i64 cb ∧ u = .int .i64 0 ∧ Hid (Below W4.heap.size W4 wx))
    case first =>
      go_region_held3 (fun w' => (w'.cell? ⟨Bs, 0, none⟩ = some (.slice a1 s.L.lines.length c1) ∧ w'.cell? ⟨Bs, 1, none⟩ = some (.slice a2 s.L.notes.length c2) ∧ w'.cell? ⟨Bs, 2, none⟩ = some (.slice a3 s.L.pens.length c3) ∧ w'.cell? ⟨Bs, 3, none⟩ = some (.int .i64 s.L.h) ∧ w'.cell? ⟨Bs, 4, none⟩ = some (.int .i64 s.L.gap) ∧ w'.cell? ⟨Bs, 5, none⟩ = some (.slice a4 s.R.lines.length c4) ∧ w'.cell? ⟨Bs, 6, none⟩ = some (.slice a5 s.R.notes.length c5) ∧ w'.cell? ⟨Bs, 7, none⟩ = some (.slice a6 s.R.pens.length c6) ∧ w'.cell? ⟨Bs, 8, none⟩ = some (.int .i64 s.R.h) ∧ w'.cell? ⟨Bs, 9, none⟩ = some (.int .i64 s.R.gap) ∧ w'.cell? ⟨Bs, 10, none⟩ = some (.slice a7 s.A.length c7)) ∧ Below W4.heap.size W4 w')
        (with_reducible exact HSh.out _ (by first | with_reducible assumption | with_reducible exact Below.drew (by with_reducible assumption)))
        (first
          | (go_at_call 8; go_split_ands; (with_reducible refine (HAR.out _ (HVE4.out.below (by with_reducible assumption))).mono ?_); rintro e wz ⟨vL, rfl, hRL, hBL⟩; have zs := below_tr (by with_reducible assumption : Below W4.heap.size W4 _) hBL)
          | (go_at_call 7; go_split_ands; (with_reducible refine (HCR.out _ _ (HFA4.out _ (by with_reducible assumption)).r hRL).mono ?_); rintro e wz ⟨rfl, hBC⟩; have zs := below_tr (by with_reducible assumption : Below W4.heap.size W4 _) hBC))
      all_goals go_split_ands
      all_goals (dsimp only [Exit.then]; go_step; go_meet)
      all_goals exact ⟨rfl, rfl, hid (by with_reducible assumption)⟩
    case rest =>
      obtain ⟨rfl, rfl, HBA⟩ := hcut
      have HS5 := hid (HS4.out.below HBA.out)
      have HB5 := hid (below_tr HB4.out HBA.out)
      have HF5 := hid (HFA4.out _ HBA.out)
      clear HSh HFA4 HB4 HVE4 HS4 HBA hB4 HAR HCR
      have y0 := HS5.out.cell 0 (x := .slice a1 s.L.lines.length c1) rfl
      have y1 := HS5.out.cell 1 (x := .slice a2 s.L.notes.length c2) rfl
      have y2 := HS5.out.cell 2 (x := .slice a3 s.L.pens.length c3) rfl
      have y3 := HS5.out.cell 3 (x := .int .i64 s.L.h) rfl
      have y4 := HS5.out.cell 4 (x := .int .i64 s.L.gap) rfl
      have y5 := HS5.out.cell 5 (x := .slice a4 s.R.lines.length c4) rfl
      have y6 := HS5.out.cell 6 (x := .slice a5 s.R.notes.length c5) rfl
      have y7 := HS5.out.cell 7 (x := .slice a6 s.R.pens.length c6) rfl
      have y8 := HS5.out.cell 8 (x := .int .i64 s.R.h) rfl
      have y9 := HS5.out.cell 9 (x := .int .i64 s.R.gap) rfl
      have y10 := HS5.out.cell 10 (x := .slice a7 s.A.length c7) rfl
      go_wp2_with fail
      (with_reducible refine (HKL.out _ HF5.out.l).mono ?_)
      rintro e w6 ⟨v6, rfl, _, hb6⟩
      have HS6 := hid (HS5.out.below hb6)
      have HB6 := hid (below_tr HB5.out hb6)
      have HF6 := hid (HF5.out.below hb6)
      clear hb6 HS5 HB5 HF5 HKL y0 y1 y2 y3 y4 y5 y6 y7 y8 y9 y10
      have y0 := HS6.out.cell 0 (x := .slice a1 s.L.lines.length c1) rfl
      have y1 := HS6.out.cell 1 (x := .slice a2 s.L.notes.length c2) rfl
      have y2 := HS6.out.cell 2 (x := .slice a3 s.L.pens.length c3) rfl
      have y3 := HS6.out.cell 3 (x := .int .i64 s.L.h) rfl
      have y4 := HS6.out.cell 4 (x := .int .i64 s.L.gap) rfl
      have y5 := HS6.out.cell 5 (x := .slice a4 s.R.lines.length c4) rfl
      have y6 := HS6.out.cell 6 (x := .slice a5 s.R.notes.length c5) rfl
      have y7 := HS6.out.cell 7 (x := .slice a6 s.R.pens.length c6) rfl
      have y8 := HS6.out.cell 8 (x := .int .i64 s.R.h) rfl
      have y9 := HS6.out.cell 9 (x := .int .i64 s.R.gap) rfl
      have y10 := HS6.out.cell 10 (x := .slice a7 s.A.length c7) rfl
      go_wp2_with fail
      (with_reducible refine (HKR.out _ HF6.out.r).mono ?_)
      rintro e w7 ⟨v7, rfl, _, hb7⟩
      have HB7 := hid (below_tr HB6.out hb7)
      clear hb7 HS6 HB6 HF6 HKR y0 y1 y2 y3 y4 y5 y6 y7 y8 y9 y10
      have k1 : -9223372036854775808 ≤ ca + cb := by have := HSUM.out; omega
      have k2 : ca + cb ≤ 9223372036854775807 := by have := HSUM.out; omega
      have k3 : (ca + cb == n) = true := by rw [HSUM.out]; simp
      have k4 : -9223372036854775808 ≤ pl + pr := by omega
      have k5 : pl + pr ≤ 9223372036854775807 := by omega
      have w1 : IntKind.i64.wrap (ca + cb) = ca + cb := IntWalk.i64_in _ ⟨k1, k2⟩
      have w2 : IntKind.i64.wrap (pl + pr) = pl + pr := IntWalk.i64_in _ ⟨k4, k5⟩
      go_wp2_with fail
      (with_reducible refine (HAW.out _).mono ?_)
      rintro e w8 ⟨rfl, hb8⟩
      have HB8 := hid (below_tr HB7.out hb8)
      clear hb8
      go_wp2_with fail
      go_ret
      exact ⟨rfl, HB8.out⟩
end Go.Proofs.Ytlneimjenjpbnaa
