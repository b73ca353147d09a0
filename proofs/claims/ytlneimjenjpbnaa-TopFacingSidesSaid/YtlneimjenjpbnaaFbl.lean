/-
  facing.Break: the loop.
-/
import Derived.Test.YtlneimjenjpbnaaJ01
import Derived.Test.YtlneimjenjpbnaaPbk
import Derived.Test.YtlneimjenjpbnaaQin
namespace Go.Proofs.Ytlneimjenjpbnaa
open Go.RowKit
attribute [local go_sem] Oper.semAt_some

def FbkX (w Wb : World) (s : FS) (B12 B13 : Nat) (f : Nat × Nat) (L : List (Nat × Nat)) (Ds : List Nat) (cc : Code) (pre : List {x : (Nat × Nat) × Int // x ∈ fpg s f}) (W : World) : Prop :=
  cc = Code.exit 3 ∧ ∃ (pre0 : List {x : (Nat × Nat) × Int // x ∈ fpg s f}) (x : {x : (Nat × Nat) × Int // x ∈ fpg s f}) (g cap : Nat), pre = pre0 ++ [x] ∧ (∀ y ∈ pre0, fbrP s f y.1 = false) ∧ fbrP s f x.1 = true ∧ FbI w Wb B12 B13 x.1.1 (L ++ [x.1.1]) (.slice (some ⟨g, 0, none⟩) (L.length + 1) cap) W ∧ MkOk w.heap.size Ds W
theorem FbkX.mk {w Wb : World} {s : FS} {B12 B13 : Nat} {f : Nat × Nat} {L : List (Nat × Nat)} {Ds : List Nat} {pre0 : List {x : (Nat × Nat) × Int // x ∈ fpg s f}} {W : World} (x : {x : (Nat × Nat) × Int // x ∈ fpg s f}) (g cap : Nat) (h1 : ∀ y ∈ pre0, fbrP s f y.1 = false) (h2 : fbrP s f x.1 = true)
    (h3 : FbI w Wb B12 B13 x.1.1 (L ++ [x.1.1]) (.slice (some ⟨g, 0, none⟩) (L.length + 1) cap) W) (h4 : MkOk w.heap.size Ds W) : FbkX w Wb s B12 B13 f L Ds (Code.exit 3) (pre0 ++ [x]) W := ⟨rfl, pre0, x, g, cap, rfl, h1, h2, h3, h4⟩

set_option maxRecDepth 100000 in
set_option maxHeartbeats 8000000 in
theorem fbk_any (s : FS) (x : FV) (w : World) (hr : FaR w x s) (hz : fcI s = 0) (h0 : 0 ≤ fpot s (0, 0)) :
    Calls Try.prog 6 #[.agg (ppC s.L x.l1 x.l2 x.l3), .agg (ppC s.R x.r1 x.r2 x.r3), x.a] w fun e w' => ∃ v, e = .returned (.tuple #[v, .int .i64 (fpot s (0, 0)), .int .i64 0]) ∧ RdM w' v (spM (fbr s)) ∧ Below w.heap.size w w' := by
  refine (callsIn_wide (n := 9)).1 ?_
  obtain ⟨l1, l2, l3, r1, r2, r3, a, xl, xr⟩ := x
  obtain ⟨a1, c1, e1, _, _, _⟩ := hr.l.l.open
  obtain ⟨a2, c2, e2, _, _, _⟩ := hr.l.n.open
  obtain ⟨a3, c3, e3, _, _, _⟩ := hr.l.s.open
  obtain ⟨a4, c4, e4, _, _, _⟩ := hr.r.l.open
  obtain ⟨a5, c5, e5, _, _, _⟩ := hr.r.n.open
  obtain ⟨a6, c6, e6, _, _, _⟩ := hr.r.s.open
  obtain ⟨a7, c7, e7, _, _, _⟩ := hr.a.open
  dsimp only at e1 e2 e3 e4 e5 e6 e7
  subst e1 e2 e3 e4 e5 e6 e7
  have HB0 : Hid (Below w.heap.size w ((w.alloc (.cells (ppC s.L (.slice a1 s.L.lines.length c1) (.slice a2 s.L.notes.length c2) (.slice a3 s.L.pens.length c3)) 25)).alloc (.cells (ppC s.R (.slice a4 s.R.lines.length c4) (.slice a5 s.R.notes.length c5) (.slice a6 s.R.pens.length c6)) 25))) := below_tr (below_al _ _) (below_al _ _)
  have HR1 := hid ((row_nw w (ppC s.L (.slice a1 s.L.lines.length c1) (.slice a2 s.L.notes.length c2) (.slice a3 s.L.pens.length c3)) 25 rfl).al (.cells (ppC s.R (.slice a4 s.R.lines.length c4) (.slice a5 s.R.notes.length c5) (.slice a6 s.R.pens.length c6)) 25))
  have HR2 := hid (row_nw (w.alloc (.cells (ppC s.L (.slice a1 s.L.lines.length c1) (.slice a2 s.L.notes.length c2) (.slice a3 s.L.pens.length c3)) 25)) (ppC s.R (.slice a4 s.R.lines.length c4) (.slice a5 s.R.notes.length c5) (.slice a6 s.R.pens.length c6)) 25 (n := w.heap.size + 1) (by simp))
  have HP := hid (fun w' (h : FaR w' ⟨.slice a1 s.L.lines.length c1, .slice a2 s.L.notes.length c2, .slice a3 s.L.pens.length c3, .slice a4 s.R.lines.length c4, .slice a5 s.R.notes.length c5, .slice a6 s.R.pens.length c6, .slice a7 s.A.length c7, xl, xr⟩ s) => fpt_any s _ w' h hz)
  have HF := hid (fc_full hz)
  have HR := hid hr
  have HP0 := hid h0
  clear hr hz h0
  have HPL := hid (fun w' (h : FaR w' ⟨.slice a1 s.L.lines.length c1, .slice a2 s.L.notes.length c2, .slice a3 s.L.pens.length c3, .slice a4 s.R.lines.length c4, .slice a5 s.R.notes.length c5, .slice a6 s.R.pens.length c6, .slice a7 s.A.length c7, xl, xr⟩ s) => prices_any2 s.L (.slice a1 s.L.lines.length c1) (.slice a2 s.L.notes.length c2) (.slice a3 s.L.pens.length c3) w' h.l HF.out.l0)
  have HPR := hid (fun w' (h : FaR w' ⟨.slice a1 s.L.lines.length c1, .slice a2 s.L.notes.length c2, .slice a3 s.L.pens.length c3, .slice a4 s.R.lines.length c4, .slice a5 s.R.notes.length c5, .slice a6 s.R.pens.length c6, .slice a7 s.A.length c7, xl, xr⟩ s) => prices_any2 s.R (.slice a4 s.R.lines.length c4) (.slice a5 s.R.notes.length c5) (.slice a6 s.R.pens.length c6) w' h.r HF.out.r0)
  unfold ppC at HB0 HR1 HR2 HPL HPR HP ⊢
  refine callsIn_of_wp_marks Try.func6 rfl trivial ?_ rfl
  simp only [Try.ntmps6, List.size_toArray, List.length_cons, List.length_nil, Nat.reduceAdd, Nat.reduceSub, Array.replicate_succ, Array.replicate_zero, List.push_toArray, List.append_toArray, List.nil_append, List.cons_append]
  refine wpIn_wide.2 ?_
  go_wp2_with fail
  (with_reducible refine (HP.out _ (HR.out.below HB0.out)).mono ?_)
  rintro e w2 ⟨v, rfl, hv, hb2⟩
  obtain ⟨b, off, c, rfl, hcell⟩ := fpotM_at hv
  have HB3 := hid (below_tr (below_tr HB0.out hb2) (below_al w2 (.cells #[.slice (some ⟨b, off, none⟩) (s.L.n + 1) c] 23)))
  have HR13 := hid ((HR1.out.below hb2).al (.cells #[.slice (some ⟨b, off, none⟩) (s.L.n + 1) c] 23))
  have HR23 := hid ((HR2.out.below hb2).al (.cells #[.slice (some ⟨b, off, none⟩) (s.L.n + 1) c] 23))
  have H93 := hid (row_nw w2 #[.slice (some ⟨b, off, none⟩) (s.L.n + 1) c] 23 rfl)
  have HT3 : Hid (∀ i k, i ≤ s.L.n → k ≤ s.R.n → ∃ b2 o2 c2, (w2.alloc (.cells #[.slice (some ⟨b, off, none⟩) (s.L.n + 1) c] 23)).cell? ⟨b, off + i, none⟩ = some (.slice (some ⟨b2, o2, none⟩) (s.R.n + 1) c2) ∧ (w2.alloc (.cells #[.slice (some ⟨b, off, none⟩) (s.L.n + 1) c] 23)).cell? ⟨b2, o2 + k, none⟩ = some (.int .i64 (fpot s (i, k)))) := fun i k hi hk => by
    obtain ⟨b2, o2, c2, h1, h2⟩ := hcell i k hi hk
    exact ⟨b2, o2, c2, cell_al h1 _, cell_al h2 _⟩
  obtain ⟨b2, o2, c2', k1', k2'⟩ := HT3.out 0 0 (Nat.zero_le _) (Nat.zero_le _)
  rw [Nat.add_zero off] at k1'
  rw [Nat.add_zero o2] at k2'
  have q1 : (0 : Int) < ((s.L.n + 1 : Nat) : Int) := by omega
  have q2 : 0 < s.L.n + 1 := by omega
  have q3 : (0 : Int) < ((s.R.n + 1 : Nat) : Int) := by omega
  have q4 : 0 < s.R.n + 1 := by omega
  have q5 : 0 ≤ fpot s (0, 0) := HP0.out
  clear hb2 hv hcell HB0 HR1 HR2
  go_upto_region 6 with fail
  clear q1 q2 q3 q4 q5 k1' k2'
  generalize w2.alloc (.cells #[.slice (some ⟨b, off, none⟩) (s.L.n + 1) c] 23) = w3 at *
  generalize w2.heap.size = B9 at *
  obtain ⟨Bl, hBl⟩ : ∃ Bl, Bl = w.heap.size := ⟨_, rfl⟩
  rw [← hBl] at HR13 HR23 ⊢
  have HBL := hid hBl
  clear hBl
  have HSh : Hid (∀ w', Below w3.heap.size w3 w' → (w'.cell? ⟨Bl, 0, none⟩ = some (.slice a1 s.L.lines.length c1) ∧ w'.cell? ⟨Bl, 1, none⟩ = some (.slice a2 s.L.notes.length c2) ∧ w'.cell? ⟨Bl, 2, none⟩ = some (.slice a3 s.L.pens.length c3) ∧ w'.cell? ⟨Bl, 3, none⟩ = some (.int .i64 s.L.h) ∧ w'.cell? ⟨Bl, 4, none⟩ = some (.int .i64 s.L.gap)) ∧
      (w'.cell? ⟨Bl + 1, 0, none⟩ = some (.slice a4 s.R.lines.length c4) ∧ w'.cell? ⟨Bl + 1, 1, none⟩ = some (.slice a5 s.R.notes.length c5) ∧ w'.cell? ⟨Bl + 1, 2, none⟩ = some (.slice a6 s.R.pens.length c6) ∧ w'.cell? ⟨Bl + 1, 3, none⟩ = some (.int .i64 s.R.h) ∧ w'.cell? ⟨Bl + 1, 4, none⟩ = some (.int .i64 s.R.gap)) ∧ Below w3.heap.size w3 w') := fun w' hb =>
    ⟨⟨(HR13.out.below hb).cell 0 rfl, (HR13.out.below hb).cell 1 rfl, (HR13.out.below hb).cell 2 rfl, (HR13.out.below hb).cell 3 rfl, (HR13.out.below hb).cell 4 rfl⟩,
      ⟨(HR23.out.below hb).cell 0 rfl, (HR23.out.below hb).cell 1 rfl, (HR23.out.below hb).cell 2 rfl, (HR23.out.below hb).cell 3 rfl, (HR23.out.below hb).cell 4 rfl⟩, hb⟩
  have HFA := hid (fun w' (hb : Below w3.heap.size w3 w') => (HR.out.below HB3.out).below hb)
  have hB3 := Below.refl w3.heap.size w3
  clear HR13 HR23
  go_cut [11] from 35 to 43 (fun v wx => ∃ B11 aL nL cL aR nR cR, v = .pointer (some ⟨B11, 0, none⟩) ∧ Hid (Row wx B11 (fsC s ⟨.slice a1 s.L.lines.length c1, .slice a2 s.L.notes.length c2, .slice a3 s.L.pens.length c3, .slice a4 s.R.lines.length c4, .slice a5 s.R.notes.length c5, .slice a6 s.R.pens.length c6, .slice a7 s.A.length c7, .slice aL nL cL, .slice aR nR cR⟩) 46 ∧ FsR wx ⟨.slice a1 s.L.lines.length c1, .slice a2 s.L.notes.length c2, .slice a3 s.L.pens.length c3, .slice a4 s.R.lines.length c4, .slice a5 s.R.notes.length c5, .slice a6 s.R.pens.length c6, .slice a7 s.A.length c7, .slice aL nL cL, .slice aR nR cR⟩ s ∧ Below w3.heap.size w3 wx))
  case first =>
    --R6<
    go_region_held3 (fun w' => (w'.cell? ⟨Bl, 0, none⟩ = some (.slice a1 s.L.lines.length c1) ∧ w'.cell? ⟨Bl, 1, none⟩ = some (.slice a2 s.L.notes.length c2) ∧ w'.cell? ⟨Bl, 2, none⟩ = some (.slice a3 s.L.pens.length c3) ∧ w'.cell? ⟨Bl, 3, none⟩ = some (.int .i64 s.L.h) ∧ w'.cell? ⟨Bl, 4, none⟩ = some (.int .i64 s.L.gap)) ∧
      (w'.cell? ⟨Bl + 1, 0, none⟩ = some (.slice a4 s.R.lines.length c4) ∧ w'.cell? ⟨Bl + 1, 1, none⟩ = some (.slice a5 s.R.notes.length c5) ∧ w'.cell? ⟨Bl + 1, 2, none⟩ = some (.slice a6 s.R.pens.length c6) ∧ w'.cell? ⟨Bl + 1, 3, none⟩ = some (.int .i64 s.R.h) ∧ w'.cell? ⟨Bl + 1, 4, none⟩ = some (.int .i64 s.R.gap)) ∧ Below w3.heap.size w3 w')
      (with_reducible exact HSh.out _ (by first | with_reducible assumption | with_reducible exact fsZ_st _ _ _ _ _ _ _ _ _ _ _ _ _ (by with_reducible assumption) (by with_reducible assumption) | with_reducible exact Below.drew (by with_reducible assumption) | with_reducible exact below_tr (by with_reducible assumption) (below_al _ _) | with_reducible exact below_tr (Below.drew (by with_reducible assumption)) (below_al _ _) | with_reducible exact Below.drew (below_tr (by with_reducible assumption) (below_al _ _))))
      (first | (go_at_call 13; go_split_ands; (first
          | ((with_reducible refine (HPL.out _ (HFA.out _ (by with_reducible assumption))).mono ?_); rintro e wz ⟨vL, rfl, hRL, hBL⟩; obtain ⟨aL, cL, eL⟩ := hRL.sl; subst eL; have zs := below_tr (by with_reducible assumption : Below w3.heap.size w3 _) hBL; (first | have zr := fsZ_al (n := w3.heap.size) hBL (by first | exact Nat.le_refl w3.heap.size | exact Below.size (by with_reducible assumption)) | have zr := fsZ_ald (n := w3.heap.size) hBL (by first | exact Nat.le_refl w3.heap.size | exact Below.size (by with_reducible assumption)) | have zr := fsZ_be (by with_reducible assumption) hBL | have zr := fsZ_bed (by with_reducible assumption) hBL | skip); (first | have zc := fsZ_cells zr | skip))
          | ((with_reducible refine (HPR.out _ (HFA.out _ (by with_reducible assumption))).mono ?_); rintro e wz ⟨vR, rfl, hRR, hBR⟩; obtain ⟨aR, cR, eR⟩ := hRR.sl; subst eR; have zs := below_tr (by with_reducible assumption : Below w3.heap.size w3 _) hBR; (first | have zr := fsZ_al (n := w3.heap.size) hBR (by first | exact Nat.le_refl w3.heap.size | exact Below.size (by with_reducible assumption)) | have zr := fsZ_ald (n := w3.heap.size) hBR (by first | exact Nat.le_refl w3.heap.size | exact Below.size (by with_reducible assumption)) | have zr := fsZ_be (by with_reducible assumption) hBR | have zr := fsZ_bed (by with_reducible assumption) hBR | skip); (first | have zc := fsZ_cells zr | skip); (first | have hLL := PrR.below hRL hBR | have hLL := PrR.below (PrR.below hRL (below_al _ _)) hBR)))))
    all_goals go_split_ands
    all_goals (dsimp only [Exit.then]; go_step; go_meet)
    all_goals (first
      | with_reducible exact ⟨_, _, _, _, _, _, _, rfl, hid (fb6_A (s := s) (x := ⟨.slice a1 s.L.lines.length c1, .slice a2 s.L.notes.length c2, .slice a3 s.L.pens.length c3, .slice a4 s.R.lines.length c4, .slice a5 s.R.notes.length c5, .slice a6 s.R.pens.length c6, .slice a7 s.A.length c7, .slice aL (prcM s.L (s.L.lines.length + 1) (s.L.lines.length + 1)).length cL, .slice aR (prcM s.R (s.R.lines.length + 1) (s.R.lines.length + 1)).length cR⟩) (by with_reducible assumption) (fun w' hb => ⟨(HFA.out w' hb).l, (HFA.out w' hb).r, (HFA.out w' hb).a⟩) hLL hRR)⟩
      | with_reducible exact ⟨_, _, _, _, _, _, _, rfl, hid (fb6_B (s := s) (x := ⟨.slice a1 s.L.lines.length c1, .slice a2 s.L.notes.length c2, .slice a3 s.L.pens.length c3, .slice a4 s.R.lines.length c4, .slice a5 s.R.notes.length c5, .slice a6 s.R.pens.length c6, .slice a7 s.A.length c7, .slice aL (prcM s.L (s.L.lines.length + 1) (s.L.lines.length + 1)).length cL, .slice aR (prcM s.R (s.R.lines.length + 1) (s.R.lines.length + 1)).length cR⟩) (by with_reducible assumption) (by with_reducible assumption) (fun w' hb => ⟨(HFA.out w' hb).l, (HFA.out w' hb).r, (HFA.out w' hb).a⟩) hLL hRR)⟩)
    --R6>
  case rest =>
    obtain ⟨B11, aL, nL, cL, aR, nR, cR, rfl, H6⟩ := hcut
    obtain ⟨Wb, rfl⟩ : ∃ Wb : World, Wb = wc := ⟨_, rfl⟩
    have HB5 := hid (below_tr HB3.out H6.out.2.2)
    have H95 := hid (H93.out.below H6.out.2.2)
    have HT5 : Hid (∀ i k, i ≤ s.L.n → k ≤ s.R.n → ∃ b2 o2 c2, Wb.cell? ⟨b, off + i, none⟩ = some (.slice (some ⟨b2, o2, none⟩) (s.R.n + 1) c2) ∧ Wb.cell? ⟨b2, o2 + k, none⟩ = some (.int .i64 (fpot s (i, k)))) := fun i k hi hk => by
      obtain ⟨b2, o2, c2, h1, h2⟩ := HT3.out i k hi hk
      exact ⟨b2, o2, c2, Below.keeps H6.out.2.2 _ _ h1, Below.keeps H6.out.2.2 _ _ h2⟩
    have H11 := hid H6.out.1
    have HRS := hid H6.out.2.1
    clear H6 HT3 H93 HB3 HSh HFA hB3 HPL HPR HP HR
    have HFS : Hid ((#[.slice a1 s.L.lines.length c1, .slice a2 s.L.notes.length c2, .slice a3 s.L.pens.length c3, .int .i64 s.L.h, .int .i64 s.L.gap, .slice a4 s.R.lines.length c4, .slice a5 s.R.notes.length c5, .slice a6 s.R.pens.length c6, .int .i64 s.R.h, .int .i64 s.R.gap, .slice a7 s.A.length c7, .slice aL nL cL, .slice aR nR cR] : Array Value) = fsC s ⟨.slice a1 s.L.lines.length c1, .slice a2 s.L.notes.length c2, .slice a3 s.L.pens.length c3, .slice a4 s.R.lines.length c4, .slice a5 s.R.notes.length c5, .slice a6 s.R.pens.length c6, .slice a7 s.A.length c7, .slice aL nL cL, .slice aR nR cR⟩) := rfl
    have HI0 : Hid (FbI w Wb Wb.heap.size (Wb.heap.size + 1) (0, 0) [] (.slice none 0 0) ((Wb.alloc (.cells #[.slice none 0 0] 23)).alloc (.cells #[.int .i64 0, .int .i64 0] 48))) :=
      ⟨below_tr (below_tr HB5.out (below_al _ _)) (below_al _ _), (OldW.of (below_al _ _)).tr (below_al _ _), (row_nw Wb _ _ rfl).al _, row_nw _ _ _ (by simp), FPr.nil _ _, Nat.le_refl _, by omega⟩
    go_wp2_with fail
    generalize (Wb.alloc (.cells #[.slice none 0 0] 23)).alloc (.cells #[.int .i64 0, .int .i64 0] 48) = W0 at *
    obtain ⟨B12, hB12⟩ : ∃ B12, B12 = Wb.heap.size := ⟨_, rfl⟩
    rw [← hB12] at HI0 ⊢
    have HB12 := hid hB12
    clear hB12
    have hp0 : posF s (0, 0) = totF s := rfl
    refine wp_loop_ghost (FbkJ w Wb s B9 B11 B12) (totF s) ⟨[], B12 + 1, (0, 0), totF s, [], _, _, _, _, _, _, _, _, _, _, _, _, _, _, _, _, _, _, _, _, _, _, _, _, _, _, _, _, _, _, _, _, _, _, _, _, _, _, _, _, _, _, _, _, _, _, _, _, _, _, _, _, _, _, _, _, _, _, _, _, _, _, _, _, _, _, _, _, _, _, _, _, _, _, _, _, _, _, _, _, _, _, _, _, _, _, _, _, _, _, _, _, rfl, Nat.zero_le _, Nat.zero_le _, hp0.symm, Nat.le_of_eq hp0, HP0.out, rfl, by rw [hp0]; exact Nat.le_of_eq (Nat.zero_add _), HI0.out, MkOk.nil _ _⟩ ?_
    clear HI0 hp0
    intro k a wr hh
    refine FbkJ.elim hh ?_
    clear hh
    intro Ds B13 f fu L v u0 u1 u2 u3 u4 u5 u6 u7 u8 u10 u14 u15 u16 u17 u18 u19 u20 u21 u22 u23 u24 u25 u26 u27 u28 u29 u30 u31 u32 u33 u34 u35 u36 u37 u38 u39 u40 u41 u42 u43 u44 u45 u46 u47 u48 u49 u50 u51 u52 u53 u54 u55 u56 u57 u58 u59 u60 u61 u62 u63 u64 u65 u66 u67 u68 u69 u70 u71 u72 u73 u74 u75 u76 u77 u78 u79 u80 u81 u82 u83 u84 u85 u86 u87 u88 u89 u90 u91 u92 u93 u94 ⟨hf1, hf2, hk, hfu, hpf, hL, hLl, hI, hM⟩
    have HI := hid hI
    have HM := hid hM
    have HL := hid hL
    have HPF := hid hpf
    have HKK := hid hk
    have HLL := hid hLl
    have HFU := hid hfu
    clear hI hM hL hpf hk hLl hfu
    obtain ⟨f1, f2⟩ := f
    dsimp only at hf1 hf2
    unfold fbkA
    dsimp only
    generalize hds : mksD Ds = ds
    have HS11 := hid (H11.out.oldX HI.out.old)
    go_upto_region 9 with fail
    go_cut [47] from 44 to 48 (fun v wx => v = .bool (decide (¬ (f1, f2) = s.e)) ∧ Hid (Below wr.heap.size wr wx))
    case first =>
      --R9<
      have HSh9 : Hid (∀ w', Below wr.heap.size wr w' → (w'.cell? ⟨B11, 0, none⟩ = some (.slice a1 s.L.lines.length c1) ∧ w'.cell? ⟨B11, 1, none⟩ = some (.slice a2 s.L.notes.length c2) ∧ w'.cell? ⟨B11, 2, none⟩ = some (.slice a3 s.L.pens.length c3) ∧ w'.cell? ⟨B11, 3, none⟩ = some (.int .i64 s.L.h) ∧ w'.cell? ⟨B11, 4, none⟩ = some (.int .i64 s.L.gap) ∧ w'.cell? ⟨B11, 5, none⟩ = some (.slice a4 s.R.lines.length c4) ∧ w'.cell? ⟨B11, 6, none⟩ = some (.slice a5 s.R.notes.length c5) ∧ w'.cell? ⟨B11, 7, none⟩ = some (.slice a6 s.R.pens.length c6) ∧ w'.cell? ⟨B11, 8, none⟩ = some (.int .i64 s.R.h) ∧ w'.cell? ⟨B11, 9, none⟩ = some (.int .i64 s.R.gap) ∧ w'.cell? ⟨B11, 10, none⟩ = some (.slice a7 s.A.length c7) ∧ w'.cell? ⟨B11, 11, none⟩ = some (.slice aL nL cL) ∧ w'.cell? ⟨B11, 12, none⟩ = some (.slice aR nR cR)) ∧ (w'.cell? ⟨B13, 0, none⟩ = some (.int .i64 (f1 : Int)) ∧ w'.cell? ⟨B13, 1, none⟩ = some (.int .i64 (f2 : Int))) ∧ Below wr.heap.size wr w') := fun w' hb =>
        ⟨⟨(HS11.out.below hb).cell 0 rfl, (HS11.out.below hb).cell 1 rfl, (HS11.out.below hb).cell 2 rfl, (HS11.out.below hb).cell 3 rfl, (HS11.out.below hb).cell 4 rfl, (HS11.out.below hb).cell 5 rfl, (HS11.out.below hb).cell 6 rfl, (HS11.out.below hb).cell 7 rfl, (HS11.out.below hb).cell 8 rfl, (HS11.out.below hb).cell 9 rfl, (HS11.out.below hb).cell 10 rfl, (HS11.out.below hb).cell 11 rfl, (HS11.out.below hb).cell 12 rfl⟩, ⟨(HI.out.b13.below hb).cell 0 rfl, (HI.out.b13.below hb).cell 1 rfl⟩, hb⟩
      have HE : Hid (∀ w', Below wr.heap.size wr w' → Calls Try.prog 14 #[.agg #[.slice a1 s.L.lines.length c1, .slice a2 s.L.notes.length c2, .slice a3 s.L.pens.length c3, .int .i64 s.L.h, .int .i64 s.L.gap, .slice a4 s.R.lines.length c4, .slice a5 s.R.notes.length c5, .slice a6 s.R.pens.length c6, .int .i64 s.R.h, .int .i64 s.R.gap, .slice a7 s.A.length c7, .slice aL nL cL, .slice aR nR cR]] w' fun e w'' => e = .returned (.agg #[.int .i64 s.L.n, .int .i64 s.R.n]) ∧ Below w'.heap.size w' w'') := fun w' hb =>
        fend_any2 s ⟨.slice a1 s.L.lines.length c1, .slice a2 s.L.notes.length c2, .slice a3 s.L.pens.length c3, .slice a4 s.R.lines.length c4, .slice a5 s.R.notes.length c5, .slice a6 s.R.pens.length c6, .slice a7 s.A.length c7, .slice aL nL cL, .slice aR nR cR⟩ w' (HRS.out.oldV fun p v hv => Below.keeps hb _ _ (HI.out.old.cell hv))
      have hB9 := Below.refl wr.heap.size wr
      by_cases e1 : f1 = s.L.n
      · have i1 : ((f1 : Int) == (s.L.n : Int)) = true := by rw [e1]; simp
        by_cases e2 : f2 = s.R.n
        · have i2 : ((f2 : Int) == (s.R.n : Int)) = true := by rw [e2]; simp
          have HV : Hid (decide (¬ (f1, f2) = s.e) = false) := decide_eq_false (fun h => h (Prod.ext e1 e2))
          clear e1 e2
          go_region_held3 (fun w' => (w'.cell? ⟨B11, 0, none⟩ = some (.slice a1 s.L.lines.length c1) ∧ w'.cell? ⟨B11, 1, none⟩ = some (.slice a2 s.L.notes.length c2) ∧ w'.cell? ⟨B11, 2, none⟩ = some (.slice a3 s.L.pens.length c3) ∧ w'.cell? ⟨B11, 3, none⟩ = some (.int .i64 s.L.h) ∧ w'.cell? ⟨B11, 4, none⟩ = some (.int .i64 s.L.gap) ∧ w'.cell? ⟨B11, 5, none⟩ = some (.slice a4 s.R.lines.length c4) ∧ w'.cell? ⟨B11, 6, none⟩ = some (.slice a5 s.R.notes.length c5) ∧ w'.cell? ⟨B11, 7, none⟩ = some (.slice a6 s.R.pens.length c6) ∧ w'.cell? ⟨B11, 8, none⟩ = some (.int .i64 s.R.h) ∧ w'.cell? ⟨B11, 9, none⟩ = some (.int .i64 s.R.gap) ∧ w'.cell? ⟨B11, 10, none⟩ = some (.slice a7 s.A.length c7) ∧ w'.cell? ⟨B11, 11, none⟩ = some (.slice aL nL cL) ∧ w'.cell? ⟨B11, 12, none⟩ = some (.slice aR nR cR)) ∧ (w'.cell? ⟨B13, 0, none⟩ = some (.int .i64 (f1 : Int)) ∧ w'.cell? ⟨B13, 1, none⟩ = some (.int .i64 (f2 : Int))) ∧ Below wr.heap.size wr w')
            (with_reducible exact HSh9.out _ (by first | with_reducible assumption | with_reducible exact Below.drew (by with_reducible assumption)))
            (first | (go_at_call 14; go_split_ands; (with_reducible refine (HE.out _ (by with_reducible assumption)).mono ?_); rintro e wz ⟨rfl, hBE⟩; have zs := below_tr (by with_reducible assumption : Below wr.heap.size wr _) hBE))
          all_goals go_split_ands
          all_goals (dsimp only [Exit.then]; go_step; go_meet)
          all_goals exact ⟨by rw [HV.out], hid (by with_reducible assumption)⟩
        · have i2 : ((f2 : Int) == (s.R.n : Int)) = false := beq_eq_false_iff_ne.2 (by omega)
          have HV : Hid (decide (¬ (f1, f2) = s.e) = true) := decide_eq_true fun h => e2 (congrArg Prod.snd h)
          clear e1 e2
          go_region_held3 (fun w' => (w'.cell? ⟨B11, 0, none⟩ = some (.slice a1 s.L.lines.length c1) ∧ w'.cell? ⟨B11, 1, none⟩ = some (.slice a2 s.L.notes.length c2) ∧ w'.cell? ⟨B11, 2, none⟩ = some (.slice a3 s.L.pens.length c3) ∧ w'.cell? ⟨B11, 3, none⟩ = some (.int .i64 s.L.h) ∧ w'.cell? ⟨B11, 4, none⟩ = some (.int .i64 s.L.gap) ∧ w'.cell? ⟨B11, 5, none⟩ = some (.slice a4 s.R.lines.length c4) ∧ w'.cell? ⟨B11, 6, none⟩ = some (.slice a5 s.R.notes.length c5) ∧ w'.cell? ⟨B11, 7, none⟩ = some (.slice a6 s.R.pens.length c6) ∧ w'.cell? ⟨B11, 8, none⟩ = some (.int .i64 s.R.h) ∧ w'.cell? ⟨B11, 9, none⟩ = some (.int .i64 s.R.gap) ∧ w'.cell? ⟨B11, 10, none⟩ = some (.slice a7 s.A.length c7) ∧ w'.cell? ⟨B11, 11, none⟩ = some (.slice aL nL cL) ∧ w'.cell? ⟨B11, 12, none⟩ = some (.slice aR nR cR)) ∧ (w'.cell? ⟨B13, 0, none⟩ = some (.int .i64 (f1 : Int)) ∧ w'.cell? ⟨B13, 1, none⟩ = some (.int .i64 (f2 : Int))) ∧ Below wr.heap.size wr w')
            (with_reducible exact HSh9.out _ (by first | with_reducible assumption | with_reducible exact Below.drew (by with_reducible assumption)))
            (first | (go_at_call 14; go_split_ands; (with_reducible refine (HE.out _ (by with_reducible assumption)).mono ?_); rintro e wz ⟨rfl, hBE⟩; have zs := below_tr (by with_reducible assumption : Below wr.heap.size wr _) hBE))
          all_goals go_split_ands
          all_goals (dsimp only [Exit.then]; go_step; go_meet)
          all_goals exact ⟨by rw [HV.out], hid (by with_reducible assumption)⟩
      · have i1 : ((f1 : Int) == (s.L.n : Int)) = false := beq_eq_false_iff_ne.2 (by omega)
        have HV : Hid (decide (¬ (f1, f2) = s.e) = true) := decide_eq_true fun h => e1 (congrArg Prod.fst h)
        clear e1
        go_region_held3 (fun w' => (w'.cell? ⟨B11, 0, none⟩ = some (.slice a1 s.L.lines.length c1) ∧ w'.cell? ⟨B11, 1, none⟩ = some (.slice a2 s.L.notes.length c2) ∧ w'.cell? ⟨B11, 2, none⟩ = some (.slice a3 s.L.pens.length c3) ∧ w'.cell? ⟨B11, 3, none⟩ = some (.int .i64 s.L.h) ∧ w'.cell? ⟨B11, 4, none⟩ = some (.int .i64 s.L.gap) ∧ w'.cell? ⟨B11, 5, none⟩ = some (.slice a4 s.R.lines.length c4) ∧ w'.cell? ⟨B11, 6, none⟩ = some (.slice a5 s.R.notes.length c5) ∧ w'.cell? ⟨B11, 7, none⟩ = some (.slice a6 s.R.pens.length c6) ∧ w'.cell? ⟨B11, 8, none⟩ = some (.int .i64 s.R.h) ∧ w'.cell? ⟨B11, 9, none⟩ = some (.int .i64 s.R.gap) ∧ w'.cell? ⟨B11, 10, none⟩ = some (.slice a7 s.A.length c7) ∧ w'.cell? ⟨B11, 11, none⟩ = some (.slice aL nL cL) ∧ w'.cell? ⟨B11, 12, none⟩ = some (.slice aR nR cR)) ∧ (w'.cell? ⟨B13, 0, none⟩ = some (.int .i64 (f1 : Int)) ∧ w'.cell? ⟨B13, 1, none⟩ = some (.int .i64 (f2 : Int))) ∧ Below wr.heap.size wr w')
          (with_reducible exact HSh9.out _ (by first | with_reducible assumption | with_reducible exact Below.drew (by with_reducible assumption)))
          (first | (go_at_call 14; go_split_ands; (with_reducible refine (HE.out _ (by with_reducible assumption)).mono ?_); rintro e wz ⟨rfl, hBE⟩; have zs := below_tr (by with_reducible assumption : Below wr.heap.size wr _) hBE))
        all_goals go_split_ands
        all_goals (dsimp only [Exit.then]; go_step; go_meet)
        all_goals exact ⟨by rw [HV.out], hid (by with_reducible assumption)⟩
      --R9>
    case rest =>
      obtain ⟨rfl, HBT⟩ := hcut
      have HI1 := hid (HI.out.below HBT.out)
      have HM1 := hid (HM.out.below HBT.out)
      have HS1 := hid (HS11.out.below HBT.out)
      clear HI HM HS11 HBT
      by_cases he : (f1, f2) = s.e
      case pos =>
        --RX<
        have i1 : decide (¬ (f1, f2) = s.e) = false := decide_eq_false fun h => h he
        have HLB : Hid (L = fbr s) := by
          have h := HL.out
          have e : fbrF s fu (f1, f2) = [] := by
            cases fu with
            | zero => rfl
            | succ m => rw [fbrF, if_pos he]
          rw [e, List.append_nil] at h
          exact h
        have c9 := (H95.out.oldX HI1.out.old).cell 0 (x := .slice (some ⟨b, off, none⟩) (s.L.n + 1) c) rfl
        obtain ⟨b3, o3, c3', k1, k2⟩ := HT5.out 0 0 (Nat.zero_le _) (Nat.zero_le _)
        rw [Nat.add_zero off] at k1
        rw [Nat.add_zero o3] at k2
        have k1' := HI1.out.old.cell k1
        have k2' := HI1.out.old.cell k2
        have HRV := hid HI1.out.own.rd
        obtain ⟨av, cv, hvv⟩ : ∃ av cv, v = .slice av L.length cv := by
          obtain ⟨av, cv, h1, _⟩ := HRV.out
          exact ⟨av, cv, by rw [h1]; unfold spM; simp⟩
        have c12 := HI1.out.b12.cell 0 (x := v) rfl
        rw [hvv] at c12 HRV
        have q1 : (0 : Int) < ((s.L.n + 1 : Nat) : Int) := by omega
        have q2 : 0 < s.L.n + 1 := by omega
        have q3 : (0 : Int) < ((s.R.n + 1 : Nat) : Int) := by omega
        have q4 : 0 < s.R.n + 1 := by omega
        have HD : Hid (RdM wc (.slice av L.length cv) (spM (fbr s)) ∧ Below w.heap.size w wc) := ⟨by rw [← HLB.out]; exact HRV.out, HI1.out.bel⟩
        rw [i1]
        clear HI1 hvv HRV HL HPF HKK he i1 k1 k2 HS1
        go_upto_region 19 with fail
        go_region
        all_goals go_wp2_with fail
        all_goals subst hds
        all_goals refine leaveMks3 rfl (B := w.heap.size) (fun W => RdM W (.slice av L.length cv) (spM (fbr s)) ∧ Below w.heap.size w W) (fun W D h hD hat => ⟨h.1.monoC fun pp vv hv => ?_, h.2.grown (grownBy_putObj' _ D _) h.2.size (fun r e => by cases e; exact hD)⟩) (fun W h => ⟨_, rfl, h.1, h.2⟩) Ds _ ((HM1.out).below (Below.refl _ _).drew) ⟨HD.out.1.below (Below.refl _ _).drew, below_tr HD.out.2 (Below.refl _ _).drew⟩
        all_goals exact (putObj_cell W D hat hv)
        --RX>
      case neg =>
        have i1 : decide (¬ (f1, f2) = s.e) = true := decide_eq_true he
        have HNE := hid he
        rw [i1]
        clear he i1
        have d13a := HI1.out.b13.cell 0 (x := .int .i64 (f1 : Int)) rfl
        have d13b := HI1.out.b13.cell 1 (x := .int .i64 (f2 : Int)) rfl
        --SA
        go_wp2_with (first | (refine wpList_load_rowF rfl 46 _ rfl _ rfl 46 _ _ HS1.out Try.underlying46 rfl (by kernel_rfl) ?_) | fail)
        (with_reducible refine (fpages_any s ⟨.slice a1 s.L.lines.length c1, .slice a2 s.L.notes.length c2, .slice a3 s.L.pens.length c3, .slice a4 s.R.lines.length c4, .slice a5 s.R.notes.length c5, .slice a6 s.R.pens.length c6, .slice a7 s.A.length c7, .slice aL nL cL, .slice aR nR cR⟩ (f1, f2) _).mono ?_)
        rintro e w5 ⟨rfl, rfl⟩
        have HB8 : Hid (Below wc.heap.size wc ((wc.alloc (.cells (fsC s ⟨.slice a1 s.L.lines.length c1, .slice a2 s.L.notes.length c2, .slice a3 s.L.pens.length c3, .slice a4 s.R.lines.length c4, .slice a5 s.R.notes.length c5, .slice a6 s.R.pens.length c6, .slice a7 s.A.length c7, .slice aL nL cL, .slice aR nR cR⟩) 46)).alloc (.cells #[.int .i64 f1, .int .i64 f2] 48))) := below_tr (below_al _ _) (below_al _ _)
        have HI8 := hid (HI1.out.below HB8.out)
        have HM8 := hid (HM1.out.below HB8.out)
        have HG8 : Hid (FgO Wb s ⟨.slice a1 s.L.lines.length c1, .slice a2 s.L.notes.length c2, .slice a3 s.L.pens.length c3, .slice a4 s.R.lines.length c4, .slice a5 s.R.notes.length c5, .slice a6 s.R.pens.length c6, .slice a7 s.A.length c7, .slice aL nL cL, .slice aR nR cR⟩ (f1, f2) wc.heap.size (wc.heap.size + 1) ((wc.alloc (.cells (fsC s ⟨.slice a1 s.L.lines.length c1, .slice a2 s.L.notes.length c2, .slice a3 s.L.pens.length c3, .slice a4 s.R.lines.length c4, .slice a5 s.R.notes.length c5, .slice a6 s.R.pens.length c6, .slice a7 s.A.length c7, .slice aL nL cL, .slice aR nR cR⟩) 46)).alloc (.cells #[.int .i64 f1, .int .i64 f2] 48))) :=
          ⟨(row_nw wc (fsC s ⟨.slice a1 s.L.lines.length c1, .slice a2 s.L.notes.length c2, .slice a3 s.L.pens.length c3, .slice a4 s.R.lines.length c4, .slice a5 s.R.notes.length c5, .slice a6 s.R.pens.length c6, .slice a7 s.A.length c7, .slice aL nL cL, .slice aR nR cR⟩) 46 rfl).al _, row_nw _ _ _ (by simp), fun p v hv => HI8.out.old.cell hv⟩
        have HZ8 : Hid (wc.heap.size + 2 ≤ ((wc.alloc (.cells (fsC s ⟨.slice a1 s.L.lines.length c1, .slice a2 s.L.notes.length c2, .slice a3 s.L.pens.length c3, .slice a4 s.R.lines.length c4, .slice a5 s.R.notes.length c5, .slice a6 s.R.pens.length c6, .slice a7 s.A.length c7, .slice aL nL cL, .slice aR nR cR⟩) 46)).alloc (.cells #[.int .i64 f1, .int .i64 f2] 48)).heap.size ∧ B12 < wc.heap.size) := ⟨by simp, HI1.out.b12.lt⟩
        clear HI1 HM1 HS1 d13a d13b HB8
        go_wp2_with fail
        --SB
        generalize (wc.alloc (.cells (fsC s ⟨.slice a1 s.L.lines.length c1, .slice a2 s.L.notes.length c2, .slice a3 s.L.pens.length c3, .slice a4 s.R.lines.length c4, .slice a5 s.R.notes.length c5, .slice a6 s.R.pens.length c6, .slice a7 s.A.length c7, .slice aL nL cL, .slice aR nR cR⟩) 46)).alloc (.cells #[.int .i64 f1, .int .i64 f2] 48) = W3 at *
        generalize wc.heap.size = z1 at *
        have HWW : Hid (w.heap.size ≤ Wb.heap.size) := HB5.out.size
        have HW3 : Hid (Wb.heap.size ≤ W3.heap.size ∧ w.heap.size ≤ W3.heap.size) := ⟨HI8.out.old.1, HI8.out.bel.size⟩
        refine (wpIn_wide (n := 9)).1 ?_
        refine wpIn_rangeFunc_ownQ rfl (by omega) (gf := 31) (lb := #[.pointer (some ⟨z1, 0, none⟩), .pointer (some ⟨z1 + 1, 0, none⟩)]) rfl trivial (enters_of Try.func31 (by kernel_rfl) rfl)
          (encs := fun x : {x : (Nat × Nat) × Int // x ∈ fpg s (f1, f2)} => #[.agg #[.int .i64 (x.1.1.1 : Int), .int .i64 (x.1.1.2 : Int)], .int .i64 x.1.2]) (Kp := KpY B12)
          (S := fun xs => xs.map (·.1) = fpg s (f1, f2)) (Sp := fun xs => ∃ r, xs.map (·.1) ++ r = fpg s (f1, f2)) (N := (fpg s (f1, f2)).length) (w0 := W3)
          ?hseq (fun h k => h.tr k) KpY.put (Below.refl _ _) (fun _ => rfl)
          (fun pre W => FbI w Wb B12 B13 (f1, f2) L v W ∧ MkOk w.heap.size Ds W ∧ (∀ y ∈ pre, fbrP s (f1, f2) y.1 = false) ∧ W3.heap.size ≤ W.heap.size)
          (fun cc pre W => FbkX w Wb s B12 B13 (f1, f2) L Ds cc pre W)
          ?own ?own2 ⟨HI8.out, HM8.out, (fun y hy => by cases hy), Nat.le_refl _⟩ ?a1 (fun x => #[.int .i64 (x.1.1.1 : Int), .int .i64 (x.1.1.2 : Int)]) 48 ?assign ?body ?done ?stop
        case own =>
          intro st A C row hs hg hr
          exact ⟨hs.1.grown HW3.out.2 HW3.out.1 hg hr, hs.2.1.grownN HM8.out (Nat.le_refl _) hg (fun r e => (hr r e).1), hs.2.2.1, Nat.le_trans hs.2.2.2 hg.size⟩
        case own2 =>
          rintro cc st A C row ⟨h1, pre0, x, g, cap, h2, h3, h4, h5, h6⟩ hg hr
          subst h1 h2; exact FbkX.mk x g cap h3 h4 (h5.grown HW3.out.2 HW3.out.1 hg hr) (h6.grownN HM8.out (Nat.le_refl _) hg (fun r e => (hr r e).1))
        case assign => as_aux_lemma =>
          intro yl pre x W' K hinv hK
          have hal := below_al W' (.cells #[.int .i64 (x.1.1.1 : Int), .int .i64 (x.1.1.2 : Int)] 48)
          have hrw := row_nw W' #[.int .i64 (x.1.1.1 : Int), .int .i64 (x.1.1.2 : Int)] 48 rfl
          have HK := hid (fun q (hqq : q = W'.heap.size) => hK q _ (keepsFrom_below hal) (KpY.of hal) ⟨hinv.1.below hal, hinv.2.1.below hal, hinv.2.2.1, Nat.le_trans hinv.2.2.2 hal.size⟩ (hqq ▸ hrw))
          clear hK hrw hal
          gi_wp2
          obtain ⟨q, hq⟩ : ∃ q, q = W'.heap.size := ⟨_, rfl⟩
          rw [← hq]
          exact HK.out q hq
        case hseq => as_aux_lemma =>
          intro yl J Jx W' hW' hJ _ hY h0
          have hz := HZ8.out
          have hl12 := HI8.out.l12
          have hww := HWW.out
          refine (fpages1_in (9 - 1) (by omega) s HF.out.ok HF.out.a2 ⟨.slice a1 s.L.lines.length c1, .slice a2 s.L.notes.length c2, .slice a3 s.L.pens.length c3, .slice a4 s.R.lines.length c4, .slice a5 s.R.notes.length c5, .slice a6 s.R.pens.length c6, .slice a7 s.A.length c7, .slice aL nL cL, .slice aR nR cR⟩ (f1, f2) hf1 hf2 z1 (z1 + 1) _ (Nat.le_refl _) (fun W => FgO Wb s ⟨.slice a1 s.L.lines.length c1, .slice a2 s.L.notes.length c2, .slice a3 s.L.pens.length c3, .slice a4 s.R.lines.length c4, .slice a5 s.R.notes.length c5, .slice a6 s.R.pens.length c6, .slice a7 s.A.length c7, .slice aL nL cL, .slice aR nR cR⟩ (f1, f2) z1 (z1 + 1) W) (fun A h => ⟨h.bs, h.bf, HRS.out.oldV h.old⟩) (fun A C h hb => h.below hb) (KpY B12)
            (fun A C hk h => h.kp hk (by omega) (by omega) hl12) yl (fun pre W => ∃ pre' : List {x : (Nat × Nat) × Int // x ∈ fpg s (f1, f2)}, pre'.map (·.1) = pre ∧ J pre' W) (fun pre W => ∃ pre' : List {x : (Nat × Nat) × Int // x ∈ fpg s (f1, f2)}, pre'.map (·.1) = pre ∧ Jx pre' W)
            (fun pre x W hx ⟨pre', h1, h2⟩ hlen => (hY pre' ⟨x, hx⟩ W h2 (by rw [← h1, List.length_map] at hlen; exact hlen)).mono ?_) W' (fun A C k cs t hk hkp hr => hkp.rw k cs t (by have := hW'.size; omega) hr) (fun st A C row ⟨pre', h1, h2⟩ hg hr => ⟨pre', h1, hJ _ _ _ row h2 hg hr⟩) (HG8.out.below hW') ⟨[], rfl, h0⟩).mono ?_
          · rintro e A (⟨h3, h4, h5⟩ | ⟨h3, h4⟩)
            · exact .inl ⟨h3, ⟨_, by rw [List.map_append, h1]; rfl, h4⟩, h5⟩
            · exact .inr ⟨h3, ⟨_, by rw [List.map_append, h1]; rfl, h4⟩⟩
          · rintro e W4 ⟨h1, h2⟩
            refine ⟨h1, ?_⟩
            rcases h2 with ⟨pre', h3, h4⟩ | ⟨pre, ⟨r, hr⟩, pre', h3, h4⟩
            · exact .inl ⟨pre', h3, h4⟩
            · exact .inr ⟨pre', ⟨r, by rw [h3]; exact hr⟩, h4⟩
        case done => as_aux_lemma =>
          rintro D ys W' hD hys ⟨_, _, hno, _⟩ hK
          exfalso
          obtain ⟨x, hx, h1, h2⟩ := fpot_hit (s := s) (f := (f1, f2)) hf1 hf2 HNE.out HPF.out
          have hx2 := hx
          rw [← hys] at hx2
          obtain ⟨y, hy, rfl⟩ := List.mem_map.1 hx2
          have h3 := hno y hy
          unfold fbrP at h3
          rw [decide_eq_true h1, decide_eq_true h2] at h3
          cases h3
        case body =>
          --RB<
          rintro yl pre ⟨⟨⟨t1, t2⟩, n⟩, hx⟩ q W' ⟨hI, hM, hno, hW3⟩ hrow _
          dsimp only at hrow ⊢
          have hm := fpg_mem (s := s) (f := (f1, f2)) hf1 hf2 hx
          have hl2 : t1 ≤ s.L.n := hm.l2
          have hr2 : t2 ≤ s.R.n := hm.r2
          have hco := hm.co
          have hb1 := pgF_bd HF.out.ok.l f1 t1
          have hb2 := pgF_bd HF.out.ok.r f2 t2
          dsimp only at hco
          have hn0 : 0 ≤ n := by omega
          have hn1 : n ≤ 40000 := by omega
          have hpb := fpot_bd HF.out.ok (totF s) (t1, t2) hl2 hr2 posF_le
          have htot : totF s ≤ 65536 := by
            have h := HF.out.tb
            have h2 : totF s = s.L.n * (s.R.n + 1) + s.R.n := rfl
            rw [Nat.add_mul, Nat.one_mul] at h
            omega
          have hlen : L.length ≤ 65536 := by have := HLL.out; omega
          have HI := hid hI
          have HM := hid hM
          have HNO := hid hno
          have HQ := hid hrow
          have c9 := (H95.out.oldX hI.old).cell 0 (x := .slice (some ⟨b, off, none⟩) (s.L.n + 1) c) rfl
          obtain ⟨b4, o4, c4', cT1, cT2⟩ := HT5.out t1 t2 hl2 hr2
          have cT1' := hI.old.cell cT1
          have cT2' := hI.old.cell cT2
          have q0 := hrow.cell 0 (x := .int .i64 (t1 : Int)) rfl
          have q1 := hrow.cell 1 (x := .int .i64 (t2 : Int)) rfl
          have u1 : (t1 : Int) < ((s.L.n + 1 : Nat) : Int) := by omega
          have u2 : (0 : Int) ≤ (t1 : Int) := by omega
          have u3 : (t2 : Int) < ((s.R.n + 1 : Nat) : Int) := by omega
          have u4 : (0 : Int) ≤ (t2 : Int) := by omega
          have HBK : Hid (fbrP s (f1, f2) ((t1, t2), n) = (decide (0 ≤ fpot s (t1, t2)) && decide (n + fpot s (t1, t2) = fpot s (f1, f2)))) := rfl
          have hr0 : -1 ≤ fpot s (t1, t2) := hpb.1
          have hr1 : fpot s (t1, t2) ≤ 65536 * 40000 := by have := hpb.2; omega
          clear hm hco hb1 hb2 hI hM hno hrow hpb htot cT1 cT2
          generalize fpot s (t1, t2) = r at *
          generalize hbk : fbrP s (f1, f2) ((t1, t2), n) = bb at *
          have HBB := hid hbk
          clear hbk
          gi_wp2_with fail
          gi_cut [16] from 53 (fun v wx => v = .int .i64 r ∧ Hid (Below W'.heap.size W' wx))
          case first => as_aux_lemma =>
            refine wpIn_region_quietR_lit (by kernel_rfl) (by kernel_rfl) (by kernel_rfl) ?_
            repeat (gi_big_quiet_step (fail))
            refine wpQuietIn_nil ?_
            intro _ hw'
            obtain ⟨nq, hw''⟩ := hw'
            subst hw''
            gi_wp2_with fail
            gi_meet
            exact ⟨rfl, hid (below_drewN (Below.refl _ _) _)⟩
          case rest =>
            obtain ⟨rfl, HB1⟩ := hcut
            obtain ⟨W1, rfl⟩ : ∃ W1 : World, W1 = wc := ⟨_, rfl⟩
            have HI1 := hid (HI.out.below HB1.out)
            have HM1 := hid (HM.out.below HB1.out)
            have HQ1 := hid (HQ.out.below HB1.out)
            clear HI HM HQ c9 cT1' cT2' q0 q1
            have c9 := (H95.out.oldX HI1.out.old).cell 0 (x := .slice (some ⟨b, off, none⟩) (s.L.n + 1) c) rfl
            obtain ⟨b5, o5, c5', cF1, cF2⟩ := HT5.out f1 f2 hf1 hf2
            have cF1' := HI1.out.old.cell cF1
            have cF2' := HI1.out.old.cell cF2
            have d13a := HI1.out.b13.cell 0 (x := .int .i64 (f1 : Int)) rfl
            have d13b := HI1.out.b13.cell 1 (x := .int .i64 (f2 : Int)) rfl
            have v1 : (f1 : Int) < ((s.L.n + 1 : Nat) : Int) := by omega
            have v2 : (0 : Int) ≤ (f1 : Int) := by omega
            have v3 : (f2 : Int) < ((s.R.n + 1 : Nat) : Int) := by omega
            have v4 : (0 : Int) ≤ (f2 : Int) := by omega
            clear cF1 cF2 u1 u2 u3 u4
            generalize fpot s (f1, f2) = pf at *
            gi_wp2_with fail
            gi_cut [78] from 62 (fun v wx => v = .bool bb ∧ Hid (Below W1.heap.size W1 wx))
            case first => as_aux_lemma =>
              by_cases k0 : 0 ≤ r
              · by_cases k1 : n + r = pf
                · have HB : Hid (bb = true) := by show _ = _; rw [HBK.out, decide_eq_true k0, decide_eq_true k1]; rfl
                  have i1 : (n + r == pf) = true := by rw [k1]; simp
                  clear HBK k1
                  refine wpIn_region_quietR_lit (by kernel_rfl) (by kernel_rfl) (by kernel_rfl) ?_
                  repeat (gi_big_quiet_step (fail))
                  refine wpQuietIn_nil ?_
                  intro _ hw'
                  obtain ⟨nq, hw''⟩ := hw'
                  subst hw''
                  gi_wp2_with fail
                  gi_meet
                  exact ⟨by rw [HB.out], hid (below_drewN (Below.refl _ _) _)⟩
                · have HB : Hid (bb = false) := by show _ = _; rw [HBK.out, decide_eq_false k1]; simp
                  have i1 : (n + r == pf) = false := beq_eq_false_iff_ne.2 k1
                  have i2 : decide (n + r = pf) = false := decide_eq_false k1
                  clear HBK
                  refine wpIn_region_quietR_lit (by kernel_rfl) (by kernel_rfl) (by kernel_rfl) ?_
                  repeat (gi_big_quiet_step (fail))
                  refine wpQuietIn_nil ?_
                  intro _ hw'
                  obtain ⟨nq, hw''⟩ := hw'
                  subst hw''
                  gi_wp2_with fail
                  gi_meet
                  exact ⟨by rw [HB.out], hid (below_drewN (Below.refl _ _) _)⟩
              · have HB : Hid (bb = false) := by show _ = _; rw [HBK.out, decide_eq_false k0]; rfl
                have i1 : decide (0 ≤ r) = false := decide_eq_false k0
                clear HBK
                refine wpIn_region_quietR_lit (by kernel_rfl) (by kernel_rfl) (by kernel_rfl) ?_
                repeat (gi_big_quiet_step (fail))
                refine wpQuietIn_nil ?_
                intro _ hw'
                obtain ⟨nq, hw''⟩ := hw'
                subst hw''
                gi_wp2_with fail
                gi_meet
                exact ⟨by rw [HB.out], hid (below_drewN (Below.refl _ _) _)⟩
            case rest =>
              obtain ⟨rfl, HB2⟩ := hcut
              have HI2 := hid (HI1.out.below HB2.out)
              have HM2 := hid (HM1.out.below HB2.out)
              have HQ2 := hid (HQ1.out.below HB2.out)
              have HKD := hid (below_tr HB1.out HB2.out)
              clear HI1 HM1 HQ1 HB1 HB2 c9 cF1' cF2' d13a d13b v1 v2 v3 v4 HBK
              cases bb with
              | false =>
                have HQQ : Hid (KeepsFrom W3.heap.size W' wc ∧ KpY B12 W' wc) := ⟨keepsFrom_below HKD.out, KpY.of HKD.out⟩
                gi_wp2_with fail
                refine ⟨HQQ.out.1, HQQ.out.2, HI2.out, HM2.out, fun y hy => ?_, Nat.le_trans hW3 HKD.out.size⟩
                rcases List.mem_append.1 hy with h | h
                · exact HNO.out y h
                · rw [List.mem_singleton.1 h]; exact HBB.out
              | true =>
                obtain ⟨vs, hown, htw⟩ := HI2.out.own.ex
                have HOW := hid hown
                have HTW := hid htw
                have hown1 := own_belowX hown (below_al wc (.cells #[.int .i64 (t1 : Int), .int .i64 (t2 : Int)] 3))
                have hWbc : Wb.heap.size ≤ wc.heap.size := HI2.out.old.1
                have c12 := HI2.out.b12.cell 0 (x := v) rfl
                have q0 := HQ2.out.cell 0 (x := .int .i64 (t1 : Int)) rfl
                have q1 := HQ2.out.cell 1 (x := .int .i64 (t2 : Int)) rfl
                have HQ3 := hid (HQ2.out.al (.cells #[.int .i64 (t1 : Int), .int .i64 (t2 : Int)] 3))
                have hq12 : q ≠ B12 := ne_row HQ2.out HI2.out.b12 (by decide)
                gi_wp2_with (gi_at_builtin; refine wpListIn_ap2 rfl _ _ 23 rfl Wb.heap.size 22 Try.underlying23 infoSlF rfl (by decide) (by decide) _ _ _ rfl hown1 [.slice (some ⟨wc.heap.size, 0, none⟩) 2 2] rfl (by simp [Value.oneCell']) rfl (by simp) (by omega) (by simp; omega) ?_; intro g1 cap1 w9 hown' hb1 hgr hat _; have HGR := hid hgr; have HP9 := hid (HI2.out.push (t1, t2) HWW.out HOW.out HTW.out hown' hb1 hgr); have c79 := HP9.out.2.1.1; have f79 := HP9.out.2.1.2.1; have c8a := HP9.out.2.1.2.2.1; have f8a := HP9.out.2.1.2.2.2.1; have c8b := HP9.out.2.1.2.2.2.2.1; have f8b := HP9.out.2.1.2.2.2.2.2; have h87 := HP9.out.2.2.1; have H13 := hid HP9.out.2.2.2; have HQ9 := hid (show Row w9 q _ _ from (hgr.block q HQ3.out.lt (fun e => row_own_neX HQ2.out HOW.out (by decide) e.symm)).trans HQ3.out); have q90 := HQ9.out.cell 0 (x := .int .i64 (t1 : Int)) rfl; have q91 := HQ9.out.cell 1 (x := .int .i64 (t2 : Int)) rfl; clear hown' hb1 hgr hat)
                have k2 : ∀ n, KeepsFrom n wc w9 := fun n => keepsFrom_tr3 (keepsFrom_below (below_al wc (.cells #[.int .i64 (t1 : Int), .int .i64 (t2 : Int)] 3))) ⟨HGR.out.size, fun k o hk ho hc => (HGR.out.block k (Array.getElem?_eq_some_iff.1 ho).1 (fun e => by
                  obtain ⟨o2, ho2, hc2⟩ := own_cells hown1 k e.symm
                  rw [ho] at ho2; cases ho2; rw [hc] at hc2; cases hc2)).trans ho⟩
                have H13' := hid (H13.out.other ⟨B12, 0, none⟩ (.slice (some ⟨g1, 0, none⟩) (L.length + 1) cap1) (by simpa using h87))
                have HFIN := HP9.out.1
                have k3 : ∀ n, KeepsFrom n wc (((w9.setCell ⟨B12, 0, none⟩ (.slice (some ⟨g1, 0, none⟩) (L.length + 1) cap1)).setCell ⟨B13, 0, none⟩ (.int .i64 (t1 : Int))).setCell ⟨B13, 1, none⟩ (.int .i64 (t2 : Int))) := fun n =>
                  keepsFrom_tr3 (keepsFrom_tr3 (keepsFrom_tr3 (k2 n) (keeps_setC c79 _)) (keeps_setR H13'.out _)) (keeps_setR (H13'.out.set 0 _) _)
                exact ⟨keepsFrom_tr3 (keepsFrom_below HKD.out) (k3 _), FbkX.mk ⟨((t1, t2), n), hx⟩ g1 cap1 HNO.out HBB.out HFIN (HM2.out.keeps (Nat.le_refl _) (k3 _))⟩
          --RB>
        case stop =>
          --RS<
          rintro D cc pre W' hD ⟨r, hr⟩ ⟨rfl, pre0, ⟨⟨⟨t1, t2⟩, n⟩, hx⟩, g, cap, rfl, h1, h2, hI, hM⟩ hK
          have hfind : (fpg s (f1, f2)).find? (fbrP s (f1, f2)) = some ((t1, t2), n) := by
            rw [← hr, List.map_append]
            exact find_pre _ _ r (fun y hy => by obtain ⟨z, hz, rfl⟩ := List.mem_map.1 hy; exact h1 z hz) h2
          have hm := fpg_mem (s := s) (f := (f1, f2)) hf1 hf2 hx
          have hl2 : t1 ≤ s.L.n := hm.l2
          have hr2 : t2 ≤ s.R.n := hm.r2
          have hlt : posF s (t1, t2) < posF s (f1, f2) := posF_lt hf1 hm.l1 hm.r1 hm.l2 hm.r2 hm.ne
          dsimp only at h2 hI
          obtain ⟨m, hmf⟩ : ∃ m, fu = m + 1 := ⟨fu - 1, by have := HFU.out; omega⟩
          have HL2 : Hid ((L ++ [(t1, t2)]) ++ fbrF s m (t1, t2) = fbr s) := by
            have h := HL.out
            rw [hmf, fbrF, if_neg HNE.out, hfind] at h
            rw [List.append_assoc]
            exact h
          have hpt : 0 ≤ fpot s (t1, t2) := by
            unfold fbrP at h2
            simp only [Bool.and_eq_true, decide_eq_true_eq] at h2
            exact h2.1
          have hkk := HKK.out
          have hfu := HFU.out
          have hll := HLL.out
          have c8a := hI.b13.cell 0 (x := .int .i64 (t1 : Int)) rfl
          have c8b := hI.b13.cell 1 (x := .int .i64 (t2 : Int)) rfl
          have HI9 := hid hI.box
          have HM9 : Hid (MkOk w.heap.size (D :: Ds) (W'.alloc (.cells #[.int .i64 (t1 : Int), .int .i64 (t2 : Int)] 48))) := by
            have hw := HW3.out
            refine MkOk.below ⟨List.nodup_cons.2 ⟨fun hmm => by have := HM8.out.lt hmm; omega, hM.nd⟩, fun E hE => ?_⟩ (below_al W' _)
            rcases List.mem_cons.1 hE with rfl | hE
            · exact ⟨by omega, hK⟩
            · exact hM.at_ E hE
          have HPT := hid hpt
          clear hfind h1 h2 hI hM hK hr hpt hm
          subst hds
          refine wpIn_wide.2 ?_
          go_wp2_with fail
          exact ⟨posF s (t1, t2), by omega, D :: Ds, W'.heap.size, (t1, t2), m, L ++ [(t1, t2)], _, _, _, _, _, _, _, _, _, _, _, _, _, _, _, _, _, _, _, _, _, _, _, _, _, _, _, _, _, _, _, _, _, _, _, _, _, _, _, _, _, _, _, _, _, _, _, _, _, _, _, _, _, _, _, _, _, _, _, _, _, _, _, _, _, _, _, _, _, _, _, _, _, _, _, _, _, _, _, _, _, _, _, _, _, _, _, _, _, _, _, _, rfl, hl2, hr2, rfl, by omega, HPT.out, HL2.out, by simp; omega, HI9.out, HM9.out⟩
          --RS>
end Go.Proofs.Ytlneimjenjpbnaa
