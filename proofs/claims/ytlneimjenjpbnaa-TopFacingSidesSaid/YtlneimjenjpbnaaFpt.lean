/-
  facing.Potentials.
-/
import Derived.Test.YtlneimjenjpbnaaFpo
import Derived.Test.YtlneimjenjpbnaaFck
import Derived.Deep.RegionHeld3
namespace Go.Proofs.Ytlneimjenjpbnaa
open Go.RowKit

theorem ancG_two {l r : Int} : ∀ {A : List (List Int)} {pv : Option (List Int)}, ancG l r pv A = 0 → ∀ a ∈ A, a.length = 2
  | [], _, _, a, ha => by cases ha
  | x :: t, pv, h, a, ha => by
    rw [ancG_cons] at h
    by_cases h1 : x.length ≠ 2
    · rw [if_pos h1] at h; cases h
    rw [if_neg h1] at h
    by_cases h2 : x.getD 0 0 < 0 ∨ l ≤ x.getD 0 0 ∨ x.getD 1 0 < 0 ∨ r ≤ x.getD 1 0
    · rw [if_pos h2] at h; cases h
    rw [if_neg h2] at h
    have h4 : ancG l r (some x) t = 0 := by
      cases pv with
      | none => exact h
      | some b =>
        dsimp only at h
        by_cases h3 : (decide (x.getD 0 0 ≤ b.getD 0 0) || decide (x.getD 1 0 ≤ b.getD 1 0)) = true
        · rw [if_pos h3] at h; cases h
        · rw [if_neg h3] at h; exact h
    rcases List.mem_cons.1 ha with rfl | ha
    · exact Classical.not_not.1 h1
    · exact ancG_two h4 a ha
structure FcOk (s : FS) : Prop where
  ok : FsOk s
  l0 : ppI s.L = 0
  r0 : ppI s.R = 0
  tb : (s.L.n + 1) * (s.R.n + 1) ≤ 65536
  a2 : ∀ a ∈ s.A, a.length = 2
theorem fc_full {s : FS} (h : fcI s = 0) : FcOk s := by
  have hok := fc_ok h
  unfold fcI at h
  split at h
  · cases h
  rename_i h1
  split at h
  · cases h
  rename_i h2
  exact ⟨hok, Classical.byContradiction fun e => h1 (.inl e), Classical.byContradiction fun e => h1 (.inr e), by omega, ancG_two h⟩

theorem RdMC.sl {α : Type} {s : Nat} {enc : α → List Value} {W : World} {v : Value} {M : List (List α)} (h : RdMC s enc W v M) : ∃ a c, v = .slice a M.length c := by obtain ⟨a, c, h1, _⟩ := h; exact ⟨a, c, h1⟩
/-- The two sides, their anchors, at a call. -/
structure FaR (W : World) (x : FV) (s : FS) : Prop where
  l : RdP5 W x.l1 x.l2 x.l3 s.L
  r : RdP5 W x.r1 x.r2 x.r3 s.R
  a : RdM W x.a s.A
theorem FaR.below {W W' : World} {x : FV} {s : FS} (h : FaR W x s) (hb : Below W.heap.size W W') : FaR W' x s := ⟨h.l.below hb, h.r.below hb, h.a.below hb⟩

theorem fpt_bad (s : FS) (x : FV) (w : World) (hr : FaR w x s) (hz : fcI s ≠ 0) :
    Calls Try.prog 12 #[.agg (ppC s.L x.l1 x.l2 x.l3), .agg (ppC s.R x.r1 x.r2 x.r3), x.a] w fun e w' => e = .returned (.tuple #[.slice none 0 0, .int .i64 (fcI s)]) ∧ Below w.heap.size w w' := by
  have HB0 : Hid (Below w.heap.size w ((w.alloc (.cells (ppC s.L x.l1 x.l2 x.l3) 25)).alloc (.cells (ppC s.R x.r1 x.r2 x.r3) 25))) := below_tr (below_al _ _) (below_al _ _)
  have HC := fun w' (h : FaR w' x s) => hid (fck_any s x.l1 x.l2 x.l3 x.r1 x.r2 x.r3 x.a w' h.l h.r h.a)
  have i1 : (fcI s != 0) = true := bne_iff_ne.2 hz
  have i2 : (fcI s == 0) = false := beq_eq_false_iff_ne.2 hz
  have HR := hid (hr.below HB0.out)
  clear hr hz
  unfold ppC at HB0 HC HR ⊢
  generalize fcI s = E at *
  go_enter Try.func12, Try.ntmps12
  go_wp2_with fail
  (with_reducible refine (HC _ HR.out).out.mono ?_)
  rintro e w2 ⟨rfl, hb2⟩
  have HB2 := hid (below_tr HB0.out hb2)
  clear hb2
  go_wp2_with fail
  exact bodyPost_ret (results_tmp2 rfl _ _ _) rfl ⟨rfl, HB2.out⟩

set_option maxRecDepth 100000 in
set_option maxHeartbeats 8000000 in
theorem fpt_any (s : FS) (x : FV) (w : World) (hr : FaR w x s) (hz : fcI s = 0) :
    Calls Try.prog 12 #[.agg (ppC s.L x.l1 x.l2 x.l3), .agg (ppC s.R x.r1 x.r2 x.r3), x.a] w fun e w' => ∃ v, e = .returned (.tuple #[v, .int .i64 0]) ∧ RdM w' v (fpotM s) ∧ Below w.heap.size w w' := by
  obtain ⟨l1, l2, l3, r1, r2, r3, a, xl, xr⟩ := x
  obtain ⟨a1, c1, e1, _, _, _⟩ := hr.l.l.open
  obtain ⟨a2, c2, e2, _, _, _⟩ := hr.l.n.open
  obtain ⟨a3, c3, e3, _, _, _⟩ := hr.l.s.open
  obtain ⟨a4, c4, e4, _, _, _⟩ := hr.r.l.open
  obtain ⟨a5, c5, e5, _, _, _⟩ := hr.r.n.open
  obtain ⟨a6, c6, e6, _, _, _⟩ := hr.r.s.open
  obtain ⟨a7, c7, e7, _, _, _⟩ := hr.a.open
  dsimp only at e1 e2 e3 e4 e5 e6 e7
  subst e1 e2 e3 e4 e5 e6 e7
  have HB0 : Hid (Below w.heap.size w ((w.alloc (.cells (ppC s.L (.slice a1 s.L.lines.length c1) (.slice a2 s.L.notes.length c2) (.slice a3 s.L.pens.length c3)) 25)).alloc (.cells (ppC s.R (.slice a4 s.R.lines.length c4) (.slice a5 s.R.notes.length c5) (.slice a6 s.R.pens.length c6)) 25))) := below_tr (below_al _ _) (below_al _ _)
  have HR1 := hid ((row_nw w (ppC s.L (.slice a1 s.L.lines.length c1) (.slice a2 s.L.notes.length c2) (.slice a3 s.L.pens.length c3)) 25 rfl).al (.cells (ppC s.R (.slice a4 s.R.lines.length c4) (.slice a5 s.R.notes.length c5) (.slice a6 s.R.pens.length c6)) 25))
  have HR2 := hid (row_nw (w.alloc (.cells (ppC s.L (.slice a1 s.L.lines.length c1) (.slice a2 s.L.notes.length c2) (.slice a3 s.L.pens.length c3)) 25)) (ppC s.R (.slice a4 s.R.lines.length c4) (.slice a5 s.R.notes.length c5) (.slice a6 s.R.pens.length c6)) 25 (n := w.heap.size + 1) (by simp))
  have HC := fun w' (h : FaR w' ⟨.slice a1 s.L.lines.length c1, .slice a2 s.L.notes.length c2, .slice a3 s.L.pens.length c3, .slice a4 s.R.lines.length c4, .slice a5 s.R.notes.length c5, .slice a6 s.R.pens.length c6, .slice a7 s.A.length c7, xl, xr⟩ s) => hid (fck_any s (.slice a1 s.L.lines.length c1) (.slice a2 s.L.notes.length c2) (.slice a3 s.L.pens.length c3) (.slice a4 s.R.lines.length c4) (.slice a5 s.R.notes.length c5) (.slice a6 s.R.pens.length c6) (.slice a7 s.A.length c7) w' h.l h.r h.a)
  have HF := hid (fc_full hz)
  have HZ := hid hz
  have HR := hid hr
  clear hr hz
  have HPL := hid (fun w' (h : FaR w' ⟨.slice a1 s.L.lines.length c1, .slice a2 s.L.notes.length c2, .slice a3 s.L.pens.length c3, .slice a4 s.R.lines.length c4, .slice a5 s.R.notes.length c5, .slice a6 s.R.pens.length c6, .slice a7 s.A.length c7, xl, xr⟩ s) => prices_any s.L (.slice a1 s.L.lines.length c1) (.slice a2 s.L.notes.length c2) (.slice a3 s.L.pens.length c3) w' h.l HF.out.l0)
  have HPR := hid (fun w' (h : FaR w' ⟨.slice a1 s.L.lines.length c1, .slice a2 s.L.notes.length c2, .slice a3 s.L.pens.length c3, .slice a4 s.R.lines.length c4, .slice a5 s.R.notes.length c5, .slice a6 s.R.pens.length c6, .slice a7 s.A.length c7, xl, xr⟩ s) => prices_any s.R (.slice a4 s.R.lines.length c4) (.slice a5 s.R.notes.length c5) (.slice a6 s.R.pens.length c6) w' h.r HF.out.r0)
  have HPO := hid (fun v1 v2 w' (h : FaR w' ⟨.slice a1 s.L.lines.length c1, .slice a2 s.L.notes.length c2, .slice a3 s.L.pens.length c3, .slice a4 s.R.lines.length c4, .slice a5 s.R.notes.length c5, .slice a6 s.R.pens.length c6, .slice a7 s.A.length c7, xl, xr⟩ s) (h1 : RdMC 2 encP w' v1 (prcA s.L)) (h2 : RdMC 2 encP w' v2 (prcA s.R)) => fpo_any s ⟨.slice a1 s.L.lines.length c1, .slice a2 s.L.notes.length c2, .slice a3 s.L.pens.length c3, .slice a4 s.R.lines.length c4, .slice a5 s.R.notes.length c5, .slice a6 s.R.pens.length c6, .slice a7 s.A.length c7, v1, v2⟩ w' ⟨h.l, h.r, h.a, h1, h2⟩ HF.out.ok HF.out.a2 HF.out.tb)
  unfold ppC at HB0 HC HR1 HR2 HPL HPR ⊢
  unfold fsC at HPO
  go_enter Try.func12, Try.ntmps12
  go_wp2_with fail
  (with_reducible refine (HC _ (HR.out.below HB0.out)).out.mono ?_)
  rintro e w2 ⟨rfl, hb2⟩
  rw [HZ.out]
  have HB2 := hid (below_tr HB0.out hb2)
  have HR12 := hid (HR1.out.below hb2)
  have HR22 := hid (HR2.out.below hb2)
  clear hb2 HR1 HR2
  go_upto_region 4 with fail
  obtain ⟨Bl, hBl⟩ : ∃ Bl, Bl = w.heap.size := ⟨_, rfl⟩
  rw [← hBl] at HR12 HR22 ⊢
  have HBL := hid hBl
  clear hBl
  have HSh : Hid (∀ w', Below w2.heap.size w2 w' → (w'.cell? ⟨Bl, 0, none⟩ = some (.slice a1 s.L.lines.length c1) ∧ w'.cell? ⟨Bl, 1, none⟩ = some (.slice a2 s.L.notes.length c2) ∧ w'.cell? ⟨Bl, 2, none⟩ = some (.slice a3 s.L.pens.length c3) ∧ w'.cell? ⟨Bl, 3, none⟩ = some (.int .i64 s.L.h) ∧ w'.cell? ⟨Bl, 4, none⟩ = some (.int .i64 s.L.gap)) ∧
      (w'.cell? ⟨Bl + 1, 0, none⟩ = some (.slice a4 s.R.lines.length c4) ∧ w'.cell? ⟨Bl + 1, 1, none⟩ = some (.slice a5 s.R.notes.length c5) ∧ w'.cell? ⟨Bl + 1, 2, none⟩ = some (.slice a6 s.R.pens.length c6) ∧ w'.cell? ⟨Bl + 1, 3, none⟩ = some (.int .i64 s.R.h) ∧ w'.cell? ⟨Bl + 1, 4, none⟩ = some (.int .i64 s.R.gap)) ∧ Below w2.heap.size w2 w') := fun w' hb =>
    ⟨⟨(HR12.out.below hb).cell 0 rfl, (HR12.out.below hb).cell 1 rfl, (HR12.out.below hb).cell 2 rfl, (HR12.out.below hb).cell 3 rfl, (HR12.out.below hb).cell 4 rfl⟩,
      ⟨(HR22.out.below hb).cell 0 rfl, (HR22.out.below hb).cell 1 rfl, (HR22.out.below hb).cell 2 rfl, (HR22.out.below hb).cell 3 rfl, (HR22.out.below hb).cell 4 rfl⟩, hb⟩
  have HFA := hid (fun w' (hb : Below w2.heap.size w2 w') => (HR.out.below HB2.out).below hb)
  have hB3 := Below.refl w2.heap.size w2
  clear HR12 HR22 HC
  go_region_held3 (fun w' => (w'.cell? ⟨Bl, 0, none⟩ = some (.slice a1 s.L.lines.length c1) ∧ w'.cell? ⟨Bl, 1, none⟩ = some (.slice a2 s.L.notes.length c2) ∧ w'.cell? ⟨Bl, 2, none⟩ = some (.slice a3 s.L.pens.length c3) ∧ w'.cell? ⟨Bl, 3, none⟩ = some (.int .i64 s.L.h) ∧ w'.cell? ⟨Bl, 4, none⟩ = some (.int .i64 s.L.gap)) ∧
      (w'.cell? ⟨Bl + 1, 0, none⟩ = some (.slice a4 s.R.lines.length c4) ∧ w'.cell? ⟨Bl + 1, 1, none⟩ = some (.slice a5 s.R.notes.length c5) ∧ w'.cell? ⟨Bl + 1, 2, none⟩ = some (.slice a6 s.R.pens.length c6) ∧ w'.cell? ⟨Bl + 1, 3, none⟩ = some (.int .i64 s.R.h) ∧ w'.cell? ⟨Bl + 1, 4, none⟩ = some (.int .i64 s.R.gap)) ∧ Below w2.heap.size w2 w')
    (first | with_reducible exact HSh.out _ hB3 | with_reducible exact HSh.out _ (by with_reducible assumption) | with_reducible exact HSh.out _ (Below.drew hB3) | with_reducible exact HSh.out _ (Below.drew (by with_reducible assumption)))
    (first
      | (go_at_call 13; go_split_ands; (first
          | ((with_reducible refine (HPL.out _ (HFA.out _ (by with_reducible assumption))).mono ?_); rintro e wz ⟨vL, rfl, hRL, hBL⟩; obtain ⟨aL, cL, eL⟩ := hRL.sl; subst eL; have zs := below_tr (by with_reducible assumption : Below w2.heap.size w2 _) hBL)
          | ((with_reducible refine (HPR.out _ (HFA.out _ (by with_reducible assumption))).mono ?_); rintro e wz ⟨vR, rfl, hRR, hBR⟩; obtain ⟨aR, cR, eR⟩ := hRR.sl; subst eR; have zs := below_tr (by with_reducible assumption : Below w2.heap.size w2 _) hBR)))
      | (go_at_call 29; go_split_ands; (first
          | ((with_reducible refine (HPO.out _ _ _ (HFA.out _ (by with_reducible assumption)) (hRL.below hBR) hRR).mono ?_); rintro e wz ⟨vO, rfl, hRO, hBO⟩; have zs := below_tr (by with_reducible assumption : Below w2.heap.size w2 _) hBO)
          | ((with_reducible refine (HPO.out _ _ _ (HFA.out _ (by with_reducible assumption)) hRL (hRR.below hBL)).mono ?_); rintro e wz ⟨vO, rfl, hRO, hBO⟩; have zs := below_tr (by with_reducible assumption : Below w2.heap.size w2 _) hBO))))
  all_goals go_split_ands
  all_goals go_wp2_with fail
  all_goals exact bodyPost_ret (results_tmp2 rfl _ _ _) rfl ⟨_, rfl, hRO, below_tr HB2.out (by with_reducible assumption)⟩
end Go.Proofs.Ytlneimjenjpbnaa
