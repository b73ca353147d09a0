/-
  Joined: Fbk Fbp Fbj.
-/
import Derived.Test.YtlneimjenjpbnaaFpt
import Derived.Test.YtlneimjenjpbnaaPbk
import Derived.Test.YtlneimjenjpbnaaQin
import Derived.Test.YtlneimjenjpbnaaAl52
import Derived.Deep.RegionHeld3
/-
  facing.Break.
-/
namespace Go.Proofs.Ytlneimjenjpbnaa
open Go.RowKit
attribute [local go_sem] Oper.semAt_some

theorem fbk_bad (s : FS) (x : FV) (w : World) (hr : FaR w x s) (hz : fcI s ≠ 0) :
    Calls Try.prog 6 #[.agg (ppC s.L x.l1 x.l2 x.l3), .agg (ppC s.R x.r1 x.r2 x.r3), x.a] w fun e w' => e = .returned (.tuple #[.slice none 0 0, .int .i64 0, .int .i64 (fcI s)]) ∧ Below w.heap.size w w' := by
  have HB0 : Hid (Below w.heap.size w ((w.alloc (.cells (ppC s.L x.l1 x.l2 x.l3) 25)).alloc (.cells (ppC s.R x.r1 x.r2 x.r3) 25))) := below_tr (below_al _ _) (below_al _ _)
  have HP := hid (fun w' (h : FaR w' x s) => fpt_bad s x w' h hz)
  have i1 : (fcI s != 0) = true := bne_iff_ne.2 hz
  have i2 : (fcI s == 0) = false := beq_eq_false_iff_ne.2 hz
  have HR := hid (hr.below HB0.out)
  clear hr hz
  unfold ppC at HB0 HP HR ⊢
  generalize fcI s = E at *
  go_enter Try.func6, Try.ntmps6
  go_wp2_with fail
  (with_reducible refine (HP.out _ HR.out).mono ?_)
  rintro e w2 ⟨rfl, hb2⟩
  have HB2 := hid (below_tr (below_tr HB0.out hb2) (below_al w2 (.cells #[.slice none 0 0] 23)))
  clear hb2
  go_wp2_with fail
  exact bodyPost_ret (results_tmp3 rfl _ _ _) rfl ⟨rfl, HB2.out⟩
/-- The first of the potentials. -/
theorem fpotM_00 {W : World} {v : Value} {s : FS} (h : RdM W v (fpotM s)) : ∃ b off c b2 o2 c2, v = .slice (some ⟨b, off, none⟩) (s.L.n + 1) c ∧ W.cell? ⟨b, off, none⟩ = some (.slice (some ⟨b2, o2, none⟩) (s.R.n + 1) c2) ∧ W.cell? ⟨b2, o2, none⟩ = some (.int .i64 (fpot s (0, 0))) := by
  obtain ⟨a, c, h1, h2, h3, h4⟩ := h
  have hl : (fpotM s).length = s.L.n + 1 := by unfold fpotM; simp
  have h0 : (fpotM s)[0]? = some (rowF s 0 0) := by unfold fpotM; simp
  obtain ⟨b, off, u, rfl, hc, hu⟩ := h4 0 _ h0
  obtain ⟨a2, c2, e1, e2, e3, e4⟩ := hu
  have hx := rowF_at s 0 0 0 (Nat.zero_le _)
  rw [if_neg (by omega)] at hx
  obtain ⟨b2, o2, rfl, hc2⟩ := e4 0 _ hx
  rw [rowF_len] at e1
  exact ⟨b, off, c, b2, o2, c2, by rw [h1, hl], by rw [← e1]; exact hc, hc2⟩
set_option maxHeartbeats 2000000 in
theorem fbk_no (s : FS) (x : FV) (w : World) (hr : FaR w x s) (hz : fcI s = 0) (h0 : fpot s (0, 0) < 0) :
    Calls Try.prog 6 #[.agg (ppC s.L x.l1 x.l2 x.l3), .agg (ppC s.R x.r1 x.r2 x.r3), x.a] w fun e w' => e = .returned (.tuple #[.slice none 0 0, .int .i64 0, .int .i64 23]) ∧ Below w.heap.size w w' := by
  have HB0 : Hid (Below w.heap.size w ((w.alloc (.cells (ppC s.L x.l1 x.l2 x.l3) 25)).alloc (.cells (ppC s.R x.r1 x.r2 x.r3) 25))) := below_tr (below_al _ _) (below_al _ _)
  have HP := hid (fun w' (h : FaR w' x s) => fpt_any s x w' h hz)
  have HR := hid (hr.below HB0.out)
  clear hr hz
  unfold ppC at HB0 HP HR ⊢
  go_enter Try.func6, Try.ntmps6
  go_wp2_with fail
  (with_reducible refine (HP.out _ HR.out).mono ?_)
  rintro e w2 ⟨v, rfl, hv, hb2⟩
  obtain ⟨b, off, c, b2, o2, c2, rfl, k1, k2⟩ := fpotM_00 hv
  have HB2 := hid (below_tr (below_tr HB0.out hb2) (below_al w2 (.cells #[.slice (some ⟨b, off, none⟩) (s.L.n + 1) c] 23)))
  have k1' := cell_al k1 (.cells #[.slice (some ⟨b, off, none⟩) (s.L.n + 1) c] 23)
  have k2' := cell_al k2 (.cells #[.slice (some ⟨b, off, none⟩) (s.L.n + 1) c] 23)
  have q1 : (0 : Int) < ((s.L.n + 1 : Nat) : Int) := by omega
  have q2 : 0 < s.L.n + 1 := by omega
  have q3 : (0 : Int) < ((s.R.n + 1 : Nat) : Int) := by omega
  have q4 : 0 < s.R.n + 1 := by omega
  clear hb2 hv k1 k2
  go_wp2_with fail
  exact bodyPost_ret (results_tmp3 rfl _ _ _) rfl ⟨rfl, HB2.out⟩
end Go.Proofs.Ytlneimjenjpbnaa

/-
  facing.Break: what its loop keeps.
-/
namespace Go.Proofs.Ytlneimjenjpbnaa
open Go.RowKit
attribute [local go_sem] Oper.semAt_some

theorem fpotM_at {W : World} {v : Value} {s : FS} (h : RdM W v (fpotM s)) : ∃ b off c, v = .slice (some ⟨b, off, none⟩) (s.L.n + 1) c ∧ ∀ i k, i ≤ s.L.n → k ≤ s.R.n →
    ∃ b2 o2 c2, W.cell? ⟨b, off + i, none⟩ = some (.slice (some ⟨b2, o2, none⟩) (s.R.n + 1) c2) ∧ W.cell? ⟨b2, o2 + k, none⟩ = some (.int .i64 (fpot s (i, k))) := by
  obtain ⟨a, c, h1, h2, h3, h4⟩ := h
  have hl : (fpotM s).length = s.L.n + 1 := by unfold fpotM; simp
  have hrow : ∀ i, i ≤ s.L.n → (fpotM s)[i]? = some (rowF s i 0) := fun i hi => by unfold fpotM; simp [Nat.lt_succ_of_le hi]
  obtain ⟨b, off, u, rfl, _, _⟩ := h4 0 _ (hrow 0 (Nat.zero_le _))
  refine ⟨b, off, c, by rw [h1, hl], fun i k hi hk => ?_⟩
  obtain ⟨b', off', u, he, hc, hu⟩ := h4 i _ (hrow i hi)
  cases he
  obtain ⟨a2, c2, e1, e2, e3, e4⟩ := hu
  have hx := rowF_at s i 0 k hk
  rw [if_neg (by omega)] at hx
  obtain ⟨b2, o2, rfl, hc2⟩ := e4 k _ hx
  rw [rowF_len] at e1
  exact ⟨b2, o2, c2, by rw [← e1]; exact hc, hc2⟩

/-- The block of the two sides, made and not yet written. -/
def fsZ : Array Value := #[.slice none 0 0, .slice none 0 0, .slice none 0 0, .int .i64 0, .int .i64 0, .slice none 0 0, .slice none 0 0, .slice none 0 0, .int .i64 0, .int .i64 0, .slice none 0 0, .slice none 0 0, .slice none 0 0]
def FsZ (n : Nat) (W : World) (B : Nat) : Prop := n ≤ B ∧ Row W B fsZ 46
theorem fsZ_cells {n : Nat} {W : World} {B : Nat} (h : Hid (FsZ n W B)) : W.cell? ⟨B, 0, none⟩ = some (Value.slice none 0 0) ∧ W.frozen? ⟨B, 0, none⟩ = false ∧ W.cell? ⟨B, 1, none⟩ = some (Value.slice none 0 0) ∧ W.frozen? ⟨B, 1, none⟩ = false ∧ W.cell? ⟨B, 2, none⟩ = some (Value.slice none 0 0) ∧ W.frozen? ⟨B, 2, none⟩ = false ∧ W.cell? ⟨B, 3, none⟩ = some (Value.int .i64 0) ∧ W.frozen? ⟨B, 3, none⟩ = false ∧ W.cell? ⟨B, 4, none⟩ = some (Value.int .i64 0) ∧ W.frozen? ⟨B, 4, none⟩ = false ∧ W.cell? ⟨B, 5, none⟩ = some (Value.slice none 0 0) ∧ W.frozen? ⟨B, 5, none⟩ = false ∧ W.cell? ⟨B, 6, none⟩ = some (Value.slice none 0 0) ∧ W.frozen? ⟨B, 6, none⟩ = false ∧ W.cell? ⟨B, 7, none⟩ = some (Value.slice none 0 0) ∧ W.frozen? ⟨B, 7, none⟩ = false ∧ W.cell? ⟨B, 8, none⟩ = some (Value.int .i64 0) ∧ W.frozen? ⟨B, 8, none⟩ = false ∧ W.cell? ⟨B, 9, none⟩ = some (Value.int .i64 0) ∧ W.frozen? ⟨B, 9, none⟩ = false ∧ W.cell? ⟨B, 10, none⟩ = some (Value.slice none 0 0) ∧ W.frozen? ⟨B, 10, none⟩ = false ∧ W.cell? ⟨B, 11, none⟩ = some (Value.slice none 0 0) ∧ W.frozen? ⟨B, 11, none⟩ = false ∧ W.cell? ⟨B, 12, none⟩ = some (Value.slice none 0 0) ∧ W.frozen? ⟨B, 12, none⟩ = false :=
  ⟨h.out.2.cell 0 rfl, h.out.2.frozen 0, h.out.2.cell 1 rfl, h.out.2.frozen 1, h.out.2.cell 2 rfl, h.out.2.frozen 2, h.out.2.cell 3 rfl, h.out.2.frozen 3, h.out.2.cell 4 rfl, h.out.2.frozen 4, h.out.2.cell 5 rfl, h.out.2.frozen 5, h.out.2.cell 6 rfl, h.out.2.frozen 6, h.out.2.cell 7 rfl, h.out.2.frozen 7, h.out.2.cell 8 rfl, h.out.2.frozen 8, h.out.2.cell 9 rfl, h.out.2.frozen 9, h.out.2.cell 10 rfl, h.out.2.frozen 10, h.out.2.cell 11 rfl, h.out.2.frozen 11, h.out.2.cell 12 rfl, h.out.2.frozen 12⟩
theorem fsZ_al {n : Nat} {X W : World} (h : Below (X.alloc (.cells #[.slice none 0 0, .slice none 0 0, .slice none 0 0, .int .i64 0, .int .i64 0, .slice none 0 0, .slice none 0 0, .slice none 0 0, .int .i64 0, .int .i64 0, .slice none 0 0, .slice none 0 0, .slice none 0 0] 46)).heap.size (X.alloc (.cells #[.slice none 0 0, .slice none 0 0, .slice none 0 0, .int .i64 0, .int .i64 0, .slice none 0 0, .slice none 0 0, .slice none 0 0, .int .i64 0, .int .i64 0, .slice none 0 0, .slice none 0 0, .slice none 0 0] 46)) W) (hn : n ≤ X.heap.size) : Hid (FsZ n W X.heap.size) := hid ⟨hn, (row_nw X fsZ 46 rfl).below h⟩
theorem fsZ_ald {n : Nat} {X W : World} (h : Below (X.alloc (.cells #[.slice none 0 0, .slice none 0 0, .slice none 0 0, .int .i64 0, .int .i64 0, .slice none 0 0, .slice none 0 0, .slice none 0 0, .int .i64 0, .int .i64 0, .slice none 0 0, .slice none 0 0, .slice none 0 0] 46)).drew.heap.size (X.alloc (.cells #[.slice none 0 0, .slice none 0 0, .slice none 0 0, .int .i64 0, .int .i64 0, .slice none 0 0, .slice none 0 0, .slice none 0 0, .int .i64 0, .int .i64 0, .slice none 0 0, .slice none 0 0, .slice none 0 0] 46)).drew W) (hn : n ≤ X.heap.size) : Hid (FsZ n W X.heap.size) := hid ⟨hn, Row.below (W := (X.alloc (.cells fsZ 46)).drew) (row_nw X fsZ 46 rfl) h⟩
theorem fsZ_be {n : Nat} {X W : World} {B : Nat} (h0 : Hid (FsZ n X B)) (h : Below X.heap.size X W) : Hid (FsZ n W B) := hid ⟨h0.out.1, h0.out.2.below h⟩
theorem fsZ_bed {n : Nat} {X W : World} {B : Nat} (h0 : Hid (FsZ n X B)) (h : Below X.drew.heap.size X.drew W) : Hid (FsZ n W B) := hid ⟨h0.out.1, Row.below (W := X.drew) h0.out.2 h⟩
theorem fsZ_st {w : World} {W : World} {B : Nat} (v0 v1 v2 v3 v4 v5 v6 v7 v8 v9 v10 v11 v12 : Value) (h : Below w.heap.size w W) (h0 : Hid (FsZ w.heap.size W B)) : Below w.heap.size w (((((((((((((W.setCell ⟨B, 0, none⟩ v0).setCell ⟨B, 1, none⟩ v1).setCell ⟨B, 2, none⟩ v2).setCell ⟨B, 3, none⟩ v3).setCell ⟨B, 4, none⟩ v4).setCell ⟨B, 5, none⟩ v5).setCell ⟨B, 6, none⟩ v6).setCell ⟨B, 7, none⟩ v7).setCell ⟨B, 8, none⟩ v8).setCell ⟨B, 9, none⟩ v9).setCell ⟨B, 10, none⟩ v10).setCell ⟨B, 11, none⟩ v11).setCell ⟨B, 12, none⟩ v12) := by
  have hn := h0.out.1
  clear h0
  repeat (refine Below.setCell ?_ hn _)
  exact h
theorem fsZ_put {n : Nat} {W : World} {B : Nat} {vL vR : Value} {pL pR : PP} (v0 v1 v2 v3 v4 v5 v6 v7 v8 v9 v10 v11 v12 : Value) (h0 : Hid (FsZ n W B)) (hL : PrR W vL pL) (hR : PrR W vR pR) :
    Row (((((((((((((W.setCell ⟨B, 0, none⟩ v0).setCell ⟨B, 1, none⟩ v1).setCell ⟨B, 2, none⟩ v2).setCell ⟨B, 3, none⟩ v3).setCell ⟨B, 4, none⟩ v4).setCell ⟨B, 5, none⟩ v5).setCell ⟨B, 6, none⟩ v6).setCell ⟨B, 7, none⟩ v7).setCell ⟨B, 8, none⟩ v8).setCell ⟨B, 9, none⟩ v9).setCell ⟨B, 10, none⟩ v10).setCell ⟨B, 11, none⟩ v11).setCell ⟨B, 12, none⟩ v12) B #[v0, v1, v2, v3, v4, v5, v6, v7, v8, v9, v10, v11, v12] 46 ∧ PrR (((((((((((((W.setCell ⟨B, 0, none⟩ v0).setCell ⟨B, 1, none⟩ v1).setCell ⟨B, 2, none⟩ v2).setCell ⟨B, 3, none⟩ v3).setCell ⟨B, 4, none⟩ v4).setCell ⟨B, 5, none⟩ v5).setCell ⟨B, 6, none⟩ v6).setCell ⟨B, 7, none⟩ v7).setCell ⟨B, 8, none⟩ v8).setCell ⟨B, 9, none⟩ v9).setCell ⟨B, 10, none⟩ v10).setCell ⟨B, 11, none⟩ v11).setCell ⟨B, 12, none⟩ v12) vL pL ∧ PrR (((((((((((((W.setCell ⟨B, 0, none⟩ v0).setCell ⟨B, 1, none⟩ v1).setCell ⟨B, 2, none⟩ v2).setCell ⟨B, 3, none⟩ v3).setCell ⟨B, 4, none⟩ v4).setCell ⟨B, 5, none⟩ v5).setCell ⟨B, 6, none⟩ v6).setCell ⟨B, 7, none⟩ v7).setCell ⟨B, 8, none⟩ v8).setCell ⟨B, 9, none⟩ v9).setCell ⟨B, 10, none⟩ v10).setCell ⟨B, 11, none⟩ v11).setCell ⟨B, 12, none⟩ v12) vR pR := by
  have l0 := PrR.set hL (h0.out.2) (by decide) (by decide) 0 v0
  have m0 := PrR.set hR (h0.out.2) (by decide) (by decide) 0 v0
  have r0 := Row.set (h0.out.2) 0 v0
  have l1 := PrR.set l0 (r0) (by decide) (by decide) 1 v1
  have m1 := PrR.set m0 (r0) (by decide) (by decide) 1 v1
  have r1 := Row.set (r0) 1 v1
  have l2 := PrR.set l1 (r1) (by decide) (by decide) 2 v2
  have m2 := PrR.set m1 (r1) (by decide) (by decide) 2 v2
  have r2 := Row.set (r1) 2 v2
  have l3 := PrR.set l2 (r2) (by decide) (by decide) 3 v3
  have m3 := PrR.set m2 (r2) (by decide) (by decide) 3 v3
  have r3 := Row.set (r2) 3 v3
  have l4 := PrR.set l3 (r3) (by decide) (by decide) 4 v4
  have m4 := PrR.set m3 (r3) (by decide) (by decide) 4 v4
  have r4 := Row.set (r3) 4 v4
  have l5 := PrR.set l4 (r4) (by decide) (by decide) 5 v5
  have m5 := PrR.set m4 (r4) (by decide) (by decide) 5 v5
  have r5 := Row.set (r4) 5 v5
  have l6 := PrR.set l5 (r5) (by decide) (by decide) 6 v6
  have m6 := PrR.set m5 (r5) (by decide) (by decide) 6 v6
  have r6 := Row.set (r5) 6 v6
  have l7 := PrR.set l6 (r6) (by decide) (by decide) 7 v7
  have m7 := PrR.set m6 (r6) (by decide) (by decide) 7 v7
  have r7 := Row.set (r6) 7 v7
  have l8 := PrR.set l7 (r7) (by decide) (by decide) 8 v8
  have m8 := PrR.set m7 (r7) (by decide) (by decide) 8 v8
  have r8 := Row.set (r7) 8 v8
  have l9 := PrR.set l8 (r8) (by decide) (by decide) 9 v9
  have m9 := PrR.set m8 (r8) (by decide) (by decide) 9 v9
  have r9 := Row.set (r8) 9 v9
  have l10 := PrR.set l9 (r9) (by decide) (by decide) 10 v10
  have m10 := PrR.set m9 (r9) (by decide) (by decide) 10 v10
  have r10 := Row.set (r9) 10 v10
  have l11 := PrR.set l10 (r10) (by decide) (by decide) 11 v11
  have m11 := PrR.set m10 (r10) (by decide) (by decide) 11 v11
  have r11 := Row.set (r10) 11 v11
  have l12 := PrR.set l11 (r11) (by decide) (by decide) 12 v12
  have m12 := PrR.set m11 (r11) (by decide) (by decide) 12 v12
  have r12 := Row.set (r11) 12 v12
  unfold fsZ at r12
  simp only [List.setIfInBounds_toArray, List.set_cons_zero, List.set_cons_succ] at r12
  exact ⟨r12, l12, m12⟩
theorem fb6_A {w3 W : World} {s : FS} {x : FV} (hB : Below w3.heap.size w3 W) (hF : ∀ w', Below w3.heap.size w3 w' → FaR w' x s) (hL : PrR W x.l s.L) (hR : PrR W x.r s.R) :
    Row (W.alloc (.cells #[x.l1, x.l2, x.l3, .int .i64 s.L.h, .int .i64 s.L.gap, x.r1, x.r2, x.r3, .int .i64 s.R.h, .int .i64 s.R.gap, x.a, x.l, x.r] 46)) W.heap.size (fsC s x) 46 ∧ FsR (W.alloc (.cells #[x.l1, x.l2, x.l3, .int .i64 s.L.h, .int .i64 s.L.gap, x.r1, x.r2, x.r3, .int .i64 s.R.h, .int .i64 s.R.gap, x.a, x.l, x.r] 46)) x s ∧ Below w3.heap.size w3 (W.alloc (.cells #[x.l1, x.l2, x.l3, .int .i64 s.L.h, .int .i64 s.L.gap, x.r1, x.r2, x.r3, .int .i64 s.R.h, .int .i64 s.R.gap, x.a, x.l, x.r] 46)) := by
  have hb := below_tr hB (below_al W (.cells (fsC s x) 46))
  have h := hF _ hb
  exact ⟨row_nw _ _ _ rfl, ⟨h.l, h.r, h.a, (hL.below (below_al _ _)).rd, (hR.below (below_al _ _)).rd⟩, hb⟩
theorem fb6_B {w3 W : World} {B : Nat} {s : FS} {x : FV} (zr : Hid (FsZ w3.heap.size W B)) (hB : Below w3.heap.size w3 W) (hF : ∀ w', Below w3.heap.size w3 w' → FaR w' x s) (hL : PrR W x.l s.L) (hR : PrR W x.r s.R) :
    Row (((((((((((((W.setCell ⟨B, 0, none⟩ x.l1).setCell ⟨B, 1, none⟩ x.l2).setCell ⟨B, 2, none⟩ x.l3).setCell ⟨B, 3, none⟩ (.int .i64 s.L.h)).setCell ⟨B, 4, none⟩ (.int .i64 s.L.gap)).setCell ⟨B, 5, none⟩ x.r1).setCell ⟨B, 6, none⟩ x.r2).setCell ⟨B, 7, none⟩ x.r3).setCell ⟨B, 8, none⟩ (.int .i64 s.R.h)).setCell ⟨B, 9, none⟩ (.int .i64 s.R.gap)).setCell ⟨B, 10, none⟩ x.a).setCell ⟨B, 11, none⟩ x.l).setCell ⟨B, 12, none⟩ x.r) B (fsC s x) 46 ∧ FsR (((((((((((((W.setCell ⟨B, 0, none⟩ x.l1).setCell ⟨B, 1, none⟩ x.l2).setCell ⟨B, 2, none⟩ x.l3).setCell ⟨B, 3, none⟩ (.int .i64 s.L.h)).setCell ⟨B, 4, none⟩ (.int .i64 s.L.gap)).setCell ⟨B, 5, none⟩ x.r1).setCell ⟨B, 6, none⟩ x.r2).setCell ⟨B, 7, none⟩ x.r3).setCell ⟨B, 8, none⟩ (.int .i64 s.R.h)).setCell ⟨B, 9, none⟩ (.int .i64 s.R.gap)).setCell ⟨B, 10, none⟩ x.a).setCell ⟨B, 11, none⟩ x.l).setCell ⟨B, 12, none⟩ x.r) x s ∧ Below w3.heap.size w3 (((((((((((((W.setCell ⟨B, 0, none⟩ x.l1).setCell ⟨B, 1, none⟩ x.l2).setCell ⟨B, 2, none⟩ x.l3).setCell ⟨B, 3, none⟩ (.int .i64 s.L.h)).setCell ⟨B, 4, none⟩ (.int .i64 s.L.gap)).setCell ⟨B, 5, none⟩ x.r1).setCell ⟨B, 6, none⟩ x.r2).setCell ⟨B, 7, none⟩ x.r3).setCell ⟨B, 8, none⟩ (.int .i64 s.R.h)).setCell ⟨B, 9, none⟩ (.int .i64 s.R.gap)).setCell ⟨B, 10, none⟩ x.a).setCell ⟨B, 11, none⟩ x.l).setCell ⟨B, 12, none⟩ x.r) := by
  have hb := fsZ_st x.l1 x.l2 x.l3 (.int .i64 s.L.h) (.int .i64 s.L.gap) x.r1 x.r2 x.r3 (.int .i64 s.R.h) (.int .i64 s.R.gap) x.a x.l x.r hB zr
  have h := hF _ hb
  obtain ⟨h1, h2, h3⟩ := fsZ_put x.l1 x.l2 x.l3 (.int .i64 s.L.h) (.int .i64 s.L.gap) x.r1 x.r2 x.r3 (.int .i64 s.R.h) (.int .i64 s.R.gap) x.a x.l x.r zr hL hR
  exact ⟨h1, ⟨h.l, h.r, h.a, h2.rd, h3.rd⟩, hb⟩

/-- The rows of two that came, each in a block of its own. -/
def FTw (W : World) (n₀ : Nat) (pre : List (Nat × Nat)) (vs : List Value) : Prop :=
  ∀ (i : Nat) (p : Nat × Nat), pre[i]? = some p → ∃ r, vs[i]? = some (Value.slice (some ⟨r, 0, none⟩) 2 2) ∧ n₀ ≤ r ∧ W.heap[r]? = some (.cells #[.int .i64 (p.1 : Int), .int .i64 (p.2 : Int)] 3 (0, 0))
/-- v is a row of pairs of the call's own, from block base on. -/
structure FPr (W : World) (base : Nat) (v : Value) (M : List (Nat × Nat)) : Prop where
  ex : ∃ vs, W.ownsRow base 22 1 v M.length vs ∧ FTw W base M vs
theorem FPr.nil (W : World) (base : Nat) : FPr W base (.slice none 0 0) [] := ⟨⟨[], ⟨rfl, .inl ⟨rfl, rfl⟩⟩, fun i p h => by simp at h⟩⟩
theorem FPr.rd {W : World} {base : Nat} {v : Value} {M : List (Nat × Nat)} (h : FPr W base v M) : RdM W v (spM M) := by
  obtain ⟨vs, hown, ht⟩ := h.ex
  have hl : vs.length = M.length := by have := hown.1; omega
  have hr : Rd id W v vs := Rd.of_own (by rw [hl, List.map_id]; exact hown)
  have hsl : (spM M).length = M.length := by unfold spM; simp
  obtain ⟨a, cap, h1, h2, h3, h4⟩ := hr
  refine ⟨a, cap, by rw [h1, hl, hsl], by omega, h3, fun i row hi => ?_⟩
  unfold spM at hi
  rw [List.getElem?_map] at hi
  obtain ⟨p, hp, rfl⟩ := Option.map_eq_some_iff.1 hi
  obtain ⟨r, g1, _, g3⟩ := ht i p hp
  obtain ⟨b, off, e, hc⟩ := h4 i _ g1
  refine ⟨b, off, _, e, hc, some ⟨r, 0, none⟩, 2, rfl, Nat.le_refl _, by unfold maxLen; omega, fun j y hj => ⟨r, 0, rfl, ?_⟩⟩
  rw [cell_of_row W r (0 + j) _ _ _ g3]
  match j, hj with
  | 0, hj => cases hj; rfl
  | 1, hj => cases hj; rfl
theorem FPr.below {W W' : World} {base : Nat} {v : Value} {M : List (Nat × Nat)} (h : FPr W base v M) (hb : Below W.heap.size W W') : FPr W' base v M := by
  obtain ⟨vs, h1, h2⟩ := h.ex
  refine ⟨⟨vs, own_belowX h1 hb, fun i p hi => ?_⟩⟩
  obtain ⟨r, g1, g2, g3⟩ := h2 i p hi
  exact ⟨r, g1, g2, (hb.block r (Array.getElem?_eq_some_iff.1 g3).1).trans g3⟩
/-- A block of another type is written. -/
theorem FPr.set {W : World} {base : Nat} {v : Value} {M : List (Nat × Nat)} {B : Nat} {cs : Array Value} {t : TypeId} (h : FPr W base v M) (hr : Row W B cs t) (h1 : t ≠ 22) (h2 : t ≠ 3) (i : Nat) (u : Value) : FPr (W.setCell ⟨B, i, none⟩ u) base v M := by
  obtain ⟨vs, e1, e2⟩ := h.ex
  refine ⟨⟨vs, own_setX e1 _ _ (row_own_neX hr e1 h1), fun j p hi => ?_⟩⟩
  obtain ⟨r, g1, g2, g3⟩ := e2 j p hi
  refine ⟨r, g1, g2, (Below.heap_setCell _ _ _ _ (fun e => ?_)).trans g3⟩
  simp only at e
  have h3 : W.heap[B]? = _ := hr
  rw [e, h3] at g3
  simp only [Option.some.injEq, Obj.cells.injEq] at g3
  exact h2 g3.2.1
theorem FPr.grown {W W' : World} {base : Nat} {v : Value} {M : List (Nat × Nat)} {row : Option Nat} (h : FPr W base v M) (hg : W.grownBy W' row) (hr : ∀ r, row = some r → ∃ o : Obj, W.heap[r]? = some o ∧ o.isCells = false) : FPr W' base v M := by
  obtain ⟨vs, h1, h2⟩ := h.ex
  refine ⟨⟨vs, h1.kept hg ?_, fun i p hi => ?_⟩⟩
  · cases hv : v.ownBlock with
    | none => exact .inl rfl
    | some k =>
      right
      intro e
      obtain ⟨o, ho, hc⟩ := hr k e.symm
      obtain ⟨o2, ho2, hc2⟩ := own_cells h1 k hv
      rw [ho] at ho2; cases ho2; rw [hc] at hc2; cases hc2
  · obtain ⟨r, g1, g2, g3⟩ := h2 i p hi
    refine ⟨r, g1, g2, (hg.block r (Array.getElem?_eq_some_iff.1 g3).1 (fun e => ?_)).trans g3⟩
    obtain ⟨o, ho, hc⟩ := hr r e.symm
    rw [ho] at g3; cases g3; cases hc
/-- Behind 'out = append(out, []int{i, k})'. -/
theorem FPr.push {W w1 : World} {base : Nat} {v v' : Value} {M : List (Nat × Nat)} {vs : List Value} (x : Nat × Nat) (hbase : base ≤ W.heap.size) (hown : W.ownsRow base 22 1 v M.length vs) (htw : FTw W base M vs)
    (hown' : w1.ownsRow base 22 1 v' (M.length + 1) (vs ++ [.slice (some ⟨W.heap.size, 0, none⟩) 2 2])) (hgr : (W.alloc (.cells #[.int .i64 (x.1 : Int), .int .i64 (x.2 : Int)] 3)).grownBy w1 v.ownBlock) : FPr w1 base v' (M ++ [x]) := by
  have hal := below_al W (.cells #[.int .i64 (x.1 : Int), .int .i64 (x.2 : Int)] 3)
  have hs1 : (W.alloc (.cells #[.int .i64 (x.1 : Int), .int .i64 (x.2 : Int)] 3)).heap.size = W.heap.size + 1 := by simp
  have hvs : vs.length = M.length := by have := hown.1; omega
  refine ⟨⟨vs ++ [.slice (some ⟨W.heap.size, 0, none⟩) 2 2], by rw [List.length_append]; exact hown', fun i p hi => ?_⟩⟩
  rcases Nat.lt_or_ge i M.length with h5 | h5
  · rw [List.getElem?_append_left h5] at hi
    obtain ⟨r, g1, g2, g3⟩ := htw i p hi
    refine ⟨r, by rw [List.getElem?_append_left (by omega)]; exact g1, g2, ?_⟩
    have hlt := (Array.getElem?_eq_some_iff.1 g3).1
    refine (hgr.block r (by omega) (fun e => ?_)).trans ((hal.block r hlt).trans g3)
    rcases hown.2 with ⟨rfl, _⟩ | ⟨g', cap', cur, rfl, _, hgb, _⟩
    · cases e
    · cases e
      rw [g3] at hgb; cases hgb
  · rw [List.getElem?_append_right h5] at hi
    have hz : i - M.length = 0 := by
      have := (List.getElem?_eq_some_iff.1 hi).1
      simp at this; omega
    rw [hz] at hi
    have hi' : x = p := by simpa using hi
    subst hi'
    refine ⟨W.heap.size, by rw [List.getElem?_append_right (by omega), hvs, hz]; rfl, hbase, ?_⟩
    refine (hgr.block W.heap.size (by omega) (fun e => ?_)).trans (heap_alloc_new W _)
    have := (hown.lt _ e.symm).2
    omega
theorem infoSlF : (Try.prog.info? 22).map (fun i => (i.zero, i.size, i.bytes)) = some (some (.slice none 0 0), 1, 24) := by kernel_rfl

/-- Between two rounds: Wb is the world ahead of the boxes of 'out' and 'at'. -/
structure FbI (w Wb : World) (B12 B13 : Nat) (f : Nat × Nat) (L : List (Nat × Nat)) (v : Value) (W : World) : Prop where
  bel : Below w.heap.size w W
  old : OldW Wb W
  b12 : Row W B12 #[v] 23
  b13 : Row W B13 #[.int .i64 (f.1 : Int), .int .i64 (f.2 : Int)] 48
  own : FPr W Wb.heap.size v L
  l12 : Wb.heap.size ≤ B12
  l13 : Wb.heap.size ≤ B13
theorem FbI.below {w Wb : World} {B12 B13 : Nat} {f : Nat × Nat} {L : List (Nat × Nat)} {v : Value} {W W' : World} (h : FbI w Wb B12 B13 f L v W) (hb : Below W.heap.size W W') : FbI w Wb B12 B13 f L v W' :=
  ⟨below_tr h.bel hb, h.old.tr hb, h.b12.below hb, h.b13.below hb, h.own.below hb, h.l12, h.l13⟩
theorem FbI.grown {w Wb : World} {B12 B13 n : Nat} {f : Nat × Nat} {L : List (Nat × Nat)} {v : Value} {W W' : World} {row : Option Nat} (h : FbI w Wb B12 B13 f L v W) (hn : w.heap.size ≤ n) (hn2 : Wb.heap.size ≤ n) (hg : W.grownBy W' row) (hr : ∀ r, row = some r → n ≤ r ∧ ∃ o : Obj, W.heap[r]? = some o ∧ o.isCells = false) : FbI w Wb B12 B13 f L v W' := by
  have key : ∀ (k : Nat) (cs : Array Value) (t : TypeId), Row W k cs t → Row W' k cs t := fun k cs t hk => (hg.block k hk.lt (fun e => by
    obtain ⟨_, o, ho, hc⟩ := hr k e.symm
    have h3 : W.heap[k]? = _ := hk
    rw [ho] at h3; cases h3; cases hc)).trans hk
  exact ⟨h.bel.grown hg h.bel.size (fun k e => by have := (hr k e).1; omega), ⟨Nat.le_trans h.old.1 hg.size, fun k hk => (hg.block k (Nat.lt_of_lt_of_le hk h.old.1) (fun e => by have := (hr k e.symm).1; omega)).trans (h.old.2 k hk)⟩, key _ _ _ h.b12, key _ _ _ h.b13, h.own.grown hg (fun r e => (hr r e).2), h.l12, h.l13⟩
/-- The variable of the next round. -/
theorem FbI.box {w Wb : World} {B12 B13 : Nat} {f : Nat × Nat} {L : List (Nat × Nat)} {v : Value} {W : World} (h : FbI w Wb B12 B13 f L v W) : FbI w Wb B12 W.heap.size f L v (W.alloc (.cells #[.int .i64 (f.1 : Int), .int .i64 (f.2 : Int)] 48)) := by
  have hb := below_al W (.cells #[.int .i64 (f.1 : Int), .int .i64 (f.2 : Int)] 48)
  exact ⟨below_tr h.bel hb, h.old.tr hb, h.b12.below hb, row_nw _ _ _ rfl, h.own.below hb, h.l12, h.old.1⟩
/-- Behind 'out = append(out, []int{to.left, to.right})' and 'at = to'. -/
theorem FbI.push {w Wb : World} {B12 B13 g cap : Nat} {f : Nat × Nat} {L : List (Nat × Nat)} {v : Value} {W W' : World} {vs : List Value} (h : FbI w Wb B12 B13 f L v W) (x : Nat × Nat) (hw : w.heap.size ≤ Wb.heap.size)
    (hown : W.ownsRow Wb.heap.size 22 1 v L.length vs) (htw : FTw W Wb.heap.size L vs)
    (ho : W'.ownsRow Wb.heap.size 22 1 (.slice (some ⟨g, 0, none⟩) (L.length + 1) cap) (L.length + 1) (vs ++ [.slice (some ⟨W.heap.size, 0, none⟩) 2 2])) (hb : Below Wb.heap.size (W.alloc (.cells #[.int .i64 (x.1 : Int), .int .i64 (x.2 : Int)] 3)) W')
    (hg : (W.alloc (.cells #[.int .i64 (x.1 : Int), .int .i64 (x.2 : Int)] 3)).grownBy W' v.ownBlock) :
    FbI w Wb B12 B13 x (L ++ [x]) (.slice (some ⟨g, 0, none⟩) (L.length + 1) cap) (((W'.setCell ⟨B12, 0, none⟩ (.slice (some ⟨g, 0, none⟩) (L.length + 1) cap)).setCell ⟨B13, 0, none⟩ (.int .i64 (x.1 : Int))).setCell ⟨B13, 1, none⟩ (.int .i64 (x.2 : Int))) ∧
      (W'.cell? ⟨B12, 0, none⟩ = some v ∧ W'.frozen? ⟨B12, 0, none⟩ = false ∧ W'.cell? ⟨B13, 0, none⟩ = some (.int .i64 (f.1 : Int)) ∧ W'.frozen? ⟨B13, 0, none⟩ = false ∧ W'.cell? ⟨B13, 1, none⟩ = some (.int .i64 (f.2 : Int)) ∧ W'.frozen? ⟨B13, 1, none⟩ = false) ∧ B13 ≠ B12 ∧ Row W' B13 #[.int .i64 (f.1 : Int), .int .i64 (f.2 : Int)] 48 := by
  have n12 : v.ownBlock ≠ some B12 := row_own_neX h.b12 hown (by decide)
  have n13 : v.ownBlock ≠ some B13 := row_own_neX h.b13 hown (by decide)
  have a12 := h.b12.al (.cells #[.int .i64 (x.1 : Int), .int .i64 (x.2 : Int)] 3)
  have a13 := h.b13.al (.cells #[.int .i64 (x.1 : Int), .int .i64 (x.2 : Int)] 3)
  have h12 : Row W' B12 #[v] 23 := (hg.block _ a12.lt (fun e => n12 e.symm)).trans a12
  have h13 : Row W' B13 #[.int .i64 (f.1 : Int), .int .i64 (f.2 : Int)] 48 := (hg.block _ a13.lt (fun e => n13 e.symm)).trans a13
  have h23 : B13 ≠ B12 := fun e => by
    have h3 : W'.heap[B12]? = _ := h12
    have h4 : W'.heap[B13]? = _ := h13
    rw [e, h3] at h4
    simp only [Option.some.injEq, Obj.cells.injEq] at h4
    exact absurd h4.2.1 (by decide)
  have hown2 : FPr W' Wb.heap.size (.slice (some ⟨g, 0, none⟩) (L.length + 1) cap) (L ++ [x]) := FPr.push x h.old.1 hown htw ho hg
  have hl12 := h.l12
  have hl13 := h.l13
  have hal := below_al W (.cells #[.int .i64 (x.1 : Int), .int .i64 (x.2 : Int)] 3)
  have hbo : OldW Wb W' := ⟨Nat.le_trans h.old.1 (Nat.le_trans hal.size hg.size), fun k hk => (hb.block k hk).trans ((hal.block k (Nat.lt_of_lt_of_le hk h.old.1)).trans (h.old.2 k hk))⟩
  have s1 : Row (W'.setCell ⟨B12, 0, none⟩ (.slice (some ⟨g, 0, none⟩) (L.length + 1) cap)) B12 #[.slice (some ⟨g, 0, none⟩) (L.length + 1) cap] 23 := h12.set 0 _
  have t1 := h13.other ⟨B12, 0, none⟩ (.slice (some ⟨g, 0, none⟩) (L.length + 1) cap) (by simpa using h23)
  have t2 := t1.set 0 (.int .i64 (x.1 : Int))
  have t3 := t2.set 1 (.int .i64 (x.2 : Int))
  have o1 := hown2.set h12 (by decide) (by decide) 0 (.slice (some ⟨g, 0, none⟩) (L.length + 1) cap)
  have o2 := o1.set t1 (by decide) (by decide) 0 (.int .i64 (x.1 : Int))
  have o3 := o2.set t2 (by decide) (by decide) 1 (.int .i64 (x.2 : Int))
  refine ⟨⟨?_, ⟨by simp [World.setCell]; exact hbo.1, fun k hk => ?_⟩, (s1.other _ _ (by simpa using h23.symm)).other _ _ (by simpa using h23.symm), t3, o3, h.l12, h.l13⟩, ⟨h12.cell 0 rfl, h12.frozen 0, h13.cell 0 rfl, h13.frozen 0, h13.cell 1 rfl, h13.frozen 1⟩, h23, h13⟩
  · exact ((((h.bel.trans (hal.mono h.bel.size)).trans (hb.mono hw)).setCell (by simp; omega) _).setCell (by simp; omega) _).setCell (by simp; omega) _
  · rw [Below.heap_setCell _ _ _ _ (by simp; omega), Below.heap_setCell _ _ _ _ (by simp; omega), Below.heap_setCell _ _ _ _ (by simp; omega)]
    exact hbo.2 k hk
theorem keeps_setR {A : World} {B i n : Nat} {cs : Array Value} {t : TypeId} (h : Row A B cs t) (v : Value) : KeepsFrom n A (A.setCell ⟨B, i, none⟩ v) := by
  have hs : (A.setCell ⟨B, i, none⟩ v).heap.size = A.heap.size := by simp [World.setCell]
  refine ⟨Nat.le_of_eq hs.symm, fun k o _ ho hc => (Below.heap_setCell _ _ _ _ ?_).trans ho⟩
  intro e
  simp only at e
  have h3 : A.heap[B]? = _ := h
  rw [e, h3] at ho
  cases ho; cases hc
end Go.Proofs.Ytlneimjenjpbnaa

/-
  facing.Break: the frame of its loop.
-/
namespace Go.Proofs.Ytlneimjenjpbnaa
open Go.RowKit
attribute [local go_sem] Oper.semAt_some

/-- The frame of the loop. -/
def fbkA (B9 B11 B12 B13 : Nat) (ds : List Deferred) (u0 u1 u2 u3 u4 u5 u6 u7 u8 u10 u14 u15 u16 u17 u18 u19 u20 u21 u22 u23 u24 u25 u26 u27 u28 u29 u30 u31 u32 u33 u34 u35 u36 u37 u38 u39 u40 u41 u42 u43 u44 u45 u46 u47 u48 u49 u50 u51 u52 u53 u54 u55 u56 u57 u58 u59 u60 u61 u62 u63 u64 u65 u66 u67 u68 u69 u70 u71 u72 u73 u74 u75 u76 u77 u78 u79 u80 u81 u82 u83 u84 u85 u86 u87 u88 u89 u90 u91 u92 u93 u94 : Value) : Act :=
  { tmps := #[u0, u1, u2, u3, u4, u5, u6, u7, u8, .pointer (some ⟨B9, 0, none⟩), u10, .pointer (some ⟨B11, 0, none⟩), .pointer (some ⟨B12, 0, none⟩), .pointer (some ⟨B13, 0, none⟩), u14, u15, u16, u17, u18, u19, u20, u21, u22, u23, u24, u25, u26, u27, u28, u29, u30, u31, u32, u33, u34, u35, u36, u37, u38, u39, u40, u41, u42, u43, u44, u45, u46, u47, u48, u49, u50, u51, u52, u53, u54, u55, u56, u57, u58, u59, u60, u61, u62, u63, u64, u65, u66, u67, u68, u69, u70, u71, u72, u73, u74, u75, u76, u77, u78, u79, u80, u81, u82, u83, u84, u85, u86, u87, u88, u89, u90, u91, u92, u93, u94], defers := ds }
def FbkJ (w Wb : World) (s : FS) (B9 B11 B12 n : Nat) (a : Act) (W : World) : Prop :=
  ∃ (Ds : List Nat) (B13 : Nat) (f : Nat × Nat) (k : Nat) (L : List (Nat × Nat)) (v : Value) (u0 u1 u2 u3 u4 u5 u6 u7 u8 u10 u14 u15 u16 u17 u18 u19 u20 u21 u22 u23 u24 u25 u26 u27 u28 u29 u30 u31 u32 u33 u34 u35 u36 u37 u38 u39 u40 u41 u42 u43 u44 u45 u46 u47 u48 u49 u50 u51 u52 u53 u54 u55 u56 u57 u58 u59 u60 u61 u62 u63 u64 u65 u66 u67 u68 u69 u70 u71 u72 u73 u74 u75 u76 u77 u78 u79 u80 u81 u82 u83 u84 u85 u86 u87 u88 u89 u90 u91 u92 u93 u94 : Value), a = fbkA B9 B11 B12 B13 (mksD Ds) u0 u1 u2 u3 u4 u5 u6 u7 u8 u10 u14 u15 u16 u17 u18 u19 u20 u21 u22 u23 u24 u25 u26 u27 u28 u29 u30 u31 u32 u33 u34 u35 u36 u37 u38 u39 u40 u41 u42 u43 u44 u45 u46 u47 u48 u49 u50 u51 u52 u53 u54 u55 u56 u57 u58 u59 u60 u61 u62 u63 u64 u65 u66 u67 u68 u69 u70 u71 u72 u73 u74 u75 u76 u77 u78 u79 u80 u81 u82 u83 u84 u85 u86 u87 u88 u89 u90 u91 u92 u93 u94 ∧ f.1 ≤ s.L.n ∧ f.2 ≤ s.R.n ∧ n = posF s f ∧ posF s f ≤ k ∧ 0 ≤ fpot s f ∧ L ++ fbrF s k f = fbr s ∧ L.length + posF s f ≤ totF s ∧ FbI w Wb B12 B13 f L v W ∧ MkOk w.heap.size Ds W
theorem FbkJ.elim {w Wb : World} {s : FS} {B9 B11 B12 n : Nat} {P : Act → World → Prop} {a : Act} {W : World} (h : FbkJ w Wb s B9 B11 B12 n a W)
    (hP : ∀ (Ds : List Nat) (B13 : Nat) (f : Nat × Nat) (k : Nat) (L : List (Nat × Nat)) (v : Value) (u0 u1 u2 u3 u4 u5 u6 u7 u8 u10 u14 u15 u16 u17 u18 u19 u20 u21 u22 u23 u24 u25 u26 u27 u28 u29 u30 u31 u32 u33 u34 u35 u36 u37 u38 u39 u40 u41 u42 u43 u44 u45 u46 u47 u48 u49 u50 u51 u52 u53 u54 u55 u56 u57 u58 u59 u60 u61 u62 u63 u64 u65 u66 u67 u68 u69 u70 u71 u72 u73 u74 u75 u76 u77 u78 u79 u80 u81 u82 u83 u84 u85 u86 u87 u88 u89 u90 u91 u92 u93 u94 : Value), f.1 ≤ s.L.n ∧ f.2 ≤ s.R.n ∧ n = posF s f ∧ posF s f ≤ k ∧ 0 ≤ fpot s f ∧ L ++ fbrF s k f = fbr s ∧ L.length + posF s f ≤ totF s ∧ FbI w Wb B12 B13 f L v W ∧ MkOk w.heap.size Ds W → P (fbkA B9 B11 B12 B13 (mksD Ds) u0 u1 u2 u3 u4 u5 u6 u7 u8 u10 u14 u15 u16 u17 u18 u19 u20 u21 u22 u23 u24 u25 u26 u27 u28 u29 u30 u31 u32 u33 u34 u35 u36 u37 u38 u39 u40 u41 u42 u43 u44 u45 u46 u47 u48 u49 u50 u51 u52 u53 u54 u55 u56 u57 u58 u59 u60 u61 u62 u63 u64 u65 u66 u67 u68 u69 u70 u71 u72 u73 u74 u75 u76 u77 u78 u79 u80 u81 u82 u83 u84 u85 u86 u87 u88 u89 u90 u91 u92 u93 u94) W) : P a W := by
  obtain ⟨Ds, B13, f, k, L, v, u0, u1, u2, u3, u4, u5, u6, u7, u8, u10, u14, u15, u16, u17, u18, u19, u20, u21, u22, u23, u24, u25, u26, u27, u28, u29, u30, u31, u32, u33, u34, u35, u36, u37, u38, u39, u40, u41, u42, u43, u44, u45, u46, u47, u48, u49, u50, u51, u52, u53, u54, u55, u56, u57, u58, u59, u60, u61, u62, u63, u64, u65, u66, u67, u68, u69, u70, u71, u72, u73, u74, u75, u76, u77, u78, u79, u80, u81, u82, u83, u84, u85, u86, u87, u88, u89, u90, u91, u92, u93, u94, rfl, h⟩ := h
  exact hP Ds B13 f k L v u0 u1 u2 u3 u4 u5 u6 u7 u8 u10 u14 u15 u16 u17 u18 u19 u20 u21 u22 u23 u24 u25 u26 u27 u28 u29 u30 u31 u32 u33 u34 u35 u36 u37 u38 u39 u40 u41 u42 u43 u44 u45 u46 u47 u48 u49 u50 u51 u52 u53 u54 u55 u56 u57 u58 u59 u60 u61 u62 u63 u64 u65 u66 u67 u68 u69 u70 u71 u72 u73 u74 u75 u76 u77 u78 u79 u80 u81 u82 u83 u84 u85 u86 u87 u88 u89 u90 u91 u92 u93 u94 h

end Go.Proofs.Ytlneimjenjpbnaa
