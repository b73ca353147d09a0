/-
  pagedesc.Bounds.
-/
import Derived.Test.YtkjapeafhcdnkaaDoorPck
import Derived.Test.YtkjapeafhcdnkaaDoorPrt
import Derived.Test.YtkjapeafhcdnkaaDoorRws
import Derived.Deep.QuietTactic
import Derived.BigQuiet
import Derived.IntWalk
namespace Go.Proofs.YtkjapeafhcdnkaaDoor
open Go.RowKit

def fX (a : Int) (l : List Bx) : Int := l.foldl (fun a b => min a b.x) a
def fY (a : Int) (l : List Bx) : Int := l.foldl (fun a b => min a b.y) a
def fR (a : Int) (l : List Bx) : Int := l.foldl (fun a b => max a (b.x + b.wd)) a
def fD (a : Int) (l : List Bx) : Int := l.foldl (fun a b => max a b.y) a
theorem fold_step {α : Type} (f : α → Bx → α) (a : α) (l : List Bx) (k : Nat) (x : Bx) (h : l[k]? = some x) : (l.take (k + 1)).foldl f a = f ((l.take k).foldl f a) x := by
  rw [List.take_add_one, h, List.foldl_append]; rfl
theorem results_tmp5 {fn : Func} {t u v x y : Tmp} (h : fn.results = #[.tmp t, .tmp u, .tmp v, .tmp x, .tmp y]) (tmps : Array Value) (P : Program) (w : World) :
    (results fn tmps).run P w = .ok (.tuple #[tmps.getD t undef, tmps.getD u undef, tmps.getD v undef, tmps.getD x undef, tmps.getD y undef]) w := by simp [results, h]

set_option maxRecDepth 100000 in
set_option maxHeartbeats 2000000 in
/-- The bounds of the boxes of a page that is fine and has a box. -/
theorem bounds_yes (p : Pg) (b0 : Bx) (v : Value) (w : World) (hr : RdB w v p.bx) (hz : SzB p.bx) (hg : pgI p = 0) (h0 : p.bx[0]? = some b0) :
    Calls Tryd.prog 21 #[.agg #[.int .i64 p.num, v]] w fun e w' => e = .returned (.tuple #[.int .i64 (fX b0.x p.bx), .int .i64 (fY b0.y p.bx), .int .i64 (fR (b0.x + b0.wd) p.bx), .int .i64 (fD b0.y p.bx), .int .i64 0]) ∧ Below w.heap.size w w' := by
  have HG := hid (pg_good hg).2.2.2
  obtain ⟨num, l⟩ := p
  simp only at hr hz h0 HG ⊢
  have hb0 := below_al w (.cells #[.int .i64 num, v] 34)
  have hro := row_nw w #[.int .i64 num, v] 34 rfl
  have HCK := hid (pcheck_any ⟨num, l⟩ v _ (hr.below hb0) hz)
  rw [hg] at HCK
  obtain ⟨ad, cap, rfl, hlc, hcm, hcell⟩ := (hr.below hb0).open
  have HC := hid hcell
  have HRO := hid hro
  have hlen : 0 < l.length := (List.getElem?_eq_some_iff.1 h0).1
  obtain ⟨x0, c, o, hx0, rfl, d0, d1, d2, d3, d4, d5⟩ := hcell 0 hlen
  rw [h0] at hx0
  cases hx0
  simp only [Nat.zero_mul, Nat.add_zero] at d0 d1 d2 d3 d4 d5
  have g0 := bx_good (HG.out b0 (List.mem_of_getElem? h0))
  obtain ⟨_, _, g1, g2, _, _, g3, g4, _⟩ := g0
  clear hcell hr hro h0 hg
  go_enter Tryd.func21, Tryd.ntmps21
  go_wp2_with fail
  generalize w.alloc (.cells #[.int .i64 num, .slice (some ⟨c, o, none⟩) l.length cap] 34) = w0 at *
  refine HCK.out.mono ?_
  rintro e w1 ⟨rfl, hB1⟩
  have e0 := Below.keeps hB1 _ _ d0
  have e1 := Below.keeps hB1 _ _ d1
  have e2 := Below.keeps hB1 _ _ d2
  have e3 := Below.keeps hB1 _ _ d3
  have e4 := Below.keeps hB1 _ _ d4
  have e5 := Below.keeps hB1 _ _ d5
  have pg1 := (HRO.out.below hB1).cell 1 rfl
  have hlz : ((l.length : Int) == 0) = false := beq_eq_false_iff_ne.2 (by omega)
  clear d0 d1 d2 d3 d4 d5 HCK
  have hw0 : IntKind.i64.wrap (b0.x + b0.wd) = b0.x + b0.wd := IntWalk.i64_in _ (by omega)
  have q0 := hid (row_nw w1 b0.cells 42 rfl)
  have hb2 := hid (below_tr hB1 (below_al w1 (.cells b0.cells 42)))
  unfold Bx.cells at q0 hb2
  go_wp2_with fail
  generalize w1.alloc (.cells #[.int .i64 b0.kind, .int .i64 b0.x, .int .i64 b0.y, .int .i64 b0.wd, .int .i64 b0.blk, .string b0.text] 42) = w2 at *
  generalize w1.heap.size = P at *
  have r1 := q0.out.cell 1 rfl
  have r2 := q0.out.cell 2 rfl
  have r3 := q0.out.cell 3 rfl
  go_quiet (fail)
  have HB2 := hid (below_drewN hb2.out nq)
  clear r1 r2 r3 q0 hb2 e0 e1 e2 e3 e4 e5 pg1 hB1
  generalize w2.drewN nq = w3 at *
  have pg1 := (HRO.out.below HB2.out).cell 1 rfl
  have HS : Hid (∀ (k : Nat) (x : Bx), l[k]? = some x → fX b0.x (l.take (k + 1)) = min (fX b0.x (l.take k)) x.x ∧ fY b0.y (l.take (k + 1)) = min (fY b0.y (l.take k)) x.y ∧ fR (b0.x + b0.wd) (l.take (k + 1)) = max (fR (b0.x + b0.wd) (l.take k)) (x.x + x.wd) ∧ fD b0.y (l.take (k + 1)) = max (fD b0.y (l.take k)) x.y) :=
    fun k x h => ⟨fold_step _ _ l k x h, fold_step _ _ l k x h, fold_step _ _ l k x h, fold_step _ _ l k x h⟩
  have HE : Hid (fX b0.x (l.take l.length) = fX b0.x l ∧ fY b0.y (l.take l.length) = fY b0.y l ∧ fR (b0.x + b0.wd) (l.take l.length) = fR (b0.x + b0.wd) l ∧ fD b0.y (l.take l.length) = fD b0.y l) := by rw [List.take_length]; exact ⟨rfl, rfl, rfl, rfl⟩
  have H0 : Hid (fX b0.x (l.take 0) = b0.x ∧ fY b0.y (l.take 0) = b0.y ∧ fR (b0.x + b0.wd) (l.take 0) = b0.x + b0.wd ∧ fD b0.y (l.take 0) = b0.y) := ⟨rfl, rfl, rfl, rfl⟩
  go_wp2_with fail
  go_loopw [8, 9, 10, 11, 39] (fun va vb vc vd i wr => ∃ (k : Nat) (A B C D : Int), k ≤ l.length ∧ va = .int .i64 A ∧ vb = .int .i64 B ∧ vc = .int .i64 C ∧ vd = .int .i64 D ∧ i = .int .i64 k ∧ Hid (A = fX b0.x (l.take k) ∧ B = fY b0.y (l.take k) ∧ C = fR (b0.x + b0.wd) (l.take k) ∧ D = fD b0.y (l.take k)) ∧ Hid (Below w0.heap.size w0 wr)) (fun _ _ _ _ i _ => l.length - (intOf i).toNat)
  case atStart => exact ⟨0, _, _, _, _, Nat.zero_le _, rfl, rfl, rfl, rfl, rfl, ⟨H0.out.1.symm, H0.out.2.1.symm, H0.out.2.2.1.symm, H0.out.2.2.2.symm⟩, HB2.out⟩
  case round =>
    obtain ⟨k, A, B, C, D, hk, rfl, rfl, rfl, rfl, rfl, HV, HB⟩ := hrel
    by_cases hlt : k < l.length
    · obtain ⟨x, b, o, hx, he, d0, d1, d2, d3, d4, d5⟩ := HC.out k hlt
      cases he
      have hki : (k : Int) < (l.length : Int) := by omega
      have e0 := Below.keeps HB.out _ _ d0
      have e1 := Below.keeps HB.out _ _ d1
      have e2 := Below.keeps HB.out _ _ d2
      have e3 := Below.keeps HB.out _ _ d3
      have e4 := Below.keeps HB.out _ _ d4
      have e5 := Below.keeps HB.out _ _ d5
      obtain ⟨_, _, i1, i2, _, _, i3, i4, _⟩ := bx_good (HG.out x (List.mem_of_getElem? hx))
      have hwx : IntKind.i64.wrap (x.x + x.wd) = x.x + x.wd := IntWalk.i64_in _ (by omega)
      have HST := hid (HS.out k x hx)
      have q0 := hid (row_nw wr x.cells 42 rfl)
      have hb2 := hid (below_tr HB.out (below_al wr (.cells x.cells 42)))
      unfold Bx.cells at q0 hb2
      clear d0 d1 d2 d3 d4 d5 hx pg1
      go_wp2_with fail
      generalize wr.alloc (.cells #[.int .i64 x.kind, .int .i64 x.x, .int .i64 x.y, .int .i64 x.wd, .int .i64 x.blk, .string x.text] 42) = w4 at *
      generalize wr.heap.size = P at *
      have r1 := q0.out.cell 1 rfl
      have r2 := q0.out.cell 2 rfl
      have r3 := q0.out.cell 3 rfl
      go_quiet (fail)
      have HB4 := hid (below_drewN hb2.out nq)
      have q4 := hid (q0.out.below (below_drewN (Below.refl _ _) nq))
      clear r1 r2 r3 q0 hb2 e0 e1 e2 e3 e4 e5 HB
      generalize w4.drewN nq = w5 at *
      have r1 := q4.out.cell 1 rfl
      have r2 := q4.out.cell 2 rfl
      have r3 := q4.out.cell 3 rfl
      go_wp2_with fail
      go_quiet (fail)
      have HB6 := hid (below_drewN HB4.out nq)
      clear r1 r2 r3 q4 HB4
      generalize w5.drewN nq = w6 at *
      go_wp2_with fail
      go_roundw
      case rel => exact ⟨k + 1, _, _, _, _, by omega, rfl, rfl, rfl, rfl, by go_num, ⟨by rw [HST.out.1, HV.out.1], by rw [HST.out.2.1, HV.out.2.1], by rw [HST.out.2.2.1, HV.out.2.2.1], by rw [HST.out.2.2.2, HV.out.2.2.2]⟩, HB6.out⟩
      case measure => simp [intOf]; omega
    · have hki : ¬ (k : Int) < (l.length : Int) := by omega
      have hkl : k = l.length := by omega
      have HV2 : Hid (A = fX b0.x l ∧ B = fY b0.y l ∧ C = fR (b0.x + b0.wd) l ∧ D = fD b0.y l) := by
        have h := HV.out
        rw [hkl, HE.out.1, HE.out.2.1, HE.out.2.2.1, HE.out.2.2.2] at h
        exact h
      clear hkl HV
      go_wp2_with fail
      refine bodyPost_ret (results_tmp5 rfl _ _ _) rfl ⟨?_, below_tr hb0 HB.out⟩
      show Ending.returned (.tuple #[.int .i64 A, .int .i64 B, .int .i64 C, .int .i64 D, .int .i64 0]) = _
      rw [HV2.out.1, HV2.out.2.1, HV2.out.2.2.1, HV2.out.2.2.2]
end Go.Proofs.YtkjapeafhcdnkaaDoor
