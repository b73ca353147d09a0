/-
  facing: sides in memory; end, anchored.
-/
import Derived.Test.YtlneimjenjpbnaaPrc
import Derived.Test.YtlneimjenjpbnaaFnI
import Derived.BigQuiet
namespace Go.Proofs.Ytlneimjenjpbnaa
open Go.RowKit

/-- The values of the two sides. -/
structure FV where
  l1 : Value
  l2 : Value
  l3 : Value
  r1 : Value
  r2 : Value
  r3 : Value
  a : Value
  l : Value
  r : Value
def fsC (s : FS) (x : FV) : Array Value := #[x.l1, x.l2, x.l3, .int .i64 s.L.h, .int .i64 s.L.gap, x.r1, x.r2, x.r3, .int .i64 s.R.h, .int .i64 s.R.gap, x.a, x.l, x.r]
def prcA (p : PP) : List (List (Int × Int)) := prcM p (p.lines.length + 1) (p.lines.length + 1)
structure FsR (W : World) (x : FV) (s : FS) : Prop where
  l : RdP5 W x.l1 x.l2 x.l3 s.L
  r : RdP5 W x.r1 x.r2 x.r3 s.R
  a : RdM W x.a s.A
  pl : RdMC 2 encP W x.l (prcA s.L)
  pr : RdMC 2 encP W x.r (prcA s.R)
theorem FsR.below {W W' : World} {x : FV} {s : FS} (h : FsR W x s) (hb : Below W.heap.size W W') : FsR W' x s := ⟨h.l.below hb, h.r.below hb, h.a.below hb, h.pl.below hb, h.pr.below hb⟩

/-- An anchor that is on one side alone. -/
def onB (f t : Nat × Nat) (a : List Int) : Bool := (decide ((f.1 : Int) ≤ a.getD 0 0) && decide (a.getD 0 0 < t.1)) != (decide ((f.2 : Int) ≤ a.getD 1 0) && decide (a.getD 1 0 < t.2))
theorem ancB_eq (A : List (List Int)) (f t : Nat × Nat) : ancB A f t = !(A.any (onB f t)) := rfl

set_option maxHeartbeats 4000000 in
theorem anc1_any (f t : Nat × Nat) (u : Value) (a0 a1 : Int) (b1 b2 : Nat) (w : World) (hu : RdI w u [a0, a1])
    (k1 : w.cell? ⟨b1, 0, none⟩ = some (.int .i64 f.1)) (k2 : w.cell? ⟨b1, 1, none⟩ = some (.int .i64 f.2)) (k3 : w.cell? ⟨b2, 0, none⟩ = some (.int .i64 t.1)) (k4 : w.cell? ⟨b2, 1, none⟩ = some (.int .i64 t.2)) :
    Calls Try.prog 43 #[u, .pointer (some ⟨b1, 0, none⟩), .pointer (some ⟨b2, 0, none⟩)] w fun e w' => e = .returned (.bool (onB f t [a0, a1])) ∧ Below w.heap.size w w' := by
  obtain ⟨av, cv, hv, _, _, hc⟩ := hu.open
  obtain ⟨y0, b, off, hy0, rfl, c0⟩ := hc 0 (by simp)
  obtain ⟨y1, b', off', hy1, he, c1⟩ := hc 1 (by simp)
  cases he
  simp at hy0 hy1
  subst hy0 hy1
  simp only [List.length_cons, List.length_nil, Nat.reduceAdd] at hv
  subst hv
  rw [Nat.add_zero] at c0
  have HV : Hid (onB f t [a0, a1] = ((decide ((f.1 : Int) ≤ a0) && decide (a0 < t.1)) != (decide ((f.2 : Int) ≤ a1) && decide (a1 < t.2)))) := rfl
  obtain ⟨f1, f2⟩ := f
  obtain ⟨t1, t2⟩ := t
  dsimp only at *
  generalize onB (f1, f2) (t1, t2) [a0, a1] = r at *
  clear hu hc
  by_cases q1 : (f1 : Int) ≤ a0
  · by_cases q2 : a0 < (t1 : Int)
    · by_cases q3 : (f2 : Int) ≤ a1
      · by_cases q4 : a1 < (t2 : Int)
        · have HR : Hid (r = (true != true)) := by show _ = _; rw [HV.out]; simp [*]
          clear HV
          go_enter Try.func43, Try.ntmps43
          go_wp2_with fail
          go_quiet (fail)
          go_wp2_with fail
          go_ret
          exact ⟨by rw [HR.out]; rfl, below_drewN (Below.refl _ _) _⟩
        · have d4 : decide (a1 < (t2 : Int)) = false := decide_eq_false q4
          have HR : Hid (r = (true != false)) := by show _ = _; rw [HV.out]; simp [*]
          clear HV
          go_enter Try.func43, Try.ntmps43
          go_wp2_with fail
          go_quiet (fail)
          go_wp2_with fail
          go_ret
          exact ⟨by rw [HR.out]; rfl, below_drewN (Below.refl _ _) _⟩
      · have d3 : decide ((f2 : Int) ≤ a1) = false := decide_eq_false q3
        have HR : Hid (r = (true != false)) := by show _ = _; rw [HV.out]; simp [*]
        clear HV
        go_enter Try.func43, Try.ntmps43
        go_wp2_with fail
        go_quiet (fail)
        go_wp2_with fail
        go_ret
        exact ⟨by rw [HR.out]; rfl, below_drewN (Below.refl _ _) _⟩
    · have d2 : decide (a0 < (t1 : Int)) = false := decide_eq_false q2
      by_cases q3 : (f2 : Int) ≤ a1
      · by_cases q4 : a1 < (t2 : Int)
        · have HR : Hid (r = (false != true)) := by show _ = _; rw [HV.out]; simp [*]
          clear HV
          go_enter Try.func43, Try.ntmps43
          go_wp2_with fail
          go_quiet (fail)
          go_wp2_with fail
          go_ret
          exact ⟨by rw [HR.out]; rfl, below_drewN (Below.refl _ _) _⟩
        · have d4 : decide (a1 < (t2 : Int)) = false := decide_eq_false q4
          have HR : Hid (r = (false != false)) := by show _ = _; rw [HV.out]; simp [*]
          clear HV
          go_enter Try.func43, Try.ntmps43
          go_wp2_with fail
          go_quiet (fail)
          go_wp2_with fail
          go_ret
          exact ⟨by rw [HR.out]; rfl, below_drewN (Below.refl _ _) _⟩
      · have d3 : decide ((f2 : Int) ≤ a1) = false := decide_eq_false q3
        have HR : Hid (r = (false != false)) := by show _ = _; rw [HV.out]; simp [*]
        clear HV
        go_enter Try.func43, Try.ntmps43
        go_wp2_with fail
        go_quiet (fail)
        go_wp2_with fail
        go_ret
        exact ⟨by rw [HR.out]; rfl, below_drewN (Below.refl _ _) _⟩
  · have d1 : decide ((f1 : Int) ≤ a0) = false := decide_eq_false q1
    by_cases q3 : (f2 : Int) ≤ a1
    · by_cases q4 : a1 < (t2 : Int)
      · have HR : Hid (r = (false != true)) := by show _ = _; rw [HV.out]; simp [*]
        clear HV
        go_enter Try.func43, Try.ntmps43
        go_wp2_with fail
        go_quiet (fail)
        go_wp2_with fail
        go_ret
        exact ⟨by rw [HR.out]; rfl, below_drewN (Below.refl _ _) _⟩
      · have d4 : decide (a1 < (t2 : Int)) = false := decide_eq_false q4
        have HR : Hid (r = (false != false)) := by show _ = _; rw [HV.out]; simp [*]
        clear HV
        go_enter Try.func43, Try.ntmps43
        go_wp2_with fail
        go_quiet (fail)
        go_wp2_with fail
        go_ret
        exact ⟨by rw [HR.out]; rfl, below_drewN (Below.refl _ _) _⟩
    · have d3 : decide ((f2 : Int) ≤ a1) = false := decide_eq_false q3
      have HR : Hid (r = (false != false)) := by show _ = _; rw [HV.out]; simp [*]
      clear HV
      go_enter Try.func43, Try.ntmps43
      go_wp2_with fail
      go_quiet (fail)
      go_wp2_with fail
      go_ret
      exact ⟨by rw [HR.out]; rfl, below_drewN (Below.refl _ _) _⟩

set_option maxHeartbeats 4000000 in
theorem anc_any (s : FS) (x : FV) (f t : Nat × Nat) (w : World) (hr : RdM w x.a s.A) (h2 : ∀ a ∈ s.A, a.length = 2) :
    Calls Try.prog 32 #[.agg (fsC s x), .agg #[.int .i64 f.1, .int .i64 f.2], .agg #[.int .i64 t.1, .int .i64 t.2]] w fun e w' => e = .returned (.bool (ancB s.A f t)) ∧ Below w.heap.size w w' := by
  have HV : Hid (ancB s.A f t = !(s.A.any (onB f t))) := rfl
  have HB0 : Hid (Below w.heap.size w (((w.alloc (.cells (fsC s x) 46)).alloc (.cells #[.int .i64 f.1, .int .i64 f.2] 48)).alloc (.cells #[.int .i64 t.1, .int .i64 t.2] 48))) := below_tr (below_tr (below_al w _) (below_al _ _)) (below_al _ _)
  have z1 := (((row_nw w (fsC s x) 46 rfl).al (.cells #[.int .i64 f.1, .int .i64 f.2] 48)).al (.cells #[.int .i64 t.1, .int .i64 t.2] 48)).cell 10 (x := x.a) rfl
  have Z2 := hid ((row_nw (w.alloc (.cells (fsC s x) 46)) #[.int .i64 f.1, .int .i64 f.2] 48 (n := w.heap.size + 1) (by simp)).al (.cells #[.int .i64 t.1, .int .i64 t.2] 48))
  have Z3 := hid (row_nw ((w.alloc (.cells (fsC s x) 46)).alloc (.cells #[.int .i64 f.1, .int .i64 f.2] 48)) #[.int .i64 t.1, .int .i64 t.2] 48 (n := w.heap.size + 1 + 1) (by simp))
  have HA := hid (hr.below HB0.out)
  have H2 := hid h2
  clear hr h2
  unfold fsC at *
  go_enter Try.func32, Try.ntmps32
  go_upto_region 1 with fail
  generalize ((w.alloc (.cells #[x.l1, x.l2, x.l3, .int .i64 s.L.h, .int .i64 s.L.gap, x.r1, x.r2, x.r3, .int .i64 s.R.h, .int .i64 s.R.gap, x.a, x.l, x.r] 46)).alloc (.cells #[.int .i64 f.1, .int .i64 f.2] 48)).alloc (.cells #[.int .i64 t.1, .int .i64 t.2] 48) = W0 at *
  have HC := hid (containsFuncM_any 43 (fun args w => by rfl) #[.pointer (some ⟨w.heap.size + 1, 0, none⟩), .pointer (some ⟨w.heap.size + 1 + 1, 0, none⟩)] (onB f t) x.a s.A W0 HA.out (fun u y W' hy hu hb => by
    have hl := H2.out y hy
    obtain ⟨a0, a1, rfl⟩ : ∃ a0 a1, y = [a0, a1] := by
      match y, hl with
      | [a0, a1], _ => exact ⟨a0, a1, rfl⟩
    exact anc1_any f t u a0 a1 _ _ W' hu (Below.keeps hb _ _ (Z2.out.cell 0 rfl)) (Below.keeps hb _ _ (Z2.out.cell 1 rfl)) (Below.keeps hb _ _ (Z3.out.cell 0 rfl)) (Below.keeps hb _ _ (Z3.out.cell 1 rfl))))
  clear Z2 Z3
  generalize s.A.any (onB f t) = r at *
  go_wp2_with fail
  (with_reducible refine HC.out.mono ?_)
  rintro e w3 ⟨rfl, hb3⟩
  have HB3 := hid (below_tr HB0.out hb3)
  clear hb3 z1
  go_wp2_with fail
  go_ret
  exact ⟨by rw [HV.out]; rfl, HB3.out⟩
theorem fend_any (s : FS) (a1 a5 : Option Addr) (c1 c5 : Nat) (y1 y2 y3 y4 z0 z1 z2 z3 z4 z5 z6 : Value) (w : World) :
    Calls Try.prog 14 #[.agg #[.slice a1 s.L.n c1, y1, y2, y3, y4, .slice a5 s.R.n c5, z0, z1, z2, z3, z4, z5, z6]] w fun e w' => e = .returned (.agg #[.int .i64 s.L.n, .int .i64 s.R.n]) ∧ Below w.heap.size w w' := by
  go_enter Try.func14, Try.ntmps14
  go_wp2_with fail
  exact bodyPost_ret (v := .agg #[.int .i64 s.L.n, .int .i64 s.R.n]) (by simp [results, Try.results14, go_sem]) rfl ⟨rfl, below_tr (below_al _ _) (below_al _ _)⟩
end Go.Proofs.Ytlneimjenjpbnaa
