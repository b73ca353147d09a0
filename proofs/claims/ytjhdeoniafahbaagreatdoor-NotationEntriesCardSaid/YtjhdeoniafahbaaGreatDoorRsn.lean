/-
  The reference's Same and SameEntry.
-/
import Derived.Test.YtjhdeoniafahbaaGreatDoorJ06
import Derived.Test.YtjhdeoniafahbaaGreatDoorJ07
namespace Go.Proofs.YtjhdeoniafahbaaGreatDoor
open Go.RowKit

theorem rsamew_bel (v u : Value) (l m : List ByteArray) (w : World) (hr : RdS w v l) (hs : RdS w u m) :
    Calls Tryz.prog 47 #[v, u] w fun e w' => e = .returned (.bool (decide (l = m))) ∧ Below w.heap.size w w' :=
  (rsamew_any v u l m w hr hs).mono fun _ _ ⟨h1, _, h2⟩ => ⟨h1, h2 ▸ below_drewN (Below.refl _ _) _⟩
def enB (a b : En) : Bool := decide (a.ly = b.ly) && (decide (a.fr = b.fr) && (decide (a.to_ = b.to_) && (decide (a.pos = b.pos) && (decide (a.sup = b.sup) && vsEq a.vs b.vs))))
theorem enB_iff {a b : En} : enB a b = true ↔ a = b := by
  unfold enB
  simp only [Bool.and_eq_true, decide_eq_true_eq, vsEq_iff]
  constructor
  · rintro ⟨h1, h2, h3, h4, h5, h6⟩
    cases a; cases b
    simp_all
  · rintro rfl; exact ⟨rfl, rfl, rfl, rfl, rfl, rfl⟩

set_option maxRecDepth 100000 in
set_option maxHeartbeats 4000000 in
theorem rsame45_any (x y : Nt) (u s u' s' : Value) (w : World) (hx : RdN w u s x) (hy : RdN w u' s' y) :
    Calls Tryz.prog 19 #[.agg (x.cells u s), .agg (y.cells u' s')] w fun e w' => e = .returned (.bool (ntB x y)) ∧ Below w.heap.size w w' := by
  have HB := hid (below_tr (below_al w (.cells (x.cells u s) 30)) (below_al _ (.cells (y.cells u' s') 30)))
  have hra := (row_nw w (x.cells u s) 30 rfl).al (.cells (y.cells u' s') 30)
  have hrb := row_nw (w.alloc (.cells (x.cells u s) 30)) (y.cells u' s') 30 rfl
  rw [show (w.alloc (.cells (x.cells u s) 30)).heap.size = w.heap.size + 1 by simp] at hrb
  have HRA := hid hra
  have HRB := hid hrb
  have E1 := fun w' (h : Below w.heap.size w w') => hid (rsamew_bel u u' x.sup y.sup w' (hx.rs.below h) (hy.rs.below h))
  have E2 := fun w' (h : Below w.heap.size w w') => hid (rsamev_any s s' x.vs y.vs w' (hx.rv.below h) (hy.rv.below h))
  have HNE : Hid (x ≠ y → ntB x y = false) := ntB_ne
  have HD : Hid (ntB x y = (decide (x.fr = y.fr) && (decide (x.to_ = y.to_) && (decide (x.pl = y.pl) && ((decide (x.lf = y.lf) && (decide (x.ll = y.ll) && decide (x.ln = y.ln))) && (decide (x.pos = y.pos) && (decide (x.sup = y.sup) && vsEq x.vs y.vs))))))) := rfl
  obtain ⟨x1, y1, rfl, _⟩ := hx.rs.open
  obtain ⟨x2, y2, rfl, _⟩ := hx.rv.open
  obtain ⟨x3, y3, rfl, _⟩ := hy.rs.open
  obtain ⟨x4, y4, rfl, _⟩ := hy.rv.open
  clear hx hy hra hrb
  generalize hr : ntB x y = r at *
  clear hr
  obtain ⟨a0, a1, a2, a3, a4, a5, a6, a7, a8⟩ := x
  obtain ⟨b0, b1, b2, b3, b4, b5, b6, b7, b8⟩ := y
  unfold Nt.cells at *
  simp only at HD E1 E2

  by_cases k : a0 = b0
  case neg =>
    have HV : Hid (r = false) := by show _ = _; rw [HD.out]; simp [k]
    have q : (a0 == b0) = false := beq_eq_false_iff_ne.2 k
    clear k
    clear HD
    go_enter Tryz.func19, Tryz.ntmps19
    go_wp2
    go_ret
    exact ⟨ret_bool HV.out.symm, HB.out⟩
  subst k
  by_cases k : a1 = b1
  case neg =>
    have HV : Hid (r = false) := by show _ = _; rw [HD.out]; simp [k]
    have q : (a1 == b1) = false := beq_eq_false_iff_ne.2 k
    clear k
    clear HD
    go_enter Tryz.func19, Tryz.ntmps19
    go_wp2
    go_ret
    exact ⟨ret_bool HV.out.symm, HB.out⟩
  subst k
  by_cases k : a2 = b2
  case neg =>
    have HV : Hid (r = false) := by show _ = _; rw [HD.out]; simp [k]
    have q : (a2 == b2) = false := beq_eq_false_iff_ne.2 k
    clear k
    clear HD
    go_enter Tryz.func19, Tryz.ntmps19
    go_wp2
    go_ret
    exact ⟨ret_bool HV.out.symm, HB.out⟩
  subst k
  by_cases k : a3 = b3
  case neg =>
    have HV : Hid (r = false) := by show _ = _; rw [HD.out]; simp [k]
    have q : ¬ a3.toList = b3.toList := toL_ne2 k
    have q2 : (a3.toList == b3.toList) = false := beq_eq_false_iff_ne.2 q
    clear k
    clear HD
    go_enter Tryz.func19, Tryz.ntmps19
    go_wp2
    go_ret
    exact ⟨ret_bool HV.out.symm, HB.out⟩
  subst k
  by_cases k : a4 = b4
  case neg =>
    have HV : Hid (r = false) := by show _ = _; rw [HD.out]; simp [k]
    have q : ¬ a4.toList = b4.toList := toL_ne2 k
    have q2 : (a4.toList == b4.toList) = false := beq_eq_false_iff_ne.2 q
    clear k
    clear HD
    go_enter Tryz.func19, Tryz.ntmps19
    go_wp2
    go_ret
    exact ⟨ret_bool HV.out.symm, HB.out⟩
  subst k
  by_cases k : a5 = b5
  case neg =>
    have HV : Hid (r = false) := by show _ = _; rw [HD.out]; simp [k]
    have q : (a5 == b5) = false := beq_eq_false_iff_ne.2 k
    have q2 := k
    clear k
    clear HD
    go_enter Tryz.func19, Tryz.ntmps19
    go_wp2
    go_ret
    exact ⟨ret_bool HV.out.symm, HB.out⟩
  subst k
  by_cases k : a6 = b6
  case neg =>
    have HV : Hid (r = false) := by show _ = _; rw [HD.out]; simp [k]
    have q : (a6 == b6) = false := beq_eq_false_iff_ne.2 k
    clear k
    clear HD
    go_enter Tryz.func19, Tryz.ntmps19
    go_wp2
    go_ret
    exact ⟨ret_bool HV.out.symm, HB.out⟩
  subst k
  have HD2 : Hid (r = (decide (a7 = b7) && vsEq a8 b8)) := by show _ = _; rw [HD.out]; simp
  clear HD
  generalize decide (a7 = b7) = d1 at *
  generalize vsEq a8 b8 = d2 at *
  cases d1 with
  | false =>
    have HV : Hid (r = false) := HD2.out
    clear HD2
    go_enter Tryz.func19, Tryz.ntmps19
    go_wp2_with fail
    (with_reducible refine (E1 _ HB.out).out.mono ?_)
    rintro e w3 ⟨rfl, hB3⟩
    go_wp2
    go_ret
    exact ⟨ret_bool HV.out.symm, below_tr HB.out hB3⟩
  | true =>
    have HV : Hid (r = d2) := HD2.out
    clear HD2
    go_enter Tryz.func19, Tryz.ntmps19
    go_wp2_with fail
    (with_reducible refine (E1 _ HB.out).out.mono ?_)
    rintro e w3 ⟨rfl, hB3⟩
    have HB3 := hid (below_tr HB.out hB3)
    have c1 := (HRA.out.below hB3).cell 8 (x := .slice x2 a8.length y2) rfl
    have c2 := (HRB.out.below hB3).cell 8 (x := .slice x4 b8.length y4) rfl
    go_wp2_with fail
    (with_reducible refine (E2 _ HB3.out).out.mono ?_)
    rintro e w4 ⟨rfl, hB4⟩
    go_wp2
    go_ret
    exact ⟨ret_bool HV.out.symm, below_tr HB3.out hB4⟩

set_option maxRecDepth 100000 in
set_option maxHeartbeats 4000000 in
theorem rsameE_any (x y : En) (u s u' s' : Value) (w : World) (hx : RdE w u s x) (hy : RdE w u' s' y) :
    Calls Tryz.prog 20 #[.agg (x.cells u s), .agg (y.cells u' s')] w fun e w' => e = .returned (.bool (enB x y)) ∧ Below w.heap.size w w' := by
  have HB := hid (below_tr (below_al w (.cells (x.cells u s) 26)) (below_al _ (.cells (y.cells u' s') 26)))
  have hra := (row_nw w (x.cells u s) 26 rfl).al (.cells (y.cells u' s') 26)
  have hrb := row_nw (w.alloc (.cells (x.cells u s) 26)) (y.cells u' s') 26 rfl
  rw [show (w.alloc (.cells (x.cells u s) 26)).heap.size = w.heap.size + 1 by simp] at hrb
  have HRA := hid hra
  have HRB := hid hrb
  have E1 := fun w' (h : Below w.heap.size w w') => hid (rsamew_bel u u' x.sup y.sup w' (hx.rs.below h) (hy.rs.below h))
  have E2 := fun w' (h : Below w.heap.size w w') => hid (rsamev_any s s' x.vs y.vs w' (hx.rv.below h) (hy.rv.below h))
  have HD : Hid (enB x y = (decide (x.ly = y.ly) && (decide (x.fr = y.fr) && (decide (x.to_ = y.to_) && (decide (x.pos = y.pos) && (decide (x.sup = y.sup) && vsEq x.vs y.vs)))))) := rfl
  obtain ⟨x1, y1, rfl, _⟩ := hx.rs.open
  obtain ⟨x2, y2, rfl, _⟩ := hx.rv.open
  obtain ⟨x3, y3, rfl, _⟩ := hy.rs.open
  obtain ⟨x4, y4, rfl, _⟩ := hy.rv.open
  clear hx hy hra hrb
  generalize hr : enB x y = r at *
  clear hr
  obtain ⟨a0, a1, a2, a3, a4, a5⟩ := x
  obtain ⟨b0, b1, b2, b3, b4, b5⟩ := y
  unfold En.cells at *
  simp only at HD E1 E2
  by_cases k : a0 = b0
  case neg =>
    have HV : Hid (r = false) := by show _ = _; rw [HD.out]; simp [k]
    have q : (a0 == b0) = false := beq_eq_false_iff_ne.2 k
    clear k
    clear HD
    go_enter Tryz.func20, Tryz.ntmps20
    go_wp2
    go_ret
    exact ⟨ret_bool HV.out.symm, HB.out⟩
  subst k
  by_cases k : a1 = b1
  case neg =>
    have HV : Hid (r = false) := by show _ = _; rw [HD.out]; simp [k]
    have q : (a1 == b1) = false := beq_eq_false_iff_ne.2 k
    clear k
    clear HD
    go_enter Tryz.func20, Tryz.ntmps20
    go_wp2
    go_ret
    exact ⟨ret_bool HV.out.symm, HB.out⟩
  subst k
  by_cases k : a2 = b2
  case neg =>
    have HV : Hid (r = false) := by show _ = _; rw [HD.out]; simp [k]
    have q : (a2 == b2) = false := beq_eq_false_iff_ne.2 k
    clear k
    clear HD
    go_enter Tryz.func20, Tryz.ntmps20
    go_wp2
    go_ret
    exact ⟨ret_bool HV.out.symm, HB.out⟩
  subst k
  by_cases k : a3 = b3
  case neg =>
    have HV : Hid (r = false) := by show _ = _; rw [HD.out]; simp [k]
    have q : (a3 == b3) = false := beq_eq_false_iff_ne.2 k
    clear k
    clear HD
    go_enter Tryz.func20, Tryz.ntmps20
    go_wp2
    go_ret
    exact ⟨ret_bool HV.out.symm, HB.out⟩
  subst k
  have HD2 : Hid (r = (decide (a4 = b4) && vsEq a5 b5)) := by show _ = _; rw [HD.out]; simp
  clear HD
  generalize decide (a4 = b4) = d1 at *
  generalize vsEq a5 b5 = d2 at *
  cases d1 with
  | false =>
    have HV : Hid (r = false) := HD2.out
    clear HD2
    go_enter Tryz.func20, Tryz.ntmps20
    go_wp2_with fail
    (with_reducible refine (E1 _ HB.out).out.mono ?_)
    rintro e w3 ⟨rfl, hB3⟩
    go_wp2
    go_ret
    exact ⟨ret_bool HV.out.symm, below_tr HB.out hB3⟩
  | true =>
    have HV : Hid (r = d2) := HD2.out
    clear HD2
    go_enter Tryz.func20, Tryz.ntmps20
    go_wp2_with fail
    (with_reducible refine (E1 _ HB.out).out.mono ?_)
    rintro e w3 ⟨rfl, hB3⟩
    have HB3 := hid (below_tr HB.out hB3)
    have c1 := (HRA.out.below hB3).cell 5 (x := .slice x2 a5.length y2) rfl
    have c2 := (HRB.out.below hB3).cell 5 (x := .slice x4 b5.length y4) rfl
    go_wp2_with fail
    (with_reducible refine (E2 _ HB3.out).out.mono ?_)
    rintro e w4 ⟨rfl, hB4⟩
    go_wp2
    go_ret
    exact ⟨ret_bool HV.out.symm, below_tr HB3.out hB4⟩
end Go.Proofs.YtjhdeoniafahbaaGreatDoor
