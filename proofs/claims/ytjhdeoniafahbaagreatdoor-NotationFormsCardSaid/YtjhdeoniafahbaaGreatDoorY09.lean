/-
  Joined, what is needed of: J06 Wth.
-/
import Derived.BigQuiet
import Derived.Deep.QuietTactic
import Derived.IntWalk
import Derived.Lib.ItoaLen
import Derived.Test.YtjhdeoniafahbaaGreatDoorY06
import Derived.Test.YtjhdeoniafahbaaGreatDoorY01
import Derived.Test.YtjhdeoniafahbaaGreatDoorY08
import Derived.Test.YtjhdeoniafahbaaGreatDoorY04
namespace Go.Proofs.YtjhdeoniafahbaaGreatDoor
open Go.RowKit
def vEq (a b : Vr) : Bool := decide (a.ws = b.ws) && decide (a.sg = b.sg)
def vsEq : List Vr → List Vr → Bool
  | [], [] => true
  | a :: l, b :: m => vEq a b && vsEq l m
  | _, _ => false
theorem vEq_iff {a b : Vr} : vEq a b = true ↔ a = b := by
  unfold vEq
  rw [Bool.and_eq_true, decide_eq_true_eq, decide_eq_true_eq]
  constructor
  · rintro ⟨h1, h2⟩; cases a; cases b; simp_all
  · rintro rfl; exact ⟨rfl, rfl⟩
theorem vsEq_iff : ∀ {l m : List Vr}, vsEq l m = true ↔ l = m
  | [], [] => by simp [vsEq]
  | [], _ :: _ => by simp [vsEq]
  | _ :: _, [] => by simp [vsEq]
  | a :: l, b :: m => by
    rw [vsEq, Bool.and_eq_true, vEq_iff, vsEq_iff]
    simp
theorem vsEq_len : ∀ {l m : List Vr}, l.length ≠ m.length → vsEq l m = false
  | [], [], h => by simp at h
  | [], _ :: _, _ => rfl
  | _ :: _, [], _ => rfl
  | a :: l, b :: m, h => by
    rw [vsEq, vsEq_len (l := l) (m := m) (by simpa using h), Bool.and_false]
theorem vsEq_at {l m : List Vr} {k : Nat} {a b : Vr} (ha : l[k]? = some a) (hb : m[k]? = some b) : vsEq (l.drop k) (m.drop k) = (vEq a b && vsEq (l.drop (k + 1)) (m.drop (k + 1))) := by
  obtain ⟨h1, h2⟩ := List.getElem?_eq_some_iff.1 ha
  obtain ⟨h3, h4⟩ := List.getElem?_eq_some_iff.1 hb
  rw [List.drop_eq_getElem_cons h1, List.drop_eq_getElem_cons h3, h2, h4, vsEq]
set_option maxHeartbeats 1000000 in
theorem same1_any (a b : Vr) (u s u' s' : Value) (w : World) (h1 : RdS w u a.ws) (h2 : RdS w s a.sg) (h3 : RdS w u' b.ws) (h4 : RdS w s' b.sg) :
    Calls Tryz.prog 89 #[.agg #[u, s], .agg #[u', s']] w fun e w' => e = .returned (.bool (vEq a b)) ∧ Below w.heap.size w w' := by
  have HB := hid (below_tr (below_al w (.cells #[u, s] 63)) (below_al _ (.cells #[u', s'] 63)))
  have hra := (row_nw w #[u, s] 63 rfl).al (.cells #[u', s'] 63)
  have hrb := row_nw (w.alloc (.cells #[u, s] 63)) #[u', s'] 63 rfl
  rw [show (w.alloc (.cells #[u, s] 63)).heap.size = w.heap.size + 1 by simp] at hrb
  have HRA := hid hra
  have HRB := hid hrb
  have E1 := fun w' (h : Below w.heap.size w w') => hid (equalS_any u u' a.ws b.ws w' (h1.below h) (h3.below h))
  have E2 := fun w' (h : Below w.heap.size w w') => hid (equalS_any s s' a.sg b.sg w' (h2.below h) (h4.below h))
  have HD : Hid (vEq a b = (decide (a.ws = b.ws) && decide (a.sg = b.sg))) := rfl
  generalize vEq a b = r at *
  generalize decide (a.ws = b.ws) = d1 at *
  generalize decide (a.sg = b.sg) = d2 at *
  clear hra hrb h1 h2 h3 h4
  cases d1 with
  | false =>
    have HV : Hid (r = false) := HD.out
    clear HD
    go_enter Tryz.func89, Tryz.ntmps89
    go_wp2_with fail
    (with_reducible refine (E1 _ HB.out).out.mono ?_)
    rintro e w3 ⟨rfl, hB3⟩
    go_wp2
    go_ret
    exact ⟨ret_bool HV.out.symm, below_tr HB.out hB3⟩
  | true =>
    have HV : Hid (r = d2) := HD.out
    clear HD
    go_enter Tryz.func89, Tryz.ntmps89
    go_wp2_with fail
    (with_reducible refine (E1 _ HB.out).out.mono ?_)
    rintro e w3 ⟨rfl, hB3⟩
    have HB3 := hid (below_tr HB.out hB3)
    have c1 := (HRA.out.below hB3).cell 1 (x := s) rfl
    have c2 := (HRB.out.below hB3).cell 1 (x := s') rfl
    go_wp2_with fail
    (with_reducible refine (E2 _ HB3.out).out.mono ?_)
    rintro e w4 ⟨rfl, hB4⟩
    go_wp2
    go_ret
    exact ⟨ret_bool HV.out.symm, below_tr HB3.out hB4⟩
set_option maxRecDepth 100000 in
set_option maxHeartbeats 2000000 in
theorem eqfV_any (v u : Value) (l m : List Vr) (w : World) (hr : RdV w v l) (hs : RdV w u m) :
    Calls Tryz.prog 88 #[v, u, .func (.func 89) #[] #[]] w fun e w' => e = .returned (.bool (vsEq l m)) ∧ Below w.heap.size w w' := by
  obtain ⟨a1, c1, rfl, hl1, hm1, hC1⟩ := hr.open
  obtain ⟨a2, c2, rfl, hl2, hm2, hC2⟩ := hs.open
  have HC1 := hid hC1
  have HC2 := hid hC2
  clear hC1 hC2 hr hs
  have ES := enters_of Tryz.func89 (by kernel_rfl) rfl
  by_cases hl : l.length = m.length
  · have HL := hid hl
    have hb : ((l.length : Int) != (m.length : Int)) = false := by rw [hl]; simp
    clear hl
    go_enter Tryz.func88, Tryz.ntmps88
    go_wp2_with fail
    go_loopw [17] (fun i wr => ∃ k : Nat, k ≤ l.length ∧ i = .int .i64 k ∧ Hid (vsEq l m = vsEq (l.drop k) (m.drop k)) ∧ Hid (Below w.heap.size w wr)) (fun i _ => l.length - (intOf i).toNat)
    case atStart => exact ⟨0, Nat.zero_le _, rfl, rfl, Below.refl _ _⟩
    case round =>
      obtain ⟨k, hk, rfl, HE, HB⟩ := hrel
      by_cases hlt : k < l.length
      · obtain ⟨a, b1, o1, ua, sa, ha, rfl, d0, d1, ra0, ra1⟩ := HC1.out k hlt
        obtain ⟨b, b2, o2, ub, sb, hb2, rfl, d2, d3, rb0, rb1⟩ := HC2.out k (by have := HL.out; omega)
        have hki : (k : Int) < (l.length : Int) := by omega
        have hkj : (k : Int) < (m.length : Int) := by have := HL.out; omega
        have e0 := Below.keeps HB.out _ _ d0
        have e1 := Below.keeps HB.out _ _ d1
        have e2 := cell_al (Below.keeps HB.out _ _ d2) (.cells #[ua, sa] 63)
        have e3 := cell_al (Below.keeps HB.out _ _ d3) (.cells #[ua, sa] 63)
        have HB2 := hid (below_tr (below_tr HB.out (below_al wr (.cells #[ua, sa] 63))) (below_al _ (.cells #[ub, sb] 63)))
        have HS := fun w' (h : Below w.heap.size w w') => hid (same1_any a b ua sa ub sb w' (ra0.below h) (ra1.below h) (rb0.below h) (rb1.below h))
        have HX := hid (vsEq_at ha hb2)
        obtain ⟨x1, y1, rfl, _⟩ := ra0.open
        obtain ⟨x2, y2, rfl, _⟩ := ra1.open
        obtain ⟨x3, y3, rfl, _⟩ := rb0.open
        obtain ⟨x4, y4, rfl, _⟩ := rb1.open
        clear d0 d1 d2 d3 ha hb2 ra0 ra1 rb0 rb1
        generalize vEq a b = q at *
        cases q with
        | false =>
          have HV : Hid (vsEq l m = false) := by show _ = _; rw [HE.out, HX.out]; rfl
          clear HX HE
          go_wp2_with fail
          (with_reducible refine (HS _ HB2.out).out.mono ?_)
          rintro e w5 ⟨rfl, hB5⟩
          go_wp2
          go_ret
          exact ⟨ret_bool HV.out.symm, below_tr HB2.out hB5⟩
        | true =>
          have HV : Hid (vsEq l m = vsEq (l.drop (k + 1)) (m.drop (k + 1))) := by show _ = _; rw [HE.out, HX.out]; rfl
          clear HX HE
          go_wp2_with fail
          (with_reducible refine (HS _ HB2.out).out.mono ?_)
          rintro e w5 ⟨rfl, hB5⟩
          have HB5 := hid (below_tr HB2.out hB5)
          clear hB5
          go_wp2_with fail
          go_roundw
          case rel => exact ⟨k + 1, by omega, by go_num, HV.out, HB5.out⟩
          case measure => simp [intOf]; omega
      · have hki : ¬ (k : Int) < (l.length : Int) := by omega
        have HV : Hid (vsEq l m = true) := by show _ = _; rw [HE.out, List.drop_of_length_le (by omega), List.drop_of_length_le (by have := HL.out; omega)]; rfl
        go_wp2
        go_ret
        exact ⟨ret_bool HV.out.symm, HB.out⟩
  · have hb : ((l.length : Int) != (m.length : Int)) = true := bne_iff_ne.2 (by omega)
    have HV : Hid (vsEq l m = false) := vsEq_len hl
    clear hl
    go_enter Tryz.func88, Tryz.ntmps88
    go_wp2
    go_ret
    exact ⟨ret_bool HV.out.symm, Below.refl _ _⟩
end Go.Proofs.YtjhdeoniafahbaaGreatDoor
namespace Go.Proofs.YtjhdeoniafahbaaGreatDoor
open Go.RowKit
def ntB (a b : Nt) : Bool := decide (a.fr = b.fr) && (decide (a.to_ = b.to_) && (decide (a.pl = b.pl) && ((decide (a.lf = b.lf) && (decide (a.ll = b.ll) && decide (a.ln = b.ln))) && (decide (a.pos = b.pos) && (decide (a.sup = b.sup) && vsEq a.vs b.vs)))))
theorem ntB_iff {a b : Nt} : ntB a b = true ↔ a = b := by
  unfold ntB
  simp only [Bool.and_eq_true, decide_eq_true_eq, vsEq_iff]
  constructor
  · rintro ⟨h1, h2, h3, ⟨h4, h5, h6⟩, h7, h8, h9⟩
    cases a; cases b
    simp_all
  · rintro rfl; exact ⟨rfl, rfl, rfl, ⟨rfl, rfl, rfl⟩, rfl, rfl, rfl⟩
theorem ntB_ne {a b : Nt} (h : a ≠ b) : ntB a b = false := by
  cases hq : ntB a b with
  | false => rfl
  | true => exact absurd (ntB_iff.1 hq) h
theorem toL_ne2 {s t : ByteArray} (h : s ≠ t) : ¬ s.toList = t.toList := fun e => h (by
  rw [ByteArray.toList_eq, ByteArray.toList_eq] at e
  cases s; cases t
  exact congrArg ByteArray.mk (Array.toList_inj.1 e))
set_option maxRecDepth 100000 in
set_option maxHeartbeats 4000000 in
theorem psame_any (x y : Nt) (u s u' s' : Value) (w : World) (hx : RdN w u s x) (hy : RdN w u' s' y) :
    Calls Tryz.prog 45 #[.agg (x.cells u s), .agg (y.cells u' s')] w fun e w' => e = .returned (.bool (ntB x y)) ∧ Below w.heap.size w w' := by
  have HB := hid (below_tr (below_al w (.cells (x.cells u s) 30)) (below_al _ (.cells (y.cells u' s') 30)))
  have hra := (row_nw w (x.cells u s) 30 rfl).al (.cells (y.cells u' s') 30)
  have hrb := row_nw (w.alloc (.cells (x.cells u s) 30)) (y.cells u' s') 30 rfl
  rw [show (w.alloc (.cells (x.cells u s) 30)).heap.size = w.heap.size + 1 by simp] at hrb
  have HRA := hid hra
  have HRB := hid hrb
  have E1 := fun w' (h : Below w.heap.size w w') => hid (equalS_any u u' x.sup y.sup w' (hx.rs.below h) (hy.rs.below h))
  have E2 := fun w' (h : Below w.heap.size w w') => hid (eqfV_any s s' x.vs y.vs w' (hx.rv.below h) (hy.rv.below h))
  have HNE : Hid (x ≠ y → ntB x y = false) := ntB_ne
  have HD : Hid (ntB x y = (decide (x.fr = y.fr) && (decide (x.to_ = y.to_) && (decide (x.pl = y.pl) && ((decide (x.lf = y.lf) && (decide (x.ll = y.ll) && decide (x.ln = y.ln))) && (decide (x.pos = y.pos) && (decide (x.sup = y.sup) && vsEq x.vs y.vs))))))) := rfl
  obtain ⟨x1, y1, rfl, _⟩ := hx.rs.open
  obtain ⟨x2, y2, rfl, _⟩ := hx.rv.open
  obtain ⟨x3, y3, rfl, _⟩ := hy.rs.open
  obtain ⟨x4, y4, rfl, _⟩ := hy.rv.open
  clear hx hy hra hrb
  generalize hr : ntB x y = r at *
  clear hr
  obtain ⟨a0, a1, a2, a3, a4, a5, a6, a7, a8⟩ := x
  obtain ⟨b0, b1, b2, b3, b4, b5, b6, b7, b8⟩ := y
  unfold Nt.cells at *
  simp only at HD E1 E2

  by_cases k : a0 = b0
  case neg =>
    have HV : Hid (r = false) := by show _ = _; rw [HD.out]; simp [k]
    have q : (a0 == b0) = false := beq_eq_false_iff_ne.2 k
    clear k
    clear HD
    go_enter Tryz.func45, Tryz.ntmps45
    go_wp2
    go_ret
    exact ⟨ret_bool HV.out.symm, HB.out⟩
  subst k
  by_cases k : a1 = b1
  case neg =>
    have HV : Hid (r = false) := by show _ = _; rw [HD.out]; simp [k]
    have q : (a1 == b1) = false := beq_eq_false_iff_ne.2 k
    clear k
    clear HD
    go_enter Tryz.func45, Tryz.ntmps45
    go_wp2
    go_ret
    exact ⟨ret_bool HV.out.symm, HB.out⟩
  subst k
  by_cases k : a2 = b2
  case neg =>
    have HV : Hid (r = false) := by show _ = _; rw [HD.out]; simp [k]
    have q : (a2 == b2) = false := beq_eq_false_iff_ne.2 k
    clear k
    clear HD
    go_enter Tryz.func45, Tryz.ntmps45
    go_wp2
    go_ret
    exact ⟨ret_bool HV.out.symm, HB.out⟩
  subst k
  by_cases k : a3 = b3
  case neg =>
    have HV : Hid (r = false) := by show _ = _; rw [HD.out]; simp [k]
    have q : ¬ a3.toList = b3.toList := toL_ne2 k
    have q2 : (a3.toList == b3.toList) = false := beq_eq_false_iff_ne.2 q
    clear k
    clear HD
    go_enter Tryz.func45, Tryz.ntmps45
    go_wp2
    go_ret
    exact ⟨ret_bool HV.out.symm, HB.out⟩
  subst k
  by_cases k : a4 = b4
  case neg =>
    have HV : Hid (r = false) := by show _ = _; rw [HD.out]; simp [k]
    have q : ¬ a4.toList = b4.toList := toL_ne2 k
    have q2 : (a4.toList == b4.toList) = false := beq_eq_false_iff_ne.2 q
    clear k
    clear HD
    go_enter Tryz.func45, Tryz.ntmps45
    go_wp2
    go_ret
    exact ⟨ret_bool HV.out.symm, HB.out⟩
  subst k
  by_cases k : a5 = b5
  case neg =>
    have HV : Hid (r = false) := by show _ = _; rw [HD.out]; simp [k]
    have q : (a5 == b5) = false := beq_eq_false_iff_ne.2 k
    have q2 := k
    clear k
    clear HD
    go_enter Tryz.func45, Tryz.ntmps45
    go_wp2
    go_ret
    exact ⟨ret_bool HV.out.symm, HB.out⟩
  subst k
  by_cases k : a6 = b6
  case neg =>
    have HV : Hid (r = false) := by show _ = _; rw [HD.out]; simp [k]
    have q : (a6 == b6) = false := beq_eq_false_iff_ne.2 k
    clear k
    clear HD
    go_enter Tryz.func45, Tryz.ntmps45
    go_wp2
    go_ret
    exact ⟨ret_bool HV.out.symm, HB.out⟩
  subst k
  have HD2 : Hid (r = (decide (a7 = b7) && vsEq a8 b8)) := by show _ = _; rw [HD.out]; simp
  clear HD
  generalize decide (a7 = b7) = d1 at *
  generalize vsEq a8 b8 = d2 at *
  cases d1 with
  | false =>
    have HV : Hid (r = false) := HD2.out
    clear HD2
    go_enter Tryz.func45, Tryz.ntmps45
    go_wp2_with fail
    (with_reducible refine (E1 _ HB.out).out.mono ?_)
    rintro e w3 ⟨rfl, hB3⟩
    go_wp2
    go_ret
    exact ⟨ret_bool HV.out.symm, below_tr HB.out hB3⟩
  | true =>
    have HV : Hid (r = d2) := HD2.out
    clear HD2
    go_enter Tryz.func45, Tryz.ntmps45
    go_wp2_with fail
    (with_reducible refine (E1 _ HB.out).out.mono ?_)
    rintro e w3 ⟨rfl, hB3⟩
    have HB3 := hid (below_tr HB.out hB3)
    have c1 := (HRA.out.below hB3).cell 8 (x := .slice x2 a8.length y2) rfl
    have c2 := (HRB.out.below hB3).cell 8 (x := .slice x4 b8.length y4) rfl
    go_wp2_with fail
    (with_reducible refine (E2 _ HB3.out).out.mono ?_)
    rintro e w4 ⟨rfl, hB4⟩
    go_wp2
    go_ret
    exact ⟨ret_bool HV.out.symm, below_tr HB3.out hB4⟩
end Go.Proofs.YtjhdeoniafahbaaGreatDoor
namespace Go.Proofs.YtjhdeoniafahbaaGreatDoor
open Go.RowKit
theorem toL_ne3 {s t : ByteArray} (h : s ≠ t) : (s.toList = t.toList) = False := eq_false fun e => h (by
  rw [ByteArray.toList_eq, ByteArray.toList_eq] at e
  cases s; cases t
  exact congrArg ByteArray.mk (Array.toList_inj.1 e))
theorem drewN_two (W : World) (a b : Nat) : (W.drewN a).drewN b = W.drewN (a + b) := by simp [World.drewN, Nat.add_assoc]
theorem drop_at {l m : List ByteArray} {k : Nat} {a b : ByteArray} (ha : l[k]? = some a) (hb : m[k]? = some b) : decide (l.drop k = m.drop k) = (decide (a = b) && decide (l.drop (k + 1) = m.drop (k + 1))) := by
  obtain ⟨h1, h2⟩ := List.getElem?_eq_some_iff.1 ha
  obtain ⟨h3, h4⟩ := List.getElem?_eq_some_iff.1 hb
  rw [List.drop_eq_getElem_cons h1, List.drop_eq_getElem_cons h3, h2, h4]
  by_cases h : a = b
  · subst h; simp
  · simp [h]
set_option maxRecDepth 100000 in
set_option maxHeartbeats 2000000 in
theorem rsamew_any (v u : Value) (l m : List ByteArray) (w : World) (hr : RdS w v l) (hs : RdS w u m) :
    Calls Tryz.prog 47 #[v, u] w fun e w' => e = .returned (.bool (decide (l = m))) ∧ ∃ m, w' = w.drewN m := by
  obtain ⟨a1, c1, rfl, hl1, hm1, hC1⟩ := hr.open
  obtain ⟨a2, c2, rfl, hl2, hm2, hC2⟩ := hs.open
  have HC1 := hid hC1
  have HC2 := hid hC2
  clear hC1 hC2 hr hs
  by_cases hl : l.length = m.length
  · have HL := hid hl
    have hb : ((l.length : Int) != (m.length : Int)) = false := by rw [hl]; simp
    clear hl
    go_enter Tryz.func47, Tryz.ntmps47
    go_wp2_with fail
    go_loopw [5] (fun i wr => ∃ k : Nat, k ≤ l.length ∧ i = .int .i64 k ∧ Hid (decide (l = m) = decide (l.drop k = m.drop k)) ∧ ∃ m, wr = w.drewN m) (fun i _ => l.length - (intOf i).toNat)
    case atStart => exact ⟨0, Nat.zero_le _, rfl, rfl, 0, rfl⟩
    case round =>
      obtain ⟨k, hk, rfl, HE, nd, rfl⟩ := hrel
      by_cases hlt : k < l.length
      · obtain ⟨a, b1, o1, ha, rfl, d0⟩ := HC1.out k hlt
        obtain ⟨b, b2, o2, hb2, rfl, d2⟩ := HC2.out k (by have := HL.out; omega)
        have hki : (k : Int) < (l.length : Int) := by omega
        have hkj : (k : Int) < (m.length : Int) := by have := HL.out; omega
        have HX := hid (drop_at ha hb2)
        clear ha hb2
        by_cases hab : a = b
        · subst hab
          have HV : Hid (decide (l = m) = decide (l.drop (k + 1) = m.drop (k + 1))) := by show _ = _; rw [HE.out, HX.out]; simp
          clear HX HE
          go_wp2
          go_quiet ((fail))
          go_wp2
          go_roundw
          case rel => exact ⟨k + 1, by omega, by go_num, HV.out, nd + nq, by first | rfl | exact drewN_two _ _ _⟩
          case measure => simp [intOf]; omega
        · have HV : Hid (decide (l = m) = false) := by show _ = _; rw [HE.out, HX.out]; simp [hab]
          have hq : (a.toList == b.toList) = false := beq_eq_false_iff_ne.2 fun e => by rw [toL_ne3 hab] at e; exact e
          clear HX HE hab
          go_wp2
          go_quiet ((fail))
          go_wp2
          go_ret
          exact ⟨ret_bool HV.out.symm, nd + nq, by first | rfl | exact drewN_two _ _ _⟩
      · have hki : ¬ (k : Int) < (l.length : Int) := by omega
        have HV : Hid (decide (l = m) = true) := by show _ = _; rw [HE.out, List.drop_of_length_le (by omega), List.drop_of_length_le (by have := HL.out; omega)]; simp
        go_wp2
        go_ret
        exact ⟨ret_bool HV.out.symm, nd, rfl⟩
  · have hb : ((l.length : Int) != (m.length : Int)) = true := bne_iff_ne.2 (by omega)
    have HV : Hid (decide (l = m) = false) := decide_eq_false fun h => hl (by rw [h])
    clear hl
    go_enter Tryz.func47, Tryz.ntmps47
    go_wp2
    go_ret
    exact ⟨ret_bool HV.out.symm, 0, rfl⟩
set_option maxRecDepth 100000 in
set_option maxHeartbeats 4000000 in
theorem rsamev_any (v u : Value) (l m : List Vr) (w : World) (hr : RdV w v l) (hs : RdV w u m) :
    Calls Tryz.prog 48 #[v, u] w fun e w' => e = .returned (.bool (vsEq l m)) ∧ Below w.heap.size w w' := by
  obtain ⟨a1, c1, rfl, hl1, hm1, hC1⟩ := hr.open
  obtain ⟨a2, c2, rfl, hl2, hm2, hC2⟩ := hs.open
  have HC1 := hid hC1
  have HC2 := hid hC2
  clear hC1 hC2 hr hs
  by_cases hl : l.length = m.length
  · have HL := hid hl
    have hb : ((l.length : Int) != (m.length : Int)) = false := by rw [hl]; simp
    clear hl
    go_enter Tryz.func48, Tryz.ntmps48
    go_wp2_with fail
    go_loopw [5] (fun i wr => ∃ k : Nat, k ≤ l.length ∧ i = .int .i64 k ∧ Hid (vsEq l m = vsEq (l.drop k) (m.drop k)) ∧ Hid (Below w.heap.size w wr)) (fun i _ => l.length - (intOf i).toNat)
    case atStart => exact ⟨0, Nat.zero_le _, rfl, rfl, Below.refl _ _⟩
    case round =>
      rename_i wr
      obtain ⟨k, hk, rfl, HE, HB⟩ := hrel
      by_cases hlt : k < l.length
      · obtain ⟨a, b1, o1, ua, sa, ha, rfl, d0, d1, ra0, ra1⟩ := HC1.out k hlt
        obtain ⟨b, b2, o2, ub, sb, hb2, rfl, d2, d3, rb0, rb1⟩ := HC2.out k (by have := HL.out; omega)
        have hki : (k : Int) < (l.length : Int) := by omega
        have hkj : (k : Int) < (m.length : Int) := by have := HL.out; omega
        have HX := hid (vsEq_at ha hb2)
        have H1 := fun (n : Nat) => hid (rsamew_any ua ub a.ws b.ws (wr.drewN n) ((ra0.below HB.out).drewN n) ((rb0.below HB.out).drewN n))
        have H2 := fun (n : Nat) => hid (rsamew_any sa sb a.sg b.sg (wr.drewN n) ((ra1.below HB.out).drewN n) ((rb1.below HB.out).drewN n))
        have e0 := Below.keeps HB.out _ _ d0
        have e1 := Below.keeps HB.out _ _ d1
        have e2 := Below.keeps HB.out _ _ d2
        have e3 := Below.keeps HB.out _ _ d3
        have HQ : Hid (vEq a b = (decide (a.ws = b.ws) && decide (a.sg = b.sg))) := rfl
        obtain ⟨x1, y1, rfl, _⟩ := ra0.open
        obtain ⟨x2, y2, rfl, _⟩ := ra1.open
        obtain ⟨x3, y3, rfl, _⟩ := rb0.open
        obtain ⟨x4, y4, rfl, _⟩ := rb1.open
        clear d0 d1 d2 d3 ha hb2 ra0 ra1 rb0 rb1
        generalize decide (a.ws = b.ws) = q1 at *
        generalize decide (a.sg = b.sg) = q2 at *
        generalize vEq a b = q at *
        cases q1 with
        | false =>
          have HV : Hid (vsEq l m = false) := by show _ = _; rw [HE.out, HX.out, HQ.out]; rfl
          clear HX HE HQ
          go_wp2
          go_big_quiet ((go_at_call 47; exact Calls.quiet_of (H1 _).out))
          go_wp2
          go_ret
          exact ⟨ret_bool HV.out.symm, below_drewN HB.out nq⟩
        | true => cases q2 with
          | false =>
            have HV : Hid (vsEq l m = false) := by show _ = _; rw [HE.out, HX.out, HQ.out]; rfl
            clear HX HE HQ
            go_wp2
            go_big_quiet ((go_at_call 47; first | with_reducible exact Calls.quiet_of (H1 _).out | with_reducible exact Calls.quiet_of (H2 _).out))
            go_wp2
            go_ret
            exact ⟨ret_bool HV.out.symm, below_drewN HB.out nq⟩
          | true =>
            have HV : Hid (vsEq l m = vsEq (l.drop (k + 1)) (m.drop (k + 1))) := by show _ = _; rw [HE.out, HX.out, HQ.out]; rfl
            clear HX HE HQ
            go_wp2
            go_big_quiet ((go_at_call 47; first | with_reducible exact Calls.quiet_of (H1 _).out | with_reducible exact Calls.quiet_of (H2 _).out))
            go_wp2
            go_roundw
            case rel => exact ⟨k + 1, by omega, by go_num, HV.out, below_drewN HB.out nq⟩
            case measure => simp [intOf]; omega
      · have hki : ¬ (k : Int) < (l.length : Int) := by omega
        have HV : Hid (vsEq l m = true) := by show _ = _; rw [HE.out, List.drop_of_length_le (by omega), List.drop_of_length_le (by have := HL.out; omega)]; rfl
        go_wp2
        go_ret
        exact ⟨ret_bool HV.out.symm, HB.out⟩
  · have hb : ((l.length : Int) != (m.length : Int)) = true := bne_iff_ne.2 (by omega)
    have HV : Hid (vsEq l m = false) := vsEq_len hl
    clear hl
    go_enter Tryz.func48, Tryz.ntmps48
    go_wp2
    go_ret
    exact ⟨ret_bool HV.out.symm, Below.refl _ _⟩
end Go.Proofs.YtjhdeoniafahbaaGreatDoor
namespace Go.Proofs.YtjhdeoniafahbaaGreatDoor
open Go.RowKit
def lnBad (p : Option Int) (a : Int) : Bool := match p with
  | none => false
  | some q => decide (a < q)
/-- The errors of the lines of words; p: the line in which the word before ends. -/
def lnGo : Option Int → List Int → List Int → Int
  | p, a :: r, b :: t => if min a b < 1 ∨ 4096 < max a b then 2 else if b < a ∨ lnBad p a = true then 10 else lnGo (some b) r t
  | _, _, _ => 0
def listsI (ls la : List Int) (n : Nat) : Int := if ls.length ≠ n ∨ la.length ≠ n then 9 else if 4096 < n then 4 else lnGo none ls la
def prevL (la : List Int) (k : Nat) : Option Int := if k = 0 then none else la[k - 1]?
theorem lnGo_at {ls la : List Int} {k : Nat} {a b : Int} (ha : ls[k]? = some a) (hb : la[k]? = some b) : lnGo (prevL la k) (ls.drop k) (la.drop k) =
    if min a b < 1 ∨ 4096 < max a b then 2 else if b < a ∨ lnBad (prevL la k) a = true then 10 else lnGo (prevL la (k + 1)) (ls.drop (k + 1)) (la.drop (k + 1)) := by
  obtain ⟨h1, h2⟩ := List.getElem?_eq_some_iff.1 ha
  obtain ⟨h3, h4⟩ := List.getElem?_eq_some_iff.1 hb
  rw [List.drop_eq_getElem_cons h1, List.drop_eq_getElem_cons h3, h2, h4, lnGo]
  have : prevL la (k + 1) = some b := by unfold prevL; rw [if_neg (by omega)]; exact hb
  rw [this]
set_option maxRecDepth 100000 in
set_option maxHeartbeats 4000000 in
theorem lists_any (v u s : Value) (ls la : List Int) (ws : List ByteArray) (w : World) (hv : RdI w v ls) (hu : RdI w u la) (hs : RdS w s ws) :
    Calls Tryz.prog 37 #[v, u, s] w fun e w' => e = .returned (.int .i64 (listsI ls la ws.length)) ∧ Below w.heap.size w w' := by
  obtain ⟨a1, c1, rfl, hl1, hm1, hC1⟩ := hv.open
  obtain ⟨a2, c2, rfl, hl2, hm2, hC2⟩ := hu.open
  obtain ⟨a3, c3, rfl, hl3, hm3, _⟩ := hs.open
  have HC1 := hid hC1
  have HC2 := hid hC2
  clear hC1 hC2 hv hu hs
  have HD : Hid (listsI ls la ws.length = if ls.length ≠ ws.length ∨ la.length ≠ ws.length then 9 else if 4096 < ws.length then 4 else lnGo none ls la) := rfl
  generalize hn : ws.length = n at *
  by_cases n1 : ls.length = n
  · by_cases n2 : la.length = n
    · by_cases n3 : 4096 < n
      · have i3 : (4096 : Int) < (n : Int) := by omega
        have HV : Hid (listsI ls la n = 4) := by show _ = _; rw [HD.out, if_neg (by omega), if_pos n3]
        rw [n1, n2]
        clear n1 n2
        go_enter Tryz.func37, Tryz.ntmps37
        go_wp2
        go_ret
        exact ⟨ret_int HV.out.symm, Below.refl _ _⟩
      · have i3 : ¬ (4096 : Int) < (n : Int) := by omega
        have HV : Hid (listsI ls la n = lnGo none ls la) := by show _ = _; rw [HD.out, if_neg (by omega), if_neg n3]
        have HN1 := hid n1
        have HN2 := hid n2
        rw [n1, n2]
        rw [n1] at hl1
        rw [n2] at hl2
        clear n1 n2 HD
        go_enter Tryz.func37, Tryz.ntmps37
        go_wp2_with fail
        go_loopw [25] (fun i wr => ∃ k : Nat, k ≤ n ∧ i = .int .i64 k ∧ Hid (lnGo none ls la = lnGo (prevL la k) (ls.drop k) (la.drop k)) ∧ Hid (Below w.heap.size w wr)) (fun i _ => n - (intOf i).toNat)
        case atStart => exact ⟨0, Nat.zero_le _, rfl, rfl, Below.refl _ _⟩
        case round =>
          obtain ⟨k, hk, rfl, HE, HB⟩ := hrel
          by_cases hlt : k < n
          · obtain ⟨a, b1, o1, ha, rfl, d1⟩ := HC1.out k (by have := HN1.out; omega)
            obtain ⟨b, b2, o2, hb, rfl, d2⟩ := HC2.out k (by have := HN2.out; omega)
            have hki : (k : Int) < (n : Int) := by omega
            have hk0 : (0 : Int) ≤ (k : Int) := by omega
            have e1 := Below.keeps HB.out _ _ d1
            have e2 := Below.keeps HB.out _ _ d2
            have HL := hid (lnGo_at ha hb)
            clear d1 d2
            by_cases m1 : min a b < 1
            · have HV2 : Hid (listsI ls la n = 2) := by show _ = _; rw [HV.out, HE.out, HL.out, if_pos (.inl m1)]
              clear HL HE HV
              go_wp2_with fail
              go_quiet (fail)
              go_wp2
              go_ret
              exact ⟨ret_int HV2.out.symm, below_drewN HB.out _⟩
            have m1d : decide (min a b < 1) = false := decide_eq_false m1
            by_cases m2 : 4096 < max a b
            · have HV2 : Hid (listsI ls la n = 2) := by show _ = _; rw [HV.out, HE.out, HL.out, if_pos (.inr m2)]
              clear HL HE HV
              go_wp2_with fail
              go_quiet (fail)
              go_wp2
              go_ret
              exact ⟨ret_int HV2.out.symm, below_drewN HB.out _⟩
            have m2d : decide (4096 < max a b) = false := decide_eq_false m2
            have HL2 : Hid (lnGo (prevL la k) (ls.drop k) (la.drop k) = if b < a ∨ lnBad (prevL la k) a = true then 10 else lnGo (prevL la (k + 1)) (ls.drop (k + 1)) (la.drop (k + 1))) := by
              show _ = _
              rw [HL.out, if_neg (by omega)]
            clear HL
            by_cases m3 : b < a
            · have HV2 : Hid (listsI ls la n = 10) := by show _ = _; rw [HV.out, HE.out, HL2.out, if_pos (.inl m3)]
              clear HL2 HE HV
              go_wp2_with fail
              go_quiet (fail)
              go_wp2_with fail
              go_quiet (fail)
              go_wp2
              go_ret
              exact ⟨ret_int HV2.out.symm, by first | exact below_drewN (below_drewN HB.out _) _ | exact below_drewN HB.out _⟩
            have m3d : decide (b < a) = false := decide_eq_false m3
            by_cases k0 : k = 0
            · have HE2 : Hid (lnGo none ls la = lnGo (prevL la (k + 1)) (ls.drop (k + 1)) (la.drop (k + 1))) := by
                show _ = _
                rw [HE.out, HL2.out, if_neg]
                rintro (h | h)
                · exact m3 h
                · unfold prevL at h; rw [if_pos k0] at h; cases h
              clear HL2 HE
              subst k0
              have hki0 : (0 : Int) < (n : Int) := by omega
              simp only [Nat.add_zero] at e1 e2
              clear hki hk0
              go_wp2_with fail
              go_quiet (fail)
              go_wp2_with fail
              go_quiet (fail)
              go_wp2_with fail
              go_roundw
              case rel => exact ⟨0 + 1, by omega, by go_num, HE2.out, by first | exact below_drewN (below_drewN HB.out _) _ | exact below_drewN HB.out _⟩
              case measure => simp [intOf]; omega
            · have k0i : (0 : Int) < (k : Int) := by omega
              have k0n : 0 < k := by omega
              have k0d : decide (0 < k) = true := decide_eq_true k0n
              have k0e : decide ((0 : Int) < (k : Int)) = true := decide_eq_true k0i
              obtain ⟨q, b2', o2', hq, eq2, d3⟩ := HC2.out (k - 1) (by have := HN2.out; omega)
              cases eq2
              have e3 := Below.keeps HB.out _ _ d3
              have hkm : (k : Int) - 1 = ((k - 1 : Nat) : Int) := by omega
              have hP : Hid (prevL la k = some q) := by show _ = _; unfold prevL; rw [if_neg k0]; exact hq
              have hkw : IntKind.i64.wrap ((k : Int) - 1) = ((k - 1 : Nat) : Int) := by rw [IntWalk.i64_in _ (by omega)]; exact hkm
              have q1 : (0 : Int) ≤ ((k - 1 : Nat) : Int) := by omega
              have q2 : ((k - 1 : Nat) : Int) < (n : Int) := by omega
              clear d3 hkm
              by_cases m4 : a < q
              · have HV2 : Hid (listsI ls la n = 10) := by show _ = _; rw [HV.out, HE.out, HL2.out, if_pos (.inr (by rw [hP.out]; exact decide_eq_true m4))]
                clear HL2 HE HV hP
                clear k0; generalize k - 1 = k1 at *
                go_wp2_with fail
                go_quiet (fail)
                go_wp2_with fail
                go_quiet (fail)
                go_wp2
                go_ret
                exact ⟨ret_int HV2.out.symm, by first | exact below_drewN (below_drewN HB.out _) _ | exact below_drewN HB.out _⟩
              · have HE2 : Hid (lnGo none ls la = lnGo (prevL la (k + 1)) (ls.drop (k + 1)) (la.drop (k + 1))) := by
                  show _ = _
                  rw [HE.out, HL2.out, if_neg]
                  rintro (h | h)
                  · exact m3 h
                  · rw [hP.out] at h; exact m4 (of_decide_eq_true h)
                have m4d : decide (a < q) = false := decide_eq_false m4
                clear HL2 HE hP
                clear k0; generalize k - 1 = k1 at *
                go_wp2_with fail
                go_quiet (fail)
                go_wp2_with fail
                go_quiet (fail)
                go_wp2_with fail
                go_roundw
                case rel => exact ⟨k + 1, by omega, by go_num, HE2.out, by first | exact below_drewN (below_drewN HB.out _) _ | exact below_drewN HB.out _⟩
                case measure => simp [intOf]; omega
          · have hki : ¬ (k : Int) < (n : Int) := by omega
            have HV2 : Hid (listsI ls la n = 0) := by
              show _ = _
              rw [HV.out, HE.out, List.drop_of_length_le (by have := HN1.out; omega)]
              rfl
            go_wp2
            go_ret
            exact ⟨ret_int HV2.out.symm, HB.out⟩
    · have b1 : ((ls.length : Int) != (n : Int)) = false := by rw [n1]; simp
      have b2 : ((la.length : Int) != (n : Int)) = true := bne_iff_ne.2 (by omega)
      have HV : Hid (listsI ls la n = 9) := by show _ = _; rw [HD.out, if_pos (.inr n2)]
      clear HD n1 n2
      go_enter Tryz.func37, Tryz.ntmps37
      go_wp2
      go_ret
      exact ⟨ret_int HV.out.symm, Below.refl _ _⟩
  · have b1 : ((ls.length : Int) != (n : Int)) = true := bne_iff_ne.2 (by omega)
    have HV : Hid (listsI ls la n = 9) := by show _ = _; rw [HD.out, if_pos (.inl n1)]
    clear HD n1
    go_enter Tryz.func37, Tryz.ntmps37
    go_wp2
    go_ret
    exact ⟨ret_int HV.out.symm, Below.refl _ _⟩
end Go.Proofs.YtjhdeoniafahbaaGreatDoor
namespace Go.Proofs.YtjhdeoniafahbaaGreatDoor
open Go.RowKit
set_option maxRecDepth 100000 in
set_option maxHeartbeats 4000000 in
theorem pchk_any (x : Nt) (u s : Value) (w : World) (he : Env w) (hr : RdN w u s x) (hz : SzN x) :
    Calls Tryz.prog 22 #[.agg (x.cells u s)] w fun e w' => e = .returned (.int .i64 (nteI x)) ∧ Below w.heap.size w w' := by
  have HB0 := hid (below_al w (.cells (x.cells u s) 30))
  have HR0 := hid (row_nw w (x.cells u s) 30 rfl)
  have HH := hid (head_any x u s _ (he.below HB0.out) (hr.below HB0.out) hz)
  have HD : Hid (nteI x = if headI x = 0 then varsI x.pl x.vs else headI x) := rfl
  have HE := fun w' (h : Below w.heap.size w w') => hid (he.below h)
  have hvs := hr.rv
  generalize hri : nteI x = ri at *
  clear hri hr he
  obtain ⟨fr, to_, pl, lf, ll, ln, pos, sup, vs⟩ := x
  simp only at hvs
  have hzv := hz.vs
  simp only at hzv
  clear hz
  generalize headI ⟨fr, to_, pl, lf, ll, ln, pos, sup, vs⟩ = hi at *
  obtain ⟨av, cv, rfl, hlv, hmv, _⟩ := hvs.open
  unfold Nt.cells at *
  simp only at *
  by_cases h0 : hi = 0
  · subst h0
    have HV : Hid (ri = varsI pl vs) := by show _ = _; rw [HD.out, if_pos rfl]
    clear HD
    go_enter Tryz.func22, Tryz.ntmps22
    go_wp2_with fail
    (with_reducible refine HH.out.mono ?_)
    rintro e w1 ⟨rfl, hB1⟩
    have HR1 := hid (HR0.out.below hB1)
    have c8 := HR1.out.cell 8 rfl
    have HB1 := hid (below_tr HB0.out hB1)
    have hv1 := hvs.below HB1.out
    clear HR0 HB0 hB1 HH hvs
    go_wp2
    clear c8
    obtain ⟨_, _, he8, _, _, hcell⟩ := hv1.open
    simp only [Value.slice.injEq] at he8
    obtain ⟨rfl, _, rfl⟩ := he8
    have HC := hid hcell
    clear hcell hv1
    generalize w1 = w0 at *
    go_loopw [14] (fun i wr => ∃ k : Nat, k ≤ vs.length ∧ i = .int .i64 k ∧ Hid (∀ y ∈ vs.take k, varI pl y = 0) ∧ Hid (Below w0.heap.size w0 wr)) (fun i _ => vs.length - (intOf i).toNat)
    case atStart => exact ⟨0, Nat.zero_le _, rfl, by simp [Hid], Below.refl _ _⟩
    case round =>
      obtain ⟨k, hk, rfl, HN, HB⟩ := hrel
      by_cases hlt : k < vs.length
      · obtain ⟨y, b, o, vw, vsg, hx, rfl, d0, d1, rw0, rs0⟩ := HC.out k hlt
        have hki : (k : Int) < (vs.length : Int) := by omega
        have e0 := Below.keeps HB.out _ _ d0
        have e1 := Below.keeps HB.out _ _ d1
        have hzy := hzv y (List.mem_of_getElem? hx)
        obtain ⟨aw, cw, rfl, hlw, hmw, _⟩ := rw0.open
        obtain ⟨ag, cg, rfl, hlg, hmg, _⟩ := rs0.open
        have hb1 := below_al wr (.cells #[.slice aw y.ws.length cw, .slice ag y.sg.length cg] 63)
        have HBa := hid (below_tr HB.out hb1)
        have HRv := hid (row_nw wr #[.slice aw y.ws.length cw, .slice ag y.sg.length cg] 63 rfl)
        have HRn := hid ((HR1.out.below HBa.out))
        have cp := HRn.out.cell 2 rfl
        have HWW := fun w' (h : Below w0.heap.size w0 w') => hid (pwords_any _ y.ws w' (HE _ (below_tr HB1.out h)).out (rw0.below h) hzy.1)
        have HOO := fun w' (h : Below w0.heap.size w0 w') => hid (podd_any _ y.sg w' (rs0.below h) hzy.2)
        have HD : Hid (varI pl y = if y.sg.length = 0 ∨ (y.ws.length = 0 ∧ pl ≠ 1) then 5 else if 4096 < y.ws.length ∨ 4096 < y.sg.length then 4 else if lcheckI y.ws ≠ 0 then 11 else if (y.sg.any fun s => !sigB s) = true then 14 else 0) := rfl
        have HHIT : Hid (varI pl y ≠ 0 → ri = varI pl y) := fun h => by rw [HV.out]; exact varsI_hit pl vs k y HN.out hx h
        have HNX : Hid (varI pl y = 0 → ∀ z ∈ vs.take (k + 1), varI pl z = 0) := by
          intro h0 z hz
          rw [List.take_add_one, hx, List.mem_append] at hz
          rcases hz with hz | hz
          · exact HN.out z hz
          · have : z = y := by simpa using hz
            rw [this]; exact h0
        clear hx d0 d1 rw0 rs0 hzy HN hzv HV
        generalize varI pl y = vi at *
        generalize lcheckI y.ws = lc at *
        generalize (y.sg.any fun s => !sigB s) = od at *
        generalize y.ws.length = nw at *
        generalize y.sg.length = ng at *
        have HF : Hid (∀ (e : Ending) (w' : World), e = Ending.returned (.int .i64 vi) → Below w0.heap.size w0 w' → vi ≠ 0 → e = Ending.returned (.int .i64 ri) ∧ Below w.heap.size w w') := fun e w' he hb h0 => ⟨by rw [he, HHIT.out h0], below_tr HB1.out hb⟩
        clear HHIT
        by_cases s1 : ng = 0
        · have HX : Hid (vi = 5) := by show _ = _; rw [HD.out, if_pos (.inl s1)]
          have q1 : ((ng : Int) == 0) = true := by rw [s1]; rfl
          clear HD HWW HOO s1
          go_wp2
          go_ret
          exact HF.out _ _ (by rw [HX.out]; rfl) HBa.out (by rw [HX.out]; decide)
        have q1 : ((ng : Int) == 0) = false := beq_eq_false_iff_ne.2 (by omega)
        by_cases s2 : nw = 0 ∧ pl ≠ 1
        · have HX : Hid (vi = 5) := by show _ = _; rw [HD.out, if_pos (.inr s2)]
          have q2 : ((nw : Int) == 0) = true := by rw [s2.1]; rfl
          have q3 : (pl != 1) = true := bne_iff_ne.2 s2.2
          clear HD HWW HOO s1 s2
          go_wp2
          go_ret
          exact HF.out _ _ (by rw [HX.out]; rfl) HBa.out (by rw [HX.out]; decide)
        have HD2 : Hid (vi = if 4096 < nw ∨ 4096 < ng then 4 else if lc ≠ 0 then 11 else if od = true then 14 else 0) := by show _ = _; rw [HD.out, if_neg (by omega)]
        clear HD
        have hways : (((nw : Int) == 0) = false) ∨ ((((nw : Int) == 0) = true) ∧ ((pl != 1) = false)) := by
          by_cases h : nw = 0
          · refine .inr ⟨by rw [h]; rfl, ?_⟩
            rw [bne_eq_false_iff_eq]
            exact Classical.byContradiction fun hc => s2 ⟨h, hc⟩
          · exact .inl (beq_eq_false_iff_ne.2 (by omega))
        have HB3 := HBa
        by_cases s3 : 4096 < nw ∨ 4096 < ng
        · have HX : Hid (vi = 4) := by show _ = _; rw [HD2.out, if_pos s3]
          have q4 : (4096 : Int) < max (nw : Int) (ng : Int) := by omega
          clear HD2 HWW HOO s1 s2 s3
          rcases hways with q2 | ⟨q2, q3⟩
          · go_wp2
            go_ret
            exact HF.out _ _ (by rw [HX.out]; rfl) HBa.out (by rw [HX.out]; decide)
          · go_wp2
            go_ret
            exact HF.out _ _ (by rw [HX.out]; rfl) HBa.out (by rw [HX.out]; decide)
        have HD3 : Hid (vi = if lc ≠ 0 then 11 else if od = true then 14 else 0) := by show _ = _; rw [HD2.out, if_neg s3]
        have q4 : ¬ (4096 : Int) < max (nw : Int) (ng : Int) := by omega
        clear HD2 s1 s2 s3
        rcases hways with q2 | ⟨q2, q3⟩
        · go_wp2_with fail
          (with_reducible refine (HWW _ HBa.out).out.mono ?_)
          rintro e w5 ⟨rfl, hB5⟩
          have HRv5 := hid (HRv.out.below hB5)
          have HB5 := hid (below_tr HBa.out hB5)
          have p1 := HRv5.out.cell 1 rfl
          clear hB5 HWW cp HBa
          by_cases s4 : lc = 0
          · subst s4
            go_wp2_with fail
            (with_reducible refine (HOO _ HB5.out).out.mono ?_)
            rintro e w6 ⟨rfl, hB6⟩
            have HB6 := hid (below_tr HB5.out hB6)
            clear hB6 HOO p1
            cases od with
            | true =>
              have HX : Hid (vi = 14) := by show _ = _; rw [HD3.out, if_neg (by simp), if_pos rfl]
              clear HD3
              go_wp2
              go_ret
              exact HF.out _ _ (by rw [HX.out]; rfl) HB6.out (by rw [HX.out]; decide)
            | false =>
              have HX : Hid (vi = 0) := by show _ = _; rw [HD3.out, if_neg (by simp), if_neg (by simp)]
              have HN2 := hid (HNX.out HX.out)
              clear HD3 HNX
              go_wp2_with fail
              go_roundw
              case rel => exact ⟨k + 1, by omega, by go_num, HN2.out, HB6.out⟩
              case measure => simp [intOf]; omega
          · have q5 : (lc == 0) = false := beq_eq_false_iff_ne.2 s4
            have q6 : (lc != 0) = true := bne_iff_ne.2 s4
            have HX : Hid (vi = 11) := by show _ = _; rw [HD3.out, if_pos s4]
            clear HD3 s4 HOO
            go_wp2
            go_ret
            exact HF.out _ _ (by rw [HX.out]; rfl) HB5.out (by rw [HX.out]; decide)
        · go_wp2_with fail
          (with_reducible refine (HWW _ HBa.out).out.mono ?_)
          rintro e w5 ⟨rfl, hB5⟩
          have HRv5 := hid (HRv.out.below hB5)
          have HB5 := hid (below_tr HBa.out hB5)
          have p1 := HRv5.out.cell 1 rfl
          clear hB5 HWW cp HBa
          by_cases s4 : lc = 0
          · subst s4
            go_wp2_with fail
            (with_reducible refine (HOO _ HB5.out).out.mono ?_)
            rintro e w6 ⟨rfl, hB6⟩
            have HB6 := hid (below_tr HB5.out hB6)
            clear hB6 HOO p1
            cases od with
            | true =>
              have HX : Hid (vi = 14) := by show _ = _; rw [HD3.out, if_neg (by simp), if_pos rfl]
              clear HD3
              go_wp2
              go_ret
              exact HF.out _ _ (by rw [HX.out]; rfl) HB6.out (by rw [HX.out]; decide)
            | false =>
              have HX : Hid (vi = 0) := by show _ = _; rw [HD3.out, if_neg (by simp), if_neg (by simp)]
              have HN2 := hid (HNX.out HX.out)
              clear HD3 HNX
              go_wp2_with fail
              go_roundw
              case rel => exact ⟨k + 1, by omega, by go_num, HN2.out, HB6.out⟩
              case measure => simp [intOf]; omega
          · have q5 : (lc == 0) = false := beq_eq_false_iff_ne.2 s4
            have q6 : (lc != 0) = true := bne_iff_ne.2 s4
            have HX : Hid (vi = 11) := by show _ = _; rw [HD3.out, if_pos s4]
            clear HD3 s4 HOO
            go_wp2
            go_ret
            exact HF.out _ _ (by rw [HX.out]; rfl) HB5.out (by rw [HX.out]; decide)
      · have hki : ¬ (k : Int) < (vs.length : Int) := by omega
        have HV2 : Hid (ri = 0) := by
          have h := HN.out
          rw [List.take_of_length_le (by omega)] at h
          show _ = _
          rw [HV.out]; exact varsI_all pl vs h
        go_wp2
        go_ret
        exact ⟨ret_int HV2.out.symm, below_tr HB1.out HB.out⟩
  · have hb : (hi == 0) = false := beq_eq_false_iff_ne.2 h0
    have HV : Hid (ri = hi) := by show _ = _; rw [HD.out, if_neg h0]
    clear HD h0
    go_enter Tryz.func22, Tryz.ntmps22
    go_wp2_with fail
    (with_reducible refine HH.out.mono ?_)
    rintro e w1 ⟨rfl, hB1⟩
    go_wp2
    go_ret
    exact ⟨ret_int HV.out.symm, below_tr HB0.out hB1⟩
end Go.Proofs.YtjhdeoniafahbaaGreatDoor
namespace Go.Proofs.YtjhdeoniafahbaaGreatDoor
open Go.RowKit
theorem itoaB_21 {n : Int} (h0 : -9223372036854775808 ≤ n) (h1 : n ≤ 9223372036854775807) : (itoaB n).size ≤ 21 := by
  show (List.toArray _).size ≤ 21
  rw [List.size_toArray]
  exact Lib.itoa_length_le n h0 h1
set_option maxHeartbeats 1000000 in
theorem span_any (a b : Int) (w : World) (he : Env w) (a0 : -9223372036854775808 ≤ a) (a1 : a ≤ 9223372036854775807) (b0 : -9223372036854775808 ≤ b) (b1 : b ≤ 9223372036854775807) :
    Calls Tryz.prog 49 #[.int .i64 a, .int .i64 b] w fun e w' => e = .returned (.string (spanB a b)) ∧ Below w.heap.size w w' := by
  have HA := fun w' (h : Below w.heap.size w w') => hid (itoa_b a w' (he.below h) a0 a1)
  have HB := fun w' (h : Below w.heap.size w w') => hid (itoa_b b w' (he.below h) b0 b1)
  have sa := itoaB_21 a0 a1
  have sb := itoaB_21 b0 b1
  have HD : Hid (spanB a b = if a = b then itoaB a else (itoaB a ++ ⟨#[45]⟩) ++ itoaB b) := rfl
  have hz : (itoaB a ++ ⟨#[45]⟩).size ≤ 22 := by rw [ByteArray.size_append]; show _ + 1 ≤ 22; omega
  generalize itoaB a = ia at *
  generalize itoaB b = ib at *
  generalize hr : spanB a b = r at *
  clear hr
  by_cases h : a = b
  · have HV : Hid (r = ia) := by show _ = _; rw [HD.out, if_pos h]
    have hb : (a == b) = true := by rw [h]; simp
    clear HD h
    go_enter Tryz.func49, Tryz.ntmps49
    go_wp2_with fail
    (with_reducible refine (HA _ (Below.refl _ _)).out.mono ?_)
    rintro e w1 ⟨rfl, hB1⟩
    go_wp2
    go_ret
    exact ⟨by rw [HV.out]; rfl, hB1⟩
  · have HV : Hid (r = (ia ++ ⟨#[45]⟩) ++ ib) := by show _ = _; rw [HD.out, if_neg h]
    have hb : (a == b) = false := beq_eq_false_iff_ne.2 h
    have q1 : ¬ 9223372036854775807 < ia.size + 1 := by omega
    have q2 : ¬ 9223372036854775807 < ia.size + 1 + ib.size := by omega
    clear HD h
    go_enter Tryz.func49, Tryz.ntmps49
    go_wp2_with fail
    (with_reducible refine (HA _ (Below.refl _ _)).out.mono ?_)
    rintro e w1 ⟨rfl, hB1⟩
    go_wp2_with fail
    (with_reducible refine (HB _ hB1).out.mono ?_)
    rintro e w2 ⟨rfl, hB2⟩
    go_wp2
    go_ret
    exact ⟨by rw [HV.out]; rfl, below_tr hB1 hB2⟩
/-- strings.Join with a space, of a list as it is read. -/
theorem joinX_any (v : Value) (l : List ByteArray) (w : World) (hr : RdS w v l) (hlen : l.length ≤ 140737488355328) (hj : (joinB l).size ≤ 140737488355328) :
    Calls Tryz.prog 26 #[v, .string ⟨#[32]⟩] w fun e w' => e = .returned (.string (joinB l)) ∧ Below w.heap.size w w' := by
  obtain ⟨a, cap, rfl, hlc, hcm, hcell⟩ := hr.open
  by_cases h0 : l = []
  · subst h0
    refine (Tryz.strings_Join_none a cap (ByteArray.mk #[32]) w).mono ?_
    rintro e w' ⟨rfl, rfl⟩
    exact ⟨rfl, Below.refl _ _⟩
  · obtain ⟨x, b, off, hx, rfl, hc0⟩ := hcell 0 (by cases l with | nil => exact absurd rfl h0 | cons _ _ => simp)
    refine (Tryz.strings_Join b off cap l (ByteArray.mk #[32]) w (fun j y hy => by
          obtain ⟨x, b', off', hx', e, hc⟩ := hcell j (List.getElem?_eq_some_iff.1 hy).1
          cases e
          rw [hy] at hx'; cases hx'
          exact hc) (World.block_lt_of_cell? _ _ hc0) (by omega) hlc hj).mono ?_
    rintro e w' ⟨rfl, hB⟩
    exact ⟨rfl, hB⟩
set_option maxHeartbeats 1000000 in
theorem braces_any (v : Value) (l : List ByteArray) (w : World) (hr : RdS w v l) (hlen : l.length ≤ 140737488355328) (hj : (joinB l).size ≤ 140737488355328) :
    Calls Tryz.prog 52 #[v] w fun e w' => e = .returned (.string (bracesB l)) ∧ Below w.heap.size w w' := by
  have HJ := hid (joinX_any v l w hr hlen hj)
  have HD : Hid (bracesB l = (⟨#[123]⟩ ++ joinB l) ++ ⟨#[125]⟩) := rfl
  generalize bracesB l = r at *
  generalize joinB l = j at *
  have q1 : ¬ 9223372036854775807 < 1 + j.size := by omega
  have q2 : ¬ 9223372036854775807 < 1 + j.size + 1 := by omega
  go_enter Tryz.func52, Tryz.ntmps52
  go_wp2_with fail
  (with_reducible refine HJ.out.mono ?_)
  rintro e w1 ⟨rfl, hB1⟩
  go_wp2
  go_ret
  exact ⟨by rw [HD.out]; rfl, hB1⟩
set_option maxHeartbeats 1000000 in
theorem quote_any (v : Value) (l : List ByteArray) (w : World) (hr : RdS w v l) (hlen : l.length ≤ 140737488355328) (hj : (joinB l).size ≤ 140737488355328) :
    Calls Tryz.prog 53 #[v] w fun e w' => e = .returned (.string (quoteB l)) ∧ Below w.heap.size w w' := by
  have HJ := hid (joinX_any v l w hr hlen hj)
  have HD : Hid (quoteB l = if l.length = 0 then noneB else joinB l) := rfl
  obtain ⟨a, cap, rfl, hlc, hcm, _⟩ := hr.open
  generalize quoteB l = r at *
  generalize joinB l = j at *
  by_cases h : l.length = 0
  · have HV : Hid (r = noneB) := by show _ = _; rw [HD.out, if_pos h]
    have hb : ((l.length : Int) == 0) = true := by rw [h]; rfl
    clear HD h
    go_enter Tryz.func53, Tryz.ntmps53
    go_wp2
    go_ret
    exact ⟨by rw [HV.out]; rfl, Below.refl _ _⟩
  · have HV : Hid (r = j) := by show _ = _; rw [HD.out, if_neg h]
    have hb : ((l.length : Int) == 0) = false := beq_eq_false_iff_ne.2 (by omega)
    clear HD h
    go_enter Tryz.func53, Tryz.ntmps53
    go_wp2_with fail
    (with_reducible refine HJ.out.mono ?_)
    rintro e w1 ⟨rfl, hB1⟩
    go_wp2
    go_ret
    exact ⟨by rw [HV.out]; rfl, hB1⟩
def quotI (l : List ByteArray) : Int := if lcheckI l = 0 then (if 65536 < (quoteB l).size then 4 else 0) else lcheckI l
def quotS (l : List ByteArray) : ByteArray := if quotI l = 0 then quoteB l else ⟨#[]⟩
set_option maxHeartbeats 1000000 in
theorem pquote_any (v : Value) (l : List ByteArray) (w : World) (he : Env w) (hr : RdS w v l) (hz : ∀ s ∈ l, s.size ≤ 65536) (hlen : l.length ≤ 65536) :
    Calls Tryz.prog 30 #[v] w fun e w' => e = .returned (.tuple #[.string (quotS l), .int .i64 (quotI l)]) ∧ Below w.heap.size w w' := by
  have hjz : (joinB l).size ≤ 140737488355328 := by
    have h1 := joinB_len hz
    have h2 : l.length * (65536 + 1) ≤ 65536 * (65536 + 1) := Nat.mul_le_mul hlen (Nat.le_refl _)
    omega
  have HW := hid (pwords_any v l w he hr hz)
  have HQ := fun w' (h : Below w.heap.size w w') => hid (quote_any v l w' (hr.below h) (by omega) hjz)
  have HI : Hid (quotI l = if lcheckI l = 0 then (if 65536 < (quoteB l).size then 4 else 0) else lcheckI l) := rfl
  have HS : Hid (quotS l = if quotI l = 0 then quoteB l else ⟨#[]⟩) := rfl
  generalize quotI l = qi at *
  generalize quotS l = qs at *
  generalize lcheckI l = lc at *
  generalize quoteB l = q at *
  by_cases h : lc = 0
  · subst h
    by_cases h2 : 65536 < q.size
    · have h2i : (65536 : Int) < (q.size : Int) := by omega
      have HV : Hid (qi = 4) := by show _ = _; rw [HI.out, if_pos rfl, if_pos h2]
      have HV2 : Hid (qs = ⟨#[]⟩) := by show _ = _; rw [HS.out, HV.out]; rfl
      clear HI HS
      go_enter Tryz.func30, Tryz.ntmps30
      go_wp2_with fail
      (with_reducible refine HW.out.mono ?_)
      rintro e w1 ⟨rfl, hB1⟩
      go_wp2_with fail
      (with_reducible refine (HQ _ hB1).out.mono ?_)
      rintro e w2 ⟨rfl, hB2⟩
      go_wp2
      go_ret2
      exact ⟨by rw [HV.out, HV2.out]; rfl, below_tr hB1 hB2⟩
    · have h2i : ¬ (65536 : Int) < (q.size : Int) := by omega
      have HV : Hid (qi = 0) := by show _ = _; rw [HI.out, if_pos rfl, if_neg h2]
      have HV2 : Hid (qs = q) := by show _ = _; rw [HS.out, HV.out]; rfl
      clear HI HS
      go_enter Tryz.func30, Tryz.ntmps30
      go_wp2_with fail
      (with_reducible refine HW.out.mono ?_)
      rintro e w1 ⟨rfl, hB1⟩
      go_wp2_with fail
      (with_reducible refine (HQ _ hB1).out.mono ?_)
      rintro e w2 ⟨rfl, hB2⟩
      go_wp2
      go_ret2
      exact ⟨by rw [HV.out, HV2.out]; rfl, below_tr hB1 hB2⟩
  · have hb : (lc == 0) = false := beq_eq_false_iff_ne.2 h
    have HV : Hid (qi = lc) := by show _ = _; rw [HI.out, if_neg h]
    have HV2 : Hid (qs = ⟨#[]⟩) := by show _ = _; rw [HS.out, HV.out, if_neg h]
    clear HI HS h
    go_enter Tryz.func30, Tryz.ntmps30
    go_wp2_with fail
    (with_reducible refine HW.out.mono ?_)
    rintro e w1 ⟨rfl, hB1⟩
    go_wp2
    go_ret2
    exact ⟨by rw [HV.out, HV2.out]; rfl, hB1⟩
theorem rdS_new (w : World) (l : List ByteArray) (hl : l.length ≤ maxLen) : RdS (w.alloc (.cells (l.map Value.string).toArray 9)) (.slice (some ⟨w.heap.size, 0, none⟩) l.length l.length) l := by
  refine ⟨some ⟨w.heap.size, 0, none⟩, l.length, rfl, Nat.le_refl _, hl, fun i x hx => ⟨w.heap.size, 0, rfl, ?_⟩⟩
  rw [Nat.zero_add]
  refine cell_nw w _ _ i ?_
  simp only [List.getElem?_toArray, List.getElem?_map]
  rw [hx]; rfl
theorem ownS_new (w : World) (l : List ByteArray) (hl : l.length ≤ maxLen) : OwS (w.alloc (.cells (l.map Value.string).toArray 9)) (.slice (some ⟨w.heap.size, 0, none⟩) l.length l.length) l := by
  refine ⟨by rw [List.length_map, Nat.mul_one], .inr ⟨w.heap.size, l.length, _, rfl, Nat.zero_le _, World.alloc_heap_new w _, Nat.le_refl _, hl, by simp, ?_⟩⟩
  rw [Nat.mul_one, List.toList_toArray, ← List.length_map (f := Value.string), List.take_length]
set_option maxHeartbeats 1000000 in
theorem punq_any (s : ByteArray) (m : Int) (w : World) (he : Env w) (hs : s.size ≤ 1048576) (hm : w.cell? ⟨0, 0, none⟩ = some (.int .i64 m)) :
    Calls Tryz.prog 32 #[.string s] w fun e w' => ∃ v, e = .returned (.tuple #[v, .int .i64 (unqI s)]) ∧ OwS w' v (unqL s) ∧ Below w.heap.size w w' := by
  have HI : Hid (unqI s = if 65536 < s.size then 4 else if s = noneB then 0 else if lcheckI (splitS s) = 0 then 0 else 3) := rfl
  have HL : Hid (unqL s = if 65536 < s.size then [] else if s = noneB then [] else if lcheckI (splitS s) = 0 then splitS s else []) := rfl
  by_cases h1 : 65536 < s.size
  · have h1i : (65536 : Int) < (s.size : Int) := by omega
    have HV : Hid (unqI s = 4) := by show _ = _; rw [HI.out, if_pos h1]
    have HV2 : Hid (unqL s = []) := by show _ = _; rw [HL.out, if_pos h1]
    clear HI HL
    generalize unqI s = ui at *
    generalize unqL s = ul at *
    go_enter Tryz.func32, Tryz.ntmps32
    go_wp2
    go_ret2
    exact ⟨_, by rw [HV.out]; rfl, by rw [HV2.out]; exact OwS.nil _, Below.refl _ _⟩
  · have h1i : ¬ (65536 : Int) < (s.size : Int) := by omega
    by_cases h2 : s = noneB
    · have HV : Hid (unqI s = 0) := by show _ = _; rw [HI.out, if_neg h1, if_pos h2]
      have HV2 : Hid (unqL s = []) := by show _ = _; rw [HL.out, if_neg h1, if_pos h2]
      subst h2
      clear HI HL h1 h1i hs hm
      generalize unqI noneB = ui at *
      generalize unqL noneB = ul at *
      unfold noneB
      go_enter Tryz.func32, Tryz.ntmps32
      go_wp2
      go_ret2
      exact ⟨_, by rw [HV.out]; rfl, by rw [HV2.out]; exact OwS.nil _, Below.refl _ _⟩
    · have hbq0 : ¬ s.toList = [91, 93] := fun e => h2 (ba_ext (by rw [← ByteArray.toList_eq, e]; rfl))
      have hbq : (s.toList == [91, 93]) = false := beq_eq_false_iff_ne.2 hbq0
      have HI2 : Hid (unqI s = if lcheckI (splitS s) = 0 then 0 else 3) := by show _ = _; rw [HI.out, if_neg h1, if_neg h2]
      have HL2 : Hid (unqL s = if lcheckI (splitS s) = 0 then splitS s else []) := by show _ = _; rw [HL.out, if_neg h1, if_neg h2]
      have HS := hid (splitX_any s m w (by omega) hm)
      have hl1 := splitS_len s
      have hl2 : ∀ x ∈ splitS s, x.size ≤ 65536 := fun x hx => by have := splitS_size s x hx; omega
      have HR := hid (ownS_new w (splitS s) (by unfold maxLen; omega))
      have HB := hid (below_al w (.cells ((splitS s).map Value.string).toArray 9))
      clear HI HL h2
      generalize unqI s = ui at *
      generalize unqL s = ul at *
      generalize splitS s = ps at *
      have HW := hid (pwords_any _ ps _ (he.below HB.out) HR.out.rd hl2)
      generalize w.alloc (.cells (ps.map Value.string).toArray 9) = W at *
      generalize lcheckI ps = lc at *
      by_cases h3 : lc = 0
      · subst h3
        have HV : Hid (ui = 0) := by show _ = _; rw [HI2.out, if_pos rfl]
        have HV2 : Hid (ul = ps) := by show _ = _; rw [HL2.out, if_pos rfl]
        clear HI2 HL2
        go_enter Tryz.func32, Tryz.ntmps32
        go_wp2_with fail
        (with_reducible refine HS.out.mono ?_)
        rintro e w1 ⟨rfl, rfl⟩
        go_wp2_with fail
        (with_reducible refine HW.out.mono ?_)
        rintro e w2 ⟨rfl, hB2⟩
        go_wp2
        go_ret2
        exact ⟨_, by rw [HV.out]; rfl, by rw [HV2.out]; exact HR.out.below hB2, below_tr HB.out hB2⟩
      · have hb : (lc == 0) = false := beq_eq_false_iff_ne.2 h3
        have HV : Hid (ui = 3) := by show _ = _; rw [HI2.out, if_neg h3]
        have HV2 : Hid (ul = []) := by show _ = _; rw [HL2.out, if_neg h3]
        clear HI2 HL2 h3
        go_enter Tryz.func32, Tryz.ntmps32
        go_wp2_with fail
        (with_reducible refine HS.out.mono ?_)
        rintro e w1 ⟨rfl, rfl⟩
        go_wp2_with fail
        (with_reducible refine HW.out.mono ?_)
        rintro e w2 ⟨rfl, hB2⟩
        go_wp2
        go_ret2
        exact ⟨_, by rw [HV.out]; rfl, by rw [HV2.out]; exact OwS.nil _, below_tr HB.out hB2⟩
end Go.Proofs.YtjhdeoniafahbaaGreatDoor
namespace Go.Proofs.YtjhdeoniafahbaaGreatDoor
open Go.RowKit
theorem Rd.drop {α : Type} {enc : α → Value} {W : World} {b off n cap : Nat} {l : List α} (h : Rd enc W (.slice (some ⟨b, off, none⟩) n cap) l) (k : Nat) (hk : k ≤ l.length) : Rd enc W (.slice (some ⟨b, off + k, none⟩) (n - k) (cap - k)) (l.drop k) := by
  obtain ⟨a', cap', h1, h2, h3, h4⟩ := h
  cases h1
  refine ⟨_, cap - k, by rw [List.length_drop], by rw [List.length_drop]; omega, by omega, fun i x hx => ?_⟩
  rw [List.getElem?_drop] at hx
  obtain ⟨b', off', e, hc⟩ := h4 _ x hx
  cases e
  exact ⟨b, off + k, rfl, by rw [show off + k + i = off + (k + i) by omega]; exact hc⟩
theorem Rd.end {α : Type} {enc : α → Value} {W : World} {a : Option Addr} {n cap : Nat} {l : List α} (h : Rd enc W (.slice a n cap) l) (k : Nat) (hk : l.length ≤ k) (a' : Option Addr) : Rd enc W (.slice a' (n - k) (cap - k)) (l.drop k) := by
  obtain ⟨a0, cap', h1, h2, h3, h4⟩ := h
  cases h1
  rw [List.drop_of_length_le hk]
  exact ⟨_, _, by rw [show l.length - k = ([] : List α).length by simp; omega], by simp, by omega, fun i x hx => by simp at hx⟩
set_option maxHeartbeats 400000 in
theorem opens_any (s : ByteArray) (w : World) :
    Calls Tryz.prog 98 #[.string s] w fun e w' => e = .returned (.bool (opensB s)) ∧ w = w' := by
  have H := hid (Tryz.strings_HasPrefix s lbrB w)
  have HD : Hid (opensB s = Lib.hasPrefix s.data.toList lbrB.data.toList) := rfl
  generalize opensB s = r at *
  generalize Lib.hasPrefix s.data.toList lbrB.data.toList = q at *
  unfold lbrB at *
  go_enter Tryz.func98, Tryz.ntmps98
  go_wp2_with fail
  (with_reducible refine H.out.mono ?_)
  rintro e w1 ⟨rfl, rfl⟩
  go_wp2
  go_ret
  exact ⟨by rw [HD.out]; rfl, rfl⟩
theorem cutPS_size (s p : ByteArray) : (cutPS s p).size ≤ s.size := by
  unfold cutPS
  split
  · rw [ByteArray.size_extract]; omega
  · exact Nat.le_refl _
theorem cutXS_size (s p : ByteArray) : (cutXS s p).size ≤ s.size := by
  unfold cutXS
  split
  · rw [ByteArray.size_extract]; omega
  · exact Nat.le_refl _
set_option maxHeartbeats 2000000 in
theorem psigla_any (v : Value) (l : List ByteArray) (m : Int) (w : World) (hr : RdS w v l) (hlen : l.length ≤ 1048576) (hj : (joinB l).size ≤ 1048576) (hm : w.cell? ⟨0, 0, none⟩ = some (.int .i64 m)) :
    Calls Tryz.prog 99 #[v] w fun e w' => ∃ u, e = .returned (.tuple #[u, .bool (sigOk l)]) ∧ OwS w' u (sigL l) ∧ Below w.heap.size w w' := by
  have HJ := hid (joinX_any v l w hr (by omega) (by omega))
  have HO : Hid (sigOk l = (cutPB (joinB l) lbrB && cutXB (cutPS (joinB l) lbrB) rbrB)) := rfl
  have HL : Hid (sigL l = if sigOk l = true then (if (cutXS (cutPS (joinB l) lbrB) rbrB).size = 0 then [] else splitS (cutXS (cutPS (joinB l) lbrB) rbrB)) else []) := rfl
  have z1 := cutPS_size (joinB l) lbrB
  have z2 := cutXS_size (cutPS (joinB l) lbrB) rbrB
  have HP := fun w' => hid (cutP_any (joinB l) lbrB w' hj)
  have HX := fun w' => hid (cutX_any (cutPS (joinB l) lbrB) rbrB w' (by omega))
  generalize sigOk l = ok at *
  generalize sigL l = sl at *
  generalize joinB l = j at *
  generalize cutXB (cutPS j lbrB) rbrB = b at *
  generalize cutXS (cutPS j lbrB) rbrB = i2 at *
  generalize cutPS j lbrB = i1 at *
  generalize cutPB j lbrB = a at *
  unfold lbrB at HP
  unfold rbrB at HX
  cases a with
  | false =>
    have HO2 : Hid (ok = false) := by show _ = _; rw [HO.out]; rfl
    have HL2 : Hid (sl = []) := by show _ = _; rw [HL.out, HO2.out]; rfl
    clear HO HL
    go_enter Tryz.func99, Tryz.ntmps99
    go_wp2_with fail
    (with_reducible refine HJ.out.mono ?_)
    rintro e w1 ⟨rfl, hB1⟩
    go_wp2_with fail
    (with_reducible refine (HP _).out.mono ?_)
    rintro e w2 ⟨rfl, rfl⟩
    go_wp2_with fail
    (with_reducible refine (HX _).out.mono ?_)
    rintro e w3 ⟨rfl, rfl⟩
    go_wp2
    go_ret2
    exact ⟨_, by rw [HO2.out]; rfl, by rw [HL2.out]; exact OwS.nil _, hB1⟩
  | true =>
    cases b with
    | false =>
      have HO2 : Hid (ok = false) := by show _ = _; rw [HO.out]; rfl
      have HL2 : Hid (sl = []) := by show _ = _; rw [HL.out, HO2.out]; rfl
      clear HO HL
      go_enter Tryz.func99, Tryz.ntmps99
      go_wp2_with fail
      (with_reducible refine HJ.out.mono ?_)
      rintro e w1 ⟨rfl, hB1⟩
      go_wp2_with fail
      (with_reducible refine (HP _).out.mono ?_)
      rintro e w2 ⟨rfl, rfl⟩
      go_wp2_with fail
      (with_reducible refine (HX _).out.mono ?_)
      rintro e w3 ⟨rfl, rfl⟩
      go_wp2
      go_ret2
      exact ⟨_, by rw [HO2.out]; rfl, by rw [HL2.out]; exact OwS.nil _, hB1⟩
    | true =>
      have HO2 : Hid (ok = true) := by show _ = _; rw [HO.out]; rfl
      have HL1 : Hid (sl = if i2.size = 0 then [] else splitS i2) := by show _ = _; rw [HL.out, HO2.out]; rfl
      clear HO HL
      by_cases h0 : i2.size = 0
      · have HL2 : Hid (sl = []) := by show _ = _; rw [HL1.out, if_pos h0]
        obtain rfl : i2 = ⟨#[]⟩ := ba_nil h0
        clear HL1 h0
        go_enter Tryz.func99, Tryz.ntmps99
        go_wp2_with fail
        (with_reducible refine HJ.out.mono ?_)
        rintro e w1 ⟨rfl, hB1⟩
        go_wp2_with fail
        (with_reducible refine (HP _).out.mono ?_)
        rintro e w2 ⟨rfl, rfl⟩
        go_wp2_with fail
        (with_reducible refine (HX _).out.mono ?_)
        rintro e w3 ⟨rfl, rfl⟩
        go_wp2
        go_ret2
        exact ⟨_, by rw [HO2.out]; rfl, by rw [HL2.out]; exact OwS.nil _, hB1⟩
      · have HL2 : Hid (sl = splitS i2) := by show _ = _; rw [HL1.out, if_neg h0]
        have q1 : i2.toList.isEmpty = false := mt_ne h0
        have q2 : ¬ i2.toList = [] := fun e => by rw [e] at q1; cases q1
        have HS := fun w' h => hid (splitX_any i2 m w' (by omega) h)
        have hsl := splitS_len i2
        have HR := fun (w' : World) => hid (ownS_new w' (splitS i2) (by unfold maxLen; omega))
        have HMK := fun w' (h : Below w.heap.size w w') => hid (Below.keeps h _ _ hm)
        generalize splitS i2 = ps at *
        clear HL1 h0 hm
        go_enter Tryz.func99, Tryz.ntmps99
        go_wp2_with fail
        (with_reducible refine HJ.out.mono ?_)
        rintro e w1 ⟨rfl, hB1⟩
        go_wp2_with fail
        (with_reducible refine (HP _).out.mono ?_)
        rintro e w2 ⟨rfl, rfl⟩
        go_wp2_with fail
        (with_reducible refine (HX _).out.mono ?_)
        rintro e w3 ⟨rfl, rfl⟩
        go_wp2_with fail
        (with_reducible refine (HS _ (HMK _ hB1).out).out.mono ?_)
        rintro e w4 ⟨rfl, rfl⟩
        have HB4 := hid (below_tr hB1 (below_al w1 (.cells (ps.map Value.string).toArray 9)))
        have HR4 := HR w1
        generalize w1.alloc (.cells (ps.map Value.string).toArray 9) = w4 at *
        generalize w1.heap.size = N1 at *
        go_wp2
        go_ret2
        exact ⟨_, by rw [HO2.out]; rfl, by rw [HL2.out]; exact HR4.out, HB4.out⟩
end Go.Proofs.YtjhdeoniafahbaaGreatDoor
namespace Go.Proofs.YtjhdeoniafahbaaGreatDoor
open Go.RowKit Go.Shelf
theorem cutD_any (s : ByteArray) (m : Int) (w : World) (hs : s.size < 4294967281) (hm : w.cell? ⟨0, 0, none⟩ = some (.int .i64 m)) :
    Calls Tryz.prog 25 #[.string s, .string ⟨#[45]⟩] w fun e w' => e = .returned (.tuple #[.string (dashB s).1, .string (dashB s).2.1, .bool (dashB s).2.2]) ∧ Below w.heap.size w w' := by
  refine (Go.Proofs.Any.strings_Cut { Tryz.laysM145 with } s ⟨#[45]⟩ m w hs hm).mono ?_
  rintro e w' ⟨rfl, n, rfl⟩
  exact ⟨rfl, below_drewN (Below.refl _ _) n⟩
theorem dashB_size (s : ByteArray) : (dashB s).1.size ≤ s.size ∧ (dashB s).2.1.size ≤ s.size := by
  unfold dashB Lib.cut
  constructor
  · split
    · show (List.toArray _).size ≤ _
      rw [List.size_toArray, List.length_take]; exact Nat.min_le_right _ _
    · show (List.toArray _).size ≤ _
      rw [List.size_toArray]; exact Nat.le_refl _
  · split
    · show (List.toArray _).size ≤ _
      rw [List.size_toArray, List.length_drop]; exact Nat.sub_le _ _
    · show (List.toArray _).size ≤ _
      exact Nat.zero_le _
theorem lstB_size (s : ByteArray) : (lstB s).size ≤ s.size := by
  unfold lstB
  split
  · exact (dashB_size s).2
  · exact (dashB_size s).1
theorem parse1_any (x : ByteArray) (w : World) :
    Calls Tryz.prog 59 #[.string x] w fun e w' => e = .returned (.bool (decide (x = behB))) ∧ Below w.heap.size w w' := by
  by_cases h : x = behB
  · subst h
    unfold behB
    go_enter Tryz.func59, Tryz.ntmps59
    go_wp2
    go_ret
    exact ⟨ret_bool (by simp; try rfl), Below.refl _ _⟩
  · have hd : decide (x = behB) = false := decide_eq_false h
    have h2 : ¬ x.toList = [93] := fun e => h (by
      rw [ByteArray.toList_eq] at e
      exact ba_ext e)
    have h3 : (x.toList == [93]) = false := beq_eq_false_iff_ne.2 h2
    rw [hd]
    clear hd h
    go_enter Tryz.func59, Tryz.ntmps59
    go_wp2
    go_ret
    exact ⟨rfl, Below.refl _ _⟩
theorem atoi_any (s : ByteArray) (w : World) (he : Env w) (hs : s.size ≤ 1048576) :
    Calls Tryz.prog 97 #[.string s] w fun e w' => ∃ ev, e = .returned (.tuple #[.int .i64 (decV s), ev]) ∧ ((atoB s = true ∧ ev = .nilIface) ∨ (atoB s = false ∧ ∃ t p, ev = .iface t p)) ∧ Below w.heap.size w w' := by
  cases hA : Lib.atoiAll s.data.toList with
  | ok v =>
    have HV : decV s = v := by unfold decV; rw [hA]
    have HB : atoB s = true := by unfold atoB; rw [hA]
    refine (Tryz.strconv_Atoi_ok s (by omega) v hA w).mono ?_
    rintro e w1 ⟨rfl, hw1⟩
    refine ⟨.nilIface, by rw [HV], .inl ⟨HB, rfl⟩, ?_⟩
    rcases hw1 with rfl | ⟨t, rfl⟩
    · exact Below.refl _ _
    · exact Lib.bytesWorld_below _ _ _
  | range =>
    have HV : decV s = Lib.atoiSat s.data.toList := by unfold decV; rw [hA]
    have HB : atoB s = false := by unfold atoB; rw [hA]
    obtain ⟨t, p, h1⟩ := he.e2
    refine (Tryz.strconv_Atoi_range s (by omega) hA (.iface t p) w h1 (.inr ⟨_, _, rfl⟩)).mono ?_
    rintro e w1 ⟨N, rfl, _, _, hB⟩
    exact ⟨_, by rw [HV], .inr ⟨HB, _, _, rfl⟩, hB⟩
  | _ =>
    have HV : decV s = 0 := by unfold decV; rw [hA]
    have HB : atoB s = false := by unfold atoB; rw [hA]
    obtain ⟨t, p, h1⟩ := he.e1
    refine (Tryz.strconv_Atoi_bad s (by omega) (by rw [hA]; intro v h; cases h) (by rw [hA]; intro h; cases h) (.iface t p) w h1 (.inr ⟨_, _, rfl⟩)).mono ?_
    rintro e w1 ⟨N, rfl, _, _, hB⟩
    exact ⟨_, by rw [HV], .inr ⟨HB, _, _, rfl⟩, hB⟩
theorem decV_bound (s : ByteArray) : -9223372036854775808 ≤ decV s ∧ decV s ≤ 9223372036854775807 := by
  unfold decV
  split
  · rename_i v h
    have := Lib.atoiAll_bounds h
    omega
  · unfold Lib.atoiSat
    split <;> constructor <;> decide
  · exact ⟨by decide, by decide⟩
end Go.Proofs.YtjhdeoniafahbaaGreatDoor
namespace Go.Proofs.YtjhdeoniafahbaaGreatDoor
open Go.RowKit
def inB (a b k : Int) : Bool := decide (a ≤ k) && decide (k ≤ b)
def wFst (ls : List Int) (a b : Int) : Int := fIdx (inB a b) ls
def wEnd (ls : List Int) (a b : Int) : Nat := (wFst ls a b).toNat + ((ls.drop (wFst ls a b).toNat).takeWhile (inB a b)).length
def wWs (ls : List Int) (ws : List ByteArray) (a b : Int) : List ByteArray := if wFst ls a b < 0 then [] else (ws.take (wEnd ls a b)).drop (wFst ls a b).toNat
def wAt (ls : List Int) (a b : Int) : Int := if wFst ls a b < 0 then 0 else wFst ls a b
set_option maxHeartbeats 400000 in
theorem indexFnI_any (K : Nat) (cap2 : Array Value) (eK : ∀ args w, (callFunc K args).run Tryz.prog w = .ok (.enter K args) w) (p : Int → Bool) (v : Value) (l : List Int) (w : World) (hr : RdI w v l)
    (hC : ∀ (x : Int) (W' : World), x ∈ l → Below w.heap.size w W' → Calls Tryz.prog K (#[.int .i64 x] ++ cap2) W' fun e W'' => e = .returned (.bool (p x)) ∧ Below W'.heap.size W' W'') :
    Calls Tryz.prog 84 #[v, .func (.func K) #[] cap2] w fun e w' => e = .returned (.int .i64 (fIdx p l)) ∧ Below w.heap.size w w' := by
  obtain ⟨a, cap, rfl, hlc, hcm, hcell⟩ := hr.open
  have HCell := hid hcell; clear hcell
  have HC := hid hC; clear hC
  go_enter Tryz.func84, Tryz.ntmps84
  go_wp2
  go_loopw [8] (fun i wr => ∃ k : Nat, k ≤ l.length ∧ i = .int .i64 k ∧ Hid (∀ y ∈ l.take k, p y = false) ∧ Below w.heap.size w wr) (fun i _ => l.length - (intOf i).toNat)
  case atStart => exact ⟨0, Nat.zero_le _, rfl, by simp [Hid], Below.refl _ _⟩
  case round =>
    rename_i wr
    obtain ⟨k, hk, rfl, HK, hB⟩ := hrel
    by_cases hlt : k < l.length
    · obtain ⟨x, b, off, hx, rfl, hc0⟩ := HCell.out k hlt
      have hc := Below.keeps hB _ _ hc0
      clear hc0
      have HX := hid hx; clear hx
      have HM := hid (List.mem_of_getElem? HX.out)
      have HCx := hid (HC.out x wr HM.out hB)
      by_cases hp : p x = true
      · have HP := hid hp
        rw [hp] at HCx
        clear hp
        go_wp2_with fail
        refine HCx.out.mono ?_
        rintro e w' ⟨rfl, hB2⟩
        go_wp2
        go_ret
        exact ⟨ret_int (fIdx_hit _ l k x HK.out HX.out HP.out).symm, below_tr hB hB2⟩
      · have hp' : p x = false := by simpa using hp
        have HP := hid hp'
        rw [hp'] at HCx
        clear hp hp'
        go_wp2_with fail
        refine HCx.out.mono ?_
        rintro e w' ⟨rfl, hB2⟩
        go_wp2
        go_roundw
        case rel => exact ⟨k + 1, by omega, by go_num, take_none HK.out HX.out HP.out, below_tr hB hB2⟩
        case measure => simp [intOf]; omega
    · go_wp2
      go_ret
      refine ⟨ret_int ?_, hB⟩
      have h := HK.out
      rw [List.take_of_length_le (by omega)] at h
      exact (fIdx_none _ l h).symm
set_option maxHeartbeats 1000000 in
theorem within1_any (a b k : Int) (B1 B2 : Nat) (w : World) (h1 : Row w B1 #[.int .i64 a] 3) (h2 : Row w B2 #[.int .i64 b] 3) :
    Calls Tryz.prog 83 #[.int .i64 k, .pointer (some ⟨B1, 0, none⟩), .pointer (some ⟨B2, 0, none⟩)] w fun e w' => e = .returned (.bool (inB a b k)) ∧ w = w' := by
  have c1 := h1.cell 0 (x := .int .i64 a) rfl
  have c2 := h2.cell 0 (x := .int .i64 b) rfl
  have HD : Hid (inB a b k = (decide (a ≤ k) && decide (k ≤ b))) := rfl
  generalize inB a b k = r at *
  clear h1 h2
  by_cases q1 : a ≤ k
  · by_cases q2 : k ≤ b
    · have HV : Hid (r = true) := by show _ = _; rw [HD.out, decide_eq_true q1, decide_eq_true q2]; rfl
      clear HD
      go_enter Tryz.func83, Tryz.ntmps83
      go_wp2
      go_ret
      exact ⟨ret_bool HV.out.symm, rfl⟩
    · have HV : Hid (r = false) := by show _ = _; rw [HD.out, decide_eq_false q2, Bool.and_false]
      clear HD
      go_enter Tryz.func83, Tryz.ntmps83
      go_wp2
      go_ret
      exact ⟨ret_bool HV.out.symm, rfl⟩
  · have HV : Hid (r = false) := by show _ = _; rw [HD.out, decide_eq_false q1, Bool.false_and]
    clear HD
    go_enter Tryz.func83, Tryz.ntmps83
    go_wp2
    go_ret
    exact ⟨ret_bool HV.out.symm, rfl⟩
theorem tw_len {α : Type} {p : α → Bool} : ∀ {l : List α} {m : Nat}, (∀ y ∈ l.take m, p y = true) → (l.length ≤ m ∨ ∃ x, l[m]? = some x ∧ p x = false) → (l.takeWhile p).length = min m l.length
  | [], m, _, _ => by simp
  | a :: r, 0, _, h => by
    rcases h with h | ⟨x, hx, hp⟩
    · simp at h
    · have : a = x := by simpa using hx
      subst this
      rw [List.takeWhile_cons, if_neg (by rw [hp]; simp)]; simp
  | a :: r, m + 1, h, h2 => by
    have ha := h a (by simp)
    rw [List.takeWhile_cons, if_pos ha, List.length_cons]
    have := tw_len (l := r) (m := m) (fun y hy => h y (by rw [List.take_succ_cons]; exact List.mem_cons_of_mem _ hy)) (by
      rcases h2 with h2 | ⟨x, hx, hp⟩
      · left; simp at h2; omega
      · right; exact ⟨x, by simpa using hx, hp⟩)
    rw [this, List.length_cons]; omega
set_option maxRecDepth 100000 in
set_option maxHeartbeats 4000000 in
theorem within_any (v s : Value) (ls : List Int) (ws : List ByteArray) (a b : Int) (w : World) (hv : RdI w v ls) (hs : RdS w s ws) (hl : ls.length = ws.length) (_hn : ls.length ≤ 65536) :
    Calls Tryz.prog 43 #[v, s, .int .i64 a, .int .i64 b] w fun e w' => ∃ r, e = .returned (.tuple #[.int .i64 (wAt ls a b), r]) ∧ RdS w' r (wWs ls ws a b) ∧ Below w.heap.size w w' := by
  have hb0 := below_al w (.cells #[.int .i64 a] 3)
  have hb1 := below_al (w.alloc (.cells #[.int .i64 a] 3)) (.cells #[.int .i64 b] 3)
  have HB0 := hid (below_tr hb0 hb1)
  have hr1 := (row_nw w #[.int .i64 a] 3 rfl).al (.cells #[.int .i64 b] 3)
  have hr2 := row_nw (w.alloc (.cells #[.int .i64 a] 3)) #[.int .i64 b] 3 rfl
  rw [show (w.alloc (.cells #[.int .i64 a] 3)).heap.size = w.heap.size + 1 by simp] at hr2
  have HV := fun w' (h : Below w.heap.size w w') => hid (hv.below h)
  have HS := fun w' (h : Below w.heap.size w w') => hid (hs.below h)
  obtain ⟨a1, c1, rfl, hl1, hm1, hC1⟩ := hv.open
  obtain ⟨a2, c2, rfl, hl2, hm2, hC2⟩ := hs.open
  have HC1 := hid hC1
  have HC2 := hid hC2
  have HR1 := hid hr1
  have HR2 := hid hr2
  have hII := indexFnI_any 83 #[.pointer (some ⟨w.heap.size, 0, none⟩), .pointer (some ⟨w.heap.size + 1, 0, none⟩)] (enters_of Tryz.func83 (by kernel_rfl) rfl) (inB a b) (.slice a1 ls.length c1) ls _ (HV _ HB0.out).out (fun x W' _ hB => (within1_any a b x w.heap.size (w.heap.size + 1) W' (hr1.below hB) (hr2.below hB)).mono fun e w' h => ⟨h.1, by rw [h.2]; exact Below.refl _ _⟩)
  have HII := hid hII
  have HA : Hid (wAt ls a b = if fIdx (inB a b) ls < 0 then 0 else fIdx (inB a b) ls) := rfl
  have HW : Hid (wWs ls ws a b = if fIdx (inB a b) ls < 0 then [] else (ws.take ((fIdx (inB a b) ls).toNat + ((ls.drop (fIdx (inB a b) ls).toNat).takeWhile (inB a b)).length)).drop (fIdx (inB a b) ls).toNat) := rfl
  have HL := hid hl
  clear hb0 hb1 hr1 hr2 hC1 hC2 hII hv hs hl
  go_enter Tryz.func43, Tryz.ntmps43
  go_wp2_with fail
  (with_reducible refine HII.out.mono ?_)
  rintro e w3 ⟨rfl, hB3⟩
  have HR1b := hid (HR1.out.below hB3)
  have HR2b := hid (HR2.out.below hB3)
  have HB3 := hid (below_tr HB0.out hB3)
  clear hB3 HII HR1 HR2 HB0
  rcases fIdx_cases (inB a b) ls with hI | ⟨f, x, hI, hx, hf, hp⟩
  · have HA2 : Hid (wAt ls a b = 0) := by show _ = _; rw [HA.out, hI]; rfl
    have HW2 : Hid (wWs ls ws a b = []) := by show _ = _; rw [HW.out, hI]; rfl
    rw [hI]
    clear HA HW hI
    go_wp2
    go_ret2
    exact ⟨_, by rw [HA2.out]; rfl, by rw [HW2.out]; exact Rd.nil _, HB3.out⟩
  · have HA2 : Hid (wAt ls a b = (f : Int)) := by show _ = _; rw [HA.out, hI, if_neg (by omega)]
    have HW2 : Hid (wWs ls ws a b = (ws.take (f + ((ls.drop f).takeWhile (inB a b)).length)).drop f) := by show _ = _; rw [HW.out, hI, if_neg (by omega)]; rfl
    rw [hI]
    have hf0 : ¬ (f : Int) < 0 := by omega
    have hf2 : f < ws.length := by have := HL.out; omega
    obtain ⟨_, b2, o2, _, ha2, _⟩ := HC2.out f hf2
    subst ha2
    clear HA HW hI hx hp
    go_wp2_with fail
    go_loopw [12] (fun i wr => ∃ m : Nat, f + m ≤ ws.length ∧ i = .int .i64 ((f + m : Nat) : Int) ∧ Hid (∀ y ∈ (ls.drop f).take m, inB a b y = true) ∧ Hid (Below w3.heap.size w3 wr)) (fun i _ => ws.length - (intOf i).toNat)
    case atStart => exact ⟨0, by omega, by simp, by simp [Hid], Below.refl _ _⟩
    case round =>
      obtain ⟨m, hm, rfl, HM, HB⟩ := hrel
      have HBw := hid (HB3.out.trans (HB.out.mono HB3.out.size))
      have hfin : ∀ w', Below wr.heap.size wr w' → (ws.length ≤ f + m ∨ ∃ x, ls[f + m]? = some x ∧ inB a b x = false) → wWs ls ws a b = (ws.take (f + m)).drop f := by
        intro w' _ h
        have h1 := tw_len (l := ls.drop f) (m := m) HM.out (by
          rcases h with h | ⟨x, hx, hp⟩
          · left; rw [List.length_drop, HL.out]; omega
          · right; exact ⟨x, by rw [List.getElem?_drop]; exact hx, hp⟩)
        rw [HW2.out, h1, List.length_drop, HL.out, Nat.min_eq_left (by omega)]
      have HF := hid hfin
      clear hfin
      obtain ⟨e0, he0⟩ : ∃ e0, e0 = f + m := ⟨_, rfl⟩
      rw [← he0] at hm HF ⊢
      have HE0 := hid he0
      have q1 : (0 : Int) ≤ (f : Int) := by omega
      have q2 : (f : Int) ≤ (e0 : Int) := by omega
      have q3 : (e0 : Int) ≤ (ws.length : Int) := by omega
      have q4 : (e0 : Int) ≤ (c2 : Int) := by omega
      have q5 : ¬ c2 = f := by omega
      have HSL : Hid (∀ w', Below w.heap.size w w' → RdS w' (.slice (some ⟨b2, o2 + f, none⟩) (e0 - f) (c2 - f)) ((ws.take e0).drop f)) := fun w' h => by
        have h1 := ((HS w' h).out.take e0 (by omega)).drop f (by rw [List.length_take]; omega)
        exact h1
      by_cases hlt : e0 < ws.length
      · have hki : (e0 : Int) < (ws.length : Int) := by omega
        obtain ⟨x, b1, o1, hx, rfl, d1⟩ := HC1.out e0 (by have := HL.out; omega)
        have e1 := Below.keeps HBw.out _ _ d1
        have HX := hid hx
        have q6 : (e0 : Int) < (ls.length : Int) := by have := HL.out; omega
        have HCL := hid (within1_any a b x w.heap.size (w.heap.size + 1) wr (HR1b.out.below HB.out) (HR2b.out.below HB.out))
        clear d1 hx
        cases hin : inB a b x with
        | true =>
          rw [hin] at HCL
          have HM2 : Hid (∀ y ∈ (ls.drop f).take (m + 1), inB a b y = true) := by
            intro y hy
            rw [List.take_add_one, List.getElem?_drop, ← HE0.out, HX.out, List.mem_append] at hy
            rcases hy with hy | hy
            · exact HM.out y hy
            · have : y = x := by simpa using hy
              rw [this]; exact hin
          clear hin he0
          go_wp2_with fail
          (with_reducible refine HCL.out.mono ?_)
          rintro e w5 ⟨rfl, rfl⟩
          go_wp2_with fail
          go_roundw
          case rel => exact ⟨m + 1, by have := HE0.out; omega, by have := HE0.out; subst this; go_num, HM2.out, HB.out⟩
          case measure => simp [intOf]; omega
        | false =>
          rw [hin] at HCL
          have HF2 := hid (HF.out wr (Below.refl _ _) (.inr ⟨x, HX.out, hin⟩))
          clear hin he0 HF
          go_wp2_with fail
          (with_reducible refine HCL.out.mono ?_)
          rintro e w5 ⟨rfl, rfl⟩
          go_wp2_with fail
          go_quiet (fail)
          go_wp2
          go_ret2
          exact ⟨_, by rw [HA2.out]; rfl, by rw [HF2.out]; exact (HSL.out _ (below_drewN HBw.out _)), below_drewN HBw.out _⟩
      · have hki : ¬ (e0 : Int) < (ws.length : Int) := by omega
        have HF2 := hid (HF.out wr (Below.refl _ _) (.inl (by omega)))
        clear he0 HF
        go_wp2_with fail
        go_quiet (fail)
        go_wp2
        go_ret2
        exact ⟨_, by rw [HA2.out]; rfl, by rw [HF2.out]; exact (HSL.out _ (below_drewN HBw.out _)), below_drewN HBw.out _⟩
end Go.Proofs.YtjhdeoniafahbaaGreatDoor
