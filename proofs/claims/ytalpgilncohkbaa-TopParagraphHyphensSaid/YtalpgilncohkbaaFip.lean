/-
  paragraph: (*measure).add, fit.
-/
import Derived.Test.YtalpgilncohkbaaLnp
import Derived.Test.YtalpgilncohkbaaQtl
namespace Go.Proofs.Ytalpgilncohkbaa
open Go.RowKit

structure Ms where
  n : Int
  s : Int
  h : Int
def Ms.cells (m : Ms) : Array Value := #[.int .i64 m.n, .int .i64 m.s, .int .i64 m.h]
def addM (m : Ms) (x : It) : Ms := if x.k = 3 then m else ⟨m.n + x.w, m.s + x.s, m.h + x.h⟩
/-- From w to w' nothing but blocks are laid, and cells of block B are written. -/
def ChgM (B : Nat) (w w' : World) : Prop := ∀ Q : World → Prop, (∀ A C, Q A → Below A.heap.size A C → Q C) → (∀ A j v, Q A → Q (A.setCell ⟨B, j, none⟩ v)) → Q w → Q w'
theorem ChgM.of {B : Nat} {w w' : World} (h : Below w.heap.size w w') : ChgM B w w' := fun _ h1 _ hq => h1 _ _ hq h
theorem ChgM.tr {B : Nat} {a b c : World} (h : ChgM B a b) (k : ChgM B b c) : ChgM B a c := fun Q h1 h2 hq => k Q h1 h2 (h Q h1 h2 hq)
theorem ChgM.set (B : Nat) (w : World) (j : Nat) (v : Value) : ChgM B w (w.setCell ⟨B, j, none⟩ v) := fun _ _ h2 hq => h2 _ _ _ hq
theorem ChgM.row {B C : Nat} {w w' : World} (h : ChgM B w w') (hne : C ≠ B) {cs : Array Value} {t : TypeId} (hr : Row w C cs t) : Row w' C cs t :=
  h (fun W => Row W C cs t) (fun _ _ hA hb => hA.below hb) (fun _ _ _ hA => hA.other _ _ hne) hr
theorem ChgM.below {B n : Nat} {w0 w w' : World} (h : ChgM B w w') (hn : n ≤ B) (hb : Below n w0 w) (hs : n ≤ w.heap.size) : Below n w0 w' ∧ n ≤ w'.heap.size :=
  h (fun W => Below n w0 W ∧ n ≤ W.heap.size) (fun A D hA hb => ⟨hA.1.trans (hb.mono hA.2), Nat.le_trans hA.2 hb.size⟩) (fun A j v hA => ⟨hA.1.setCell hn _, by simpa [World.setCell] using hA.2⟩) ⟨hb, hs⟩

set_option maxRecDepth 100000 in
set_option maxHeartbeats 4000000 in
theorem add_any (B : Nat) (m : Ms) (x : It) (w : World) (hm : Row w B m.cells 75) (hm1 : 0 ≤ m.n ∧ m.n ≤ 1099511627776) (hm2 : 0 ≤ m.s ∧ m.s ≤ 1099511627776) (hm3 : 0 ≤ m.h ∧ m.h ≤ 1099511627776) (hx1 : 0 ≤ x.w ∧ x.w ≤ 1099511627776) (hx2 : 0 ≤ x.s ∧ x.s ≤ 1099511627776) (hx3 : 0 ≤ x.h ∧ x.h ≤ 1099511627776) :
    Calls Try.prog 38 #[.pointer (some ⟨B, 0, none⟩), .agg #[.int .i64 x.k, .int .i64 x.w, .int .i64 x.s, .int .i64 x.h, .int .i64 x.p, .string x.t]] w fun e w' => (∃ r, e = .returned r) ∧ Row w' B (addM m x).cells 75 ∧ ChgM B w w' := by
  have HA : Hid (addM m x = if x.k = 3 then m else ⟨m.n + x.w, m.s + x.s, m.h + x.h⟩) := rfl
  have hb := below_al w (.cells #[.int .i64 x.k, .int .i64 x.w, .int .i64 x.s, .int .i64 x.h, .int .i64 x.p, .string x.t] 43)
  have HM1 := hid (hm.below hb)
  have HX1 := hid (row_nw w #[.int .i64 x.k, .int .i64 x.w, .int .i64 x.s, .int .i64 x.h, .int .i64 x.p, .string x.t] 43 rfl)
  have HC1 : Hid (ChgM B w (w.alloc (.cells #[.int .i64 x.k, .int .i64 x.w, .int .i64 x.s, .int .i64 x.h, .int .i64 x.p, .string x.t] 43))) := ChgM.of hb
  have hne : w.heap.size ≠ B := by have := hm.lt; omega
  have x0 := HX1.out.cell 0 (x := .int .i64 x.k) rfl
  unfold Ms.cells at HM1
  clear hb hm
  go_enter Try.func38, Try.ntmps38
  go_upto_region 1 with fail
  generalize w.alloc (.cells #[.int .i64 x.k, .int .i64 x.w, .int .i64 x.s, .int .i64 x.h, .int .i64 x.p, .string x.t] 43) = W1 at *
  generalize w.heap.size = Bx at *
  by_cases h3 : x.k = 3
  · rw [if_pos h3] at HA
    have e3 : (x.k != 3) = false := bne_eq_false_iff_eq.2 h3
    clear h3
    go_wp2_with fail
    go_end0
    exact ⟨⟨_, rfl⟩, by rw [HA.out]; exact HM1.out, HC1.out⟩
  · rw [if_neg h3] at HA
    have e3 : (x.k != 3) = true := bne_iff_ne.2 h3
    have v1 : IntKind.i64.wrap (m.n + x.w) = m.n + x.w := IntWalk.i64_in _ (by omega)
    have v2 : IntKind.i64.wrap (m.s + x.s) = m.s + x.s := IntWalk.i64_in _ (by omega)
    have v3 : IntKind.i64.wrap (m.h + x.h) = m.h + x.h := IntWalk.i64_in _ (by omega)
    clear h3
    go_upto_region 2 with fail
    clear x0
    have y1 := HX1.out.cell 1 (x := .int .i64 x.w) rfl
    have z0 := HM1.out.cell 0 (x := .int .i64 m.n) rfl
    have HMd := hid (HM1.out.below (Below.refl W1.heap.size W1).drew)
    have HXd := hid (HX1.out.below (Below.refl W1.heap.size W1).drew)
    have HCd := hid (HC1.out.tr (ChgM.of (Below.refl W1.heap.size W1).drew))
    have zd := HMd.out.cell 0 (x := .int .i64 m.n) rfl
    have yd := HXd.out.cell 1 (x := .int .i64 x.w) rfl
    have zf := HMd.out.frozen 0
    have HM2 := hid (HMd.out.set 0 (.int .i64 (m.n + x.w)))
    have HX2 := hid (HXd.out.other (p := ⟨B, 0, none⟩) (.int .i64 (m.n + x.w)) hne)
    have HC2 := hid (HCd.out.tr (ChgM.set B _ 0 (.int .i64 (m.n + x.w))))
    refine wp_region_quiet_tail 9 (by kernel_rfl) (by kernel_rfl) ?_
    simp only [List.take_succ_cons, List.take_zero, List.drop_succ_cons, List.drop_zero]
    repeat (go_big_quiet_step (fail))
    refine wpQuiet_nil ?_
    change wpList _ _ _ _ _ W1.drew
    clear y1 z0 HMd HXd HCd HM1 HX1 HC1
    generalize W1.drew = Wd0 at *
    go_upto_region 3 with fail
    clear zd yd zf
    obtain ⟨W2, hW2⟩ : ∃ W, W = Wd0.setCell ⟨B, 0, none⟩ (.int .i64 (m.n + x.w)) := ⟨_, rfl⟩
    rw [← hW2] at HM2 HX2 HC2 ⊢
    clear hW2
    have y2 := HX2.out.cell 2 (x := .int .i64 x.s) rfl
    have z1 := HM2.out.cell 1 (x := .int .i64 m.s) rfl
    have HMd := hid (HM2.out.below (Below.refl W2.heap.size W2).drew)
    have HXd := hid (HX2.out.below (Below.refl W2.heap.size W2).drew)
    have HCd := hid (HC2.out.tr (ChgM.of (Below.refl W2.heap.size W2).drew))
    have zd := HMd.out.cell 1 (x := .int .i64 m.s) rfl
    have yd := HXd.out.cell 2 (x := .int .i64 x.s) rfl
    have zf := HMd.out.frozen 1
    have HM3 := hid (HMd.out.set 1 (.int .i64 (m.s + x.s)))
    have HX3 := hid (HXd.out.other (p := ⟨B, 1, none⟩) (.int .i64 (m.s + x.s)) hne)
    have HC3 := hid (HCd.out.tr (ChgM.set B _ 1 (.int .i64 (m.s + x.s))))
    refine wp_region_quiet_tail 9 (by kernel_rfl) (by kernel_rfl) ?_
    simp only [List.take_succ_cons, List.take_zero, List.drop_succ_cons, List.drop_zero]
    repeat (go_big_quiet_step (fail))
    refine wpQuiet_nil ?_
    change wpList _ _ _ _ _ W2.drew
    clear y2 z1 HMd HXd HCd HM2 HX2 HC2
    generalize W2.drew = Wd1 at *
    go_upto_region 4 with fail
    clear zd yd zf
    obtain ⟨W3, hW3⟩ : ∃ W, W = Wd1.setCell ⟨B, 1, none⟩ (.int .i64 (m.s + x.s)) := ⟨_, rfl⟩
    rw [← hW3] at HM3 HX3 HC3 ⊢
    clear hW3
    have y3 := HX3.out.cell 3 (x := .int .i64 x.h) rfl
    have z2 := HM3.out.cell 2 (x := .int .i64 m.h) rfl
    have HMd := hid (HM3.out.below (Below.refl W3.heap.size W3).drew)
    have HXd := hid (HX3.out.below (Below.refl W3.heap.size W3).drew)
    have HCd := hid (HC3.out.tr (ChgM.of (Below.refl W3.heap.size W3).drew))
    have zd := HMd.out.cell 2 (x := .int .i64 m.h) rfl
    have yd := HXd.out.cell 3 (x := .int .i64 x.h) rfl
    have zf := HMd.out.frozen 2
    have HM4 := hid (HMd.out.set 2 (.int .i64 (m.h + x.h)))
    have HX4 := hid (HXd.out.other (p := ⟨B, 2, none⟩) (.int .i64 (m.h + x.h)) hne)
    have HC4 := hid (HCd.out.tr (ChgM.set B _ 2 (.int .i64 (m.h + x.h))))
    refine wp_region_quiet_tail 9 (by kernel_rfl) (by kernel_rfl) ?_
    simp only [List.take_succ_cons, List.take_zero, List.drop_succ_cons, List.drop_zero]
    repeat (go_big_quiet_step (fail))
    refine wpQuiet_nil ?_
    change wpList _ _ _ _ _ W3.drew
    clear y3 z2 HMd HXd HCd HM3 HX3 HC3
    generalize W3.drew = Wd2 at *
    go_wp2_with fail
    go_end0
    skip
    exact ⟨⟨_, rfl⟩, by rw [HA.out]; exact HM4.out, HC4.out⟩

/-- Badness, also where nothing can stretch. -/
def badZ (c t : Int) : Int := if c = 0 then 0 else if t ≤ 0 then 10000 else badI c t
theorem badZ_bd (c t : Int) : 0 ≤ badZ c t ∧ badZ c t ≤ 10000 := by
  unfold badZ
  split
  · omega
  split
  · omega
  · exact badI_bd c t
theorem badZ_any (c t : Int) (hc0 : 0 ≤ c) (hc : c ≤ 1073741824) (ht0 : 0 ≤ t) (ht : t ≤ 1073741824) (w : World) :
    Calls Try.prog 46 #[.int .i64 c, .int .i64 t] w fun e w' => e = .returned (.int .i64 (badZ c t)) ∧ Below w.heap.size w w' := by
  obtain ⟨c, rfl⟩ : ∃ n : Nat, c = (n : Int) := ⟨c.toNat, by omega⟩
  obtain ⟨t, rfl⟩ : ∃ n : Nat, t = (n : Int) := ⟨t.toNat, by omega⟩
  by_cases h1 : 1 ≤ t
  · have h := badness_any c t (by omega) h1 (by omega) w
    have e : badZ (c : Int) (t : Int) = badI c t := by
      unfold badZ
      by_cases h0 : (c : Int) = 0
      · rw [if_pos h0]; unfold badI; rw [if_pos h0]
      · rw [if_neg h0, if_neg (by omega)]
    rw [e]
    exact h
  · obtain rfl : t = 0 := by omega
    have k1 : ¬ (c : Int) < 0 := by omega
    have k2 : IntKind.u64.wrap (c : Int) = (c : Int) := IntWalk.u64_in _ (by omega)
    have k10 : min (c : Int) 1073741824 = (c : Int) := by omega
    have k4 : ¬ (1073741824 : Int) < (c : Int) := by omega
    have k3 : (c : Int) ≤ 1073741824 := by omega
    by_cases h0 : c = 0
    · have HV : Hid (badZ (c : Int) 0 = 0) := by show _ = _; unfold badZ; rw [if_pos (by omega)]
      have q1 : ((c : Int) == 0) = true := by rw [h0]; rfl
      clear h0
      go_enter Try.func46, Try.ntmps46
      go_wp2
      go_ret
      exact ⟨by rw [HV.out]; rfl, Below.refl _ _⟩
    · have HV : Hid (badZ (c : Int) 0 = 10000) := by show _ = _; unfold badZ; rw [if_neg (by omega), if_pos (by omega)]
      have q1 : ((c : Int) == 0) = false := beq_eq_false_iff_ne.2 (by omega)
      clear h0
      go_enter Try.func46, Try.ntmps46
      go_wp2
      go_ret
      exact ⟨by rw [HV.out]; rfl, Below.refl _ _⟩

def penB (l : List It) (i : Nat) : Bool := match l[i]? with | some x => decide (x.k = 3) | none => false
/-- The badness of a line, its change, and whether it is feasible. -/
def fitF (l : List It) (wd : Int) (m : Ms) (to_ : Nat) : Int × Int × Bool :=
  if 0 ≤ wd - (m.n + penW l to_) then (if l.length ≤ to_ ∨ forcedF l to_ = true then (0, 0, true) else (badZ (wd - (m.n + penW l to_)) m.s, wd - (m.n + penW l to_), true))
  else if -(wd - (m.n + penW l to_)) ≤ m.h then (badZ (-(wd - (m.n + penW l to_))) m.h, wd - (m.n + penW l to_), true) else (0, 0, false)
theorem fitF_bd (l : List It) (wd : Int) (m : Ms) (to_ : Nat) : 0 ≤ (fitF l wd m to_).1 ∧ (fitF l wd m to_).1 ≤ 10000 := by
  unfold fitF
  split
  · split
    · exact ⟨Int.le_refl _, by decide⟩
    · exact badZ_bd _ _
  · split
    · exact badZ_bd _ _
    · exact ⟨Int.le_refl _, by decide⟩
/-- What fit hands back. -/
def FitR (l : List It) (wd : Int) (m : Ms) (to_ : Nat) (w : World) (e : Ending) (w' : World) : Prop := e = .returned (.tuple #[.int .i64 (fitF l wd m to_).1, .int .i64 (fitF l wd m to_).2.1, .bool (fitF l wd m to_).2.2]) ∧ Below w.heap.size w w'
theorem FitR.mk {l : List It} {wd : Int} {m : Ms} {to_ : Nat} {w w' : World} {a b : Int} {c : Bool} (h : fitF l wd m to_ = (a, b, c)) (hb : Below w.heap.size w w') : FitR l wd m to_ w (.returned (.tuple #[.int .i64 a, .int .i64 b, .bool c])) w' := by
  unfold FitR
  rw [h]
  exact ⟨rfl, hb⟩
/-- The sums of a line, all small. -/
structure MsB (m : Ms) : Prop where
  n : 0 ≤ m.n ∧ m.n ≤ 1073741824
  s : 0 ≤ m.s ∧ m.s ≤ 1073741824
  h : 0 ≤ m.h ∧ m.h ≤ 1073741824

set_option maxRecDepth 100000 in
set_option maxHeartbeats 4000000 in
theorem fit_any (v : Value) (l : List It) (wd : Int) (m : Ms) (to_ : Nat) (w : World) (hv : RdIt w v l) (hto : to_ ≤ l.length) (hm : MsB m) (hw0 : 0 ≤ wd) (hw1 : wd ≤ 1073741824) (hpw : 0 ≤ penW l to_ ∧ penW l to_ ≤ 1073741824) :
    Calls Try.prog 35 #[v, .int .i64 wd, .agg m.cells, .int .i64 (to_ : Int)] w fun e w' => FitR l wd m to_ w e w' := by
  have HF : Hid (fitF l wd m to_ = if 0 ≤ wd - (m.n + penW l to_) then (if l.length ≤ to_ ∨ forcedF l to_ = true then (0, 0, true) else (badZ (wd - (m.n + penW l to_)) m.s, wd - (m.n + penW l to_), true)) else if -(wd - (m.n + penW l to_)) ≤ m.h then (badZ (-(wd - (m.n + penW l to_))) m.h, wd - (m.n + penW l to_), true) else (0, 0, false)) := rfl
  obtain ⟨⟨n0, n1⟩, ⟨s0, s1⟩, ⟨h0, h1⟩⟩ := hm
  obtain ⟨mn, ms, mh⟩ := m
  simp only at n0 n1 s0 s1 h0 h1 HF
  show Calls Try.prog 35 #[v, .int .i64 wd, .agg #[.int .i64 mn, .int .i64 ms, .int .i64 mh], .int .i64 (to_ : Int)] w _
  have hb := below_al w (.cells #[.int .i64 mn, .int .i64 ms, .int .i64 mh] 75)
  have HM1 := hid (row_nw w #[.int .i64 mn, .int .i64 ms, .int .i64 mh] 75 rfl)
  have HV1 := hid (hv.below hb)
  have HB1 := hid hb
  obtain ⟨a, cap, rfl, hlc, hcm, _⟩ := hv.open
  have HPW : Hid (penW l to_ = match l[to_]? with | some x => if x.k = 3 then x.w else 0 | none => 0) := rfl
  have HV0 := hid hv
  clear hb hv
  go_enter Try.func35, Try.ntmps35
  go_upto_region 1 with fail
  generalize w.alloc (.cells #[.int .i64 mn, .int .i64 ms, .int .i64 mh] 75) = W1 at *
  have HBm : Hid (w.heap.size = w.heap.size) := rfl
  obtain ⟨Bm, hBm⟩ : ∃ Bm, Bm = w.heap.size := ⟨_, rfl⟩
  rw [← hBm] at HM1 ⊢
  have HBM := hid hBm
  clear hBm HBm
  obtain ⟨pw, hpe⟩ : ∃ pw, pw = penW l to_ := ⟨_, rfl⟩
  rw [← hpe] at HF HPW hpw
  clear hpe
  go_cut [22] from 11 to 23 (fun v wx => v = .bool (penB l to_) ∧ wx = W1)
  case first =>
    --FB<
    by_cases hi : to_ < l.length
    · have g1 : (to_ : Int) < (l.length : Int) := by omega
      have g0 : (0 : Int) ≤ (to_ : Int) := by omega
      obtain ⟨x, b, off, hx, rfl, c0, c1, c2, c3, c4, c5⟩ := RdIt.at HV1.out hi
      have HP : Hid (penB l to_ = decide (x.k = 3)) := by show _ = _; unfold penB; rw [hx]
      clear hx
      by_cases h3 : x.k = 3
      · rw [h3] at c0 HP
        go_wp2_with fail
        go_meet
        exact ⟨by rw [HP.out]; rfl, rfl⟩
      · have e3 : (x.k == 3) = false := beq_eq_false_iff_ne.2 h3
        rw [decide_eq_false h3] at HP
        go_wp2_with fail
        go_meet
        exact ⟨by rw [HP.out], rfl⟩
    · have g1 : ¬ (to_ : Int) < (l.length : Int) := by omega
      have HP : Hid (penB l to_ = false) := by show _ = _; unfold penB; rw [get_none hi]
      go_wp2_with fail
      go_meet
      exact ⟨by rw [HP.out], rfl⟩
    --FB>
  obtain ⟨rfl, rfl⟩ := hcut
  obtain ⟨W1, rfl⟩ : ∃ W1 : World, W1 = wc := ⟨_, rfl⟩
  go_upto_if 22 with fail
  have HPB : Hid (penB l to_ = match l[to_]? with | some x => decide (x.k = 3) | none => false) := rfl
  go_cut [] from 22 to 32 (fun wx => Hid (Row wx Bm #[.int .i64 (mn + pw), .int .i64 ms, .int .i64 mh] 75) ∧ Hid (Below w.heap.size w wx) ∧ Hid (RdIt wx (.slice a l.length cap) l))
  case first =>
    --FA<
    cases hp : penB l to_ with
    | false =>
      have HE : Hid (pw = 0) := by
        have h := HPB.out
        rw [hp] at h
        show _ = _
        rw [HPW.out]
        cases hx : l[to_]? with
        | none => rfl
        | some x => rw [hx] at h; exact if_neg (of_decide_eq_false h.symm)
      go_wp2_with fail
      go_meet
      exact ⟨by rw [HE.out, Int.add_zero]; exact HM1, HB1, HV1⟩
    | true =>
      have hi : to_ < l.length := by
        have h := HPB.out
        rw [hp] at h
        rcases Nat.lt_or_ge to_ l.length with h1 | h1
        · exact h1
        · rw [get_none (by omega)] at h; cases h
      have g0 : (0 : Int) ≤ (to_ : Int) := by omega
      have g1 : (to_ : Int) < (l.length : Int) := by omega
      obtain ⟨x, b, off, hx, rfl, c0, c1, c2, c3, c4, c5⟩ := RdIt.at HV1.out hi
      rw [hx] at HPW HPB
      have h3 : x.k = 3 := by
        have h := HPB.out
        rw [hp] at h
        exact of_decide_eq_true h.symm
      have HE : Hid (pw = x.w) := by show _ = _; rw [HPW.out]; exact if_pos h3
      have v1 : IntKind.i64.wrap (mn + x.w) = mn + x.w := IntWalk.i64_in _ (by have := HE.out; omega)
      clear hx h3 HPB
      go_upto_region 2 with fail
      have HM2 := hid (HM1.out.below (Below.refl W1.heap.size W1).drew)
      have HB2 := hid (HB1.out.drew)
      have HV2 := hid (HV1.out.below (Below.refl W1.heap.size W1).drew)
      have d1 : W1.drew.cell? ⟨b, off + to_ * 6 + 1, none⟩ = some (.int .i64 x.w) := c1
      have m0d := HM2.out.cell 0 (x := .int .i64 mn) rfl
      have m0f := HM2.out.frozen 0
      have HM3 := hid (HM2.out.set 0 (.int .i64 (mn + x.w)))
      have HB3 := hid (HB2.out.setCell (p := ⟨Bm, 0, none⟩) (by rw [HBM.out]; exact Nat.le_refl _) (.int .i64 (mn + x.w)))
      have HV3 : Hid (RdIt (W1.drew.setCell ⟨Bm, 0, none⟩ (.int .i64 (mn + x.w))) (.slice (some ⟨b, off, none⟩) l.length cap) l) := by
        obtain ⟨a', c', e1, e2, e3, e4⟩ := HV2.out
        refine ⟨a', c', e1, e2, e3, fun i y hy => ?_⟩
        obtain ⟨b', off', e, hc⟩ := e4 i y hy
        cases e1
        cases e
        refine ⟨b, off, rfl, fun j u hu => ?_⟩
        have hcc := hc j u hu
        have hnb : b ≠ Bm := by
          obtain ⟨a0, c0, f1, _, _, f4⟩ := HV0.out
          cases f1
          obtain ⟨b0, o0, f5, hc0⟩ := f4 i y hy
          cases f5
          have h10 : b < w.heap.size := World.block_lt_of_cell? w _ (hc0 j u hu)
          have h11 := HBM.out
          omega
        exact (World.cell?_of_block (Below.heap_setCell _ _ _ _ hnb)).trans hcc
      refine wp_region_quiet_tail 9 (by kernel_rfl) (by kernel_rfl) ?_
      simp only [List.take_succ_cons, List.take_zero, List.drop_succ_cons, List.drop_zero]
      repeat (go_big_quiet_step (fail))
      refine wpQuiet_nil ?_
      change wpList _ _ _ _ _ W1.drew
      clear c0 c1 c2 c3 c4 c5
      generalize W1.drew = W2 at *
      go_wp2_with fail
      go_meet
      exact ⟨by rw [HE.out]; exact HM3, HB3, HV3⟩
    --FA>
  case rest =>
    obtain ⟨HM2, HB2, HV2⟩ := hcut
    clear HM1 HV1 HB1 HPW
    have m0 := HM2.out.cell 0 (x := .int .i64 (mn + pw)) rfl
    have m1 := HM2.out.cell 1 (x := .int .i64 ms) rfl
    have m2 := HM2.out.cell 2 (x := .int .i64 mh) rfl
    have HFC := hid (forced_any (.slice a l.length cap) l to_ wc HV2.out)
    obtain ⟨ch, hce⟩ : ∃ ch, ch = wd - (mn + pw) := ⟨_, rfl⟩
    have v1 : IntKind.i64.wrap (wd - (mn + pw)) = ch := by rw [hce]; exact IntWalk.i64_in _ (by omega)
    have hch : ch ≤ 1073741824 := by omega
    have v2 : IntKind.i64.wrap (-ch) = -ch := IntWalk.i64_in _ (by omega)
    rw [← hce] at HF
    clear hce
    by_cases g0 : 0 ≤ ch
    · rw [if_pos g0] at HF
      by_cases g1 : to_ < l.length
      · have e1 : ((to_ : Int) == (l.length : Int)) = false := beq_eq_false_iff_ne.2 (by omega)
        have HBZ := fun w' => hid (badZ_any ch ms g0 hch s0 s1 w')
        cases hf : forcedF l to_ with
        | true =>
          rw [hf] at HFC
          rw [if_pos (.inr hf)] at HF
          clear hf
          go_wp2_with fail
          refine HFC.out.mono ?_
          rintro e w2 ⟨rfl, rfl⟩
          go_wp2_with fail
          refine bodyPost_ret (results_tmp3 rfl _ _ _) rfl ?_
          exact FitR.mk HF.out HB2.out
        | false =>
          rw [hf] at HFC
          rw [if_neg (by rw [hf]; simp; omega)] at HF
          clear hf
          go_wp2_with fail
          refine HFC.out.mono ?_
          rintro e w2 ⟨rfl, rfl⟩
          go_wp2_with fail
          refine (HBZ _).out.mono ?_
          rintro e w3 ⟨rfl, hb3⟩
          go_wp2_with fail
          refine bodyPost_ret (results_tmp3 rfl _ _ _) rfl ?_
          exact FitR.mk HF.out (HB2.out.trans (hb3.mono HB2.out.size))
      · have e1 : ((to_ : Int) == (l.length : Int)) = true := beq_iff_eq.2 (by omega)
        rw [if_pos (.inl (by omega))] at HF
        go_wp2_with fail
        refine bodyPost_ret (results_tmp3 rfl _ _ _) rfl ?_
        exact FitR.mk HF.out HB2.out
    · rw [if_neg g0] at HF
      by_cases g2 : -ch ≤ mh
      · have HBZ := fun w' => hid (badZ_any (-ch) mh (by omega) (by omega) h0 h1 w')
        rw [if_pos g2] at HF
        go_wp2_with fail
        refine (HBZ _).out.mono ?_
        rintro e w3 ⟨rfl, hb3⟩
        go_wp2_with fail
        refine bodyPost_ret (results_tmp3 rfl _ _ _) rfl ?_
        exact FitR.mk HF.out (HB2.out.trans (hb3.mono HB2.out.size))
      · rw [if_neg g2] at HF
        go_wp2_with fail
        refine bodyPost_ret (results_tmp3 rfl _ _ _) rfl ?_
        exact FitR.mk HF.out HB2.out
end Go.Proofs.Ytalpgilncohkbaa
