/-
  apographref48.Great, apographtop.top48Items.
-/
import Derived.Test.YtalpgilncohkbaaItw
import Derived.Test.YtalpgilncohkbaaLnp
import Derived.BigGuardPart
namespace Go.Proofs.Ytalpgilncohkbaa
open Go.RowKit
attribute [local go_sem] Oper.semAt_some

/-- Some Bool is returned; nothing has changed. -/
def SomeB (w : World) (e : Ending) (w' : World) : Prop := ∃ b : Bool, e = .returned (.bool b) ∧ w = w'
set_option maxRecDepth 100000 in
set_option maxHeartbeats 4000000 in
theorem great48_any (v : Value) (l : List It) (w : World) (hv : RdIt w v l) : Calls Try.prog 15 #[v] w fun e w' => SomeB w e w' := by
  have HV := hid hv
  obtain ⟨a, cap, rfl, hlc, hcm, _⟩ := hv.open
  clear hv
  go_enter Try.func15, Try.ntmps15
  go_wp2
  go_loop [3] (fun i => ∃ k : Nat, k ≤ l.length ∧ i = .int .i64 k) (fun i => l.length - (intOf i).toNat)
  case atStart => exact ⟨0, Nat.zero_le _, rfl⟩
  case round =>
    obtain ⟨k, hk, rfl⟩ := hrel
    by_cases hlt : k < l.length
    · have hti : (k : Int) < (l.length : Int) := by omega
      have hk0 : (0 : Int) ≤ (k : Int) := by omega
      obtain ⟨x, b, off, hx, rfl, c0, c1, c2, c3, c4, c5⟩ := HV.out.at hlt
      clear hx c0 c1 c2 c3 c4
      by_cases hs : (20 : Int) < (x.t.size : Int)
      · go_wp2_with fail
        go_ret
        exact ⟨_, rfl, rfl⟩
      · go_wp2_with fail
        go_round
        case rel => exact ⟨k + 1, by omega, by go_num⟩
        case measure => simp [intOf]; omega
    · have hti : ¬ (k : Int) < (l.length : Int) := by omega
      go_wp2
      go_ret
      exact ⟨_, rfl, rfl⟩
/-- What the items that come back are. -/
structure T48K (st : St) (P : List Grp) (ws : List Wd) (w' : World) (v1 : Value) : Prop where
  e : itE st P ws = 0
  rd : RdIt w' v1 (itmF st P ws)
  p5 : P.length ≤ 5
  w5 : ws.length ≤ 5
  wz : ∀ x ∈ ws, x.t.size ≤ 10
def T48R (st : St) (P : List Grp) (ws : List Wd) (w : World) (e : Ending) (w' : World) : Prop := ∃ v1 ok, e = .returned (.tuple #[v1, .bool ok]) ∧ (ok = true → T48K st P ws w' v1) ∧ Below w.heap.size w w'
theorem T48R.no {st : St} {P : List Grp} {ws : List Wd} {w w' : World} (v1 : Value) (hb : Below w.heap.size w w') : T48R st P ws w (.returned (.tuple #[v1, .bool false])) w' := ⟨v1, false, rfl, (fun h => by cases h), hb⟩
set_option maxRecDepth 100000 in
set_option maxHeartbeats 8000000 in
theorem top48_any (st : St) (ap : Option Addr) (cp : Nat) (aw : Option Addr) (cw : Nat) (P : List Grp) (ws : List Wd) (w : World) (hp : RdG w (.slice ap P.length cp) P) (hzp : SzG P) (hw : RdWd w (.slice aw ws.length cw) ws) :
    Calls Try.prog 4 #[.agg #[.int .i64 st.width, .int .i64 st.lh, .int .i64 st.nh, .int .i64 st.ph, .int .i64 st.gap, .int .i64 st.sp, .int .i64 st.stretch, .int .i64 st.shrink, .int .i64 st.letter, .int .i64 st.hyphen, .int .i64 st.every, .slice st.pos.1 st.pos.2.1 st.pos.2.2, .slice st.lay.1 st.lay.2.1 st.lay.2.2, .slice ap P.length cp, .slice aw ws.length cw]] w fun e w' => T48R st P ws w e w' := by
  have HB0 := hid (below_al w (.cells #[.int .i64 st.width, .int .i64 st.lh, .int .i64 st.nh, .int .i64 st.ph, .int .i64 st.gap, .int .i64 st.sp, .int .i64 st.stretch, .int .i64 st.shrink, .int .i64 st.letter, .int .i64 st.hyphen, .int .i64 st.every, .slice st.pos.1 st.pos.2.1 st.pos.2.2, .slice st.lay.1 st.lay.2.1 st.lay.2.2, .slice ap P.length cp, .slice aw ws.length cw] 29))
  have HR0 := hid (row_nw w #[.int .i64 st.width, .int .i64 st.lh, .int .i64 st.nh, .int .i64 st.ph, .int .i64 st.gap, .int .i64 st.sp, .int .i64 st.stretch, .int .i64 st.shrink, .int .i64 st.letter, .int .i64 st.hyphen, .int .i64 st.every, .slice st.pos.1 st.pos.2.1 st.pos.2.2, .slice st.lay.1 st.lay.2.1 st.lay.2.2, .slice ap P.length cp, .slice aw ws.length cw] 29 rfl)
  have HP := hid (fun w' (h : Below w.heap.size w w') => hp.below h)
  have HW := hid (fun w' (h : Below w.heap.size w w') => hw.below h)
  have HCW := hid (fun w' (h : RdWd w' (.slice aw ws.length cw) ws) => containsFnW_any 11 (fun _ _ => rfl) (fun x => decide (10 < x.t.size)) _ ws w' h (fun x W' _ _ => tpi1_any x W'))
  have HCP := hid (fun w' (h : RdG w' (.slice ap P.length cp) P) => containsFnP_any 13 (fun _ _ => rfl) (fun x => decide (12 < x.name.size)) _ P w' h (fun x a n c W' _ _ => tpi2_any x.name a n c W'))
  have HIT := hid (fun w' (h1 : RdG w' (.slice ap P.length cp) P) (h2 : RdWd w' (.slice aw ws.length cw) ws) (h3 : ws.length ≤ 5) (h4 : ∀ x ∈ ws, x.t.size ≤ 20) => items_any st _ _ P ws w' h1 hzp h2 h3 h4)
  obtain ⟨_, _, _, hlp, hmp, _⟩ := hp.open
  obtain ⟨_, _, _, hlw, hmw, _⟩ := hw.open
  clear hp hzp hw
  have x0 := HR0.out.cell 0 (x := .int .i64 st.width) rfl
  have x1 := HR0.out.cell 1 (x := .int .i64 st.lh) rfl
  have x2 := HR0.out.cell 2 (x := .int .i64 st.nh) rfl
  have x3 := HR0.out.cell 3 (x := .int .i64 st.ph) rfl
  have x4 := HR0.out.cell 4 (x := .int .i64 st.gap) rfl
  have x5 := HR0.out.cell 5 (x := .int .i64 st.sp) rfl
  have x6 := HR0.out.cell 6 (x := .int .i64 st.stretch) rfl
  have x7 := HR0.out.cell 7 (x := .int .i64 st.shrink) rfl
  have x8 := HR0.out.cell 8 (x := .int .i64 st.letter) rfl
  have x9 := HR0.out.cell 9 (x := .int .i64 st.hyphen) rfl
  have x10 := HR0.out.cell 10 (x := .int .i64 st.every) rfl
  have x11 := HR0.out.cell 11 (x := .slice st.pos.1 st.pos.2.1 st.pos.2.2) rfl
  have x12 := HR0.out.cell 12 (x := .slice st.lay.1 st.lay.2.1 st.lay.2.2) rfl
  have x13 := HR0.out.cell 13 (x := .slice ap P.length cp) rfl
  have x14 := HR0.out.cell 14 (x := .slice aw ws.length cw) rfl
  unfold St.cells at HIT
  go_enter Try.func4, Try.ntmps4
  go_upto_region 1 with fail
  generalize w.alloc (.cells #[.int .i64 st.width, .int .i64 st.lh, .int .i64 st.nh, .int .i64 st.ph, .int .i64 st.gap, .int .i64 st.sp, .int .i64 st.stretch, .int .i64 st.shrink, .int .i64 st.letter, .int .i64 st.hyphen, .int .i64 st.every, .slice st.pos.1 st.pos.2.1 st.pos.2.2, .slice st.lay.1 st.lay.2.1 st.lay.2.2, .slice ap P.length cp, .slice aw ws.length cw] 29) = W0 at *
  obtain ⟨Bs, hBs⟩ : ∃ Bs, Bs = w.heap.size := ⟨_, rfl⟩
  rw [← hBs] at HR0 x0 x1 x2 x3 x4 x5 x6 x7 x8 x9 x10 x11 x12 x13 x14 ⊢
  have HBS := hid hBs
  clear hBs
  by_cases g1 : (5 : Int) < (P.length : Int)
  · go_wp2_with fail
    refine bodyPost_ret (results_tmp2 rfl _ _ _) rfl ?_
    exact .no _ HB0.out
  by_cases g2 : (5 : Int) < (ws.length : Int)
  · go_wp2_with fail
    refine bodyPost_ret (results_tmp2 rfl _ _ _) rfl ?_
    exact .no _ HB0.out
  have g1n : P.length ≤ 5 := by omega
  have g2n : ws.length ≤ 5 := by omega
  have HN := hid (And.intro g1n g2n)
  clear g1n g2n
  cases h3 : ws.any (fun x => decide (10 < x.t.size)) with
  | true =>
    rw [h3] at HCW
    go_wp2_with fail
    refine (HCW.out _ (HW.out _ HB0.out)).mono ?_
    rintro e w1 ⟨rfl, hb1⟩
    have HB1 := hid (below_tr HB0.out hb1)
    clear hb1
    go_wp2_with fail
    refine bodyPost_ret (results_tmp2 rfl _ _ _) rfl ?_
    exact .no _ HB1.out
  | false =>
    rw [h3] at HCW
    have HWZ : Hid (∀ x ∈ ws, x.t.size ≤ 10) := fun x hx => by
      have h := List.any_eq_false.1 h3 x hx
      simp only [decide_eq_true_eq] at h
      omega
    clear h3
    cases h4 : P.any (fun x => decide (12 < x.name.size)) with
    | true =>
      rw [h4] at HCP
      go_wp2_with fail
      refine (HCW.out _ (HW.out _ HB0.out)).mono ?_
      rintro e w1 ⟨rfl, hb1⟩
      have HB1 := hid (below_tr HB0.out hb1)
      have HR1 := hid (HR0.out.below hb1)
      clear hb1 HR0 x0 x1 x2 x3 x4 x5 x6 x7 x8 x9 x10 x11 x12 x13 x14
      have x13 := HR1.out.cell 13 (x := .slice ap P.length cp) rfl
      go_wp2_with fail
      refine (HCP.out _ (HP.out _ HB1.out)).mono ?_
      rintro e w2 ⟨rfl, hb2⟩
      have HB2 := hid (below_tr HB1.out hb2)
      clear hb2
      go_wp2_with fail
      refine bodyPost_ret (results_tmp2 rfl _ _ _) rfl ?_
      exact .no _ HB2.out
    | false =>
      rw [h4] at HCP
      clear h4
      go_wp2_with fail
      refine (HCW.out _ (HW.out _ HB0.out)).mono ?_
      rintro e w1 ⟨rfl, hb1⟩
      have HB1 := hid (below_tr HB0.out hb1)
      have HR1 := hid (HR0.out.below hb1)
      clear hb1 HR0 x0 x1 x2 x3 x4 x5 x6 x7 x8 x9 x10 x11 x12 x13 x14
      have x13 := HR1.out.cell 13 (x := .slice ap P.length cp) rfl
      go_wp2_with fail
      refine (HCP.out _ (HP.out _ HB1.out)).mono ?_
      rintro e w2 ⟨rfl, hb2⟩
      have HB2 := hid (below_tr HB1.out hb2)
      have HR2 := hid (HR1.out.below hb2)
      clear hb2 HR1 x13
      have x0 := HR2.out.cell 0 (x := .int .i64 st.width) rfl
      have x1 := HR2.out.cell 1 (x := .int .i64 st.lh) rfl
      have x2 := HR2.out.cell 2 (x := .int .i64 st.nh) rfl
      have x3 := HR2.out.cell 3 (x := .int .i64 st.ph) rfl
      have x4 := HR2.out.cell 4 (x := .int .i64 st.gap) rfl
      have x5 := HR2.out.cell 5 (x := .int .i64 st.sp) rfl
      have x6 := HR2.out.cell 6 (x := .int .i64 st.stretch) rfl
      have x7 := HR2.out.cell 7 (x := .int .i64 st.shrink) rfl
      have x8 := HR2.out.cell 8 (x := .int .i64 st.letter) rfl
      have x9 := HR2.out.cell 9 (x := .int .i64 st.hyphen) rfl
      have x10 := HR2.out.cell 10 (x := .int .i64 st.every) rfl
      have x11 := HR2.out.cell 11 (x := .slice st.pos.1 st.pos.2.1 st.pos.2.2) rfl
      have x12 := HR2.out.cell 12 (x := .slice st.lay.1 st.lay.2.1 st.lay.2.2) rfl
      have x13 := HR2.out.cell 13 (x := .slice ap P.length cp) rfl
      have x14 := HR2.out.cell 14 (x := .slice aw ws.length cw) rfl
      go_wp2_with fail
      refine (HIT.out _ (HP.out _ HB2.out) (HW.out _ HB2.out) HN.out.2 (fun x hx => by have := HWZ.out x hx; omega)).mono ?_
      rintro e w3 ⟨v1, rfl, hrd, hb3⟩
      have HB3 := hid (below_tr HB2.out hb3)
      have HRD := hid hrd
      clear hb3 hrd HR2 x0 x1 x2 x3 x4 x5 x6 x7 x8 x9 x10 x11 x12 x13 x14 HCP HCW HIT
      obtain ⟨E, hE⟩ : ∃ E, E = itE st P ws := ⟨_, rfl⟩
      rw [← hE] at HRD ⊢
      have HE := hid hE
      clear hE
      by_cases hE0 : E = 0
      · subst hE0
        have HR3 := hid (HRD.out rfl)
        clear HRD
        go_wp2_with fail
        refine (great48_any v1 _ w3 HR3.out).mono ?_
        rintro e w4 ⟨b, rfl, rfl⟩
        go_wp2_with fail
        refine bodyPost_ret (results_tmp2 rfl _ _ _) rfl ?_
        exact ⟨_, _, rfl, fun _ => ⟨HE.out.symm, HR3.out, HN.out.1, HN.out.2, HWZ.out⟩, HB3.out⟩
      · have i1 : (E == 0) = false := beq_eq_false_iff_ne.2 hE0
        go_wp2_with fail
        refine bodyPost_ret (results_tmp2 rfl _ _ _) rfl ?_
        exact .no _ HB3.out
end Go.Proofs.Ytalpgilncohkbaa
