/-
  The references' Great: whether a side, or two, are larger than the statement examines: some answer.
-/
import Derived.Test.YtlneimjenjpbnaaPc
import Derived.Test.YtlneimjenjpbnaaAnc
import Derived.BigGuardPart
namespace Go.Proofs.Ytlneimjenjpbnaa
open Go.RowKit

/-- Some Bool is returned; nothing that was there has changed. -/
def SomeB (w : World) (e : Ending) (w' : World) : Prop := ∃ b : Bool, e = .returned (.bool b) ∧ Below w.heap.size w w'
set_option maxRecDepth 100000 in
set_option maxHeartbeats 4000000 in
theorem great51_any (p : PP) (vl vn vp : Value) (k : Int) (w : World) (hr : RdP5 w vl vn vp p) :
    Calls Try.prog 21 #[.agg (ppC p vl vn vp), .int .i64 k] w (SomeB w) := by
  have HB0 := hid (below_al w (.cells (ppC p vl vn vp) 25))
  have HR0 := hid (row_nw w (ppC p vl vn vp) 25 rfl)
  have HRD := hid (hr.below HB0.out)
  obtain ⟨a1, c1, rfl, hl1, hm1, _⟩ := hr.l.open
  obtain ⟨a2, c2, rfl, hl2, hm2, _⟩ := hr.n.open
  obtain ⟨a3, c3, rfl, hl3, hm3, _⟩ := hr.s.open
  clear hr
  unfold ppC at HB0 HR0 HRD ⊢
  have x0 := HR0.out.cell 0 (x := .slice a1 p.lines.length c1) rfl
  have x1 := HR0.out.cell 1 (x := .slice a2 p.notes.length c2) rfl
  have x2 := HR0.out.cell 2 (x := .slice a3 p.pens.length c3) rfl
  go_enter Try.func21, Try.ntmps21
  go_upto_region 1 with fail
  generalize w.alloc (.cells #[.slice a1 p.lines.length c1, .slice a2 p.notes.length c2, .slice a3 p.pens.length c3, .int .i64 p.h, .int .i64 p.gap] 25) = W0 at *
  go_cut [42] from 6 to 43 (fun v wx => ∃ b : Bool, v = .bool b ∧ W0 = wx)
  case first => as_aux_lemma =>
    by_cases g1 : k < (p.lines.length : Int)
    all_goals by_cases g2 : (p.lines.length : Int) ≤ 4096
    all_goals by_cases g3 : (4098 : Int) < (p.lines.length : Int)
    all_goals try (exfalso; omega; done)
    all_goals by_cases g4 : wrap64 ((p.lines.length : Int) + 2) < (p.notes.length : Int)
    all_goals by_cases g5 : wrap64 ((p.lines.length : Int) + 2) < (p.pens.length : Int)
    all_goals go_wp2_with fail
    all_goals go_meet
    all_goals exact ⟨_, rfl, rfl⟩
  case rest =>
    obtain ⟨b, rfl, rfl⟩ := hcut
    cases b with
    | true =>
      go_wp2_with fail
      go_ret
      exact ⟨true, rfl, HB0.out⟩
    | false =>
      go_wp2_with fail
      go_loop [5] (fun i => ∃ k : Nat, k ≤ p.notes.length ∧ i = .int .i64 k) (fun i => p.notes.length - (intOf i).toNat)
      case atStart => exact ⟨0, Nat.zero_le _, rfl⟩
      case round =>
        obtain ⟨k, hk, rfl⟩ := hrel
        by_cases hlt : k < p.notes.length
        · obtain ⟨_, _, hee, _, _, hcell⟩ := HRD.out.n.open
          cases hee
          obtain ⟨a, b, off, u, hx, rfl, cu, hu⟩ := hcell k hlt
          obtain ⟨au, cu', rfl, _, _, _⟩ := hu.open
          have hki : (k : Int) < (p.notes.length : Int) := by omega
          clear hcell hu hx
          by_cases h18 : (18 : Int) < (a.length : Int)
          · go_wp2_with fail
            go_ret
            exact ⟨true, rfl, HB0.out⟩
          · go_wp2_with fail
            go_round
            case rel => exact ⟨k + 1, by omega, by go_num⟩
            case measure => simp [intOf]; omega
        · have hki : ¬ (k : Int) < (p.notes.length : Int) := by omega
          go_wp2_with fail
          go_ret
          exact ⟨false, rfl, HB0.out⟩

set_option maxHeartbeats 1000000 in
theorem greatL_any (A : List (List Int)) (va : Value) (k : Int) (w : World) (hr : RdM w va A) :
    Calls Try.prog 22 #[va, .int .i64 k] w (SomeB w) := by
  have HRD := hid hr
  obtain ⟨a2, c2, rfl, hl2, hm2, _⟩ := hr.open
  clear hr
  go_enter Try.func22, Try.ntmps22
  go_wp2_with fail
  go_loop [5] (fun i => ∃ k : Nat, k ≤ A.length ∧ i = .int .i64 k) (fun i => A.length - (intOf i).toNat)
  case atStart => exact ⟨0, Nat.zero_le _, rfl⟩
  case round =>
    obtain ⟨j, hk, rfl⟩ := hrel
    by_cases hlt : j < A.length
    · obtain ⟨_, _, hee, _, _, hcell⟩ := HRD.out.open
      cases hee
      obtain ⟨a, b, off, u, hx, rfl, cu, hu⟩ := hcell j hlt
      obtain ⟨au, cu', rfl, _, _, _⟩ := hu.open
      have hki : (j : Int) < (A.length : Int) := by omega
      clear hcell hu hx
      by_cases h18 : (8 : Int) < (a.length : Int)
      · go_wp2_with fail
        go_ret
        exact ⟨true, rfl, Below.refl _ _⟩
      · go_wp2_with fail
        go_round
        case rel => exact ⟨j + 1, by omega, by go_num⟩
        case measure => simp [intOf]; omega
    · have hki : ¬ (j : Int) < (A.length : Int) := by omega
      go_wp2_with fail
      go_ret
      exact ⟨_, rfl, Below.refl _ _⟩
set_option maxRecDepth 100000 in
set_option maxHeartbeats 4000000 in
theorem great52_any (s : FS) (x : FV) (w : World) (hl : RdP5 w x.l1 x.l2 x.l3 s.L) (hr : RdP5 w x.r1 x.r2 x.r3 s.R) (ha : RdM w x.a s.A) :
    Calls Try.prog 10 #[.agg (ppC s.L x.l1 x.l2 x.l3), .agg (ppC s.R x.r1 x.r2 x.r3), x.a] w (SomeB w) := by
  have HB0 : Hid (Below w.heap.size w ((w.alloc (.cells (ppC s.L x.l1 x.l2 x.l3) 25)).alloc (.cells (ppC s.R x.r1 x.r2 x.r3) 25))) := below_tr (below_al _ _) (below_al _ _)
  have HR2 := hid (row_nw (w.alloc (.cells (ppC s.L x.l1 x.l2 x.l3) 25)) (ppC s.R x.r1 x.r2 x.r3) 25 (n := w.heap.size + 1) (by simp))
  have HL := hid hl
  have HRr := hid hr
  have HA := hid ha
  clear hl hr ha
  have H1 := hid (fun w' h => great51_any s.L x.l1 x.l2 x.l3 6 w' h)
  have H2 := hid (fun w' h => great51_any s.R x.r1 x.r2 x.r3 6 w' h)
  have H3 := hid (fun w' h => greatL_any s.A x.a 8 w' h)
  unfold ppC at HB0 HR2 H1 H2 ⊢
  go_enter Try.func10, Try.ntmps10
  go_wp2_with fail
  (with_reducible refine (H1.out _ (HL.out.below HB0.out)).mono ?_)
  rintro e w2 ⟨b, rfl, hb2⟩
  have HB2 := hid (below_tr HB0.out hb2)
  have HR22 := hid (HR2.out.below hb2)
  clear hb2 HR2
  have y0 := HR22.out.cell 0 (x := x.r1) rfl
  have y1 := HR22.out.cell 1 (x := x.r2) rfl
  have y2 := HR22.out.cell 2 (x := x.r3) rfl
  have y3 := HR22.out.cell 3 (x := .int .i64 s.R.h) rfl
  have y4 := HR22.out.cell 4 (x := .int .i64 s.R.gap) rfl
  cases b with
  | true =>
    go_wp2_with fail
    go_ret
    exact ⟨true, rfl, HB2.out⟩
  | false =>
    go_wp2_with fail
    (with_reducible refine (H2.out _ (HRr.out.below HB2.out)).mono ?_)
    rintro e w3 ⟨b, rfl, hb3⟩
    have HB3 := hid (below_tr HB2.out hb3)
    clear hb3 y0 y1 y2 y3 y4 HR22
    cases b with
    | true =>
      go_wp2_with fail
      go_ret
      exact ⟨true, rfl, HB3.out⟩
    | false =>
      go_wp2_with fail
      (with_reducible refine (H3.out _ (HA.out.below HB3.out)).mono ?_)
      rintro e w4 ⟨b, rfl, hb4⟩
      have HB4 := hid (below_tr HB3.out hb4)
      clear hb4
      cases b with
      | true =>
        go_wp2_with fail
        go_ret
        exact ⟨true, rfl, HB4.out⟩
      | false =>
        go_wp2_with fail
        go_ret
        exact ⟨false, rfl, HB4.out⟩
end Go.Proofs.Ytlneimjenjpbnaa
