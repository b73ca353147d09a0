/-
  facing.Check.
-/
import Derived.Test.YtlneimjenjpbnaaAnc
import Derived.Test.YtlneimjenjpbnaaStA
import Derived.BigQuiet
namespace Go.Proofs.Ytlneimjenjpbnaa
open Go.RowKit

theorem ancG_cons (l r : Int) (pv : Option (List Int)) (a : List Int) (t : List (List Int)) : ancG l r pv (a :: t) = if a.length ≠ 2 then 9 else if a.getD 0 0 < 0 ∨ l ≤ a.getD 0 0 ∨ a.getD 1 0 < 0 ∨ r ≤ a.getD 1 0 then 2
    else if (match pv with | none => false | some b => decide (a.getD 0 0 ≤ b.getD 0 0) || decide (a.getD 1 0 ≤ b.getD 1 0)) = true then 10 else ancG l r (some a) t := by cases pv <;> rfl
def pvA (A : List (List Int)) (k : Nat) : Option (List Int) := if k = 0 then none else A[k - 1]?
theorem pvA_succ {A : List (List Int)} {k : Nat} {a : List Int} (h : A[k]? = some a) : pvA A (k + 1) = some a := by unfold pvA; rw [if_neg (by omega)]; exact h
theorem two_rd {W : World} {u : Value} {a : List Int} (h : RdI W u a) (h2 : a.length = 2) : ∃ b off c, u = .slice (some ⟨b, off, none⟩) 2 c ∧ 2 ≤ c ∧ W.cell? ⟨b, off, none⟩ = some (.int .i64 (a.getD 0 0)) ∧ W.cell? ⟨b, off + 1, none⟩ = some (.int .i64 (a.getD 1 0)) := by
  obtain ⟨av, cv, hv, hc2, _, hc⟩ := h.open
  obtain ⟨y0, b, off, hy0, rfl, c0⟩ := hc 0 (by omega)
  obtain ⟨y1, b', off', hy1, he, c1⟩ := hc 1 (by omega)
  cases he
  refine ⟨b, off, cv, by rw [hv, h2], by omega, ?_, ?_⟩
  · rw [List.getD_eq_getElem?_getD, hy0]; rw [Nat.add_zero] at c0; exact c0
  · rw [List.getD_eq_getElem?_getD, hy1]; exact c1

set_option maxRecDepth 100000 in
set_option maxHeartbeats 8000000 in
theorem fck_any (s : FS) (l1 l2 l3 r1 r2 r3 va : Value) (w : World) (hl : RdP5 w l1 l2 l3 s.L) (hr : RdP5 w r1 r2 r3 s.R) (ha : RdM w va s.A) :
    Calls Try.prog 28 #[.agg (ppC s.L l1 l2 l3), .agg (ppC s.R r1 r2 r3), va] w fun e w' => e = .returned (.int .i64 (fcI s)) ∧ Below w.heap.size w w' := by
  have HB0 : Hid (Below w.heap.size w ((w.alloc (.cells (ppC s.L l1 l2 l3) 25)).alloc (.cells (ppC s.R r1 r2 r3) 25))) := below_tr (below_al _ _) (below_al _ _)
  have HR1 := hid ((row_nw w (ppC s.L l1 l2 l3) 25 rfl).al (.cells (ppC s.R r1 r2 r3) 25))
  have HR2 := hid (row_nw (w.alloc (.cells (ppC s.L l1 l2 l3) 25)) (ppC s.R r1 r2 r3) 25 (n := w.heap.size + 1) (by simp))
  have HV : Hid (fcI s = if ppI s.L ≠ 0 ∨ ppI s.R ≠ 0 then 1 else if 65536 < (s.L.n + 1) * (s.R.n + 1) then 4 else ancG s.L.n s.R.n none s.A) := rfl
  generalize fcI s = E at *
  have HLD := hid hl
  have HRD := hid hr
  have HAD := hid ha
  obtain ⟨a1, c1, rfl, _, _, _⟩ := hl.l.open
  obtain ⟨a2, c2, rfl, _, _, _⟩ := hl.n.open
  obtain ⟨a3, c3, rfl, _, _, _⟩ := hl.s.open
  obtain ⟨a4, c4, rfl, _, _, _⟩ := hr.l.open
  obtain ⟨a5, c5, rfl, _, _, _⟩ := hr.n.open
  obtain ⟨a6, c6, rfl, _, _, _⟩ := hr.s.open
  obtain ⟨aA, cA, rfl, hlA, hmA, _⟩ := ha.open
  clear hl hr ha
  have HC1 := fun w' h => hid (ppchk_any s.L (.slice a1 s.L.lines.length c1) (.slice a2 s.L.notes.length c2) (.slice a3 s.L.pens.length c3) w' h)
  have HC2 := fun w' h => hid (ppchk_any s.R (.slice a4 s.R.lines.length c4) (.slice a5 s.R.notes.length c5) (.slice a6 s.R.pens.length c6) w' h)
  unfold ppC at HB0 HR1 HR2 HC1 HC2 ⊢
  go_enter Try.func28, Try.ntmps28
  go_upto_region 1 with fail
  generalize (w.alloc (.cells #[.slice a1 s.L.lines.length c1, .slice a2 s.L.notes.length c2, .slice a3 s.L.pens.length c3, .int .i64 s.L.h, .int .i64 s.L.gap] 25)).alloc (.cells #[.slice a4 s.R.lines.length c4, .slice a5 s.R.notes.length c5, .slice a6 s.R.pens.length c6, .int .i64 s.R.h, .int .i64 s.R.gap] 25) = W0 at *
  have x0 := HR1.out.cell 0 (x := .slice a1 s.L.lines.length c1) rfl
  have x1 := HR1.out.cell 1 (x := .slice a2 s.L.notes.length c2) rfl
  have x2 := HR1.out.cell 2 (x := .slice a3 s.L.pens.length c3) rfl
  have x3 := HR1.out.cell 3 (x := .int .i64 s.L.h) rfl
  have x4 := HR1.out.cell 4 (x := .int .i64 s.L.gap) rfl
  by_cases e1 : ppI s.L = 0
  case neg =>
    have i1 : (ppI s.L != 0) = true := bne_iff_ne.2 e1
    have i2 : (ppI s.L == 0) = false := beq_eq_false_iff_ne.2 e1
    have HE : Hid (E = 1) := by show _ = _; rw [HV.out, if_pos (.inl e1)]
    clear HV e1
    go_wp2_with fail
    (with_reducible refine (HC1 _ (HLD.out.below HB0.out)).out.mono ?_)
    rintro e w2 ⟨rfl, hb2⟩
    have HB2 := hid (below_tr HB0.out hb2)
    clear hb2 x0 x1 x2 x3 x4
    go_wp2_with fail
    go_ret
    exact ⟨by rw [HE.out]; rfl, HB2.out⟩
  have HE1 := hid e1
  clear e1
  go_wp2_with fail
  (with_reducible refine (HC1 _ (HLD.out.below HB0.out)).out.mono ?_)
  rintro e w2 ⟨rfl, hb2⟩
  rw [HE1.out]
  have HB2 := hid (below_tr HB0.out hb2)
  have HR12 := hid (HR1.out.below hb2)
  have HR22 := hid (HR2.out.below hb2)
  clear hb2 x0 x1 x2 x3 x4 HR1 HR2
  have y0 := HR22.out.cell 0 (x := .slice a4 s.R.lines.length c4) rfl
  have y1 := HR22.out.cell 1 (x := .slice a5 s.R.notes.length c5) rfl
  have y2 := HR22.out.cell 2 (x := .slice a6 s.R.pens.length c6) rfl
  have y3 := HR22.out.cell 3 (x := .int .i64 s.R.h) rfl
  have y4 := HR22.out.cell 4 (x := .int .i64 s.R.gap) rfl
  by_cases e2 : ppI s.R = 0
  case neg =>
    have i1 : (ppI s.R != 0) = true := bne_iff_ne.2 e2
    have i2 : (ppI s.R == 0) = false := beq_eq_false_iff_ne.2 e2
    have HE : Hid (E = 1) := by show _ = _; rw [HV.out, if_pos (.inr e2)]
    clear HV e2
    go_wp2_with fail
    (with_reducible refine (HC2 _ (HRD.out.below HB2.out)).out.mono ?_)
    rintro e w3 ⟨rfl, hb3⟩
    have HB3 := hid (below_tr HB2.out hb3)
    clear hb3 y0 y1 y2 y3 y4
    go_wp2_with fail
    go_ret
    exact ⟨by rw [HE.out]; rfl, HB3.out⟩
  have HE2 := hid e2
  clear e2
  go_wp2_with fail
  (with_reducible refine (HC2 _ (HRD.out.below HB2.out)).out.mono ?_)
  rintro e w3 ⟨rfl, hb3⟩
  rw [HE2.out]
  have HB3 := hid (below_tr HB2.out hb3)
  have HR13 := hid (HR12.out.below hb3)
  have HR23 := hid (HR22.out.below hb3)
  clear hb3 y0 y1 y2 y3 y4 HR12 HR22
  have HV2 : Hid (E = if 65536 < (s.L.n + 1) * (s.R.n + 1) then 4 else ancG s.L.n s.R.n none s.A) := by
    show _ = _
    rw [HV.out, if_neg (fun h => h.elim (fun h => h HE1.out) (fun h => h HE2.out))]
  have n4 := (pp_ok HE1.out).n4
  have m4 := (pp_ok HE2.out).n4
  clear HV HC1 HC2
  have x0 := HR13.out.cell 0 (x := .slice a1 s.L.lines.length c1) rfl
  have y0 := HR23.out.cell 0 (x := .slice a4 s.R.lines.length c4) rfl
  obtain ⟨nL, hnL⟩ : ∃ nL, nL = s.L.lines.length := ⟨_, rfl⟩
  obtain ⟨nR, hnR⟩ : ∃ nR, nR = s.R.lines.length := ⟨_, rfl⟩
  have HV3 : Hid (E = if 65536 < (nL + 1) * (nR + 1) then 4 else ancG nL nR none s.A) := by show _ = _; rw [HV2.out, hnL, hnR]; rfl
  rw [← hnL] at x0 n4
  rw [← hnR] at y0 m4
  clear HV2 HLD HRD hnL hnR HR13 HR23
  have hmul : (nL + 1) * (nR + 1) ≤ 4097 * 4097 := Nat.mul_le_mul (by omega) (by omega)
  have hmi : ((nL : Int) + 1) * ((nR : Int) + 1) = (((nL + 1) * (nR + 1) : Nat) : Int) := by simp
  obtain ⟨q, hq⟩ : ∃ q, q = (nL + 1) * (nR + 1) := ⟨_, rfl⟩
  rw [← hq] at hmi hmul HV3
  have hwq : IntKind.i64.wrap (((nL : Int) + 1) * ((nR : Int) + 1)) = (q : Int) := by rw [hmi]; exact IntWalk.i64_in _ (by omega)
  clear hq
  by_cases k1 : 65536 < q
  · have k1i : (65536 : Int) < (q : Int) := by omega
    have HE : Hid (E = 4) := by show _ = _; rw [HV3.out, if_pos k1]
    clear HV3 k1
    go_wp2_with fail
    go_ret
    exact ⟨by rw [HE.out]; rfl, HB3.out⟩
  have k1i : ¬ (65536 : Int) < (q : Int) := by omega
  have HV4 : Hid (ancG nL nR none s.A = E) := by show _ = _; rw [HV3.out, if_neg k1]
  clear HV3 k1 hmul
  go_wp2_with fail
  clear hwq hmi k1i
  have HAW := hid (fun w' (h : Below w.heap.size w w') => HAD.out.below h)
  go_loopw [29] (fun i wr => ∃ k : Nat, k ≤ s.A.length ∧ i = .int .i64 k ∧ Hid (ancG nL nR (pvA s.A k) (s.A.drop k) = E) ∧ Hid (∀ j y, j < k → s.A[j]? = some y → y.length = 2) ∧ Hid (Below w3.heap.size w3 wr)) (fun i _ => s.A.length - (intOf i).toNat)
  case atStart => exact ⟨0, Nat.zero_le _, rfl, HV4.out, fun j y hj => absurd hj (by omega), Below.refl _ _⟩
  case round =>
    obtain ⟨k, hk, rfl, HK, H2, HBr⟩ := hrel
    clear HV4
    have x0r := Below.keeps HBr.out _ _ x0
    have y0r := Below.keeps HBr.out _ _ y0
    by_cases hlt : k < s.A.length
    · have HAr := HAW.out wr (below_tr HB3.out HBr.out)
      obtain ⟨_, _, hee, _, _, hcell⟩ := HAr.open
      cases hee
      obtain ⟨a, b, off, u, hx, rfl, cu, hu⟩ := hcell k hlt
      have hki : (k : Int) < (s.A.length : Int) := by omega
      have hd : s.A.drop k = a :: s.A.drop (k + 1) := by
        rw [List.drop_eq_getElem_cons hlt]
        rw [List.getElem?_eq_getElem hlt] at hx
        rw [Option.some.inj hx]
      have HK2 : Hid ((if a.length ≠ 2 then 9 else if a.getD 0 0 < 0 ∨ (nL : Int) ≤ a.getD 0 0 ∨ a.getD 1 0 < 0 ∨ (nR : Int) ≤ a.getD 1 0 then 2
          else if (match pvA s.A k with | none => false | some b => decide (a.getD 0 0 ≤ b.getD 0 0) || decide (a.getD 1 0 ≤ b.getD 1 0)) = true then 10 else ancG nL nR (some a) (s.A.drop (k + 1))) = E) := by
        have h := HK.out
        rw [hd, ancG_cons] at h
        exact h
      have HPS := hid (pvA_succ hx)
      have HX := hid hx
      clear hd HK hcell
      by_cases e2 : a.length = 2
      case neg =>
        obtain ⟨au, cu', rfl, _, _, _⟩ := hu.open
        have i1 : ((a.length : Int) != 2) = true := bne_iff_ne.2 (by omega)
        have i2 : ((a.length : Int) == 2) = false := beq_eq_false_iff_ne.2 (by omega)
        have HE : Hid (E = 9) := by show _ = _; rw [← HK2.out, if_pos e2]
        clear HK2 hx hu e2
        go_wp2_with fail
        go_ret
        exact ⟨by rw [HE.out]; rfl, below_tr HB3.out HBr.out⟩
      have HK3 : Hid ((if a.getD 0 0 < 0 ∨ (nL : Int) ≤ a.getD 0 0 ∨ a.getD 1 0 < 0 ∨ (nR : Int) ≤ a.getD 1 0 then 2
          else if (match pvA s.A k with | none => false | some b => decide (a.getD 0 0 ≤ b.getD 0 0) || decide (a.getD 1 0 ≤ b.getD 1 0)) = true then 10 else ancG nL nR (some a) (s.A.drop (k + 1))) = E) := by
        have h := HK2.out
        rw [if_neg (fun h => h e2)] at h
        exact h
      obtain ⟨bu, ou, cu', rfl, hcu2, d0, d1⟩ := two_rd hu e2
      generalize a.getD 0 0 = z0 at *
      generalize a.getD 1 0 = z1 at *
      have HE2 := hid e2
      clear HK2 e2 hu hx
      go_upto_region 10 with fail
      obtain ⟨bA, hbA⟩ : ∃ bA : Bool, bA = (decide (z0 < 0) || decide ((nL : Int) ≤ z0) || decide (z1 < 0) || decide ((nR : Int) ≤ z1)) := ⟨_, rfl⟩
      have HbA := hid hbA
      clear hbA
      go_cut [38] from 38 to 67 (fun v wx => v = .bool bA ∧ Below wr.heap.size wr wx)
      case first => as_aux_lemma =>
        by_cases q0 : z0 < 0
        · have HB : Hid (bA = true) := by show _ = _; rw [HbA.out]; simp [*]
          clear HbA
          go_quiet (fail)
          go_wp2_with fail
          go_meet
          exact ⟨by rw [HB.out], below_drewN (Below.refl _ _) _⟩
        have g0 : decide (z0 < 0) = false := decide_eq_false q0
        by_cases q1 : (nL : Int) ≤ z0
        · have HB : Hid (bA = true) := by show _ = _; rw [HbA.out]; simp [*]
          clear HbA
          go_quiet (fail)
          go_wp2_with fail
          go_meet
          exact ⟨by rw [HB.out], below_drewN (Below.refl _ _) _⟩
        have g1 : decide ((nL : Int) ≤ z0) = false := decide_eq_false q1
        by_cases q2 : z1 < 0
        · have HB : Hid (bA = true) := by show _ = _; rw [HbA.out]; simp [*]
          clear HbA
          go_quiet (fail)
          go_wp2_with fail
          go_meet
          exact ⟨by rw [HB.out], below_drewN (Below.refl _ _) _⟩
        have g2 : decide (z1 < 0) = false := decide_eq_false q2
        by_cases q3 : (nR : Int) ≤ z1
        · have HB : Hid (bA = true) := by show _ = _; rw [HbA.out]; simp [*]
          clear HbA
          go_quiet (fail)
          go_wp2_with fail
          go_meet
          exact ⟨by rw [HB.out], below_drewN (Below.refl _ _) _⟩
        have g3 : decide ((nR : Int) ≤ z1) = false := decide_eq_false q3
        have HB : Hid (bA = false) := by show _ = _; rw [HbA.out]; simp [*]
        clear HbA
        go_quiet (fail)
        go_wp2_with fail
        go_meet
        exact ⟨by rw [HB.out], below_drewN (Below.refl _ _) _⟩
      case rest =>
        obtain ⟨rfl, hbc⟩ := hcut
        by_cases hA : z0 < 0 ∨ (nL : Int) ≤ z0 ∨ z1 < 0 ∨ (nR : Int) ≤ z1
        · have HT : Hid (bA = true) := by show _ = _; rw [HbA.out]; simp; omega
          have HE : Hid (E = 2) := by show _ = _; rw [← HK3.out, if_pos hA]
          have HB4 := hid (below_tr (below_tr HB3.out HBr.out) hbc)
          rw [HT.out]
          clear HK3 hA HbA hbc
          go_wp2_with fail
          go_ret
          exact ⟨by rw [HE.out]; rfl, HB4.out⟩
        have HT : Hid (bA = false) := by show _ = _; rw [HbA.out]; simp; omega
        have HK4 : Hid ((if (match pvA s.A k with | none => false | some b => decide (z0 ≤ b.getD 0 0) || decide (z1 ≤ b.getD 1 0)) = true then 10 else ancG nL nR (some a) (s.A.drop (k + 1))) = E) := by
          have h := HK3.out
          rw [if_neg hA] at h
          exact h
        rw [HT.out]
        have HBc := hid (below_tr HBr.out hbc)
        have d0c := Below.keeps hbc _ _ d0
        have d1c := Below.keeps hbc _ _ d1
        clear HK3 hA HbA hbc d0 d1 x0r y0r cu HBr HT
        obtain ⟨bB, hbB⟩ : ∃ bB : Bool, bB = (match pvA s.A k with | none => false | some b => decide (z0 ≤ b.getD 0 0) || decide (z1 ≤ b.getD 1 0)) := ⟨_, rfl⟩
        have HbB := hid hbB
        rw [← hbB] at HK4
        clear hbB
        go_upto_region 12 with fail
        go_cut [67] from 67 to 96 (fun v wx => v = .bool bB ∧ Below wc.heap.size wc wx)
        case first => as_aux_lemma =>
          by_cases hk0 : k = 0
          · have g0 : decide ((0 : Int) < (k : Int)) = false := decide_eq_false (by omega)
            have g00 : decide (0 < k) = false := decide_eq_false (by omega)
            have HB : Hid (bB = false) := by show _ = _; rw [HbB.out]; unfold pvA; rw [if_pos hk0]
            clear HbB hk0
            go_quiet (fail)
            go_wp2_with fail
            go_meet
            exact ⟨by rw [HB.out], below_drewN (Below.refl _ _) _⟩
          have q0 : (0 : Int) < (k : Int) := by omega
          have q00 : 0 < k := by omega
          have g00 : decide (0 < k) = true := decide_eq_true q00
          have HAr := HAW.out wc (below_tr HB3.out HBc.out)
          obtain ⟨_, _, hee, _, _, hcell⟩ := HAr.open
          cases hee
          obtain ⟨pa, b', off', u', hx', he', cu'', hu'⟩ := hcell (k - 1) (by omega)
          cases he'
          obtain ⟨bp, op, cp', rfl, hcp2, p0, p1⟩ := two_rd hu' (H2.out (k - 1) pa (by omega) hx')
          have HP2 : Hid (bB = (decide (z0 ≤ pa.getD 0 0) || decide (z1 ≤ pa.getD 1 0))) := by
            show _ = _
            rw [HbB.out]
            unfold pvA
            rw [if_neg hk0, hx']
          generalize pa.getD 0 0 = y0 at *
          generalize pa.getD 1 0 = y1 at *
          obtain ⟨m, hm⟩ : ∃ m, m = k - 1 := ⟨_, rfl⟩
          rw [← hm] at cu''
          have t1 : IntKind.i64.wrap ((k : Int) - 1) = (m : Int) := by rw [show (k : Int) - 1 = (m : Int) by omega]; exact IntWalk.i64_in _ (by omega)
          have t2 : (0 : Int) ≤ (m : Int) := by omega
          have t4 : (m : Int) < (s.A.length : Int) := by omega
          have t5 : m < s.A.length := by omega
          clear hm hk0 hx' hu' hcell HbB
          by_cases q1 : z0 ≤ y0
          · have HB : Hid (bB = true) := by show _ = _; rw [HP2.out]; simp [*]
            clear HP2
            go_quiet (fail)
            go_wp2_with fail
            go_meet
            exact ⟨by rw [HB.out], below_drewN (Below.refl _ _) _⟩
          have g1 : decide (z0 ≤ y0) = false := decide_eq_false q1
          by_cases q2 : z1 ≤ y1
          · have HB : Hid (bB = true) := by show _ = _; rw [HP2.out]; simp [*]
            clear HP2
            go_quiet (fail)
            go_wp2_with fail
            go_meet
            exact ⟨by rw [HB.out], below_drewN (Below.refl _ _) _⟩
          have g2 : decide (z1 ≤ y1) = false := decide_eq_false q2
          have HB : Hid (bB = false) := by show _ = _; rw [HP2.out]; simp [*]
          clear HP2
          go_quiet (fail)
          go_wp2_with fail
          go_meet
          exact ⟨by rw [HB.out], below_drewN (Below.refl _ _) _⟩
        case rest =>
          obtain ⟨rfl, hbc⟩ := hcut
          have HBd := hid (below_tr HBc.out hbc)
          cases bB with
          | true =>
            have HE : Hid (E = 10) := by show _ = _; rw [← HK4.out, if_pos rfl]
            clear HK4 hbc
            go_wp2_with fail
            go_ret
            exact ⟨by rw [HE.out]; rfl, below_tr HB3.out HBd.out⟩
          | false =>
            have HK5 : Hid (ancG nL nR (pvA s.A (k + 1)) (s.A.drop (k + 1)) = E) := by
              have h := HK4.out
              rw [if_neg (by simp)] at h
              rw [HPS.out]
              exact h
            have H3 : Hid (∀ j y, j < k + 1 → s.A[j]? = some y → y.length = 2) := fun j y hj hy => by
              by_cases hjk : j = k
              · subst hjk
                rw [HX.out] at hy
                cases hy
                exact HE2.out
              · exact H2.out j y (by omega) hy
            clear HK4 hbc
            go_wp2_with fail
            go_roundw
            case rel => exact ⟨k + 1, by omega, by go_num, HK5.out, H3.out, HBd.out⟩
            case measure => simp [intOf]; omega
    · have hki : ¬ (k : Int) < (s.A.length : Int) := by omega
      have HE : Hid (E = 0) := by
        have h := HK.out
        rw [List.drop_of_length_le (by omega), ancG] at h
        exact h.symm
      clear HK
      go_wp2_with fail
      go_ret
      exact ⟨by rw [HE.out]; rfl, below_tr HB3.out HBr.out⟩
end Go.Proofs.Ytlneimjenjpbnaa
