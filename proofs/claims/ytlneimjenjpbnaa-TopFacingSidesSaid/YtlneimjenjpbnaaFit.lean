/-
  (sides).pages and the function that it hands back.
-/
import Derived.Test.YtlneimjenjpbnaaFpl
import Derived.Test.YtlneimjenjpbnaaWid2
import Derived.Test.YtlneimjenjpbnaaOldS
import Derived.BigFrameIn
namespace Go.Proofs.Ytlneimjenjpbnaa
open Go.RowKit
attribute [local go_sem] Oper.semAt_some

theorem wpListIn_load_row {F : Fence} {m : Nat} {P : Program} {ops : Array Oper} {rest : List Oper} {o : Oper} {a : Act} {w : World} {Q : Exit → Act → World → Prop} (hgd : o.guard = none) (ty : TypeId) (x : Operand) (ho : o.op = .load ty x)
    (g : Nat) (hx : a.eval x = .pointer (some ⟨g, 0, none⟩)) (t : TypeId) (cs : Array Value) (fr : Nat × Nat) (d : TypeDesc) (hg : w.heap[g]? = some (.cells cs t fr))
    (hu : P.underlying ty = some d) (hd : (match d with | .struct _ | .array _ _ => true | _ => false) = true) (hi : (P.info? ty).map (·.size) = some cs.size)
    (h : wpListIn F m P ops Q rest (a.put o.dst (.agg cs)) w) : wpListIn F m P ops Q (o :: rest) a w := by
  refine wpListIn_plain hgd fun K hK' => ?_
  unfold Oper.wpIn
  refine ⟨?_, ?_⟩
  · simp [Oper.about, ho]
  · rw [Oper.semAt_plain F _ _ (by rw [ho]; intro c hc'; cases hc')]
    simp only [execOp, ho, hx, Instr.loadAt, Instr.sureAddr, Sem.run_bind, Sem.run_pure, Result.andThen_ok, run_loadVar_row w g t ty cs fr d hg hu hd hi]
    exact hK' _ _ h
theorem wpListIn_load_rowG {F : Fence} {m : Nat} {P : Program} {ops : Array Oper} {rest : List Oper} {o : Oper} {a : Act} {w : World} {Q : Exit → Act → World → Prop} (hw : Region.wanted o (yielded ops a.tmps) = true) (ty : TypeId) (x : Operand) (ho : o.op = .load ty x)
    (g : Nat) (hx : a.eval x = .pointer (some ⟨g, 0, none⟩)) (t : TypeId) (cs : Array Value) (fr : Nat × Nat) (d : TypeDesc) (hg : w.heap[g]? = some (.cells cs t fr))
    (hu : P.underlying ty = some d) (hd : (match d with | .struct _ | .array _ _ => true | _ => false) = true) (hi : (P.info? ty).map (·.size) = some cs.size)
    (h : wpListIn F m P ops Q rest (a.put o.dst (.agg cs)) w) : wpListIn F m P ops Q (o :: rest) a w := by
  refine wpListIn_step fun K hK' => ?_
  rw [if_pos hw]
  unfold Oper.wpIn
  refine ⟨?_, ?_⟩
  · simp [Oper.about, ho]
  · rw [Oper.semAt_plain F _ _ (by rw [ho]; intro c hc'; cases hc')]
    simp only [execOp, ho, hx, Instr.loadAt, Instr.sureAddr, Sem.run_bind, Sem.run_pure, Result.andThen_ok, run_loadVar_row w g t ty cs fr d hg hu hd hi]
    exact hK' _ _ h
theorem fend_any2 (s : FS) (x : FV) (w : World) (hr : FsR w x s) :
    Calls Try.prog 14 #[.agg (fsC s x)] w fun e w' => e = .returned (.agg #[.int .i64 s.L.n, .int .i64 s.R.n]) ∧ Below w.heap.size w w' := by
  obtain ⟨l1, l2, l3, r1, r2, r3, a, l, r⟩ := x
  obtain ⟨a1, c1, e1, _⟩ := hr.l.l.open
  obtain ⟨a5, c5, e5, _⟩ := hr.r.l.open
  dsimp only at e1 e5
  subst e1 e5
  exact fend_any s a1 a5 c1 c5 _ _ _ _ _ _ _ _ _ _ _ w
/-- What the iterator reads. -/
structure FgM (s : FS) (x : FV) (f : Nat × Nat) (Bs Bf : Nat) (W : World) : Prop where
  bs : Row W Bs (fsC s x) 46
  bf : Row W Bf #[.int .i64 f.1, .int .i64 f.2] 48
  rd : FsR W x s
/-- The price of a page, out of the prices that lie in memory. -/
theorem prc_cell {W : World} {v : Value} {p : PP} {f i : Nat} (h : RdMC 2 encP W v (prcA p)) (h1 : f ≤ i) (h2 : i ≤ p.n) (h3 : ∀ j, f ≤ j → j < i → (pgF p f j).2 ≠ 22) :
    ∃ b off c n b2 off2 c2, v = .slice (some ⟨b, off, none⟩) (p.n + 1) c ∧ W.cell? ⟨b, off + f, none⟩ = some (.slice (some ⟨b2, off2, none⟩) n c2) ∧ i - f < n ∧
      W.cell? ⟨b2, off2 + (i - f) * 2, none⟩ = some (.int .i64 (pgF p f i).1) ∧ W.cell? ⟨b2, off2 + (i - f) * 2 + 1, none⟩ = some (.int .i64 (pgF p f i).2) ∧ n ≤ c2 ∧ p.n + 1 ≤ c := by
  obtain ⟨a, c, hv, hc, hm, hcell⟩ := h
  obtain ⟨b, off, u, rfl, cu, hu⟩ := hcell f _ (prcA_at (Nat.le_trans h1 h2))
  obtain ⟨a2, c2, rfl, hc2, hm2, hcell2⟩ := hu
  have hx := prs_at h1 h2 h3
  obtain ⟨b2, off2, rfl, hcc⟩ := hcell2 _ _ hx
  refine ⟨b, off, c, (prs p f).length, b2, off2, c2, ?_, cu, (List.getElem?_eq_some_iff.1 hx).1, hcc 0 _ rfl, hcc 1 _ rfl, hc2, ?_⟩
  · rw [hv]; unfold prcA; rw [prcM_len]; rfl
  · unfold prcA at hc; rw [prcM_len] at hc; exact hc

set_option maxRecDepth 100000 in
set_option maxHeartbeats 8000000 in
theorem fpages1_in (n : Nat) (hn : 1 ≤ n) (s : FS) (hok : FsOk s) (hA2 : ∀ a ∈ s.A, a.length = 2) (x : FV) (f : Nat × Nat) (hf1 : f.1 ≤ s.L.n) (hf2 : f.2 ≤ s.R.n) (Bs Bf N : Nat) (hN : (fpg s f).length ≤ N)
    (M : World → Prop) (hMP : ∀ A, M A → FgM s x f Bs Bf A) (hMB : ∀ A C, M A → Below A.heap.size A C → M C)
    (Kp : World → World → Prop) (hK1 : ∀ A C, Kp A C → M A → M C)
    (yl : Nat) (J Jx : List ((Nat × Nat) × Int) → World → Prop)
    (hY : ∀ pre x W, x ∈ fpg s f → J pre W → pre.length < N → YieldAt Fence.wide (n - 1) Try.prog yl #[.agg #[.int .i64 (x.1.1 : Int), .int .i64 (x.1.2 : Int)], .int .i64 x.2] W fun e W' =>
      (e = .returned (.bool true) ∧ J (pre ++ [x]) W' ∧ Kp W W') ∨ (e = .returned (.bool false) ∧ Jx (pre ++ [x]) W'))
    (W : World) (hK2 : ∀ A C (k : Nat) cs t, W.heap.size ≤ k → Kp A C → Row A k cs t → Row C k cs t) (hJA : AbidesFrom W.heap.size J) (hM : M W) (h0 : J [] W) :
    CallsIn Fence.wide n Try.prog 31 #[.func (.yield yl) #[] #[], .pointer (some ⟨Bs, 0, none⟩), .pointer (some ⟨Bf, 0, none⟩)] W fun e W' => (∃ v, e = .returned v) ∧
      (J (fpg s f) W' ∨ (∃ pre : List ((Nat × Nat) × Int), (∃ r, pre ++ r = fpg s f) ∧ Jx pre W')) := by
  have HK1 := hid hK1; clear hK1
  have HK2 := hid hK2; clear hK2
  have HMP := hid hMP; clear hMP
  have HMB := hid hMB; clear hMB
  have HY := hid hY; clear hY
  have HJB : Hid (∀ pre W1 W2, J pre W1 → Below W1.heap.size W1 W2 → J pre W2) := fun pre W1 W2 hj hb => hJA _ _ _ none hj ⟨hb.os, hb.tape, hb.output, hb.size, fun k hk _ => hb.block k hk⟩ (fun r e => by cases e)
  clear hJA
  have HOK := hid hok
  have HA2 := hid hA2
  have nL := hok.l.n4
  have nR := hok.r.n4
  clear hok hA2
  have hm := HMP.out _ hM
  have HM0 := hid hM
  have HNL := hid hN
  clear hM hN
  obtain ⟨f1, f2⟩ := f
  dsimp only at hf1 hf2
  obtain ⟨L, hL⟩ : ∃ L, L = fpg s (f1, f2) := ⟨_, rfl⟩
  rw [← hL] at HNL
  rw [← hL]
  have HLL := hid hL
  clear hL
  have HS0 := hid hm.bs
  have c1 := hm.bf.cell 0 rfl
  have c2 := hm.bf.cell 1 rfl
  have HE := hid (fend_any2 s x W hm.rd)
  clear hm
  refine callsIn_of_wp Try.func31 rfl trivial ?_ rfl
  simp only [Try.ntmps31, List.size_toArray, List.length_cons, List.length_nil, Nat.reduceAdd, Nat.reduceSub, Array.replicate_succ, Array.replicate_zero, List.push_toArray, List.append_toArray, List.nil_append, List.cons_append]
  gi_wp2_with (first | (refine wpListIn_load_row rfl 46 _ rfl Bs rfl 46 _ (0, 0) _ HS0.out Try.underlying46 rfl (by kernel_rfl) ?_) | fail)
  refine ⟨trivial, ?_⟩
  gi_at_call 14
  refine (callsIn_wide.2 HE.out).mono ?_
  rintro e w2 ⟨rfl, hb2⟩
  have HJ3 := hid (HJB.out _ _ _ h0 (below_tr hb2 (below_al w2 (.cells #[.int .i64 s.L.n, .int .i64 s.R.n] 48))))
  have HM3 := hid (HMB.out _ _ HM0.out (below_tr hb2 (below_al w2 (.cells #[.int .i64 s.L.n, .int .i64 s.R.n] 48))))
  have HR3 := hid (row_nw w2 #[.int .i64 s.L.n, .int .i64 s.R.n] 48 rfl)
  have HZ : Hid (W.heap.size ≤ w2.heap.size) := hb2.size
  have d1 := Below.keeps (below_tr hb2 (below_al w2 (.cells #[.int .i64 s.L.n, .int .i64 s.R.n] 48))) _ _ c1
  clear c1 c2 h0 HM0 hb2 HE HS0
  gi_wp2_with fail
  clear d1
  generalize w2.alloc (.cells #[.int .i64 s.L.n, .int .i64 s.R.n] 48) = w3 at *
  generalize w2.heap.size = Z at *
  gi_loopw [5] (fun i wr => ∃ (t : Nat) (pre : List ((Nat × Nat) × Int)), f1 ≤ t ∧ t ≤ s.L.n + 1 ∧ i = .int .i64 t ∧ Hid (∀ j, f1 ≤ j → j < t → (pgF s.L f1 j).2 ≠ 22) ∧ Hid (pre ++ fpgL s (f1, f2) t (s.L.n + 1 - t) = L) ∧ J pre wr ∧ Hid (M wr) ∧ Hid (Row wr Z #[.int .i64 s.L.n, .int .i64 s.R.n] 48)) (fun i _ => s.L.n + 1 - (intOf i).toNat)
  case atStart => exact ⟨f1, [], Nat.le_refl _, by omega, rfl, fun j h1 h2 => by omega, by rw [List.nil_append, HLL.out]; exact rfl, HJ3.out, HM3.out, HR3.out⟩
  case round =>
    obtain ⟨w1, rfl⟩ : ∃ w1 : World, w1 = wr := ⟨_, rfl⟩
    obtain ⟨t, pre, hft, ht, rfl, HNO, HP, hJ, HM, HR⟩ := hrel
    clear HJ3 HM3 HR3
    have z0 := HR.out.cell 0 (x := .int .i64 s.L.n) rfl
    have hn4L : s.L.n ≤ 4096 := nL
    have hn4R : s.R.n ≤ 4096 := nR
    by_cases hlt : t ≤ s.L.n
    · have hti : (t : Int) ≤ (s.L.n : Int) := by omega
      have hm := HMP.out _ HM.out
      obtain ⟨b, off, cc, n1, b2, o2, cc2, hv, q1, q2, q3, q4, q5, q6⟩ := prc_cell hm.rd.pl hft hlt HNO.out
      have k11 := hm.bs.cell 11 (x := x.l) rfl
      rw [hv] at k11
      have kf := hm.bf.cell 0 rfl
      have kf2 := hm.bf.cell 1 rfl
      clear hm hv
      obtain ⟨c, e, hce⟩ : ∃ c e, pgF s.L f1 t = (c, e) := ⟨_, _, rfl⟩
      rw [hce] at q3 q4
      dsimp only at q3 q4
      have HCE := hid hce
      clear hce
      obtain ⟨d, hd⟩ : ∃ d, d = t - f1 := ⟨_, rfl⟩
      rw [← hd] at q2 q3 q4
      have u1 : IntKind.i64.wrap ((t : Int) - (f1 : Int)) = (d : Int) := by rw [show (t : Int) - (f1 : Int) = (d : Int) by omega]; exact IntWalk.i64_in _ (by omega)
      have u2 : (0 : Int) ≤ (d : Int) := by omega
      have u3 : (d : Int) < (n1 : Int) := by omega
      have u4 : (f1 : Int) < ((s.L.n + 1 : Nat) : Int) := by omega
      have u5 : (0 : Int) ≤ (f1 : Int) := by omega
      have ff := fun (p : Addr) (y : Value) (h : w1.cell? p = some y) => cell_al h (.cells #[.int .i64 0, .int .i64 0] 73)
      have k11' := ff _ _ k11
      have kf' := ff _ _ kf
      have q1' := ff _ _ q1
      have q3' := ff _ _ q3
      have q4' := ff _ _ q4
      clear hd ff
      gi_wp2_with fail
      gi_region
      clear k11' kf' q1' q3' q4' k11 kf q1 q3 q4 q5 q6 u1 u2 u3 u4 u5 z0 hti
      have hb4 : Below w1.heap.size w1 (w1.alloc (.cells #[.int .i64 c, .int .i64 e] 73)).drew := below_tr (below_al w1 _) (Below.refl _ _).drew
      have HJ4 := hid (HJB.out _ _ _ hJ hb4)
      have HM4 := hid (HMB.out _ _ HM.out hb4)
      have HR4 := hid (HR.out.below hb4)
      have HA4 : Hid (Row (w1.alloc (.cells #[.int .i64 c, .int .i64 e] 73)).drew w1.heap.size #[.int .i64 c, .int .i64 e] 73) := (row_nw w1 #[.int .i64 c, .int .i64 e] 73 rfl).below (Below.refl _ _).drew
      have HZ1 : Hid (W.heap.size ≤ w1.heap.size) := by have := HR.out.lt; have := HZ.out; show _ ≤ _; omega
      have kf3 := Below.keeps hb4 _ _ kf2
      clear hJ HM HR hb4 kf2
      generalize (w1.alloc (.cells #[.int .i64 c, .int .i64 e] 73)).drew = w4 at *
      generalize w1.heap.size = Za at *
      have a1 := HA4.out.cell 1 (x := .int .i64 e) rfl
      by_cases h22 : e = 22
      · as_aux_lemma =>
          have i1 : (e == 22) = true := by rw [h22]; rfl
          have HD : Hid (pre = L) := by
            have h := HP.out
            rw [fpgL_stop (by rw [HCE.out]; exact h22), List.append_nil] at h
            exact h
          clear HP h22
          gi_wp2
          refine bodyPost_ret (results_none rfl _ _ _) rfl ?_
          exact ⟨⟨_, rfl⟩, .inl (by rw [← HD.out]; exact HJ4.out)⟩
      · have i1 : (e == 22) = false := beq_eq_false_iff_ne.2 h22
        have HNO2 : Hid (∀ j, f1 ≤ j → j < t + 1 → (pgF s.L f1 j).2 ≠ 22) := fun j h1 h2 => by
          by_cases h3 : j = t
          · rw [h3, HCE.out]; exact h22
          · exact HNO.out j h1 (by omega)
        have HP2 : Hid (pre ++ (fpgR s (f1, f2) t f2 (s.R.n + 1 - f2) ++ fpgL s (f1, f2) (t + 1) (s.L.n - t)) = L) := by
          have h := HP.out
          rw [show s.L.n + 1 - t = (s.L.n - t) + 1 by omega, fpgL_go (by rw [HCE.out]; exact h22)] at h
          exact h
        have HL1 : Hid (s.L.n - t = s.L.n + 1 - (t + 1)) := by show _ = _; omega
        clear HP h22 HNO
        gi_wp2_with fail
        clear a1 kf3
        gi_loopw [7] (fun q wi => ∃ (k : Nat) (pre2 : List ((Nat × Nat) × Int)), f2 ≤ k ∧ k ≤ s.R.n + 1 ∧ q = .int .i64 k ∧ Hid (∀ j, f2 ≤ j → j < k → (pgF s.R f2 j).2 ≠ 22) ∧ Hid (pre2 ++ (fpgR s (f1, f2) t k (s.R.n + 1 - k) ++ fpgL s (f1, f2) (t + 1) (s.L.n - t)) = L) ∧ J pre2 wi ∧ Hid (M wi) ∧ Hid (Row wi Z #[.int .i64 s.L.n, .int .i64 s.R.n] 48) ∧ Hid (Row wi Za #[.int .i64 c, .int .i64 e] 73)) (fun q _ => s.R.n + 1 - (intOf q).toNat)
        case atStart => exact ⟨f2, pre, Nat.le_refl _, by omega, rfl, fun j h1 h2 => by omega, HP2.out, HJ4.out, HM4.out, HR4.out, HA4.out⟩
        case round =>
          obtain ⟨k, pre2, hfk, hk, rfl, HNR, HQ, hJi, HMi, HRi, HAi⟩ := hrel
          clear HJ4 HM4 HR4 HA4 HP2
          have z1 := HRi.out.cell 1 (x := .int .i64 s.R.n) rfl
          by_cases hkt : k ≤ s.R.n
          · have hki : (k : Int) ≤ (s.R.n : Int) := by omega
            have ht0 := HMP.out _ HMi.out
            have kb := cell_al (ht0.bf.cell 0 (x := .int .i64 f1) rfl) (.cells #[.int .i64 t, .int .i64 k] 48)
            have kb1 := cell_al (ht0.bf.cell 1 (x := .int .i64 f2) rfl) (.cells #[.int .i64 t, .int .i64 k] 48)
            clear ht0
            by_cases hself : t = f1 ∧ k = f2
            · as_aux_lemma =>
                obtain ⟨h1, h2⟩ := hself
                have HQ2 : Hid (pre2 ++ (fpgR s (f1, f2) t (k + 1) (s.R.n + 1 - (k + 1)) ++ fpgL s (f1, f2) (t + 1) (s.L.n - t)) = L) := by
                  have h := HQ.out
                  rw [show s.R.n + 1 - k = (s.R.n + 1 - (k + 1)) + 1 by omega, fpgR_self (by rw [h1, h2])] at h
                  exact h
                have HNR2 : Hid (∀ j, f2 ≤ j → j < k + 1 → (pgF s.R f2 j).2 ≠ 22) := fun j h3 h4 => by
                  rw [show j = f2 by omega]; unfold pgF; simp
                have HJ6 := hid (HJB.out _ _ _ hJi (below_al wr (.cells #[.int .i64 t, .int .i64 k] 48)))
                have HM6 := hid (HMB.out _ _ HMi.out (below_al wr (.cells #[.int .i64 t, .int .i64 k] 48)))
                have HR6 := hid (HRi.out.al (.cells #[.int .i64 t, .int .i64 k] 48))
                have HA6 := hid (HAi.out.al (.cells #[.int .i64 t, .int .i64 k] 48))
                have e1 : ((t : Int) = (f1 : Int)) = True := by rw [h1]; simp
                have e2 : ((k : Int) = (f2 : Int)) = True := by rw [h2]; simp
                clear h1 h2 HQ hJi HMi HRi HAi
                gi_wp2_with fail
                go_roundw
                case rel => exact ⟨k + 1, pre2, by omega, by omega, by go_num, HNR2.out, HQ2.out, HJ6.out, HM6.out, HR6.out, HA6.out⟩
                case measure => simp [intOf]; omega
            · have HNE : Hid ((t, k) ≠ (f1, f2)) := fun h => hself (Prod.mk.inj h)
              have hb6 := below_al wr (.cells #[.int .i64 t, .int .i64 k] 48)
              have HJ6 := hid (HJB.out _ _ _ hJi hb6)
              have HM6 := hid (HMB.out _ _ HMi.out hb6)
              have HR6 := hid (HRi.out.below hb6)
              have HA6 := hid (HAi.out.below hb6)
              have HT6 := hid (row_nw wr #[.int .i64 t, .int .i64 k] 48 rfl)
              have HZ6 : Hid (W.heap.size ≤ wr.heap.size) := by have := HRi.out.lt; have := HZ.out; show _ ≤ _; omega
              have hor : (((t : Int) = (f1 : Int)) = True ∧ ((k : Int) = (f2 : Int)) = False) ∨ (((t : Int) = (f1 : Int)) = False ∧ (True ∧ ((k : Int) = (k : Int)) = True)) := by
                by_cases h1 : t = f1
                · have h2 : ¬ k = f2 := fun h => hself ⟨h1, h⟩
                  exact .inl ⟨by rw [h1]; simp, by simp; omega⟩
                · exact .inr ⟨by simp; omega, trivial, by simp⟩
              clear hself hJi HMi HRi HAi
              rcases hor with ⟨e1, e2⟩ | ⟨e1, _, e2⟩
              all_goals as_aux_lemma =>
                gi_wp2_with fail
                clear e1 e2 kb kb1 z1
                generalize wr.alloc (.cells #[.int .i64 t, .int .i64 k] 48) = w6 at *
                generalize wr.heap.size = Zt at *
                have hm := HMP.out _ HM6.out
                obtain ⟨bb, off', cc', n1', b2', o2', cc2', hv, q1, q2, q3, q4, q5, q6⟩ := prc_cell hm.rd.pr hfk hkt HNR.out
                have k12 := hm.bs.cell 12 (x := x.r) rfl
                rw [hv] at k12
                have kf := hm.bf.cell 1 rfl
                clear hm hv
                obtain ⟨c', e', hce⟩ : ∃ c e, pgF s.R f2 k = (c, e) := ⟨_, _, rfl⟩
                rw [hce] at q3 q4
                dsimp only at q3 q4
                have HCR := hid hce
                clear hce
                obtain ⟨d, hd⟩ : ∃ d, d = k - f2 := ⟨_, rfl⟩
                rw [← hd] at q2 q3 q4
                have u1 : IntKind.i64.wrap ((k : Int) - (f2 : Int)) = (d : Int) := by rw [show (k : Int) - (f2 : Int) = (d : Int) by omega]; exact IntWalk.i64_in _ (by omega)
                have u2 : (0 : Int) ≤ (d : Int) := by omega
                have u3 : (d : Int) < (n1' : Int) := by omega
                have u4 : (f2 : Int) < ((s.R.n + 1 : Nat) : Int) := by omega
                have u5 : (0 : Int) ≤ (f2 : Int) := by omega
                have ff := fun (p : Addr) (y : Value) (h : w6.cell? p = some y) => cell_al h (.cells #[.int .i64 0, .int .i64 0] 73)
                have k12' := ff _ _ k12
                have kf' := ff _ _ kf
                have q1' := ff _ _ q1
                have q3' := ff _ _ q3
                have q4' := ff _ _ q4
                clear hd ff
                gi_region
                clear k12' kf' q1' q3' q4' k12 kf q1 q3 q4 q5 q6 u1 u2 u3 u4 u5
                have hb7 : Below w6.heap.size w6 (w6.alloc (.cells #[.int .i64 c', .int .i64 e'] 73)).drew := below_tr (below_al w6 _) (Below.refl _ _).drew
                have HJ7 := hid (HJB.out _ _ _ HJ6.out hb7)
                have HM7 := hid (HMB.out _ _ HM6.out hb7)
                have HR7 := hid (HR6.out.below hb7)
                have HA7 := hid (HA6.out.below hb7)
                have HT7 := hid (HT6.out.below hb7)
                have HB7 : Hid (Row (w6.alloc (.cells #[.int .i64 c', .int .i64 e'] 73)).drew w6.heap.size #[.int .i64 c', .int .i64 e'] 73) := (row_nw w6 #[.int .i64 c', .int .i64 e'] 73 rfl).below (Below.refl _ _).drew
                clear HJ6 HM6 HR6 HA6 HT6 hb7
                generalize (w6.alloc (.cells #[.int .i64 c', .int .i64 e'] 73)).drew = w7 at *
                generalize w6.heap.size = Zb at *
                have b1 := HB7.out.cell 1 (x := .int .i64 e') rfl
                have a1 := HA7.out.cell 1 (x := .int .i64 e) rfl
                by_cases h22 : e' = 22
                · as_aux_lemma =>
                    have i2 : (e' == 22) = true := by rw [h22]; rfl
                    have HQ2 : Hid (pre2 ++ fpgL s (f1, f2) (t + 1) (s.L.n + 1 - (t + 1)) = L) := by
                      have h := HQ.out
                      rw [fpgR_stop HNE.out (by rw [HCR.out]; exact h22), List.nil_append, HL1.out] at h
                      exact h
                    clear HQ h22
                    gi_wp2_with fail
                    go_roundw
                    case rel => exact ⟨t + 1, pre2, by omega, by omega, by go_num, HNO2.out, HQ2.out, HJ7.out, HM7.out, HR7.out⟩
                    case measure => simp [intOf]; omega
                · as_aux_lemma =>
                    have i2 : (e' == 22) = false := beq_eq_false_iff_ne.2 h22
                    have HNR2 : Hid (∀ j, f2 ≤ j → j < k + 1 → (pgF s.R f2 j).2 ≠ 22) := fun j h1 h2 => by
                      by_cases h3 : j = k
                      · rw [h3, HCR.out]; exact h22
                      · exact HNR.out j h1 (by omega)
                    have HN22 : Hid ((pgF s.R f2 k).2 ≠ 22) := by show _ ≠ _; rw [HCR.out]; exact h22
                    clear h22
                    have HSK : Hid (¬ ((pgF s.L f1 t).2 = 0 ∧ (pgF s.R f2 k).2 = 0 ∧ ancB s.A (f1, f2) (t, k) = true) → pre2 ++ (fpgR s (f1, f2) t (k + 1) (s.R.n + 1 - (k + 1)) ++ fpgL s (f1, f2) (t + 1) (s.L.n - t)) = L) := fun h0 => by
                      have h := HQ.out
                      rw [show s.R.n + 1 - k = (s.R.n + 1 - (k + 1)) + 1 by omega, fpgR_no HNE.out HN22.out h0] at h
                      exact h
                    by_cases he : e = 0
                    case neg => as_aux_lemma =>
                      have i3 : (e == 0) = false := beq_eq_false_iff_ne.2 he
                      have HQ2 := hid (HSK.out (fun h => he (by have h1 := h.1; rw [HCE.out] at h1; exact h1)))
                      clear he HSK HQ
                      gi_wp2_with fail
                      refine ⟨trivial, ?_⟩
                      gi_wp2_with fail
                      refine ⟨fun _ h => (by cases h), ?_⟩
                      gi_wp2_with fail
                      go_roundw
                      case rel => exact ⟨k + 1, pre2, by omega, by omega, by go_num, HNR2.out, HQ2.out, HJ7.out, HM7.out, HR7.out, HA7.out⟩
                      case measure => simp [intOf]; omega
                    have i3 : (e == 0) = true := by rw [he]; rfl
                    by_cases he' : e' = 0
                    case neg => as_aux_lemma =>
                      have i4 : (e' == 0) = false := beq_eq_false_iff_ne.2 he'
                      have HQ2 := hid (HSK.out (fun h => he' (by have h1 := h.2.1; rw [HCR.out] at h1; exact h1)))
                      clear he he' HSK HQ
                      gi_wp2_with fail
                      refine ⟨trivial, ?_⟩
                      gi_wp2_with fail
                      refine ⟨fun _ h => (by cases h), ?_⟩
                      gi_wp2_with fail
                      go_roundw
                      case rel => exact ⟨k + 1, pre2, by omega, by omega, by go_num, HNR2.out, HQ2.out, HJ7.out, HM7.out, HR7.out, HA7.out⟩
                      case measure => simp [intOf]; omega
                    have i4 : (e' == 0) = true := by rw [he']; rfl
                    have HE0 := hid he
                    have HE1 := hid he'
                    clear he he'
                    have hm7 := HMP.out _ HM7.out
                    have HBS := hid hm7.bs
                    have y1 := hm7.bf.cell 0 (x := .int .i64 f1) rfl
                    have y2 := hm7.bf.cell 1 (x := .int .i64 f2) rfl
                    have HAN := hid (anc_any s x (f1, f2) (t, k) w7 hm7.rd.a HA2.out)
                    have t1 := HT7.out.cell 0 (x := .int .i64 t) rfl
                    have t2 := HT7.out.cell 1 (x := .int .i64 k) rfl
                    clear hm7
                    gi_wp2_with (first | (refine wpListIn_load_rowG rfl 46 _ rfl Bs rfl 46 _ (0, 0) _ HBS.out Try.underlying46 rfl (by kernel_rfl) ?_) | fail)
                    refine ⟨trivial, ?_⟩
                    gi_at_call 32
                    refine (callsIn_wide.2 HAN.out).mono ?_
                    rintro e8 w8 ⟨rfl, hb8⟩
                    have HJ8 := hid (HJB.out _ _ _ HJ7.out hb8)
                    have HM8 := hid (HMB.out _ _ HM7.out hb8)
                    have HR8 := hid (HR7.out.below hb8)
                    have HA8 := hid (HA7.out.below hb8)
                    have HT8 := hid (HT7.out.below hb8)
                    have HB8 := hid (HB7.out.below hb8)
                    clear HJ7 HM7 HR7 HA7 HT7 HB7 hb8 y1 y2 t1 t2 a1 b1 HAN HBS
                    by_cases han : ancB s.A (f1, f2) (t, k) = true
                    case neg => as_aux_lemma =>
                      have han' : ancB s.A (f1, f2) (t, k) = false := by simpa using han
                      have HQ2 := hid (HSK.out (fun h => han h.2.2))
                      rw [han']
                      clear han han' HSK HQ
                      gi_wp2_with fail
                      refine ⟨fun _ h => (by cases h), ?_⟩
                      gi_wp2_with fail
                      go_roundw
                      case rel => exact ⟨k + 1, pre2, by omega, by omega, by go_num, HNR2.out, HQ2.out, HJ8.out, HM8.out, HR8.out, HA8.out⟩
                      case measure => simp [intOf]; omega
                    have HQ2 : Hid ((pre2 ++ [((t, k), c + c')]) ++ (fpgR s (f1, f2) t (k + 1) (s.R.n + 1 - (k + 1)) ++ fpgL s (f1, f2) (t + 1) (s.L.n - t)) = L) := by
                      show _ = _
                      have h := HQ.out
                      rw [show s.R.n + 1 - k = (s.R.n + 1 - (k + 1)) + 1 by omega, fpgR_hit HNE.out (by rw [HCE.out]; exact HE0.out) (by rw [HCR.out]; exact HE1.out) han, HCE.out, HCR.out] at h
                      rw [← h]; simp
                    rw [han]
                    have hmem : ((t, k), c + c') ∈ fpg s (f1, f2) := by rw [← HLL.out, ← HQ2.out]; simp
                    have hpl : pre2.length < N := by
                      have h1 := HNL.out
                      have h := congrArg List.length HQ2.out
                      simp only [List.length_append, List.length_singleton] at h
                      omega
                    have hbc := pgF_bd HOK.out.l f1 t
                    have hbc' := pgF_bd HOK.out.r f2 k
                    rw [HCE.out] at hbc
                    rw [HCR.out] at hbc'
                    dsimp only at hbc hbc'
                    have HYk := hid (HY.out pre2 ((t, k), c + c') w8 hmem HJ8.out hpl)
                    obtain ⟨fn, tmps, assign, body, hy, hR⟩ := HYk.out
                    try dsimp only at hy
                    have t1 := HT8.out.cell 0 (x := .int .i64 t) rfl
                    have t2 := HT8.out.cell 1 (x := .int .i64 k) rfl
                    have a0 := HA8.out.cell 0 (x := .int .i64 c) rfl
                    have b0 := HB8.out.cell 0 (x := .int .i64 c') rfl
                    clear hmem han HSK HQ HJ8 HYk
                    gi_wp2_with fail
                    refine hR.mono ?_
                    rintro e9 W9 (⟨rfl, hJ9, hk9⟩ | ⟨rfl, hJx9⟩)
                    · have HM9 := hid (HK1.out _ _ hk9 HM8.out)
                      have HR9 := hid (HK2.out _ _ _ _ _ HZ.out hk9 HR8.out)
                      have HA9 := hid (HK2.out _ _ _ _ _ HZ1.out hk9 HA8.out)
                      clear t1 t2 a0 b0 hy
                      gi_wp2
                      go_roundw
                      case rel => exact ⟨k + 1, _, by omega, by omega, by go_num, HNR2.out, HQ2.out, hJ9, HM9.out, HR9.out, HA9.out⟩
                      case measure => simp [intOf]; omega
                    · clear t1 t2 a0 b0 hy
                      gi_wp2
                      refine bodyPost_ret (results_none rfl _ _ _) rfl ?_
                      exact ⟨⟨_, rfl⟩, .inr ⟨_, ⟨_, HQ2.out⟩, hJx9⟩⟩
          · as_aux_lemma =>
              have hki : ¬ (k : Int) ≤ (s.R.n : Int) := by omega
              have HQ2 : Hid (pre2 ++ fpgL s (f1, f2) (t + 1) (s.L.n + 1 - (t + 1)) = L) := by
                have h := HQ.out
                rw [show s.R.n + 1 - k = 0 by omega, fpgR, List.nil_append, HL1.out] at h
                exact h
              clear HQ
              gi_wp2_with fail
              go_roundw
              case rel => exact ⟨t + 1, pre2, by omega, by omega, by go_num, HNO2.out, HQ2.out, hJi, HMi.out, HRi.out⟩
              case measure => simp [intOf]; omega
    · as_aux_lemma =>
        have hti : ¬ (t : Int) ≤ (s.L.n : Int) := by omega
        have HD : Hid (pre = L) := by
          have h := HP.out
          rw [show s.L.n + 1 - t = 0 by omega, fpgL, List.append_nil] at h
          exact h
        clear HP
        gi_wp2
        go_end0
        exact ⟨⟨_, rfl⟩, .inl (by rw [← HD.out]; exact hJ)⟩
end Go.Proofs.Ytlneimjenjpbnaa
