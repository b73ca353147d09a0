/-
  (*sums).pages and the function that it hands back.
-/
import Derived.Test.YtlneimjenjpbnaaDoorJ01
import Derived.Test.YtlneimjenjpbnaaDoorPgw
namespace Go.Proofs.YtlneimjenjpbnaaDoor
open Go.RowKit
attribute [local go_sem] Oper.semAt_some

/-- What the iterator reads. -/
structure PgM (p : PP) (f B Bf Bs : Nat) (W : World) : Prop where
  fr : W.cell? ⟨Bf, 0, none⟩ = some (.int .i64 (f : Int))
  ss : W.cell? ⟨Bs, 0, none⟩ = some (.pointer (some ⟨B, 0, none⟩))
  sm : SmR W B p
theorem PgM.below {p : PP} {f B Bf Bs : Nat} {W W' : World} (h : PgM p f B Bf Bs W) (hb : Below W.heap.size W W') : PgM p f B Bf Bs W' := ⟨Below.keeps hb _ _ h.fr, Below.keeps hb _ _ h.ss, h.sm.below hb⟩
theorem pgsF_stop {p : PP} {f t k : Nat} (h : (pgI p f t).2 = 22) : pgsF p f t k = [] := by cases k <;> simp [pgsF, h]
theorem pgsF_hit {p : PP} {f t k : Nat} (h : (pgI p f t).2 = 0) : pgsF p f t (k + 1) = (t, (pgI p f t).1) :: pgsF p f (t + 1) k := by simp [pgsF, h]
theorem pgsF_no {p : PP} {f t k : Nat} (h : (pgI p f t).2 ≠ 22) (h0 : (pgI p f t).2 ≠ 0) : pgsF p f t (k + 1) = pgsF p f (t + 1) k := by simp [pgsF, h, h0]

set_option maxRecDepth 100000 in
set_option maxHeartbeats 4000000 in
theorem pages1_in (n : Nat) (hn : 1 ≤ n) (p : PP) (hok : PpOk p) (f B Bf Bs N : Nat) (hf : f ≤ p.lines.length) (hN : (pgs p f).length ≤ N)
    (M : World → Prop) (hMP : ∀ A, M A → PgM p f B Bf Bs A) (hMB : ∀ A C, M A → Below A.heap.size A C → M C)
    (Kp : World → World → Prop) (hK1 : ∀ A C, Kp A C → M A → M C)
    (yl : Nat) (J Jx : List (Nat × Int) → World → Prop)
    (hY : ∀ pre x W, x ∈ pgs p f → J pre W → pre.length < N → YieldAt Fence.wide (n - 1) Tryd.prog yl #[.int .i64 (x.1 : Int), .int .i64 x.2] W fun e W' =>
      (e = .returned (.bool true) ∧ J (pre ++ [x]) W' ∧ Kp W W') ∨ (e = .returned (.bool false) ∧ Jx (pre ++ [x]) W'))
    (W : World) (hJA : AbidesFrom W.heap.size J) (hM : M W) (h0 : J [] W) :
    CallsIn Fence.wide n Tryd.prog 39 #[.func (.yield yl) #[] #[], .pointer (some ⟨Bf, 0, none⟩), .pointer (some ⟨Bs, 0, none⟩)] W fun e W' => (∃ v, e = .returned v) ∧
      (J (pgs p f) W' ∨ (∃ pre : List (Nat × Int), (∃ r, pre ++ r = pgs p f) ∧ Jx pre W')) := by
  have HK1 := hid hK1; clear hK1
  have HMP := hid hMP; clear hMP
  have HMB := hid hMB; clear hMB
  have HY := hid hY; clear hY
  have HJB : Hid (∀ pre W1 W2, J pre W1 → Below W1.heap.size W1 W2 → J pre W2) := fun pre W1 W2 hj hb => hJA _ _ _ none hj ⟨hb.os, hb.tape, hb.output, hb.size, fun k hk _ => hb.block k hk⟩ (fun r e => by cases e)
  clear hJA
  have HOK := hid hok
  have n4 := hok.n4
  have c1 := (HMP.out _ hM).fr
  have c2 := (HMP.out _ hM).ss
  have HM0 := hid hM
  have HPG : Hid (pgsF p f (f + 1) (p.lines.length + 1 - (f + 1)) = pgs p f) := by show _ = _; rw [Nat.add_sub_add_right]; rfl
  have HNL := hid hN
  have hw1 : IntKind.i64.wrap ((f : Int) + 1) = (f : Int) + 1 := IntWalk.i64_in _ (by omega)
  clear hok hM hN
  obtain ⟨L, hL⟩ : ∃ L, L = pgs p f := ⟨_, rfl⟩
  rw [← hL] at HPG HNL
  rw [← hL]
  have HLL := hid hL
  clear hL
  refine callsIn_of_wp Tryd.func39 rfl trivial ?_ rfl
  simp only [Tryd.ntmps39, List.size_toArray, List.length_cons, List.length_nil, Nat.reduceAdd, Nat.reduceSub, Array.replicate_succ, Array.replicate_zero, List.push_toArray, List.append_toArray, List.nil_append, List.cons_append]
  gi_wp2
  gi_loopw [4] (fun i wr => ∃ (t : Nat) (pre : List (Nat × Int)), f < t ∧ t ≤ p.lines.length + 1 ∧ i = .int .i64 t ∧ Hid (pre ++ pgsF p f t (p.lines.length + 1 - t) = L) ∧ J pre wr ∧ Hid (M wr)) (fun i _ => p.lines.length + 1 - (intOf i).toNat)
  case atStart => exact ⟨f + 1, [], by omega, by omega, by go_num, by rw [List.nil_append]; exact HPG.out, h0, HM0.out⟩
  case round =>
    rename_i wr
    obtain ⟨t, pre, hft, ht, rfl, HP, hJ, HM⟩ := hrel
    clear c1 c2
    have c1 := (HMP.out _ HM.out).fr
    have c2 := (HMP.out _ HM.out).ss
    obtain ⟨a0, e0, c0⟩ := (HMP.out _ HM.out).sm.lsAt
    by_cases hlt : t ≤ p.lines.length
    · have hti : (t : Int) ≤ (p.lines.length : Int) := by omega
      have HC := hid (page_any p B f t wr (HMP.out _ HM.out).sm HOK.out hft hlt)
      obtain ⟨k, hk⟩ : ∃ k, p.lines.length + 1 - t = k + 1 := ⟨p.lines.length - t, by omega⟩
      have hk2 : p.lines.length + 1 - (t + 1) = k := by omega
      rw [hk] at HP
      have HK := hid hk2
      clear hk hk2
      obtain ⟨c, e, hce⟩ : ∃ c e, pgI p f t = (c, e) := ⟨_, _, rfl⟩
      rw [hce] at HC
      dsimp only at HC
      have HCE := hid hce
      clear hce
      by_cases h22 : e = 22
      · subst h22
        have HD : Hid (pre = L) := by
          have h := HP.out
          rw [pgsF_stop (by rw [HCE.out]), List.append_nil] at h
          exact h
        clear HP
        gi_wp2_with (first | (refine ⟨trivial, ?_⟩; gi_at_call 32; refine (callsIn_wide.2 HC.out).mono ?_; rintro e w2 ⟨rfl, hB2⟩) | fail)
        have hJ2 := HJB.out _ _ _ hJ hB2
        clear hB2
        gi_wp2
        refine bodyPost_ret (results_none rfl _ _ _) rfl ?_
        exact ⟨⟨_, rfl⟩, .inl (by rw [← HD.out]; exact hJ2)⟩
      · have n22 : (e == 22) = false := beq_eq_false_iff_ne.2 h22
        by_cases h00 : e = 0
        · subst h00
          have HP2 : Hid ((pre ++ [(t, c)]) ++ pgsF p f (t + 1) k = L) := by
            show _ = _
            have h := HP.out
            rw [pgsF_hit (by rw [HCE.out]), HCE.out] at h
            rw [← h]; simp
          have hmem : (t, c) ∈ pgs p f := by rw [← HLL.out, ← HP2.out]; simp
          have HME := hid hmem
          clear hmem
          have hpl : pre.length < N := by
            have h1 := HNL.out
            have h := congrArg List.length HP2.out
            simp only [List.length_append, List.length_singleton] at h
            omega
          clear HP
          gi_wp2_with (first | (refine ⟨trivial, ?_⟩; gi_at_call 32; refine (callsIn_wide.2 HC.out).mono ?_; rintro e w2 ⟨rfl, hB2⟩; have hJ2 := HJB.out _ _ _ hJ hB2; have HM2 := hid (HMB.out _ _ HM.out hB2); have HYk := hid (HY.out pre (t, c) w2 HME.out hJ2 hpl); obtain ⟨fn, tmps, assign, body, hy, hR⟩ := HYk.out; (try dsimp only at hy); clear hB2) | fail)
          refine hR.mono ?_
          rintro e W3 (⟨rfl, hJ4, hk4⟩ | ⟨rfl, hJx4⟩)
          · have HM4 := hid (HK1.out _ _ hk4 HM2.out)
            gi_wp2
            go_roundw
            case rel => exact ⟨t + 1, _, by omega, by omega, by go_num, by rw [HK.out]; exact HP2.out, hJ4, HM4.out⟩
            case measure => simp [intOf]; omega
          · gi_wp2
            refine bodyPost_ret (results_none rfl _ _ _) rfl ?_
            exact ⟨⟨_, rfl⟩, .inr ⟨_, ⟨_, HP2.out⟩, hJx4⟩⟩
        · have n00 : (e == 0) = false := beq_eq_false_iff_ne.2 h00
          have HP2 : Hid (pre ++ pgsF p f (t + 1) k = L) := by
            show _ = _
            have h := HP.out
            rwa [pgsF_no (by rw [HCE.out]; exact h22) (by rw [HCE.out]; exact h00)] at h
          clear HP
          gi_wp2_with (first | (refine ⟨trivial, ?_⟩; gi_at_call 32; refine (callsIn_wide.2 HC.out).mono ?_; rintro e w2 ⟨rfl, hB2⟩; have hJ2 := HJB.out _ _ _ hJ hB2; have HM2 := hid (HMB.out _ _ HM.out hB2); clear hB2) | fail)
          refine ⟨fun _ h => (by cases h), ?_⟩
          gi_wp2
          go_roundw
          case rel => exact ⟨t + 1, _, by omega, by omega, by go_num, by rw [HK.out]; exact HP2.out, hJ2, HM2.out⟩
          case measure => simp [intOf]; omega
    · have hti : ¬ (t : Int) ≤ (p.lines.length : Int) := by omega
      have HD : Hid (pre = L) := by
        have h := HP.out
        rw [show p.lines.length + 1 - t = 0 by omega, pgsF, List.append_nil] at h
        exact h
      clear HP
      gi_wp2
      go_end0
      exact ⟨⟨_, rfl⟩, .inl (by rw [← HD.out]; exact hJ)⟩
set_option maxHeartbeats 1000000 in
theorem pages_any (B f : Nat) (w : World) :
    Calls Tryd.prog 31 #[.pointer (some ⟨B, 0, none⟩), .int .i64 f] w fun e w' => e = .returned (.func (.func 39) #[] #[.pointer (some ⟨w.heap.size + 1, 0, none⟩), .pointer (some ⟨w.heap.size, 0, none⟩)]) ∧ (w.alloc (.cells #[.pointer (some ⟨B, 0, none⟩)] 61)).alloc (.cells #[.int .i64 f] 3) = w' := by
  go_enter Tryd.func31, Tryd.ntmps31
  go_wp2
  go_ret
  exact ⟨rfl, rfl⟩
end Go.Proofs.YtlneimjenjpbnaaDoor
