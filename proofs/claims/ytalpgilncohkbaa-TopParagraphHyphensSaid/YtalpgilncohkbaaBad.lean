/-
  fixedpoint: numbers of two machine words, Badness.
-/
import Derived.Test.YtalpgilncohkbaaMul
import Derived.Test.YtalpgilncohkbaaPp
import Derived.Test.YtalpgilncohkbaaJ01
import Derived.Test.YtalpgilncohkbaaCharset
import Derived.Deep.RegionHeld3
import Derived.Deep.CutRange
namespace Go.Proofs.Ytalpgilncohkbaa
open Go.RowKit

def hiN (N : Nat) : Nat := N / 18446744073709551616
def loN (N : Nat) : Nat := N % 18446744073709551616
theorem lo_lt (N : Nat) : loN N < 18446744073709551616 := Nat.mod_lt _ (by decide)
theorem hi_lo (N : Nat) : N = hiN N * 18446744073709551616 + loN N := by unfold hiN loN; omega
theorem times_hi (N n : Nat) : hiN (N * n) = loN N * n / 18446744073709551616 + hiN N * n := by
  have e : N * n = loN N * n + 18446744073709551616 * (hiN N * n) := by
    conv => lhs; rw [hi_lo N]
    rw [Nat.add_mul, Nat.add_comm, Nat.mul_right_comm, Nat.mul_comm _ 18446744073709551616]
  unfold hiN at *
  rw [e, Nat.add_mul_div_left _ _ (by decide)]
theorem times_lo (N n : Nat) : loN (N * n) = loN N * n % 18446744073709551616 := by
  have e : N * n = loN N * n + 18446744073709551616 * (hiN N * n) := by
    conv => lhs; rw [hi_lo N]
    rw [Nat.add_mul, Nat.add_comm, Nat.mul_right_comm, Nat.mul_comm _ 18446744073709551616]
  unfold loN at *
  rw [e, Nat.add_mul_mod_self_left]
def wdC (N : Nat) : Array Value := #[.int .u64 (hiN N : Nat), .int .u64 (loN N : Nat)]

set_option maxRecDepth 100000 in
set_option maxHeartbeats 1000000 in
theorem times_any (N n : Nat) (hN : N * n < 340282366920938463463374607431768211456) (hn : n < 18446744073709551616) (w : World) :
    Calls Try.prog 64 #[.agg (wdC N), .int .u64 n] w fun e w' => e = .returned (.agg (wdC (N * n))) ∧ Below w.heap.size w w' := by
  have HM := fun w' => hid (Try.bits_Mul64 (loN N) n (lo_lt N) hn w')
  have h1 : hiN (N * n) < 18446744073709551616 := by unfold hiN; omega
  have h2 := times_hi N n
  have hb0 := below_tr (below_al w (.cells (wdC N) 109)) (below_al _ (.cells #[.int .u64 0, .int .u64 0] 109))
  have hr0 := (row_nw w (wdC N) 109 rfl).al (.cells #[.int .u64 0, .int .u64 0] 109)
  have hr1 := row_nw (w.alloc (.cells (wdC N) 109)) #[.int .u64 0, .int .u64 0] 109 rfl
  rw [show (w.alloc (.cells (wdC N) 109)).heap.size = w.heap.size + 1 by simp] at hr1
  have HL : Hid (loN (N * n) = loN N * n % 18446744073709551616) := times_lo N n
  have HH : Hid (hiN (N * n) = loN N * n / 18446744073709551616 + hiN N * n) := h2
  have hhn : hiN N * n < 18446744073709551616 := by omega
  have hll : loN N * n / 18446744073709551616 < 18446744073709551616 := by omega
  unfold wdC at *
  have c0 := hr0.cell 0 (x := .int .u64 (hiN N : Nat)) rfl
  have c1 := hr0.cell 1 (x := .int .u64 (loN N : Nat)) rfl
  have d0 := hr1.cell 0 (x := .int .u64 0) rfl
  have d1 := hr1.cell 1 (x := .int .u64 0) rfl
  have f0 := hr1.frozen 0
  have f1 := hr1.frozen 1
  have HB0 := hid hb0
  have HR1 := hid hr1
  clear hr0 hr1 hb0 h2
  rw [HL.out, HH.out]
  rw [HH.out] at h1
  clear HL HH hN
  have e1 : (hiN N : Int) * (n : Int) = ((hiN N * n : Nat) : Int) := by rw [Int.natCast_mul]
  have w1 : IntKind.u64.wrap ((hiN N : Int) * (n : Int)) = ((hiN N * n : Nat) : Int) := by rw [e1]; exact IntWalk.u64_in _ (by omega)
  have w2 : IntKind.u64.wrap (((loN N * n / 18446744073709551616 : Nat) : Int) + ((hiN N * n : Nat) : Int)) = ((loN N * n / 18446744073709551616 : Nat) : Int) + ((hiN N * n : Nat) : Int) := IntWalk.u64_in _ (by omega)
  generalize loN N * n / 18446744073709551616 = q at *
  generalize loN N * n % 18446744073709551616 = r at *
  generalize hiN N * n = p at *
  generalize hiN N = hi at *
  generalize loN N = lo at *
  clear e1
  go_enter Try.func64, Try.ntmps64
  go_upto_region 1 with fail
  generalize (w.alloc (.cells #[.int .u64 (hi : Nat), .int .u64 (lo : Nat)] 109)).alloc (.cells #[.int .u64 0, .int .u64 0] 109) = W0 at *
  go_wp2_with fail
  (with_reducible refine (HM _).out.mono ?_)
  rintro e w2 ⟨rfl, rfl⟩
  have HZ := hid ((HR1.out.set 0 (.int .u64 ((q : Int) + (p : Int)))).set 1 (.int .u64 (r : Nat)))
  have HBZ := hid ((HB0.out.setCell (p := ⟨w.heap.size + 1, 0, none⟩) (by simp) (.int .u64 ((q : Int) + (p : Int)))).setCell (p := ⟨w.heap.size + 1, 1, none⟩) (by simp) (.int .u64 (r : Nat)))
  go_wp2_with fail
  have z0 := HZ.out.cell 0 (x := .int .u64 ((q : Int) + (p : Int))) rfl
  have z1 := HZ.out.cell 1 (x := .int .u64 (r : Nat)) rfl
  exact bodyPost_ret (v := .agg #[.int .u64 ((q : Int) + (p : Int)), .int .u64 (r : Nat)]) (by simp [results, Try.f64, go_sem, z0, z1]) rfl ⟨by rw [Int.natCast_add], HBZ.out⟩
theorem above_iff {N M : Nat} : (if hiN N = hiN M then decide (loN M < loN N) else decide (hiN M < hiN N)) = decide (M < N) := by
  have h1 := hi_lo N
  have h2 := hi_lo M
  have l1 := lo_lt N
  have l2 := lo_lt M
  by_cases h : hiN N = hiN M
  · rw [if_pos h]
    rw [h] at h1
    by_cases h3 : loN M < loN N
    · rw [decide_eq_true h3, decide_eq_true (by omega)]
    · rw [decide_eq_false h3, decide_eq_false (by omega)]
  · rw [if_neg h]
    by_cases h3 : hiN M < hiN N
    · rw [decide_eq_true h3, decide_eq_true (by omega)]
    · rw [decide_eq_false h3, decide_eq_false (by omega)]
set_option maxRecDepth 100000 in
set_option maxHeartbeats 1000000 in
theorem above_any (N M : Nat) (w : World) :
    Calls Try.prog 65 #[.agg (wdC N), .agg (wdC M)] w fun e w' => e = .returned (.bool (decide (M < N))) ∧ Below w.heap.size w w' := by
  have hb0 := hid (below_tr (below_al w (.cells (wdC N) 109)) (below_al _ (.cells (wdC M) 109)))
  have HA : Hid ((if hiN N = hiN M then decide (loN M < loN N) else decide (hiN M < hiN N)) = decide (M < N)) := above_iff
  generalize decide (M < N) = b at *
  unfold wdC at *
  generalize hiN N = n1 at *
  generalize loN N = n2 at *
  generalize hiN M = m1 at *
  generalize loN M = m2 at *
  by_cases h : n1 = m1
  · have HV : Hid (b = decide (m2 < n2)) := by show _ = _; rw [← HA.out, if_pos h]
    have q1 : ((n1 : Int) == (m1 : Int)) = true := by rw [h]; simp
    have q1b : ((n1 : Int) != (m1 : Int)) = false := by rw [bne, q1]; rfl
    clear HA
    by_cases h2 : m2 < n2
    · have q2 : (m2 : Int) < (n2 : Int) := by omega
      have q3 : ((n2 : Int) == (m2 : Int)) = false := beq_eq_false_iff_ne.2 (by omega)
      have q4 : ¬ (n2 : Int) = (m2 : Int) := by omega
      rw [decide_eq_true h2] at HV
      subst h
      clear h2
      go_enter Try.func65, Try.ntmps65
      go_wp2
      go_ret
      exact ⟨by rw [HV.out]; rfl, hb0.out⟩
    · have q2 : ¬ (m2 : Int) < (n2 : Int) := by omega
      rw [decide_eq_false h2] at HV
      subst h
      clear h2
      by_cases h3 : n2 = m2
      · subst h3
        go_enter Try.func65, Try.ntmps65
        go_wp2
        go_ret
        exact ⟨by rw [HV.out]; rfl, hb0.out⟩
      · have q3 : ((n2 : Int) == (m2 : Int)) = false := beq_eq_false_iff_ne.2 (by omega)
        have q4 : ¬ (n2 : Int) = (m2 : Int) := by omega
        clear h3
        go_enter Try.func65, Try.ntmps65
        go_wp2
        go_ret
        exact ⟨by rw [HV.out]; rfl, hb0.out⟩
  · have HV : Hid (b = decide (m1 < n1)) := by show _ = _; rw [← HA.out, if_neg h]
    have q1 : ((n1 : Int) == (m1 : Int)) = false := beq_eq_false_iff_ne.2 (by omega)
    have q1b : ((n1 : Int) != (m1 : Int)) = true := by rw [bne, q1]; rfl
    clear HA
    by_cases h2 : m1 < n1
    · have q2 : (m1 : Int) < (n1 : Int) := by omega
      rw [decide_eq_true h2] at HV
      clear h h2
      go_enter Try.func65, Try.ntmps65
      go_wp2
      go_ret
      exact ⟨by rw [HV.out]; rfl, hb0.out⟩
    · have q2 : ¬ (m1 : Int) < (n1 : Int) := by omega
      rw [decide_eq_false h2] at HV
      clear h h2
      go_enter Try.func65, Try.ntmps65
      go_wp2
      go_ret
      exact ⟨by rw [HV.out]; rfl, hb0.out⟩
theorem bad_fin {t3 lim lo hi : Nat} (h0 : 0 < t3) (h1 : t3 * lo ≤ lim) (h2 : hi = 10001 ∨ lim < t3 * hi) (h3 : hi = lo + 1) (h4 : hi ≤ 10001) : lo = min 10000 (lim / t3) := by
  have h5 : lo ≤ lim / t3 := (Nat.le_div_iff_mul_le h0).2 (by rw [Nat.mul_comm]; exact h1)
  rcases h2 with h | h
  · omega
  · have h6 : lim / t3 < hi := (Nat.div_lt_iff_lt_mul h0).2 (by rw [Nat.mul_comm]; exact h)
    omega
structure BdS (w : World) (B1 B2 : Nat) (N M : Nat) (W : World) : Prop where
  r1 : Row W B1 (wdC N) 109
  r2 : Row W B2 (wdC M) 109
  bel : Below w.heap.size w W
theorem BdS.below {w : World} {B1 B2 N M : Nat} {W W' : World} (h : BdS w B1 B2 N M W) (hb : Below W.heap.size W W') : BdS w B1 B2 N M W' := ⟨h.r1.below hb, h.r2.below hb, below_tr h.bel hb⟩
theorem BdS.drew {w : World} {B1 B2 N M : Nat} {W : World} (h : BdS w B1 B2 N M W) : BdS w B1 B2 N M W.drew := h.below (Below.refl _ _).drew
theorem BdS.all {w : World} {B1 B2 N M : Nat} {W : World} (h : BdS w B1 B2 N M W) : W.cell? ⟨B1, 0, none⟩ = some (.int .u64 (hiN N : Nat)) ∧ W.cell? ⟨B1, 1, none⟩ = some (.int .u64 (loN N : Nat)) ∧ W.cell? ⟨B2, 0, none⟩ = some (.int .u64 (hiN M : Nat)) ∧ W.cell? ⟨B2, 1, none⟩ = some (.int .u64 (loN M : Nat)) ∧ BdS w B1 B2 N M W := ⟨h.r1.cell 0 rfl, h.r1.cell 1 rfl, h.r2.cell 0 rfl, h.r2.cell 1 rfl, h⟩
theorem cube_bd {a : Nat} (h : a ≤ 1073741824) : a * a ≤ 1152921504606846976 ∧ a * a * a ≤ 1237940039285380274899124224 := by
  have h1 : a * a ≤ 1073741824 * 1073741824 := Nat.mul_le_mul h h
  have h2 : a * a * a ≤ (1073741824 * 1073741824) * 1073741824 := Nat.mul_le_mul h1 h
  exact ⟨h1, h2⟩
set_option maxRecDepth 100000 in
set_option maxHeartbeats 4000000 in
theorem badness_any (c t : Nat) (hc : c ≤ 1073741824) (ht0 : 1 ≤ t) (ht : t ≤ 1073741824) (w : World) :
    Calls Try.prog 46 #[.int .i64 c, .int .i64 t] w fun e w' => e = .returned (.int .i64 (badI c t)) ∧ Below w.heap.size w w' := by
  have k1 : ¬ (c : Int) < 0 := by omega
  have k2 : IntKind.u64.wrap (c : Int) = (c : Int) := IntWalk.u64_in _ (by omega)
  have k3 : (c : Int) ≤ 1073741824 := by omega
  have k4 : ¬ (1073741824 : Int) < (c : Int) := by omega
  have k10 : min (c : Int) 1073741824 = (c : Int) := by omega
  by_cases h0 : c = 0
  · have HV : Hid (badI c t = 0) := by show _ = _; unfold badI; rw [if_pos (by omega)]
    have q1 : ((c : Int) == 0) = true := by rw [h0]; rfl
    clear h0
    go_enter Try.func46, Try.ntmps46
    go_wp2
    go_ret
    exact ⟨by rw [HV.out]; rfl, Below.refl _ _⟩
  have q1 : ((c : Int) == 0) = false := beq_eq_false_iff_ne.2 (by omega)
  have k5 : ¬ (t : Int) ≤ 0 := by omega
  have k6 : (t : Int) ≤ 1073741824 := by omega
  have k7 : ¬ (1073741824 : Int) < (t : Int) := by omega
  have k9 : min (t : Int) 1073741824 = (t : Int) := by omega
  have k8 : IntKind.u64.wrap (t : Int) = (t : Int) := IntWalk.u64_in _ (by omega)
  obtain ⟨bt2, bt3⟩ := cube_bd ht
  obtain ⟨bc2, bc3⟩ := cube_bd hc
  have one : ∀ a : Nat, a ≤ 1073741824 → wdC a = #[.int .u64 0, .int .u64 (a : Nat)] := fun a ha => by
    unfold wdC hiN loN
    rw [Nat.div_eq_of_lt (by omega), Nat.mod_eq_of_lt (by omega)]; rfl
  have hN : 0 < t * t * t := Nat.mul_pos (Nat.mul_pos (by omega) (by omega)) (by omega)
  have HT1 := fun w' => hid (times_any t t (by omega) (by omega) w')
  have HT2 := fun w' => hid (times_any (t * t) t (by omega) (by omega) w')
  have HC1 := fun w' => hid (times_any c c (by omega) (by omega) w')
  have HC2 := fun w' => hid (times_any (c * c) c (by omega) (by omega) w')
  have HC3 : ∀ w', Hid (Calls Try.prog 64 #[.agg (wdC (c * c * c)), .int .u64 100] w' fun e w'' => e = .returned (.agg (wdC (c * c * c * 100))) ∧ Below w'.heap.size w' w'') := fun w' => times_any (c * c * c) 100 (by omega) (by omega) w'
  have HTM := fun (m : Nat) (hm : m ≤ 10001) w' => hid (times_any (t * t * t) m (by
    have : t * t * t * m ≤ 1237940039285380274899124224 * 10001 := Nat.mul_le_mul bt3 hm
    omega) (by omega) w')
  rw [one t ht] at HT1
  rw [one c hc] at HC1
  have HV : Hid (badI c t = ((min 10000 (c * c * c * 100 / (t * t * t)) : Nat) : Int)) := by
    show _ = _
    unfold badI
    rw [if_neg (by omega), Int.toNat_natCast, Int.toNat_natCast]
  generalize t * t * t = N at *
  generalize c * c * c * 100 = M at *
  clear one bt2 bt3 bc2 bc3
  go_enter Try.func46, Try.ntmps46
  go_wp2_with fail
  (with_reducible refine (HT1 _).out.mono ?_)
  rintro e w1 ⟨rfl, hB1⟩
  go_wp2_with fail
  (with_reducible refine (HT2 _).out.mono ?_)
  rintro e w2 ⟨rfl, hB2⟩
  have hB12 := below_tr hB1 hB2
  have HR1 := hid (row_nw w2 (wdC N) 109 rfl)
  have HB1 := hid (below_tr hB12 (below_al w2 (.cells (wdC N) 109)))
  clear hB1 hB2 hB12 HT1 HT2
  have HA := fun (n : Nat) (w' : World) => hid (above_any n M w')
  unfold wdC at HR1 HB1 ⊢
  go_upto_region 11 with fail
  generalize w2.alloc (.cells #[.int .u64 (hiN N : Nat), .int .u64 (loN N : Nat)] 109) = W3 at *
  generalize w2.heap.size = B1 at *
  go_wp2_with fail
  (with_reducible refine (HC1 _).out.mono ?_)
  rintro e w4 ⟨rfl, hB4⟩
  have HR4 := hid (HR1.out.below hB4)
  have HB4 := hid (below_tr HB1.out hB4)
  clear hB4 HR1 HB1 HC1
  go_wp2_with fail
  (with_reducible refine (HC2 _).out.mono ?_)
  rintro e w5 ⟨rfl, hB5⟩
  have HR5 := hid (HR4.out.below hB5)
  have HB5 := hid (below_tr HB4.out hB5)
  clear hB5 HR4 HB4 HC2
  go_wp2_with fail
  (with_reducible refine (HC3 _).out.mono ?_)
  rintro e w6 ⟨rfl, hB6⟩
  have HS7 : Hid (BdS w B1 w6.heap.size N M (w6.alloc (.cells (wdC M) 109))) := ⟨(HR5.out.below hB6).al _, row_nw w6 _ _ rfl, below_tr (below_tr HB5.out hB6) (below_al w6 _)⟩
  clear hB6 HR5 HB5 HC3
  unfold wdC at HS7 ⊢
  go_upto_region 12 with fail
  generalize w6.alloc (.cells #[.int .u64 (hiN M : Nat), .int .u64 (loN M : Nat)] 109) = W7 at *
  generalize w6.heap.size = B2 at *
  clear k1 k2 k3 k4 k5 k6 k7 k8 k9 k10 q1 h0 hc ht0 ht
  go_wp2_with fail
  go_loopw [9, 10] (fun lv hv wr => ∃ lo hi : Nat, lv = .int .i64 lo ∧ hv = .int .i64 hi ∧ lo < hi ∧ hi ≤ 10001 ∧ Hid (N * lo ≤ M) ∧ Hid (hi = 10001 ∨ M < N * hi) ∧ Hid (BdS w B1 B2 N M wr)) (fun lv hv _ => (intOf hv).toNat - (intOf lv).toNat)
  case atStart => exact ⟨0, 10001, rfl, rfl, by omega, by omega, by simp [Hid], .inl rfl, HS7.out⟩
  case round =>
    rename_i wr
    obtain ⟨lo, hi, rfl, rfl, hlh, hh, HL, HH, HS⟩ := hrel
    clear HS7
    by_cases hd : hi = lo + 1
    · have q1 : ¬ (1 : Int) < (hi : Int) - (lo : Int) := by omega
      have HF : Hid (((lo : Nat) : Int) = badI c t) := by
        show _ = _
        rw [HV.out, ← bad_fin hN HL.out HH.out hd hh]
      clear hd
      go_wp2
      go_ret
      exact ⟨by rw [← HF.out]; rfl, HS.out.bel⟩
    · have q1 : (1 : Int) < (hi : Int) - (lo : Int) := by omega
      obtain ⟨m, hm⟩ : ∃ m, m = (lo + hi) / 2 := ⟨_, rfl⟩
      have hm1 : lo < m := by omega
      have hm2 : m < hi := by omega
      have HMM := hid hm
      have qd : ((lo : Int) + (hi : Int)) / 2 = (m : Int) := by omega
      have qt : Int.tdiv ((lo : Int) + (hi : Int)) 2 = (m : Int) := by rw [Int.tdiv_eq_ediv_of_nonneg (by omega)]; exact qd
      have qw : IntKind.u64.wrap (m : Int) = (m : Int) := IntWalk.u64_in _ (by omega)
      clear hm
      have HTm := fun w' => HTM m (by omega) w'
      have HAm := fun w' => HA (N * m) w'
      unfold wdC at HTm HAm
      have c0 := HS.out.r1.cell 0 (x := .int .u64 (hiN N : Nat)) rfl
      have c1 := HS.out.r1.cell 1 (x := .int .u64 (loN N : Nat)) rfl
      have d0 := HS.out.r2.cell 0 (x := .int .u64 (hiN M : Nat)) rfl
      have d1 := HS.out.r2.cell 1 (x := .int .u64 (loN M : Nat)) rfl
      have hst := HS.out
      obtain ⟨bb, hbb⟩ : ∃ bb, bb = decide (M < N * m) := ⟨_, rfl⟩
      rw [← hbb] at HAm
      have HBB := hid hbb
      clear hbb HTM HA
      go_upto_region 15 with fail
      cases bb with
      | true =>
        have HU : Hid (m = 10001 ∨ M < N * m) := .inr (of_decide_eq_true HBB.out.symm)
        clear HBB HH
        go_region_held3 (fun w' => w'.cell? ⟨B1, 0, none⟩ = some (.int .u64 (hiN N : Nat)) ∧ w'.cell? ⟨B1, 1, none⟩ = some (.int .u64 (loN N : Nat)) ∧ w'.cell? ⟨B2, 0, none⟩ = some (.int .u64 (hiN M : Nat)) ∧ w'.cell? ⟨B2, 1, none⟩ = some (.int .u64 (loN M : Nat)) ∧ BdS w B1 B2 N M w')
          (first | with_reducible exact BdS.all hst | with_reducible exact BdS.all (by with_reducible assumption) | with_reducible exact BdS.all (BdS.drew hst) | with_reducible exact BdS.all (BdS.drew (by with_reducible assumption)))
          (first
            | (go_at_call 64; go_split_ands; (with_reducible refine (HTm _).out.mono ?_); rintro e wz ⟨rfl, hBz⟩; have zs := BdS.below (by with_reducible assumption) hBz)
            | (go_at_call 65; go_split_ands; (with_reducible refine (HAm _).out.mono ?_); rintro e wz2 ⟨rfl, hBz2⟩; have zs2 := BdS.below (by with_reducible assumption) hBz2))
        all_goals go_split_ands
        all_goals (go_wp2_with fail; go_roundw)
        all_goals (first | (simp [intOf]; omega; done) | exact ⟨lo, m, rfl, rfl, hm1, by omega, HL.out, HU.out, by show BdS _ _ _ _ _ _; with_reducible assumption⟩)
      | false =>
        have HU : Hid (N * m ≤ M) := Nat.not_lt.1 (of_decide_eq_false HBB.out.symm)
        clear HBB HL
        go_region_held3 (fun w' => w'.cell? ⟨B1, 0, none⟩ = some (.int .u64 (hiN N : Nat)) ∧ w'.cell? ⟨B1, 1, none⟩ = some (.int .u64 (loN N : Nat)) ∧ w'.cell? ⟨B2, 0, none⟩ = some (.int .u64 (hiN M : Nat)) ∧ w'.cell? ⟨B2, 1, none⟩ = some (.int .u64 (loN M : Nat)) ∧ BdS w B1 B2 N M w')
          (first | with_reducible exact BdS.all hst | with_reducible exact BdS.all (by with_reducible assumption) | with_reducible exact BdS.all (BdS.drew hst) | with_reducible exact BdS.all (BdS.drew (by with_reducible assumption)))
          (first
            | (go_at_call 64; go_split_ands; (with_reducible refine (HTm _).out.mono ?_); rintro e wz ⟨rfl, hBz⟩; have zs := BdS.below (by with_reducible assumption) hBz)
            | (go_at_call 65; go_split_ands; (with_reducible refine (HAm _).out.mono ?_); rintro e wz2 ⟨rfl, hBz2⟩; have zs2 := BdS.below (by with_reducible assumption) hBz2))
        all_goals go_split_ands
        all_goals (go_wp2_with fail; go_roundw)
        all_goals (first | (simp [intOf]; omega; done) | exact ⟨m, hi, rfl, rfl, hm2, hh, HU.out, HH.out, by show BdS _ _ _ _ _ _; with_reducible assumption⟩)
end Go.Proofs.Ytalpgilncohkbaa
