/-
  facing.page: the cost of a page of one side.
-/
import Derived.Test.YtlneimjenjpbnaaPbh
import Derived.Test.YtlneimjenjpbnaaPgw
import Derived.Test.YtlneimjenjpbnaaPf
namespace Go.Proofs.Ytlneimjenjpbnaa
open Go.RowKit

set_option maxRecDepth 100000 in
set_option maxHeartbeats 4000000 in
theorem fpage_any (p : PP) (vl vn vp : Value) (f t : Nat) (w : World) (hr : RdP5 w vl vn vp p) (hz : ppI p = 0) (hf : f ≤ t) (ht : t ≤ p.lines.length) :
    Calls Try.prog 30 #[.agg (ppC p vl vn vp), .int .i64 f, .int .i64 t] w fun e w' => e = .returned (.tuple #[.int .i64 (pgF p f t).1, .int .i64 (pgF p f t).2]) ∧ Below w.heap.size w w' := by
  have HB0 := hid (below_al w (.cells (ppC p vl vn vp) 25))
  have HR0 := hid (row_nw w (ppC p vl vn vp) 25 rfl)
  by_cases hft : f = t
  · have HV : Hid (pgF p f t = (0, 0)) := by show _ = _; unfold pgF; rw [if_pos hft]
    have q : ((f : Int) == (t : Int)) = true := by rw [hft]; simp
    clear hr hf hft
    generalize pgF p f t = R at *
    unfold ppC at HB0 ⊢
    go_enter Try.func30, Try.ntmps30
    go_wp2_with fail
    refine bodyPost_ret (results_tmp2 rfl _ _ _) rfl ⟨?_, HB0.out⟩
    rw [HV.out]; rfl
  have q0 : ((f : Int) == (t : Int)) = false := beq_eq_false_iff_ne.2 (by omega)
  have q00 : ¬ (f : Int) = (t : Int) := by omega
  have HRD := hid (hr.below HB0.out)
  have hok := pp_ok hz
  obtain ⟨a1, c1, rfl, _, _, _⟩ := hr.l.open
  obtain ⟨a2, c2, rfl, hl2, hm2, _⟩ := hr.n.open
  obtain ⟨a3, c3, rfl, _, _, hp⟩ := hr.s.open
  obtain ⟨x, b2, o2, hx, rfl, rx0⟩ := hp (t - 1) (by rw [hok.pl]; omega)
  have HH := fun w' h => hid (pbh_any p (.slice a1 p.lines.length c1) (.slice a2 p.notes.length c2) (.slice (some ⟨b2, o2, none⟩) p.pens.length c3) f t w' h hz hf ht)
  have hh0 := hgt_nonneg hok hf
  have h1 := hok.h1
  have h2 := hok.h2
  have n4 := hok.n4
  have pl := hok.pl
  have px := pens_bd hok (t - 1)
  have hxx : p.pens.getD (t - 1) 0 = x := by rw [List.getD_eq_getElem?_getD, hx]; rfl
  have HV : Hid (pgF p f t = if p.h < hgt p f t then (0, 22) else if t = p.lines.length then (0, 0) else if 10000 ≤ p.pens.getD (t - 1) 0 then (0, 23) else (badI (p.h - hgt p f t) p.h + p.pens.getD (t - 1) 0, 0)) := by show _ = _; unfold pgF; rw [if_neg hft]; rfl
  rw [hxx] at px HV
  generalize pgF p f t = R at *
  generalize hgt p f t = H at *
  have ft2 : f < t := by omega
  have rx := cell_al rx0 (.cells (ppC p (.slice a1 p.lines.length c1) (.slice a2 p.notes.length c2) (.slice (some ⟨b2, o2, none⟩) p.pens.length c3)) 25)
  clear hp hok hr hx hxx hft rx0 hz
  unfold ppC at HB0 HR0 HRD HH rx ⊢
  have r3 := HR0.out.cell 3 (x := .int .i64 p.h) rfl
  have r2 := HR0.out.cell 2 (x := .slice (some ⟨b2, o2, none⟩) p.pens.length c3) rfl
  have r0 := HR0.out.cell 0 (x := .slice a1 p.lines.length c1) rfl
  have r1 := HR0.out.cell 1 (x := .slice a2 p.notes.length c2) rfl
  have r4 := HR0.out.cell 4 (x := .int .i64 p.gap) rfl
  have HPL := hid pl
  obtain ⟨m, hm⟩ : ∃ m, m = t - 1 := ⟨_, rfl⟩
  rw [← hm] at rx
  have t1 : IntKind.i64.wrap ((t : Int) - 1) = (m : Int) := by rw [show (t : Int) - 1 = (m : Int) by omega]; exact IntWalk.i64_in _ (by omega)
  have t2 : (0 : Int) ≤ (m : Int) := by omega
  have t4 : (m : Int) < (p.pens.length : Int) := by omega
  have t5 : m < p.pens.length := by omega
  have t6 : (t : Int) - 1 = (m : Int) := by omega
  have HM := hid hm
  clear hm pl
  generalize p.h = h at *
  by_cases k1 : h < H
  · have HV2 : Hid (R = (0, 22)) := by show _ = _; rw [HV.out, if_pos k1]
    clear HV
    go_enter Try.func30, Try.ntmps30
    go_wp2_with fail
    (with_reducible refine (HH _ HRD.out).out.mono ?_)
    rintro e w2 ⟨rfl, hB2⟩
    have q3 := Below.keeps hB2 _ _ r3
    have q0' := Below.keeps hB2 _ _ r0
    have q2 := Below.keeps hB2 _ _ r2
    have q1 := Below.keeps hB2 _ _ r1
    have q4 := Below.keeps hB2 _ _ r4
    have qx := Below.keeps hB2 _ _ rx
    have HB2 := hid (below_tr HB0.out hB2)
    clear r0 r1 r2 r3 r4 rx HR0
    clear hB2 HB0
    go_wp2
    refine bodyPost_ret (results_tmp2 rfl _ _ _) rfl ⟨?_, HB2.out⟩
    rw [HV2.out]; rfl
  by_cases k2 : t = p.lines.length
  · have HV2 : Hid (R = (0, 0)) := by show _ = _; rw [HV.out, if_neg k1, if_pos k2]
    have k2i : ((t : Int) == (p.lines.length : Int)) = true := by rw [k2]; simp
    clear HV k2
    go_enter Try.func30, Try.ntmps30
    go_wp2_with fail
    (with_reducible refine (HH _ HRD.out).out.mono ?_)
    rintro e w2 ⟨rfl, hB2⟩
    have q3 := Below.keeps hB2 _ _ r3
    have q0' := Below.keeps hB2 _ _ r0
    have q2 := Below.keeps hB2 _ _ r2
    have q1 := Below.keeps hB2 _ _ r1
    have q4 := Below.keeps hB2 _ _ r4
    have qx := Below.keeps hB2 _ _ rx
    have HB2 := hid (below_tr HB0.out hB2)
    clear r0 r1 r2 r3 r4 rx HR0
    clear hB2 HB0
    go_wp2
    refine bodyPost_ret (results_tmp2 rfl _ _ _) rfl ⟨?_, HB2.out⟩
    rw [HV2.out]; rfl
  have k2i : ((t : Int) == (p.lines.length : Int)) = false := beq_eq_false_iff_ne.2 (by omega)
  have k2j : ¬ (t : Int) = (p.lines.length : Int) := by omega
  by_cases k3 : 10000 ≤ x
  · have HV2 : Hid (R = (0, 23)) := by show _ = _; rw [HV.out, if_neg k1, if_neg k2, if_pos k3]
    clear HV k2
    go_enter Try.func30, Try.ntmps30
    go_wp2_with fail
    (with_reducible refine (HH _ HRD.out).out.mono ?_)
    rintro e w2 ⟨rfl, hB2⟩
    have q3 := Below.keeps hB2 _ _ r3
    have q0' := Below.keeps hB2 _ _ r0
    have q2 := Below.keeps hB2 _ _ r2
    have q1 := Below.keeps hB2 _ _ r1
    have q4 := Below.keeps hB2 _ _ r4
    have qx := Below.keeps hB2 _ _ rx
    have HB2 := hid (below_tr HB0.out hB2)
    clear r0 r1 r2 r3 r4 rx HR0
    clear hB2 HB0
    go_wp2
    refine bodyPost_ret (results_tmp2 rfl _ _ _) rfl ⟨?_, HB2.out⟩
    rw [HV2.out]; rfl
  have HV2 : Hid (R = (badI (h - H) h + x, 0)) := by show _ = _; rw [HV.out, if_neg k1, if_neg k2, if_neg k3]
  clear HV
  obtain ⟨c, hc⟩ : ∃ c : Nat, h - H = (c : Int) := ⟨(h - H).toNat, by omega⟩
  obtain ⟨n, hn⟩ : ∃ n : Nat, h = (n : Int) := ⟨h.toNat, by omega⟩
  have HQ : ∀ w', Hid (Calls Try.prog 39 #[.int .i64 (h - H), .int .i64 h] w' fun e w'' => e = .returned (.int .i64 (badI (h - H) h)) ∧ Below w'.heap.size w' w'') := fun w' => by
    have hb := badness_any c n (by omega) (by omega) (by omega) w'
    rw [← hc, ← hn] at hb
    exact hb
  have hq := badI_bd (h - H) h
  generalize badI (h - H) h = q at *
  have t7 : IntKind.i64.wrap (h - H) = h - H := IntWalk.i64_in _ (by omega)
  have t8 : IntKind.i64.wrap (q + x) = q + x := IntWalk.i64_in _ (by omega)
  clear hc hn hq k2
  go_enter Try.func30, Try.ntmps30
  go_wp2_with fail
  (with_reducible refine (HH _ HRD.out).out.mono ?_)
  rintro e w2 ⟨rfl, hB2⟩
  have q3 := Below.keeps hB2 _ _ r3
  have q0' := Below.keeps hB2 _ _ r0
  have q2 := Below.keeps hB2 _ _ r2
  have q1 := Below.keeps hB2 _ _ r1
  have q4 := Below.keeps hB2 _ _ r4
  have qx := Below.keeps hB2 _ _ rx
  have HB2 := hid (below_tr HB0.out hB2)
  clear r0 r1 r2 r3 r4 rx HR0
  go_wp2_with fail
  (with_reducible refine (HQ _).out.mono ?_)
  rintro e w3 ⟨rfl, hB3⟩
  have HB3 := hid (below_tr HB2.out hB3)
  clear q3 q0' q1 q2 q4 qx hB2 hB3 HB0
  go_wp2_with fail
  refine bodyPost_ret (results_tmp2 rfl _ _ _) rfl ⟨?_, HB3.out⟩
  rw [HV2.out]; rfl
end Go.Proofs.Ytlneimjenjpbnaa
