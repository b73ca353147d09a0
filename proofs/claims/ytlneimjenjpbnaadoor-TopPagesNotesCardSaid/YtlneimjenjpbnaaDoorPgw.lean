/-
  (*sums).page: the cost of a page.
-/
import Derived.Test.YtlneimjenjpbnaaDoorHgt
import Derived.Test.YtlneimjenjpbnaaDoorBad
import Derived.Deep.RegionHeld3
namespace Go.Proofs.YtlneimjenjpbnaaDoor
open Go.RowKit

theorem hgt_nonneg {p : PP} (h : PpOk p) {f t : Nat} (hft : f ≤ t) : 0 ≤ hgt p f t := by
  have h1 := sumTo_mono h.ls f (t - f)
  rw [Nat.add_sub_cancel' hft] at h1
  have h2 : ∀ k, 0 ≤ blkH p f t k := fun k => by
    induction k with
    | zero => exact Int.le_refl _
    | succ k ih =>
      have := h.g0
      unfold blkH
      split <;> omega
  have := h2 p.nb
  unfold hgt
  omega
theorem SmR.pnAt {W : World} {B : Nat} {p : PP} (h : SmR W B p) : ∃ a c, W.cell? ⟨B, 2, none⟩ = some (.slice a p.pens.length c) ∧ ∀ k, k < p.pens.length → ∃ b o, a = some ⟨b, o, none⟩ ∧ W.cell? ⟨b, o + k, none⟩ = some (.int .i64 (p.pens.getD k 0)) := by
  obtain ⟨vl, vn, vp, vs, vb, hrow, hR, _, _⟩ := h.ex
  obtain ⟨a, c, he, _, _, hcell⟩ := hR.s.open
  refine ⟨a, c, by rw [hrow.cell 2 (x := vp) rfl, he], fun k hk => ?_⟩
  obtain ⟨x, b, o, hx, ha, hc⟩ := hcell k hk
  refine ⟨b, o, ha, ?_⟩
  rw [hc, List.getD_eq_getElem?_getD, hx]; rfl
theorem SmR.lsAt {W : World} {B : Nat} {p : PP} (h : SmR W B p) : ∃ a c, W.cell? ⟨B, 0, none⟩ = some (.slice a p.lines.length c) := by
  obtain ⟨vl, vn, vp, vs, vb, hrow, hR, _, _⟩ := h.ex
  obtain ⟨a, c, he, _, _, _⟩ := hR.l.open
  exact ⟨a, c, by rw [hrow.cell 0 (x := vl) rfl, he]⟩

set_option maxRecDepth 100000 in
set_option maxHeartbeats 2000000 in
theorem page_any (p : PP) (B f t : Nat) (w : World) (hs : SmR w B p) (hok : PpOk p) (hft : f < t) (ht : t ≤ p.lines.length) :
    Calls Tryd.prog 32 #[.pointer (some ⟨B, 0, none⟩), .int .i64 f, .int .i64 t] w fun e w' => e = .returned (.tuple #[.int .i64 (pgI p f t).1, .int .i64 (pgI p f t).2]) ∧ Below w.heap.size w w' := by
  have HH := hid (hgt_any p B f t w hs hok (by omega) ht)
  obtain ⟨a2, c2, r2, hp⟩ := hs.pnAt
  obtain ⟨a0, c0, r0⟩ := hs.lsAt
  obtain ⟨b2, o2, rfl, rx⟩ := hp (t - 1) (by rw [hok.pl]; omega)
  have r3 := hs.hgAt.1
  have hh0 := hgt_nonneg hok (Nat.le_of_lt hft)
  have h1 := hok.h1
  have h2 := hok.h2
  have n4 := hok.n4
  have pl := hok.pl
  have px := pens_bd hok (t - 1)
  have HV : Hid (pgI p f t = if p.h < hgt p f t then (0, 22) else if t = p.lines.length then (0, 0) else if 10000 ≤ p.pens.getD (t - 1) 0 then (0, 23) else (badI (p.h - hgt p f t) p.h + p.pens.getD (t - 1) 0, 0)) := rfl
  generalize pgI p f t = R at *
  generalize hgt p f t = H at *
  generalize p.pens.getD (t - 1) 0 = x at *
  generalize p.h = h at *
  clear hp hok hs
  by_cases k1 : h < H
  · have HV2 : Hid (R = (0, 22)) := by show _ = _; rw [HV.out, if_pos k1]
    clear HV
    go_enter Tryd.func32, Tryd.ntmps32
    go_wp2_with fail
    (with_reducible refine HH.out.mono ?_)
    rintro e w2 ⟨rfl, hB2⟩
    have q3 := Below.keeps hB2 _ _ r3
    have HB2 := hid hB2
    clear hB2
    go_wp2
    refine bodyPost_ret (results_tmp2 rfl _ _ _) rfl ⟨?_, HB2.out⟩
    rw [HV2.out]; rfl
  by_cases k2 : t = p.lines.length
  · have HV2 : Hid (R = (0, 0)) := by show _ = _; rw [HV.out, if_neg k1, if_pos k2]
    have k2i : ((t : Int) == (p.lines.length : Int)) = true := by rw [k2]; simp
    clear HV
    subst k2
    go_enter Tryd.func32, Tryd.ntmps32
    go_wp2_with fail
    (with_reducible refine HH.out.mono ?_)
    rintro e w2 ⟨rfl, hB2⟩
    have q3 := Below.keeps hB2 _ _ r3
    have q0 := Below.keeps hB2 _ _ r0
    have HB2 := hid hB2
    clear hB2
    go_wp2
    refine bodyPost_ret (results_tmp2 rfl _ _ _) rfl ⟨?_, HB2.out⟩
    rw [HV2.out]; rfl
  have k2i : ((t : Int) == (p.lines.length : Int)) = false := beq_eq_false_iff_ne.2 (by omega)
  have k2j : ¬ (t : Int) = (p.lines.length : Int) := by omega
  obtain ⟨m, hm⟩ : ∃ m, m = t - 1 := ⟨_, rfl⟩
  rw [← hm] at rx
  have t1 : IntKind.i64.wrap ((t : Int) - 1) = (m : Int) := by rw [show (t : Int) - 1 = (m : Int) by omega]; exact IntWalk.i64_in _ (by omega)
  have t2 : (0 : Int) ≤ (m : Int) := by omega
  have t4 : (m : Int) < (p.lines.length : Int) := by omega
  have t5 : m < p.lines.length := by omega
  rw [pl] at r2
  clear hm pl
  by_cases k3 : 10000 ≤ x
  · have HV2 : Hid (R = (0, 23)) := by show _ = _; rw [HV.out, if_neg k1, if_neg k2, if_pos k3]
    clear HV
    go_enter Tryd.func32, Tryd.ntmps32
    go_wp2_with fail
    (with_reducible refine HH.out.mono ?_)
    rintro e w2 ⟨rfl, hB2⟩
    have q3 := Below.keeps hB2 _ _ r3
    have q0 := Below.keeps hB2 _ _ r0
    have q2 := Below.keeps hB2 _ _ r2
    have qx := Below.keeps hB2 _ _ rx
    have HB2 := hid hB2
    clear hB2
    go_wp2
    refine bodyPost_ret (results_tmp2 rfl _ _ _) rfl ⟨?_, HB2.out⟩
    rw [HV2.out]; rfl
  have HV2 : Hid (R = (badI (h - H) h + x, 0)) := by show _ = _; rw [HV.out, if_neg k1, if_neg k2, if_neg k3]
  clear HV
  obtain ⟨c, hc⟩ : ∃ c : Nat, h - H = (c : Int) := ⟨(h - H).toNat, by omega⟩
  obtain ⟨n, hn⟩ : ∃ n : Nat, h = (n : Int) := ⟨h.toNat, by omega⟩
  have HQ : ∀ w', Hid (Calls Tryd.prog 41 #[.int .i64 (h - H), .int .i64 h] w' fun e w'' => e = .returned (.int .i64 (badI (h - H) h)) ∧ Below w'.heap.size w' w'') := fun w' => by
    have hb := badness_any c n (by omega) (by omega) (by omega) w'
    rw [← hc, ← hn] at hb
    exact hb
  have hq := badI_bd (h - H) h
  generalize badI (h - H) h = q at *
  have t7 : IntKind.i64.wrap (h - H) = h - H := IntWalk.i64_in _ (by omega)
  have t8 : IntKind.i64.wrap (q + x) = q + x := IntWalk.i64_in _ (by omega)
  have HS := fun w' (hB : Below w.heap.size w w') => (⟨Below.keeps hB _ _ r3, Below.keeps hB _ _ r2, Below.keeps hB _ _ rx, hB⟩ : w'.cell? ⟨B, 3, none⟩ = some (.int .i64 h) ∧ w'.cell? ⟨B, 2, none⟩ = some (.slice (some ⟨b2, o2, none⟩) p.lines.length c2) ∧ w'.cell? ⟨b2, o2 + m, none⟩ = some (.int .i64 x) ∧ Below w.heap.size w w')
  have HSh := hid HS
  clear HS hc hn hq
  go_enter Tryd.func32, Tryd.ntmps32
  go_wp2_with fail
  (with_reducible refine HH.out.mono ?_)
  rintro e w2 ⟨rfl, hB2⟩
  have q3 := Below.keeps hB2 _ _ r3
  have q0 := Below.keeps hB2 _ _ r0
  have q2 := Below.keeps hB2 _ _ r2
  have qx := Below.keeps hB2 _ _ rx
  go_upto_region 8 with fail
  clear q3 q0 q2 qx r0 r2 r3 rx
  go_region_held3 (fun w' => w'.cell? ⟨B, 3, none⟩ = some (.int .i64 h) ∧ w'.cell? ⟨B, 2, none⟩ = some (.slice (some ⟨b2, o2, none⟩) p.lines.length c2) ∧ w'.cell? ⟨b2, o2 + m, none⟩ = some (.int .i64 x) ∧ Below w.heap.size w w')
    (first | with_reducible exact HSh.out _ hB2 | with_reducible exact HSh.out _ (by with_reducible assumption) | with_reducible exact HSh.out _ (Below.drew hB2) | with_reducible exact HSh.out _ (Below.drew (by with_reducible assumption)))
    (first
      | (go_at_call 41; go_split_ands; (with_reducible refine (HQ _).out.mono ?_); rintro e wz ⟨rfl, hBz⟩; have zs := below_tr (by with_reducible assumption : Below w.heap.size w _) hBz))
  all_goals go_split_ands
  all_goals go_wp2_with fail
  all_goals refine bodyPost_ret (results_tmp2 rfl _ _ _) rfl ⟨?_, by with_reducible assumption⟩
  all_goals (rw [HV2.out]; rfl)
end Go.Proofs.YtlneimjenjpbnaaDoor
