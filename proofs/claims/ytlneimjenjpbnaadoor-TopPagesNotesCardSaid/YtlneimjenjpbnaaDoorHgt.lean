/-
  (*sums).height: the height of a page.
-/
import Derived.Test.YtlneimjenjpbnaaDoorNsm
import Derived.BigQuiet
namespace Go.Proofs.YtlneimjenjpbnaaDoor
open Go.RowKit

theorem sum_bd {p : PP} (h : PpOk p) {k : Nat} (hk : k ≤ p.lines.length) : 0 ≤ sumTo p.lines k ∧ sumTo p.lines k ≤ 4398046511104 := by
  have h1 := sumTo_bd h.ls k
  have h2 := h.n4
  omega
theorem sumC_bd {p : PP} (h : PpOk p) (b : Nat) {k : Nat} (hk : k ≤ p.lines.length) : 0 ≤ sumTo (col p b) k ∧ sumTo (col p b) k ≤ 4398046511104 := by
  have h1 := sumTo_bd (col_bd h b) k
  have h2 := h.n4
  omega
theorem blkH_bd {p : PP} (h : PpOk p) {f t : Nat} (hf : f ≤ p.lines.length) (ht : t ≤ p.lines.length) : ∀ k, 0 ≤ blkH p f t k ∧ blkH p f t k ≤ (k : Int) * 4399120252928
  | 0 => ⟨Int.le_refl _, by simp [blkH]⟩
  | k + 1 => by
    have ih := blkH_bd h hf ht k
    have h1 := sumC_bd h k hf
    have h2 := sumC_bd h k ht
    have h3 := h.g0
    have h4 := h.g1
    unfold blkH
    split <;> push_cast <;> omega
/-- The sums of lines, in reach. -/
theorem SmR.lnAt {W : World} {B : Nat} {p : PP} (h : SmR W B p) : ∃ b o c, W.cell? ⟨B, 5, none⟩ = some (.slice (some ⟨b, o, none⟩) (p.lines.length + 1) c) ∧ ∀ k, k ≤ p.lines.length → W.cell? ⟨b, o + k, none⟩ = some (.int .i64 (sumTo p.lines k)) := by
  obtain ⟨vl, vn, vp, vs, vb, hrow, _, hS, _⟩ := h.ex
  obtain ⟨a, c, he, _, _, hcell⟩ := hS.open
  rw [prefL_len] at he hcell
  obtain ⟨x0, b, o, _, ha, _⟩ := hcell 0 (by omega)
  refine ⟨b, o, c, by rw [hrow.cell 5 (x := vs) rfl, he, ha]; rfl, fun k hk => ?_⟩
  obtain ⟨x, b', o', hx, ha', hc⟩ := hcell k (by unfold PP.n; omega)
  rw [ha] at ha'
  cases ha'
  rw [prefL_at _ (by unfold PP.n; omega)] at hx
  rw [hc, Option.some.inj hx]
theorem SmR.bkAt {W : World} {B : Nat} {p : PP} (h : SmR W B p) : ∃ a c, W.cell? ⟨B, 6, none⟩ = some (.slice a p.nb c) ∧ ∀ k, k < p.nb → ∃ b o b' o' c', a = some ⟨b, o, none⟩ ∧ W.cell? ⟨b, o + k, none⟩ = some (.slice (some ⟨b', o', none⟩) (p.lines.length + 1) c') ∧ ∀ i, i ≤ p.lines.length → W.cell? ⟨b', o' + i, none⟩ = some (.int .i64 (sumTo (col p k) i)) := by
  obtain ⟨vl, vn, vp, vs, vb, hrow, _, _, hM⟩ := h.ex
  obtain ⟨a, c, he, _, _, hcell⟩ := hM.open
  rw [mixM_len] at he hcell
  refine ⟨a, c, by rw [hrow.cell 6 (x := vb) rfl, he], fun k hk => ?_⟩
  obtain ⟨row, b, o, u, hr, ha, hc, hu⟩ := hcell k hk
  rw [mixM_at _ _ _ _ hk, if_neg (by omega)] at hr
  cases hr
  obtain ⟨a2, c2, he2, _, _, hcell2⟩ := hu.open
  rw [prefL_len] at he2 hcell2
  obtain ⟨x0, b2, o2, _, ha2, _⟩ := hcell2 0 (by omega)
  refine ⟨b, o, b2, o2, c2, ha, by rw [hc, he2, ha2]; rfl, fun i hi => ?_⟩
  obtain ⟨x, b', o', hx, ha', hc'⟩ := hcell2 i (by unfold PP.n; omega)
  rw [ha2] at ha'
  cases ha'
  rw [prefL_at _ (by unfold PP.n; omega)] at hx
  rw [hc', Option.some.inj hx]
theorem SmR.hgAt {W : World} {B : Nat} {p : PP} (h : SmR W B p) : W.cell? ⟨B, 3, none⟩ = some (.int .i64 p.h) ∧ W.cell? ⟨B, 4, none⟩ = some (.int .i64 p.gap) := by
  obtain ⟨vl, vn, vp, vs, vb, hrow, _, _, hM⟩ := h.ex
  exact ⟨hrow.cell 3 (x := .int .i64 p.h) rfl, hrow.cell 4 (x := .int .i64 p.gap) rfl⟩

set_option maxRecDepth 100000 in
set_option maxHeartbeats 2000000 in
theorem hgt_any (p : PP) (B f t : Nat) (w : World) (hs : SmR w B p) (hok : PpOk p) (hf : f ≤ p.lines.length) (ht : t ≤ p.lines.length) :
    Calls Tryd.prog 40 #[.pointer (some ⟨B, 0, none⟩), .int .i64 f, .int .i64 t] w fun e w' => e = .returned (.int .i64 (hgt p f t)) ∧ Below w.heap.size w w' := by
  obtain ⟨b5, o5, c5, r5, hl⟩ := hs.lnAt
  obtain ⟨a6, c6, r6, hb⟩ := hs.bkAt
  have r4 := hs.hgAt.2
  have HB := hid hb
  have HBD := fun k => hid (blkH_bd hok hf ht k)
  have HCD := fun b => hid (And.intro (sumC_bd hok b hf) (sumC_bd hok b ht))
  have cf := hl f hf
  have ct := hl t ht
  have s1 := sum_bd hok hf
  have s2 := sum_bd hok ht
  have n4 := hok.n4
  have nb4 := hok.nb
  have hg0 := hok.g0
  have hg1 := hok.g1
  have HF : Hid (hgt p f t = sumTo p.lines t - sumTo p.lines f + blkH p f t p.nb) := rfl
  have HS : Hid (∀ k, blkH p f t (k + 1) = blkH p f t k + (if 0 < sumTo (col p k) t - sumTo (col p k) f then sumTo (col p k) t - sumTo (col p k) f + p.gap else 0)) := fun k => rfl
  have HZ : Hid (blkH p f t 0 = 0) := rfl
  obtain ⟨N, hN⟩ : ∃ N, N = p.lines.length + 1 := ⟨_, rfl⟩
  rw [← hN] at r5
  have HN := hid hN
  have hfi : (f : Int) < (N : Int) := by omega
  have hti : (t : Int) < (N : Int) := by omega
  have hf0 : (0 : Int) ≤ (f : Int) := by omega
  have ht0 : (0 : Int) ≤ (t : Int) := by omega
  generalize hgt p f t = H at *
  generalize sumTo p.lines t = st at *
  generalize sumTo p.lines f = sf at *
  generalize p.nb = nb at *
  generalize p.gap = gap at *
  have hw1 : IntKind.i64.wrap (st - sf) = st - sf := IntWalk.i64_in _ (by omega)
  have HBO : Hid (∀ k, k < nb → ∃ b o b' o' c', a6 = some ⟨b, o, none⟩ ∧ w.cell? ⟨b, o + k, none⟩ = some (.slice (some ⟨b', o', none⟩) N c') ∧ ∀ i, i ≤ p.lines.length → w.cell? ⟨b', o' + i, none⟩ = some (.int .i64 (sumTo (col p k) i))) := by
    show _; rw [hN]; exact hb
  clear hb HB hl hs hok hN
  go_enter Tryd.func40, Tryd.ntmps40
  go_upto_region 1 with fail
  go_quiet (fail)
  have HB2 := hid (below_drewN (Below.refl w.heap.size w) nq)
  have q6 := Below.keeps HB2.out _ _ r6
  clear cf ct r5
  generalize w.drewN nq = w2 at *
  go_wp2_with fail
  clear q6
  go_loopw [7, 31] (fun hv kv wr => ∃ (k : Nat) (h : Int), k ≤ nb ∧ hv = .int .i64 h ∧ kv = .int .i64 k ∧ Hid (h = st - sf + blkH p f t k) ∧ Hid (Below w.heap.size w wr)) (fun _ kv _ => nb - (intOf kv).toNat)
  case atStart => exact ⟨0, _, Nat.zero_le _, rfl, rfl, by show _ = _; rw [HZ.out]; omega, HB2.out⟩
  case round =>
    obtain ⟨k, h, hk, rfl, rfl, HH, HBr⟩ := hrel
    clear HB2
    by_cases hlt : k < nb
    · have hki : (k : Int) < (nb : Int) := by omega
      have hk0 : (0 : Int) ≤ (k : Int) := by omega
      obtain ⟨b, o, b', o', c', rfl, d1, hd2⟩ := HBO.out k hlt
      have d1 := Below.keeps HBr.out _ _ d1
      have d2 := Below.keeps HBr.out _ _ (hd2 f hf)
      have d3 := Below.keeps HBr.out _ _ (hd2 t ht)
      have d4 := Below.keeps HBr.out _ _ r4
      clear hd2
      have hc := (HCD k).out
      have hbd := (HBD k).out
      have hst := HS.out k
      have hh := HH.out
      clear HH
      generalize sumTo (col p k) t = ct at *
      generalize sumTo (col p k) f = cf at *
      have hw2 : IntKind.i64.wrap (ct - cf) = ct - cf := IntWalk.i64_in _ (by omega)
      by_cases hp : 0 < ct - cf
      · have hw3 : IntKind.i64.wrap (ct - cf + gap) = ct - cf + gap := IntWalk.i64_in _ (by omega)
        have hw4 : IntKind.i64.wrap (h + (ct - cf + gap)) = h + (ct - cf + gap) := IntWalk.i64_in _ (by omega)
        rw [if_pos hp] at hst
        have HH2 : Hid (h + (ct - cf + gap) = st - sf + blkH p f t (k + 1)) := by show _ = _; omega
        clear hst hh hc hbd
        go_upto_region 5 with fail
        go_quiet (fail)
        have HB3 := hid (below_drewN HBr.out nq)
        have q4 := Below.keeps HB3.out _ _ r4
        clear HBr d1 d2 d3 d4
        go_wp2_with fail
        go_roundw
        case rel => exact ⟨k + 1, _, by omega, rfl, by go_num, HH2.out, HB3.out⟩
        case measure => simp [intOf]; omega
      · rw [if_neg hp] at hst
        have HH2 : Hid (h = st - sf + blkH p f t (k + 1)) := by show _ = _; omega
        clear hst hh hc hbd
        go_upto_region 5 with fail
        go_quiet (fail)
        have HB3 := hid (below_drewN HBr.out nq)
        clear HBr d1 d2 d3 d4
        go_wp2_with fail
        go_roundw
        case rel => exact ⟨k + 1, _, by omega, rfl, by go_num, HH2.out, HB3.out⟩
        case measure => simp [intOf]; omega
    · have hki : ¬ (k : Int) < (nb : Int) := by omega
      obtain rfl : k = nb := by omega
      have HV : Hid (h = H) := by show _ = _; rw [HH.out, HF.out]
      clear HH HF
      go_wp2
      go_ret
      exact ⟨by rw [HV.out]; rfl, HBr.out⟩
end Go.Proofs.YtlneimjenjpbnaaDoor
