/-
  pagebreak.Cost of ends that are in order.
-/
import Derived.Test.YtlneimjenjpbnaaDoorPbh
import Derived.Test.YtlneimjenjpbnaaDoorPgw
namespace Go.Proofs.YtlneimjenjpbnaaDoor
open Go.RowKit

theorem chn_len {p : PP} : ∀ (l : List Nat) (f : Nat), Chn p f l → f + l.length ≤ p.n
  | [], f, h => by have h : f = p.n := h; simp; omega
  | t :: r, f, ⟨h1, h2, h3⟩ => by have := chn_len r t h3; simp only [List.length_cons]; omega
theorem drop_at {α : Type} {l : List α} {k : Nat} (h : k < l.length) : ∃ x r, l.drop k = x :: r ∧ l[k]? = some x ∧ l.drop (k + 1) = r :=
  ⟨l[k], l.drop (k + 1), List.drop_eq_getElem_cons h, List.getElem?_eq_getElem h, rfl⟩
/-- What the first ends cost, and the rest. -/
def CostI (p : PP) (l : List Nat) (k f : Nat) (s : Int) : Prop := Chn p f (l.drop k) ∧ 0 ≤ s ∧ s ≤ (k : Int) * 20000 ∧ costF p 0 l = if (costF p f (l.drop k)).2 ≠ 0 then (0, (costF p f (l.drop k)).2) else (s + (costF p f (l.drop k)).1, 0)
theorem costF_nn {p : PP} : ∀ (l : List Nat) (f : Nat), (costF p f l).2 ≠ 0 → (costF p f l).1 = 0
  | [], _, h => rfl
  | t :: r, f, h => by
    rw [costF] at h ⊢
    split
    · rfl
    rename_i h1
    rw [if_neg h1] at h
    split
    · rfl
    rename_i h2
    rw [if_neg h2] at h
    exact absurd rfl h
theorem CostI.start {p : PP} {l : List Nat} (h : Chn p 0 l) : CostI p l 0 0 0 := by
  refine ⟨h, Int.le_refl _, by simp, ?_⟩
  rw [List.drop_zero]
  split
  · rename_i h1; exact Prod.ext (costF_nn _ _ h1) rfl
  · rename_i h1
    have h1 := Classical.not_not.1 h1
    exact Prod.ext (by show _ = 0 + _; omega) h1
theorem CostI.bad {p : PP} {l r : List Nat} {k f x : Nat} {s : Int} (h : CostI p l k f s) (hd : l.drop k = x :: r) (he : (pgI p f x).2 ≠ 0) : costF p 0 l = (0, (pgI p f x).2) := by
  have h1 := h.2.2.2
  have h2 : costF p f (l.drop k) = (0, (pgI p f x).2) := by rw [hd, costF, if_pos he]
  rw [h1, h2, if_pos he]
theorem CostI.step {p : PP} {l r : List Nat} {k f x : Nat} {s : Int} (hok : PpOk p) (h : CostI p l k f s) (hd : l.drop k = x :: r) (hr : l.drop (k + 1) = r) (he : (pgI p f x).2 = 0) : CostI p l (k + 1) x (s + (pgI p f x).1) := by
  obtain ⟨h1, h2, h3, h4⟩ := h
  have hb := pgI_bd hok f x
  rw [hd] at h1 h4
  refine ⟨by rw [hr]; exact h1.2.2, by omega, by omega, ?_⟩
  have e : costF p f (x :: r) = if (costF p x r).2 ≠ 0 then (0, (costF p x r).2) else ((pgI p f x).1 + (costF p x r).1, 0) := by
    rw [costF, he]; simp
  rw [hr, h4, e]
  by_cases hq : (costF p x r).2 = 0
  · simp only [hq, ne_eq, not_true, if_false]
    exact Prod.ext (by show s + (_ + _) = _; simp only; omega) rfl
  · simp only [ne_eq, hq, not_false_eq_true, if_true]
theorem CostI.done {p : PP} {l : List Nat} {f : Nat} {s : Int} (h : CostI p l l.length f s) : costF p 0 l = (s, 0) := by
  have h4 := h.2.2.2
  rw [List.drop_length] at h4
  rw [h4, costF]
  simp

set_option maxRecDepth 100000 in
set_option maxHeartbeats 4000000 in
theorem pbc_any (p : PP) (vl vn vp ve : Value) (l : List Nat) (w : World) (hr : RdP5 w vl vn vp p) (hz : ppI p = 0) (he : RdI w ve (l.map Int.ofNat)) (hc : Chn p 0 l) :
    Calls Tryd.prog 13 #[.agg (ppC p vl vn vp), ve] w fun e w' => e = .returned (.tuple #[.int .i64 (costF p 0 l).1, .int .i64 (costF p 0 l).2]) ∧ Below w.heap.size w w' := by
  have HOK := hid (pp_ok hz)
  have HZ := hid hz
  have HCH := hid hc
  have hll := chn_len l 0 hc
  have n4 := HOK.out.n4
  have hpn : p.n = p.lines.length := rfl
  have l4 : l.length ≤ 4096 := by omega
  have HE := hid he
  obtain ⟨ae, ce, hev, hel, hec, hcl⟩ := he.open
  rw [List.length_map] at hev hel hcl
  subst hev
  have HB0 := hid (below_al w (.cells (ppC p vl vn vp) 38))
  have HR0 := hid (row_nw w (ppC p vl vn vp) 38 rfl)
  have HCL : Hid (∀ k, k < l.length → ∃ x b off, l[k]? = some x ∧ ae = some ⟨b, off, none⟩ ∧ w.cell? ⟨b, off + k, none⟩ = some (.int .i64 (x : Int))) := fun k hk => by
    obtain ⟨x, b, off, h1, h2, h3⟩ := hcl k hk
    rw [List.getElem?_map] at h1
    obtain ⟨y, hy, rfl⟩ := Option.map_eq_some_iff.1 h1
    exact ⟨y, b, off, hy, h2, h3⟩
  have HRD := hid hr
  obtain ⟨a1, c1, rfl, _, _, _⟩ := hr.l.open
  obtain ⟨a2, c2, rfl, hl2, hm2, _⟩ := hr.n.open
  obtain ⟨a3, c3, rfl, _, _, _⟩ := hr.s.open
  have HC := fun w' h => hid (ppchk_any p (.slice a1 p.lines.length c1) (.slice a2 p.notes.length c2) (.slice a3 p.pens.length c3) w' h)
  have HS := fun w' h => hid (nsums_any p (.slice a1 p.lines.length c1) (.slice a2 p.notes.length c2) (.slice a3 p.pens.length c3) w' h HOK.out)
  clear hr hz hc he hcl hel hll hpn
  unfold ppC at HR0 HB0 HC HS ⊢
  go_enter Tryd.func13, Tryd.ntmps13
  go_wp2_with fail
  (with_reducible refine (HC _ (HRD.out.below HB0.out)).out.mono ?_)
  rintro e w2 ⟨rfl, hb2⟩
  rw [HZ.out]
  have HRD2 := hid ((HRD.out.below HB0.out).below hb2)
  have HB2 := hid (below_tr HB0.out hb2)
  have HR2 := hid (HR0.out.below hb2)
  clear HR0 HB0 hb2 HRD
  have cl := HR2.out.cell 0 (x := .slice a1 p.lines.length c1) rfl
  have cn := HR2.out.cell 1 (x := .slice a2 p.notes.length c2) rfl
  have cp := HR2.out.cell 2 (x := .slice a3 p.pens.length c3) rfl
  have ch := HR2.out.cell 3 (x := .int .i64 p.h) rfl
  have cg := HR2.out.cell 4 (x := .int .i64 p.gap) rfl
  go_wp2_with fail
  go_loop [6, 21] (fun u i => ∃ k f : Nat, k ≤ l.length ∧ i = .int .i64 k ∧ u = .int .i64 f ∧ Hid (Chn p f (l.drop k))) (fun _ i => l.length - (intOf i).toNat)
  case atStart => exact ⟨0, 0, by omega, rfl, rfl, HCH.out⟩
  case round =>
    obtain ⟨k, f, hk, rfl, rfl, HK⟩ := hrel
    by_cases hlt : k < l.length
    · obtain ⟨x, r, hd, hx, hr⟩ := drop_at hlt
      obtain ⟨y, b, off, hy, rfl, hcy⟩ := HCL.out k hlt
      rw [hx] at hy; cases hy
      have hcy := Below.keeps HB2.out _ _ hcy
      have hK := HK.out
      rw [hd] at hK
      obtain ⟨k1, k2, k3⟩ := hK
      have HK3 : Hid (Chn p x (l.drop (k + 1))) := by rw [hr]; exact k3
      have hpn : p.n = p.lines.length := rfl
      have i1 : ¬ (x : Int) < 1 := by omega
      have i2 : ¬ (p.lines.length : Int) < (x : Int) := by omega
      have i3 : ¬ (x : Int) ≤ (f : Int) := by omega
      clear hd hx hr k1 k2 k3 hpn
      by_cases k0 : k = 0
      · have i4 : ¬ (0 : Int) < (k : Int) := by omega
        have HK0 := hid k0
        clear k0
        go_wp2_with fail
        go_round
        case rel => exact ⟨k + 1, x, by omega, by go_num, rfl, HK3.out⟩
        case measure => simp [intOf]; omega
      · have i4 : (0 : Int) < (k : Int) := by omega
        have HK0 := hid k0
        clear k0
        go_wp2_with fail
        go_round
        case rel => exact ⟨k + 1, x, by omega, by go_num, rfl, HK3.out⟩
        case measure => simp [intOf]; omega
    · obtain rfl : k = l.length := by omega
      have hfn : f = p.lines.length := by
        have h := HK.out
        rw [List.drop_length] at h
        exact h
      have i1 : ((f : Int) != (p.lines.length : Int)) = false := by rw [hfn]; simp
      clear hfn
      go_wp2_with fail
      (with_reducible refine (HS _ HRD2.out).out.mono ?_)
      rintro e w3 ⟨B, rfl, _, hs3, hb3⟩
      have HS3 := hid hs3
      have HB3 := hid (below_tr HB2.out hb3)
      clear hs3 hb3 cl cn cp ch cg HR2 HRD2 i1 hk HK
      go_wp2_with fail
      go_loopw [10, 11, 53] (fun s u i wr => ∃ (k f : Nat) (sm : Int), k ≤ l.length ∧ i = .int .i64 k ∧ u = .int .i64 f ∧ s = .int .i64 sm ∧ Hid (CostI p l k f sm) ∧ Hid (SmR wr B p) ∧ Hid (Below w.heap.size w wr)) (fun _ _ i _ => l.length - (intOf i).toNat)
      case atStart => exact ⟨0, 0, 0, by omega, rfl, rfl, rfl, CostI.start HCH.out, HS3.out, HB3.out⟩
      case round =>
        rename_i wr
        obtain ⟨k, f, sm, hk, rfl, rfl, rfl, HK, HSr, HBr⟩ := hrel
        by_cases hlt : k < l.length
        · obtain ⟨x, r, hd, hx, hr⟩ := drop_at hlt
          obtain ⟨y, b, off, hy, rfl, hcy⟩ := HCL.out k hlt
          rw [hx] at hy; cases hy
          have hcy := Below.keeps HBr.out _ _ hcy
          have hK := HK.out.1
          rw [hd] at hK
          have HP := hid (page_any p B f x wr HSr.out HOK.out hK.1 hK.2.1)
          have hs0 := HK.out.2.1
          have hs1 := HK.out.2.2.1
          have hcb := pgI_bd HOK.out f x
          by_cases he : (pgI p f x).2 = 0
          · have HK2 := hid (HK.out.step HOK.out hd hr he)
            generalize hc0 : pgI p f x = R at *
            obtain ⟨c, e⟩ := R
            dsimp only at *
            subst he
            clear hd hx hr hK hc0 HK
            go_wp2_with fail
            (with_reducible refine HP.out.mono ?_)
            rintro e w4 ⟨rfl, hb4⟩
            have HS4 := hid (HSr.out.below hb4)
            have HB4 := hid (below_tr HBr.out hb4)
            clear hb4 HSr HBr hcy
            go_wp2_with fail
            go_roundw
            case rel => exact ⟨k + 1, x, sm + c, by omega, by go_num, rfl, rfl, HK2.out, HS4.out, HB4.out⟩
            case measure => simp [intOf]; omega
          · have HV := hid (HK.out.bad hd he)
            generalize hc0 : pgI p f x = R at *
            obtain ⟨c, e⟩ := R
            dsimp only at *
            have i1 : (e != 0) = true := bne_iff_ne.2 he
            have i2 : (e == 0) = false := beq_eq_false_iff_ne.2 he
            clear hd hx hr hK hc0 HK he
            go_wp2_with fail
            (with_reducible refine HP.out.mono ?_)
            rintro e w4 ⟨rfl, hb4⟩
            have HB4 := hid (below_tr HBr.out hb4)
            clear hb4 HSr HBr hcy
            go_wp2_with fail
            refine bodyPost_ret (results_tmp2 rfl _ _ _) rfl ⟨?_, HB4.out⟩
            rw [HV.out]; rfl
        · obtain rfl : k = l.length := by omega
          have HV := hid HK.out.done
          go_wp2_with fail
          refine bodyPost_ret (results_tmp2 rfl _ _ _) rfl ⟨?_, HBr.out⟩
          rw [HV.out]; rfl
end Go.Proofs.YtlneimjenjpbnaaDoor
