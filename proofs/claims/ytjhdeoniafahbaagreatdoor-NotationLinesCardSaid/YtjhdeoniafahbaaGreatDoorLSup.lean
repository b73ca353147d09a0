/-
  P45.7: NotationSupport.
-/
import Derived.Test.YtjhdeoniafahbaaGreatDoorJ09
import Derived.Test.YtjhdeoniafahbaaGreatDoorJ08
import Derived.Test.YtjhdeoniafahbaaGreatDoorCnt
namespace Go.Proofs.YtjhdeoniafahbaaGreatDoor
open Go.RowKit

theorem nt_sz {x : Nt} (h : NtSm x) : SzN x := by
  refine ⟨by have := h.lf; omega, by have := h.ll; omega, fun s hs => by have := h.sup.2 s hs; omega, fun v hv => ⟨fun s hs => ?_, fun s hs => ?_⟩⟩
  · have := (h.vs v hv).1.2 s hs; omega
  · have := (h.vs v hv).2.2 s hs; omega
set_option maxRecDepth 100000 in
set_option maxHeartbeats 4000000 in
theorem lsup_any (x : Nt) (u s : Value) (m : Int) (w : World) (he : Env w) (hm : w.cell? ⟨0, 0, none⟩ = some (.int .i64 m)) (hr : RdN w u s x) (hz : SzN0 x) :
    Calls Tryz.prog 8 #[.agg (x.cells u s)] w fun e w' => e = .returned (.bool true) ∧ Below w.heap.size w w' := by
  have HE := fun w' (h : Below w.heap.size w w') => hid (he.below h)
  have HM := fun w' (h : Below w.heap.size w w') => hid (Below.keeps h _ _ hm)
  have HAW := fun w' (h : Below w.heap.size w w') => hid (awake45_any m w' (HE w' h).out (HM w' h).out)
  obtain ⟨au, cu, rfl, _, _, _⟩ := hr.rs.open
  obtain ⟨av, cv, rfl, _, _, _⟩ := hr.rv.open
  have HNV : Hid (gnB x = false → x.vs.length ≤ 4) := fun h => (nt_small h).vl
  have HSP := fun h => hid (support_plain (x := x) h)
  generalize x.sup.length = nu at *
  generalize x.vs.length = nv at *
  have HR := fun w' (h : Below w.heap.size w w') => hid (hr.below h)
  have HB0 := hid (below_al w (.cells (x.cells (.slice au nu cu) (.slice av nv cv)) 30))
  have HN0 := hid (row_nw w (x.cells (.slice au nu cu) (.slice av nv cv)) 30 rfl)
  have HG := hid (greatN_any x (.slice au nu cu) (.slice av nv cv) _ (HR _ HB0.out).out hz)
  have HNS := fun h => hid (nt_small (x := x) h)
  have HCK := fun w' (h : Below w.heap.size w w') hz => hid (pchk_any x (.slice au nu cu) (.slice av nv cv) w' (HE w' h).out (HR w' h).out hz)
  have HPR := fun w' (h : Below w.heap.size w w') hz => hid (pprt_any x (.slice au nu cu) (.slice av nv cv) w' (HE w' h).out (HR w' h).out hz)
  clear he hm hr hz HR
  unfold Nt.cells at *
  have c0 := HN0.out.cell 0 (x := .int .i64 x.fr) rfl
  have c1 := HN0.out.cell 1 (x := .int .i64 x.to_) rfl
  have c2 := HN0.out.cell 2 (x := .int .i64 x.pl) rfl
  have c3 := HN0.out.cell 3 (x := .string x.lf) rfl
  have c4 := HN0.out.cell 4 (x := .string x.ll) rfl
  have c5 := HN0.out.cell 5 (x := .int .i64 x.ln) rfl
  have c6 := HN0.out.cell 6 (x := .bool x.pos) rfl
  have c7 := HN0.out.cell 7 (x := .slice au nu cu) rfl
  have c8 := HN0.out.cell 8 (x := .slice av nv cv) rfl
  go_enter Tryz.func8, Tryz.ntmps8
  go_upto_region 1 with fail
  generalize w.alloc (.cells #[.int .i64 x.fr, .int .i64 x.to_, .int .i64 x.pl, .string x.lf, .string x.ll, .int .i64 x.ln, .bool x.pos, .slice au nu cu, .slice av nv cv] 30) = W0 at *
  obtain ⟨bn, hbn⟩ : ∃ b, b = w.heap.size := ⟨_, rfl⟩
  rw [← hbn] at HN0 c0 c1 c2 c3 c4 c5 c6 c7 c8 ⊢
  clear hbn
  cases hg : gnB x with
  | true =>
    rw [hg] at HG
    clear hg HSP HNV HNS HCK HPR
    go_wp2_with fail
    (with_reducible refine HG.out.mono ?_)
    rintro e w1 ⟨rfl, hB⟩
    have HB1 := hid (below_tr HB0.out hB)
    have HN1 := hid (HN0.out.below hB)
    clear hB
    clear c0 c1 c2 c3 c4 c5 c6 c7 c8
    go_wp2_with fail
    (with_reducible refine (HAW _ HB1.out).out.mono ?_)
    rintro e wa ⟨rfl, hBa⟩
    go_wp2
    go_ret
    exact ⟨rfl, below_tr HB1.out hBa⟩
  | false =>
    have HSM := HNS hg
    have HSZ := hid (nt_sz HSM.out)
    have HN4 := hid (HNV.out hg)
    have HPE := hid (prE_small HSM.out)
    rw [hg] at HG
    clear hg HNV HNS
    go_wp2_with fail
    (with_reducible refine HG.out.mono ?_)
    rintro e w1 ⟨rfl, hB⟩
    have HB1 := hid (below_tr HB0.out hB)
    have HN1 := hid (HN0.out.below hB)
    clear hB
    clear c0 c1 c2 c3 c4 c5 c6 c7 c8
    have c0 := HN1.out.cell 0 (x := .int .i64 x.fr) rfl
    have c1 := HN1.out.cell 1 (x := .int .i64 x.to_) rfl
    have c2 := HN1.out.cell 2 (x := .int .i64 x.pl) rfl
    have c3 := HN1.out.cell 3 (x := .string x.lf) rfl
    have c4 := HN1.out.cell 4 (x := .string x.ll) rfl
    have c5 := HN1.out.cell 5 (x := .int .i64 x.ln) rfl
    have c6 := HN1.out.cell 6 (x := .bool x.pos) rfl
    have c7 := HN1.out.cell 7 (x := .slice au nu cu) rfl
    have c8 := HN1.out.cell 8 (x := .slice av nv cv) rfl
    have HC1 := HCK _ HB1.out HSZ.out
    clear HCK HG
    by_cases hE : nteI x = 0
    · have HS := HSP hE
      have HP0 : Hid (prE x = 0) := by show _ = _; rw [HPE.out, hE]
      rw [hE] at HC1
      clear HSP hE HPE
      go_wp2_with fail
      (with_reducible refine HC1.out.mono ?_)
      rintro e w2 ⟨rfl, hB⟩
      have HB2 := hid (below_tr HB1.out hB)
      have HN2 := hid (HN1.out.below hB)
      clear hB
      clear c0 c1 c2 c3 c4 c5 c6 c7 c8
      have HP2 := HPR _ HB2.out HSZ.out
      have hps : prS x = prN x := by unfold prS; rw [if_pos HP0.out]
      rw [HP0.out, hps] at HP2
      clear HPR HC1 hps
      have c0 := HN2.out.cell 0 (x := .int .i64 x.fr) rfl
      have c1 := HN2.out.cell 1 (x := .int .i64 x.to_) rfl
      have c2 := HN2.out.cell 2 (x := .int .i64 x.pl) rfl
      have c3 := HN2.out.cell 3 (x := .string x.lf) rfl
      have c4 := HN2.out.cell 4 (x := .string x.ll) rfl
      have c5 := HN2.out.cell 5 (x := .int .i64 x.ln) rfl
      have c6 := HN2.out.cell 6 (x := .bool x.pos) rfl
      have c7 := HN2.out.cell 7 (x := .slice au nu cu) rfl
      have c8 := HN2.out.cell 8 (x := .slice av nv cv) rfl
      go_wp2_with fail
      (with_reducible refine HP2.out.mono ?_)
      rintro e w3 ⟨rfl, hB⟩
      have HB3 := hid (below_tr HB2.out hB)
      have HN3 := hid (HN2.out.below hB)
      clear hB
      clear c0 c1 c2 c3 c4 c5 c6 c7 c8
      have HCO : Hid (((Lib.countByte (prN x).data.toList 123 : Nat) : Int) = ((nv + (if x.pos = true then 1 else 0) : Nat) : Int) ∧ ((Lib.countByte (prN x).data.toList 125 : Nat) : Int) = ((nv + (if x.pos = true then 1 else 0) : Nat) : Int) ∧ ((Lib.countByte (prN x).data.toList 124 : Nat) : Int) + 1 = (nv : Int)) := by
        obtain ⟨h1, h2, h3⟩ := HS.out
        unfold cB at h1 h2 h3
        show (((prN x).data.toList.count 123 : Nat) : Int) = _ ∧ (((prN x).data.toList.count 125 : Nat) : Int) = _ ∧ (((prN x).data.toList.count 124 : Nat) : Int) + 1 = _
        rw [h1, h2]
        exact ⟨rfl, rfl, by omega⟩
      have HCT := fun w' => hid (Tryz.strings_Count_one (prN x) 123 w')
      have HCU := fun w' => hid (Tryz.strings_Count_one (prN x) 125 w')
      have HCV := fun w' => hid (Tryz.strings_Count_one (prN x) 124 w')
      rw [HCO.out.1] at HCT
      rw [HCO.out.2.1] at HCU
      obtain ⟨n4, hn4⟩ : ∃ n : Int, n = ((Lib.countByte (prN x).data.toList 124 : Nat) : Int) := ⟨_, rfl⟩
      have HQ4 : Hid (n4 + 1 = (nv : Int)) := by show _ = _; rw [hn4]; exact HCO.out.2.2
      rw [← hn4] at HCV
      clear HCO hn4 HS HP2 HSM
      generalize prN x = pn at *
      have hnv4 := HN4.out
      obtain ⟨pz, hpz⟩ : ∃ b : Bool, b = x.pos := ⟨_, rfl⟩
      have c6 : w3.cell? ⟨bn, 6, none⟩ = some (.bool pz) := by rw [hpz]; exact HN3.out.cell 6 rfl
      have HPZ := hid hpz
      clear hpz
      have c8 := HN3.out.cell 8 (x := .slice av nv cv) rfl
      go_upto_if 23 with fail
      go_cut [5] from 19 to 25 (fun v wx => ∃ q : Int, v = .int .i64 q ∧ Hid (q = ((nv + (if x.pos = true then 1 else 0) : Nat) : Int)) ∧ Hid (Below w.heap.size w wx) ∧ Hid (Row wx bn #[.int .i64 x.fr, .int .i64 x.to_, .int .i64 x.pl, .string x.lf, .string x.ll, .int .i64 x.ln, .bool x.pos, .slice au nu cu, .slice av nv cv] 30))
      case first =>
        cases pz with
        | false =>
          have HQ : Hid (((nv : Nat) : Int) = ((nv + (if x.pos = true then 1 else 0) : Nat) : Int)) := by show _ = _; rw [← HPZ.out]; rfl
          clear HPZ
          go_wp2_with fail
          go_meet
          exact ⟨_, rfl, HQ, HB3, HN3⟩
        | true =>
          have HQ : Hid (((nv + 1 : Nat) : Int) = ((nv + (if x.pos = true then 1 else 0) : Nat) : Int)) := by show _ = _; rw [← HPZ.out]; rfl
          have hw : IntKind.i64.wrap ((nv : Int) + 1) = ((nv + 1 : Nat) : Int) := by rw [IntWalk.i64_in _ (by omega)]; rfl
          clear HPZ
          go_wp2_with fail
          go_meet
          exact ⟨_, rfl, HQ, HB3, HN3⟩
      case rest =>
        obtain ⟨q, rfl, HQ, HB5, HN5⟩ := hcut
        rw [← HQ.out] at HCT HCU
        have d8 := HN5.out.cell 8 (x := .slice av nv cv) rfl
        have HB6 := HB5
        have hw : IntKind.i64.wrap ((nv : Int) - 1) = n4 := by have := HQ4.out; rw [IntWalk.i64_in _ (by omega)]; omega
        have hq1 : (q == q) = true := by simp
        have hq2 : (n4 == n4) = true := by simp
        clear c6 c8 HB3 HN3 HQ HB1 HB2 HN1 HN2
        go_wp2_with fail
        go_region_held3 (fun w' => w'.cell? ⟨bn, 8, none⟩ = some (.slice av nv cv) ∧ Below w.heap.size w w')
          ((refine ⟨?_, ?_⟩ <;> first | assumption | (exact HB6.out) | (exact Below.drew (by assumption)) | (exact HB6.out.drew) | go_keep))
          (first
            | (go_at_call 27; go_split_ands; (first | (with_reducible refine (HCT _).out.mono ?_) | (with_reducible refine (HCU _).out.mono ?_) | (with_reducible refine (HCV _).out.mono ?_)); rintro e w6 ⟨rfl, rfl⟩)
            | (go_at_call 14; go_split_ands; refine (HAW _ (by assumption)).out.mono ?_; rintro e w6 ⟨rfl, hB6⟩; have z0 := Below.keeps hB6 _ _ (by assumption : World.cell? _ ⟨bn, 8, none⟩ = some _); have z5 : Below w.heap.size w w6 := below_tr (by assumption) hB6))
        all_goals go_split_ands
        all_goals go_wp2_with fail
        all_goals go_ret
        all_goals exact ⟨rfl, by first | assumption | exact Below.drew (by assumption)⟩
    · have hEb : (nteI x == 0) = false := beq_eq_false_iff_ne.2 hE
      clear HSP HPR HPE
      go_wp2_with fail
      (with_reducible refine HC1.out.mono ?_)
      rintro e w2 ⟨rfl, hB⟩
      have HB2 := hid (below_tr HB1.out hB)
      have HN2 := hid (HN1.out.below hB)
      clear hB
      clear c0 c1 c2 c3 c4 c5 c6 c7 c8
      go_wp2_with fail
      (with_reducible refine (HAW _ HB2.out).out.mono ?_)
      rintro e wa ⟨rfl, hBa⟩
      go_wp2
      go_ret
      exact ⟨rfl, below_tr HB2.out hBa⟩
end Go.Proofs.YtjhdeoniafahbaaGreatDoor
