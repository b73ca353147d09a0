/-
  The reference's Check of a note.
-/
import Derived.Test.YtjhdeoniafahbaaGreatDoorRHd45
import Derived.Deep.CutRange
namespace Go.Proofs.YtjhdeoniafahbaaGreatDoor
open Go.RowKit

/-- What a valid head tells. -/
theorem head_ok {x : Nt} (h : headI x = 0) : (1 ≤ x.fr ∧ x.fr ≤ x.to_ ∧ x.to_ ≤ 4096) ∧ (1 ≤ x.pl ∧ x.pl ≤ 4) ∧ ((x.pl = 4 ∧ x.lf.size = 0 ∧ x.ll.size = 0 ∧ x.ln = 0) ∨ (x.pl ≠ 4 ∧ lemCk x.lf x.ll x.ln = 0 ∧ (x.pl = 1 ∨ x.ll.size = 0))) ∧
    (x.sup.length = 0 ∨ x.pos = true) ∧ x.sup.length ≤ 4096 ∧ (x.sup.any fun s => !sigB s) = false ∧ 0 < x.vs.length ∧ x.vs.length ≤ 4096 := by
  unfold headI at h
  split at h
  · cases h
  rename_i a1
  split at h
  · cases h
  rename_i a2
  split at h
  · cases h
  rename_i a3
  split at h
  · rename_i a4; exact absurd h a4.2
  rename_i a4
  split at h
  · cases h
  rename_i a5
  split at h
  · cases h
  rename_i a6
  split at h
  · cases h
  rename_i a7
  split at h
  · cases h
  rename_i a8
  split at h
  · cases h
  rename_i a9
  split at h
  · cases h
  rename_i a10
  refine ⟨by omega, by omega, ?_, ?_, by omega, by simpa using a8, by omega, by omega⟩
  · by_cases p4 : x.pl = 4
    · left
      have h3 : lem0 x = true := by
        cases hl : lem0 x with
        | true => rfl
        | false => exact absurd ⟨p4, hl⟩ a3
      unfold lem0 at h3
      simp only [Bool.and_eq_true, decide_eq_true_eq] at h3
      exact ⟨p4, h3.1.1, h3.1.2, h3.2⟩
    · right
      refine ⟨p4, Classical.byContradiction fun hc => a4 ⟨p4, hc⟩, ?_⟩
      by_cases p1 : x.pl = 1
      · exact .inl p1
      · exact .inr (Classical.byContradiction fun hc => a5 ⟨p4, p1, hc⟩)
  · rcases Nat.eq_zero_or_pos x.sup.length with h1 | h1
    · exact .inl h1
    · refine .inr ?_
      cases hp : x.pos with
      | true => rfl
      | false => exact absurd ⟨h1, hp⟩ a6

set_option maxRecDepth 100000 in
set_option maxHeartbeats 8000000 in
theorem rchk_ok (x : Nt) (u s : Value) (w : World) (he : Env w) (hr : RdN w u s x) (hz : SzN x) (h0 : headI x = 0) :
    Calls Tryz.prog 34 #[.agg (x.cells u s)] w fun e w' => e = .returned (.int .i64 (nteI x)) ∧ Below w.heap.size w w' := by
  obtain ⟨⟨a1, a2, a3⟩, ⟨b1, b2⟩, hlem, hsp, hsl, hsg, hv0, hv1⟩ := head_ok h0
  have HV : Hid (nteI x = varsI x.pl x.vs) := by show _ = _; unfold nteI; rw [if_pos h0]
  have HB0 := hid (below_al w (.cells (x.cells u s) 30))
  have HR0 := hid (row_nw w (x.cells u s) 30 rfl)
  have HE := fun w' (h : Below w.heap.size w w') => hid (he.below h)
  have HS : ∀ w', Below w.heap.size w w' → Hid (Calls Tryz.prog 79 #[u] w' fun e w'' => e = .returned (.bool true) ∧ Below w'.heap.size w' w'') := fun w' h => by
    have h2 := rsigla45_any u x.sup w' (hr.rs.below h) hz.sup
    rw [hsg] at h2
    exact h2
  have HL := fun w' (h : Below w.heap.size w w') => hid (rlck_any x.lf x.ll x.ln w' (he.below h) hz.lf hz.ll)
  have hvs := hr.rv
  have hzv := hz.vs
  obtain ⟨au, cu, rfl, hlu, hmu, _⟩ := hr.rs.open
  obtain ⟨av, cv, rfl, hlv, hmv, _⟩ := hvs.open
  clear he hr hz h0 hsg
  obtain ⟨ri, hri⟩ : ∃ r, r = nteI x := ⟨_, rfl⟩
  rw [← hri] at HV
  rw [← hri]
  clear hri
  obtain ⟨fr, to_, pl, lf, ll, ln, pos, sup, vs⟩ := x
  unfold Nt.cells at *
  simp only at *
  have q1 : ¬ fr < 1 := by omega
  have q2 : ¬ to_ < fr := by omega
  have q3 : ¬ 4096 < to_ := by omega
  have q4 : ¬ pl < 1 := by omega
  have q5 : ¬ 4 < pl := by omega
  have s2i : ¬ (4096 : Int) < (sup.length : Int) := by omega
  have v0b : ((vs.length : Int) == 0) = false := beq_eq_false_iff_ne.2 (by omega)
  have v1i : ¬ (4096 : Int) < (vs.length : Int) := by omega
  have HLEM := hid hlem
  have HSP := hid hsp
  clear hlem hsp hsl hv0 hv1 a1 a2 a3 b1 b2
  go_enter Tryz.func34, Tryz.ntmps34
  go_upto_if 31 with fail
  generalize w.alloc (.cells #[.int .i64 fr, .int .i64 to_, .int .i64 pl, .string lf, .string ll, .int .i64 ln, .bool pos, .slice au sup.length cu, .slice av vs.length cv] 30) = W0 at *
  go_cut [3] from 31 to 50 (fun v wx => Hid (Below w.heap.size w wx) ∧ Hid (Row wx w.heap.size #[.int .i64 fr, .int .i64 to_, .int .i64 pl, .string lf, .string ll, .int .i64 ln, .bool pos, .slice au sup.length cu, .slice av vs.length cv] 30))
  case first =>
    have c2 := HR0.out.cell 2 (x := .int .i64 pl) rfl
    have c3 := HR0.out.cell 3 (x := .string lf) rfl
    have c4 := HR0.out.cell 4 (x := .string ll) rfl
    have c5 := HR0.out.cell 5 (x := .int .i64 ln) rfl
    rcases HLEM.out with ⟨k6, z1, z2, z3⟩ | ⟨k6, kl, k8⟩
    · have k6b : (pl == 4) = true := by rw [k6]; rfl
      subst z3
      obtain rfl := ba_nil0 z1
      obtain rfl := ba_nil0 z2
      clear z1 z2 HLEM HL HS k6
      go_wp2_with fail
      go_meet
      case rel => exact ⟨HB0.out, HR0.out⟩
    · have k6b : (pl == 4) = false := beq_eq_false_iff_ne.2 k6
      rw [kl] at HL
      have HL1 := hid (HL W0 HB0.out).out
      clear HL HS HLEM kl k6
      rcases k8 with k8 | k8
      · subst k8
        go_wp2_with fail
        (with_reducible refine HL1.out.mono ?_)
        rintro e w4 ⟨rfl, hB4⟩
        have HR4 := hid (HR0.out.below hB4)
        have d2 := HR4.out.cell 2 (x := .int .i64 1) rfl
        have HB4 := hid (below_tr HB0.out hB4)
        clear hB4 c2 c3 c4 c5
        go_wp2_with fail
        go_meet
        case rel => exact ⟨HB4.out, HR4.out⟩
      · obtain rfl := ba_nil0 k8
        clear k8
        cases hp1 : (pl != 1) with
        | true =>
          have HP1 := hid hp1
          go_wp2_with fail
          (with_reducible refine HL1.out.mono ?_)
          rintro e w4 ⟨rfl, hB4⟩
          have HR4 := hid (HR0.out.below hB4)
          have d2 := HR4.out.cell 2 (x := .int .i64 pl) rfl
          have d4 := HR4.out.cell 4 (x := .string ⟨#[]⟩) rfl
          have HB4 := hid (below_tr HB0.out hB4)
          clear hB4 c2 c3 c4 c5
          go_wp2_with fail
          go_meet
          case rel => exact ⟨HB4.out, HR4.out⟩
        | false =>
          go_wp2_with fail
          (with_reducible refine HL1.out.mono ?_)
          rintro e w4 ⟨rfl, hB4⟩
          have HR4 := hid (HR0.out.below hB4)
          have d2 := HR4.out.cell 2 (x := .int .i64 pl) rfl
          have HB4 := hid (below_tr HB0.out hB4)
          clear hB4 c2 c3 c4 c5
          go_wp2_with fail
          go_meet
          case rel => exact ⟨HB4.out, HR4.out⟩
  case rest =>
    obtain ⟨HB1, HR1⟩ := hcut
    clear HB0 HR0 HL HLEM q1 q2 q3 q4 q5
    have c6 := HR1.out.cell 6 (x := .bool pos) rfl
    have c7 := HR1.out.cell 7 (x := .slice au sup.length cu) rfl
    go_upto_region 13 with fail
    go_cut [51] from 52 to 60 (fun v wx => v = .bool false ∧ Hid (wc = wx))
    case first =>
      rcases HSP.out with h | h
      · have s1i : ¬ (0 : Int) < (sup.length : Int) := by omega
        clear h HS HSP
        go_wp2_with fail
        go_meet
        case rel => exact ⟨rfl, rfl⟩
      · subst h
        by_cases h2 : (0 : Int) < (sup.length : Int)
        · clear HS HSP
          go_wp2_with fail
          go_meet
          case rel => exact ⟨rfl, rfl⟩
        · clear HS HSP
          go_wp2_with fail
          go_meet
          case rel => exact ⟨rfl, rfl⟩
    case rest =>
      obtain ⟨rfl, hwc⟩ := hcut
      obtain rfl := hwc.out
      have HS1 := HS _ HB1.out
      clear HS HSP hwc c6
      go_wp2_with fail
      (with_reducible refine HS1.out.mono ?_)
      rintro e w5 ⟨rfl, hB5⟩
      have HR5 := hid (HR1.out.below hB5)
      have HB5 := hid (below_tr HB1.out hB5)
      have c8 := HR5.out.cell 8 (x := .slice av vs.length cv) rfl
      have hv1 := hvs.below HB5.out
      clear HR1 HB1 hB5 HS1 hvs c7
      go_wp2
      clear c8
      obtain ⟨_, _, he8, _, _, hcell⟩ := hv1.open
      simp only [Value.slice.injEq] at he8
      obtain ⟨rfl, _, rfl⟩ := he8
      have HC := hid hcell
      clear hcell hv1 v0b v1i s2i
      generalize w5 = w0 at *
      go_loopw [4] (fun i wr => ∃ k : Nat, k ≤ vs.length ∧ i = .int .i64 k ∧ Hid (∀ y ∈ vs.take k, varI pl y = 0) ∧ Hid (Below w0.heap.size w0 wr)) (fun i _ => vs.length - (intOf i).toNat)
      case atStart => exact ⟨0, Nat.zero_le _, rfl, by simp [Hid], Below.refl _ _⟩
      case round =>
        obtain ⟨k, hk, rfl, HN, HB⟩ := hrel
        by_cases hlt : k < vs.length
        · obtain ⟨y, b, o, vw, vsg, hx, rfl, d0, d1, rw0, rs0⟩ := HC.out k hlt
          have hki : (k : Int) < (vs.length : Int) := by omega
          have hk0 : (0 : Int) ≤ (k : Int) := by omega
          have e0 := Below.keeps HB.out _ _ d0
          have e1 := Below.keeps HB.out _ _ d1
          have hzy := hzv y (List.mem_of_getElem? hx)
          obtain ⟨aw, cw, rfl, hlw, hmw, _⟩ := rw0.open
          obtain ⟨ag, cg, rfl, hlg, hmg, _⟩ := rs0.open
          have hb1 := below_al wr (.cells #[.slice aw y.ws.length cw, .slice ag y.sg.length cg] 63)
          have HBa := hid (below_tr HB.out hb1)
          have HRv := hid (row_nw wr #[.slice aw y.ws.length cw, .slice ag y.sg.length cg] 63 rfl)
          have HRn := hid ((HR5.out.below HBa.out))
          have HRn0 := hid ((HR5.out.below HB.out))
          have cn := HRn0.out.cell 8 (x := .slice (some ⟨b, o, none⟩) vs.length cv) rfl
          have HWW := fun w' (h : Below w0.heap.size w0 w') => hid (rright_any _ y.ws w' (HE _ (below_tr HB5.out h)).out (rw0.below h) hzy.1)
          have HOO := fun w' (h : Below w0.heap.size w0 w') => hid (rsigla45_any _ y.sg w' (rs0.below h) hzy.2)
          have HD : Hid (varI pl y = if y.sg.length = 0 ∨ (y.ws.length = 0 ∧ pl ≠ 1) then 5 else if 4096 < y.ws.length ∨ 4096 < y.sg.length then 4 else if (y.ws.any fun s => !wordB s) = true then 11 else if (y.sg.any fun s => !sigB s) = true then 14 else 0) := by
            show _ = _
            unfold varI
            by_cases h4 : 4096 < y.ws.length
            · by_cases h5 : y.sg.length = 0 ∨ (y.ws.length = 0 ∧ pl ≠ 1)
              · rw [if_pos h5, if_pos h5]
              · rw [if_neg h5, if_neg h5, if_pos (.inl h4), if_pos (.inl h4)]
            · have : lcheckI y.ws = if (y.ws.any fun s => !wordB s) = true then 11 else 0 := by unfold lcheckI; rw [if_neg h4]
              rw [this]
              cases (y.ws.any fun s => !wordB s) <;> simp
          have HHIT : Hid (varI pl y ≠ 0 → ri = varI pl y) := fun h => by rw [HV.out]; exact varsI_hit pl vs k y HN.out hx h
          have HNX : Hid (varI pl y = 0 → ∀ z ∈ vs.take (k + 1), varI pl z = 0) := by
            intro h0 z hz
            rw [List.take_add_one, hx, List.mem_append] at hz
            rcases hz with hz | hz
            · exact HN.out z hz
            · have : z = y := by simpa using hz
              rw [this]; exact h0
          clear hx d0 d1 rw0 rs0 hzy HN hzv HV
          generalize varI pl y = vi at *
          generalize (y.ws.any fun s => !wordB s) = lc at *
          generalize (y.sg.any fun s => !sigB s) = od at *
          generalize y.ws.length = nw at *
          generalize y.sg.length = ng at *
          have HF : Hid (∀ (e : Ending) (w' : World), e = Ending.returned (.int .i64 vi) → Below w0.heap.size w0 w' → vi ≠ 0 → e = Ending.returned (.int .i64 ri) ∧ Below w.heap.size w w') := fun e w' he hb h0 => ⟨by rw [he, HHIT.out h0], below_tr HB5.out hb⟩
          clear HHIT
          go_upto_region 27 with fail
          generalize wr.alloc (.cells #[.slice aw nw cw, .slice ag ng cg] 63) = W7 at *
          obtain ⟨B7, hB7⟩ : ∃ b, b = wr.heap.size := ⟨_, rfl⟩
          rw [← hB7] at HRv ⊢
          have p0 := HRv.out.cell 0 (x := .slice aw nw cw) rfl
          have p1 := HRv.out.cell 1 (x := .slice ag ng cg) rfl
          have cp := HRn.out.cell 2 (x := .int .i64 pl) rfl
          clear hB7 e0 e1 cn HRn0
          by_cases s1 : ng = 0
          · have HX : Hid (vi = 5) := by show _ = _; rw [HD.out, if_pos (.inl s1)]
            have r1 : ((ng : Int) == 0) = true := by rw [s1]; rfl
            clear HD HWW HOO s1
            go_wp2
            go_ret
            exact HF.out _ _ (by rw [HX.out]; rfl) HBa.out (by rw [HX.out]; decide)
          have r1 : ((ng : Int) == 0) = false := beq_eq_false_iff_ne.2 (by omega)
          by_cases s2 : nw = 0 ∧ pl ≠ 1
          · have HX : Hid (vi = 5) := by show _ = _; rw [HD.out, if_pos (.inr s2)]
            have r2 : ((nw : Int) == 0) = true := by rw [s2.1]; rfl
            have r3 : (pl != 1) = true := bne_iff_ne.2 s2.2
            clear HD HWW HOO s1 s2
            go_wp2
            go_ret
            exact HF.out _ _ (by rw [HX.out]; rfl) HBa.out (by rw [HX.out]; decide)
          have HD2 : Hid (vi = if 4096 < nw ∨ 4096 < ng then 4 else if lc = true then 11 else if od = true then 14 else 0) := by show _ = _; rw [HD.out, if_neg (by omega)]
          clear HD
          have hways : (((nw : Int) == 0) = false) ∨ ((((nw : Int) == 0) = true) ∧ ((pl != 1) = false)) := by
            by_cases h : nw = 0
            · refine .inr ⟨by rw [h]; rfl, ?_⟩
              rw [bne_eq_false_iff_eq]
              exact Classical.byContradiction fun hc => s2 ⟨h, hc⟩
            · exact .inl (beq_eq_false_iff_ne.2 (by omega))
          have HWY := hid hways
          clear s1 s2 hways
          go_cut [93] from 94 to 108 (fun v wx => v = .bool false ∧ Hid (W7 = wx))
          case first =>
            rcases HWY.out with r2 | ⟨r2, r3⟩
            · clear HWY HD2 HF HNX HWW HOO
              go_wp2_with fail
              go_meet
              case rel => exact ⟨rfl, rfl⟩
            · clear HWY HD2 HF HNX HWW HOO
              go_wp2_with fail
              go_meet
              case rel => exact ⟨rfl, rfl⟩
          case rest =>
            obtain ⟨rfl, hwc⟩ := hcut
            obtain rfl := hwc.out
            clear hwc HWY r1 cp
            by_cases s3 : 4096 < nw
            · have HX : Hid (vi = 4) := by show _ = _; rw [HD2.out, if_pos (.inl s3)]
              have r4 : (4096 : Int) < (nw : Int) := by omega
              clear HD2 HWW HOO s3
              go_wp2
              go_ret
              exact HF.out _ _ (by rw [HX.out]; rfl) HBa.out (by rw [HX.out]; decide)
            have r4 : ¬ (4096 : Int) < (nw : Int) := by omega
            by_cases s4 : 4096 < ng
            · have HX : Hid (vi = 4) := by show _ = _; rw [HD2.out, if_pos (.inr s4)]
              have r5 : (4096 : Int) < (ng : Int) := by omega
              clear HD2 HWW HOO s3 s4
              go_wp2
              go_ret
              exact HF.out _ _ (by rw [HX.out]; rfl) HBa.out (by rw [HX.out]; decide)
            have r5 : ¬ (4096 : Int) < (ng : Int) := by omega
            have HD3 : Hid (vi = if lc = true then 11 else if od = true then 14 else 0) := by show _ = _; rw [HD2.out, if_neg (by omega)]
            have HW1 := HWW _ HBa.out
            clear HD2 s3 s4 HWW
            go_wp2_with fail
            (with_reducible refine HW1.out.mono ?_)
            rintro e w6 ⟨rfl, hB6⟩
            have HRv6 := hid (HRv.out.below hB6)
            have HB6 := hid (below_tr HBa.out hB6)
            have p6 := HRv6.out.cell 1 (x := .slice ag ng cg) rfl
            clear hB6 HW1 p0 p1 HRv HBa
            cases lc with
            | true =>
              have HX : Hid (vi = 11) := by show _ = _; rw [HD3.out, if_pos rfl]
              clear HD3 HOO
              go_wp2
              go_ret
              exact HF.out _ _ (by rw [HX.out]; rfl) HB6.out (by rw [HX.out]; decide)
            | false =>
              have HO1 := HOO _ HB6.out
              clear HOO
              go_wp2_with fail
              (with_reducible refine HO1.out.mono ?_)
              rintro e w7 ⟨rfl, hB7⟩
              have HB7 := hid (below_tr HB6.out hB7)
              clear hB7 HO1 p6 HB6
              cases od with
              | true =>
                have HX : Hid (vi = 14) := by show _ = _; rw [HD3.out, if_neg (by simp), if_pos rfl]
                clear HD3
                go_wp2
                go_ret
                exact HF.out _ _ (by rw [HX.out]; rfl) HB7.out (by rw [HX.out]; decide)
              | false =>
                have HX : Hid (vi = 0) := by show _ = _; rw [HD3.out, if_neg (by simp), if_neg (by simp)]
                have HN2 := hid (HNX.out HX.out)
                clear HD3 HNX
                go_wp2_with fail
                go_roundw
                case rel => exact ⟨k + 1, by omega, by go_num, HN2.out, HB7.out⟩
                case measure => simp [intOf]; omega
        · have hki : ¬ (k : Int) < (vs.length : Int) := by omega
          have HV2 : Hid (ri = 0) := by
            have h := HN.out
            rw [List.take_of_length_le (by omega)] at h
            show _ = _
            rw [HV.out]; exact varsI_all pl vs h
          have cn := (HR5.out.below HB.out).cell 8 rfl
          go_wp2
          go_ret
          exact ⟨ret_int HV2.out.symm, below_tr HB5.out HB.out⟩
theorem rchk_any (x : Nt) (u s : Value) (w : World) (he : Env w) (hr : RdN w u s x) (hz : SzN x) :
    Calls Tryz.prog 34 #[.agg (x.cells u s)] w fun e w' => e = .returned (.int .i64 (nteI x)) ∧ Below w.heap.size w w' := by
  by_cases h0 : headI x = 0
  · exact rchk_ok x u s w he hr hz h0
  · have h := rhead_any x u s w he hr hz h0
    rw [show nteI x = headI x by unfold nteI; rw [if_neg h0]]
    exact h
end Go.Proofs.YtjhdeoniafahbaaGreatDoor
