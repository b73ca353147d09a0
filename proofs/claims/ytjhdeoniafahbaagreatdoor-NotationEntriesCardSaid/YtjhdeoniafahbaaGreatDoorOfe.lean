/-
  notation.of.
-/
import Derived.Test.YtjhdeoniafahbaaGreatDoorJ07
namespace Go.Proofs.YtjhdeoniafahbaaGreatDoor
open Go.RowKit

set_option maxRecDepth 100000 in
set_option maxHeartbeats 16000000 in
theorem pof_any (ls la : List Int) (ws : List ByteArray) (x : En) (v1 v2 v3 u s : Value) (w : World) (he : Env w) (h1 : RdI w v1 ls) (h2 : RdI w v2 la) (h3 : RdS w v3 ws) (hE : RdE w u s x)
    (hz : Sz16 ws) (hzE : SzE x) (hl1 : ls.length = ws.length) (hl2 : la.length = ws.length) (hlen : ws.length ≤ 13) :
    Calls Tryz.prog 38 #[v1, v2, v3, .agg (x.cells u s)] w fun r w' => OfR (ofN ls la ws x) (ofI ls la ws x) w r w' := by
  have HE := fun w' (h : Below w.heap.size w w') => hid (he.below h)
  have H1 := fun w' (h : Below w.heap.size w w') => hid (h1.below h)
  have H2 := fun w' (h : Below w.heap.size w w') => hid (h2.below h)
  have H3 := fun w' (h : Below w.heap.size w w') => hid (h3.below h)
  have HR := fun w' (h : Below w.heap.size w w') => hid (hE.below h)
  have HB0 := hid (below_tr (below_al w (.cells (x.cells u s) 26)) (below_al _ (.cells zeroN 30)))
  have HOS : Hid (OfS x u s w ((w.alloc (.cells (x.cells u s) 26)).alloc (.cells zeroN 30))) :=
    ⟨(row_nw w (x.cells u s) 26 rfl).al _, by
      have := row_nw (w.alloc (.cells (x.cells u s) 26)) zeroN 30 rfl
      rw [show (w.alloc (.cells (x.cells u s) 26)).heap.size = w.heap.size + 1 by simp] at this
      exact this, HB0.out⟩
  have HI : Hid (ofI ls la ws x = if x.fr < 0 ∨ x.to_ < x.fr ∨ (ws.length : Int) < x.to_ then 2
    else if (ofPl x.fr x.to_ ws.length).1 ≠ 4 ∧ (ofLm ls la ws (ofPl x.fr x.to_ ws.length).2.1 (ofPl x.fr x.to_ ws.length).2.2).2.2.2 ≠ 0 then (ofLm ls la ws (ofPl x.fr x.to_ ws.length).2.1 (ofPl x.fr x.to_ ws.length).2.2).2.2.2
    else nteI (ofN ls la ws x)) := rfl
  obtain ⟨a1, c1, rfl, hq1, hm1, hC1⟩ := h1.open
  obtain ⟨a2, c2, rfl, hq2, hm2, hC2⟩ := h2.open
  obtain ⟨a3, c3, rfl, hq3, hm3, _⟩ := h3.open
  have HC1 := hid hC1
  have HC2 := hid hC2
  have HL1 := hid hl1
  have HL2b := hid hl2
  obtain ⟨au, cu, rfl, hqu, hmu, _⟩ := hE.rs.open
  obtain ⟨av, cv, rfl, hqv, hmv, _⟩ := hE.rv.open
  clear he h1 h2 h3 hE hC1 hC2 hl1 hl2
  unfold En.cells
  by_cases k0 : x.fr < 0 ∨ x.to_ < x.fr ∨ (ws.length : Int) < x.to_
  · have HV : Hid (ofI ls la ws x = 2) := by show _ = _; rw [HI.out, if_pos k0]
    clear HI
    have done : ∀ w', Below w.heap.size w w' → OfR (ofN ls la ws x) (ofI ls la ws x) w (.returned (.tuple #[.agg zeroN, .int .i64 2])) w' := fun w' hb => ⟨nt0, none, 0, 0, none, 0, 0, by rw [HV.out]; rfl, (fun h => (by rw [HV.out] at h; cases h)), hb⟩
    have HDn := hid done
    clear done
    unfold En.cells zeroN at HB0
    by_cases k1 : x.fr < 0
    · clear k0
      go_enter Tryz.func38, Tryz.ntmps38
      go_wp2
      exact bodyPost_ret (v := .tuple #[.agg zeroN, .int .i64 2]) (by simp [results, Tryz.f38, go_sem, zeroN]) rfl (HDn.out _ HB0.out)
    · by_cases k2 : x.to_ < x.fr
      · clear k0
        go_enter Tryz.func38, Tryz.ntmps38
        go_wp2
        exact bodyPost_ret (v := .tuple #[.agg zeroN, .int .i64 2]) (by simp [results, Tryz.f38, go_sem, zeroN]) rfl (HDn.out _ HB0.out)
      · have k3 : (ws.length : Int) < x.to_ := by omega
        clear k0
        go_enter Tryz.func38, Tryz.ntmps38
        go_wp2
        exact bodyPost_ret (v := .tuple #[.agg zeroN, .int .i64 2]) (by simp [results, Tryz.f38, go_sem, zeroN]) rfl (HDn.out _ HB0.out)
  · have k1 : ¬ x.fr < 0 := by omega
    have k2 : ¬ x.to_ < x.fr := by omega
    have k3 : ¬ (ws.length : Int) < x.to_ := by omega
    clear k0
    go_enter Tryz.func38, Tryz.ntmps38
    go_upto_region 3 with fail
    unfold En.cells zeroN at HOS
    generalize (w.alloc (.cells #[.int .i64 x.ly, .int .i64 x.fr, .int .i64 x.to_, .bool x.pos, .slice au x.sup.length cu, .slice av x.vs.length cv] 26)).alloc (.cells #[.int .i64 0, .int .i64 0, .int .i64 0, .string ⟨#[]⟩, .string ⟨#[]⟩, .int .i64 0, .bool false, .slice none 0 0, .slice none 0 0] 30) = W0 at *
    have hI := HOS.out
    have EC := enters_of Tryz.func42 (by kernel_rfl) rfl
    have e3 := hI.ent.cell 3 (x := .bool x.pos) rfl
    have e4 := hI.ent.cell 4 (x := .slice au x.sup.length cu) rfl
    have e3a := cell_al e3 (.cells #[.int .i64 0, .int .i64 0, .int .i64 0, .string ⟨#[]⟩, .string ⟨#[]⟩, .int .i64 0, .bool false, .slice none 0 0, .slice none 0 0] 30)
    have e4a := cell_al e4 (.cells #[.int .i64 0, .int .i64 0, .int .i64 0, .string ⟨#[]⟩, .string ⟨#[]⟩, .int .i64 0, .bool false, .slice none 0 0, .slice none 0 0] 30)
    have hWs : w.heap.size + 2 ≤ W0.heap.size := hI.res.lt
    have HCL := fun w' (h : Below w.heap.size w w') => hid (cloneF_any (.slice au x.sup.length cu) x.sup w' (HR w' h).out.rs (by have := hzE.sl; omega))
    go_cut [10] from 37 to 42 (fun p wx => OfC x (.slice au x.sup.length cu) (.slice av x.vs.length cv) w p wx)
    case first =>
      go_region_law (first
        | (refine step_callC rfl 42 EC (.tmp 40) #[23] rfl (.slice au x.sup.length cu) (by simp [Act.eval]) x.sup (HCL W0.drew hI.drew.bel).out ?_; intro ad c w6 hr6 hB6; have z3 := Below.keeps hB6 _ _ e3; have z3a := cell_al z3 (.cells #[.int .i64 0, .int .i64 0, .int .i64 0, .string ⟨#[]⟩, .string ⟨#[]⟩, .int .i64 0, .bool false, .slice none 0 0, .slice none 0 0] 30); have z1 := hI.drew.below hB6)
        | (refine step_callC rfl 42 EC (.tmp 40) #[23] rfl (.slice au x.sup.length cu) (by simp [Act.eval]) x.sup (HCL (W0.alloc (.cells zeroN 30)).drew (hI.al _).drew.bel).out ?_; intro ad c w6 hr6 hB6; have z3 := Below.keeps hB6 _ _ (cell_al e3 (.cells zeroN 30)); have z1 := (hI.al (.cells zeroN 30)).drew.below hB6; have zr := Row.below (Row.drew (row_nw W0 zeroN 30 rfl)) hB6; have q0 := zr.cell 0 (x := .int .i64 0) rfl; have q1 := zr.cell 1 (x := .int .i64 0) rfl; have q2 := zr.cell 2 (x := .int .i64 0) rfl; have q3 := zr.cell 3 (x := .string ⟨#[]⟩) rfl; have q4 := zr.cell 4 (x := .string ⟨#[]⟩) rfl; have q5 := zr.cell 5 (x := .int .i64 0) rfl; have q6 := zr.cell 6 (x := .bool false) rfl; have q7 := zr.cell 7 (x := .slice none 0 0) rfl; have q8 := zr.cell 8 (x := .slice none 0 0) rfl; have g0 := zr.frozen 0; have g1 := zr.frozen 1; have g2 := zr.frozen 2; have g3 := zr.frozen 3; have g4 := zr.frozen 4; have g5 := zr.frozen 5; have g6 := zr.frozen 6; have g7 := zr.frozen 7; have g8 := zr.frozen 8))
      all_goals (go_wp2_with fail; go_meet)
      all_goals first
        | with_reducible exact OfC.fold hr6 z1
        | with_reducible exact OfC.sets zr hWs hr6 z1
    case rest =>
      obtain ⟨B, ab, cb, rfl, hBlo, hRB, hSB, hOS⟩ := hcut
      have e5 := hOS.ent.cell 5 (x := .slice av x.vs.length cv) rfl
      have HLP : Hid (OfL x (.slice au x.sup.length cu) (.slice av x.vs.length cv) w B (.slice ab x.sup.length cb) (.slice none 0 0) [] wc) := ⟨hOS, hRB, hSB, World.ownsRow_nil _ _ _ _, fun p hp => by cases hp⟩
      have EC := enters_of Tryz.func42 (by kernel_rfl) rfl
      have HVC := hid (HR w (Below.refl _ _)).out.rv
      have HZE := hid hzE
      clear hRB hSB hOS e3 e4 e3a e4a hWs HCL hI HOS HB0 hzE
      go_wp2_with fail
      obtain ⟨_, _, he8, _, _, hcell⟩ := HVC.out.open
      simp only [Value.slice.injEq] at he8
      obtain ⟨rfl, _, rfl⟩ := he8
      have HC := hid hcell
      clear hcell HVC e5
      obtain ⟨n, hn⟩ : ∃ n, n = x.vs.length := ⟨_, rfl⟩
      have HN := hid hn
      go_loopw [46] (fun i wr => ∃ (k : Nat) (sv : Value) (phs : List VrV), k ≤ x.vs.length ∧ i = .int .i64 k ∧ Hid (OfL x (.slice au x.sup.length cu) (.slice av x.vs.length cv) w B (.slice ab x.sup.length cb) sv phs wr) ∧ Hid (phs.map (·.1) = x.vs.take k)) (fun i _ => x.vs.length - (intOf i).toNat)
      case atStart => exact ⟨0, _, [], Nat.zero_le _, rfl, HLP.out, rfl⟩
      case round =>
        clear HLP
        obtain ⟨k, sv, phs, hk, rfl, HL, HPH⟩ := hrel
        by_cases hlt : k < x.vs.length
        · obtain ⟨y, b, o, vw, vg, hx, rfl, d0, d1, rw0, rs0⟩ := HC.out k hlt
          have hki : (k : Int) < (x.vs.length : Int) := by omega
          have hbel := HL.out.os.bel
          have e0 := Below.keeps hbel _ _ d0
          have e1 := Below.keeps hbel _ _ d1
          have hel := HZE.out.el y (List.mem_of_getElem? hx)
          have HQ1 := fun w' (h : Below w.heap.size w w') => hid (cloneF_any vw y.ws w' (rw0.below h) (by omega))
          have HQ2 := fun w' (h : Below w.heap.size w w') => hid (cloneF_any vg y.sg w' (rs0.below h) (by omega))
          obtain ⟨aw, cw, rfl, hlw, hmw, _⟩ := rw0.open
          obtain ⟨ag, cg, rfl, hlg, hmg, _⟩ := rs0.open
          have hpl : phs.length ≤ 65536 := by
            have := congrArg List.length HPH.out
            rw [List.length_map, List.length_take] at this
            have := HZE.out.vl; omega
          have HPH2 : Hid ((phs.map (·.1)) ++ [y] = x.vs.take (k + 1)) := by show _ = _; rw [HPH.out, List.take_add_one, hx]; rfl
          have HL1 := hid (HL.out.al (.cells #[.slice aw y.ws.length cw, .slice ag y.sg.length cg] 63))
          have HRv := hid (row_nw wr #[.slice aw y.ws.length cw, .slice ag y.sg.length cg] 63 rfl)
          obtain ⟨asv, csv, hsv⟩ : ∃ a c, sv = .slice a phs.length c := by
            rcases HL.out.own.2 with ⟨rfl, hn⟩ | ⟨g, cap, cur, rfl, _⟩
            · exact ⟨none, 0, by rw [hn]⟩
            · exact ⟨_, cap, rfl⟩
          subst hsv
          clear d0 d1 rw0 rs0 hel hx hbel HL HPH
          go_upto_region 7 with fail
          generalize wr.alloc (.cells #[.slice aw y.ws.length cw, .slice ag y.sg.length cg] 63) = W1 at *
          generalize wr.heap.size = nv at *
          have hL := HL1.out
          have hrv := HRv.out
          have r0 := hrv.cell 0 (x := .slice aw y.ws.length cw) rfl
          have r1 := hrv.cell 1 (x := .slice ag y.sg.length cg) rfl
          have r8 := hL.row.cell 8 (x := .slice asv phs.length csv) rfl
          clear HL1 HRv e0 e1
          go_region_law (first
            | (refine step_callC rfl 42 EC (.tmp 53) #[23] rfl (.slice aw y.ws.length cw) (by simp [Act.eval]) y.ws (HQ1 W1.drew hL.drew.os.bel).out ?_; intro ad1 cc1 w6 hr6 hB6; have z1 := hL.drew.below hB6; have zv := hrv.drew.below hB6; have zr1 := zv.cell 1 (x := .slice ag y.sg.length cg) rfl; have z8 := z1.row.cell 8 (x := .slice asv phs.length csv) rfl)
            | (refine step_callC rfl 42 EC (.tmp 56) #[23] rfl (.slice ag y.sg.length cg) (by simp [Act.eval]) y.sg (HQ2 w6 z1.os.bel).out ?_; intro ad2 cc2 w7 hr7 hB7; have z2 := z1.below hB7; have zv2 := hr6.below hB7; have z28 := z2.row.cell 8 (x := .slice asv phs.length csv) rfl; have z28a := cell_al z28 (.cells #[.slice ad1 y.ws.length cc1, .slice ad2 y.sg.length cc2] 63))
            | (refine step_ap rfl (.tmp 51) (.tmp 59) 24 rfl (w.heap.size + 2) 63 Tryz.underlying24 infoVar rfl (by decide) (by decide) (.slice asv phs.length csv) phs.length (vrCs phs) ?_ (z2.al (.cells #[.slice ad1 y.ws.length cc1, .slice ad2 y.sg.length cc2] 63)).own 1 (by decide) [.slice ad1 y.ws.length cc1, .slice ad2 y.sg.length cc2] rfl ?_ w7.heap.size ?_ ?_ ?_ ?_ ?_; (focus (simp [Act.eval]; done)); (focus (simp [Value.oneCell']; done)); (focus (simp [Act.eval]; done)); (focus (intro j q hj; exact cell_nw w7 #[.slice ad1 y.ws.length cc1, .slice ad2 y.sg.length cc2] _ j (by simpa using hj))); (focus omega); (focus (have := z2.os.res.lt; simp; omega)); intro g9 c9 w9 ho9 hb9 hg9 _; have zp := OfL.push (z2.al (.cells #[.slice ad1 y.ws.length cc1, .slice ad2 y.sg.length cc2] 63)) hBlo (y, .slice ad1 y.ws.length cc1, .slice ad2 y.sg.length cc2) (zv2.below (below_al _ _)) (hr7.below (below_al _ _)) ho9 hb9 hg9; have zq := (hg9.block _ (z2.al (.cells #[.slice ad1 y.ws.length cc1, .slice ad2 y.sg.length cc2] 63)).row.lt (Ne.symm (row_own_ne2 (z2.al (.cells #[.slice ad1 y.ws.length cc1, .slice ad2 y.sg.length cc2] 63)).row (z2.al (.cells #[.slice ad1 y.ws.length cc1, .slice ad2 y.sg.length cc2] 63)).own (by decide)))).trans (z2.al (.cells #[.slice ad1 y.ws.length cc1, .slice ad2 y.sg.length cc2] 63)).row; have z98 := Row.cell zq 8 (x := .slice asv phs.length csv) rfl; have f98 := Row.frozen zq 8))
          all_goals (go_wp2_with fail; go_roundw)
          all_goals (first | (simp [intOf]; omega; done) | (refine ⟨k + 1, _, _, by omega, by go_num, zp, ?_⟩; show _ = _; rw [List.map_append]; exact HPH2.out))
        · have hki : ¬ (k : Int) < (x.vs.length : Int) := by omega
          have HX : Hid (phs.map (·.1) = x.vs) := by show _ = _; rw [HPH.out, List.take_of_length_le (by omega)]
          clear HPH HC
          obtain ⟨asv, csv, hsv⟩ : ∃ a c, sv = .slice a phs.length c := by
            rcases HL.out.own.2 with ⟨rfl, hn⟩ | ⟨g, cap, cur, rfl, _⟩
            · exact ⟨none, 0, by rw [hn]⟩
            · exact ⟨_, cap, rfl⟩
          subst hsv
          have e1 := HL.out.os.ent.cell 1 (x := .int .i64 x.fr) rfl
          have e2 := HL.out.os.ent.cell 2 (x := .int .i64 x.to_) rfl
          go_wp2_with fail
          go_quiet (fail)
          have HL2 := hid (HL.out.below (below_drewN (Below.refl _ _) nq))
          generalize wr.drewN nq = W2 at *
          clear HL e1 e2
          go_upto_block 2 with fail
          have HNPL : Hid (ofPl x.fr x.to_ ws.length = if x.fr < x.to_ then (1, x.fr, x.to_) else if 0 < x.fr then (2, x.fr - 1, x.to_) else if 0 < ws.length then (3, x.fr, 1) else (4, x.fr, x.to_)) := rfl
          go_cut [13, 14] from 67 to 86 (fun fv tv wx => ∃ (p : Int) (f t : Nat), fv = .int .i64 (f : Int) ∧ tv = .int .i64 (t : Int) ∧ Hid (ofPl x.fr x.to_ ws.length = (p, (f : Int), (t : Int)) ∧ p ≠ 4) ∧ Hid (f < ws.length ∧ 1 ≤ t ∧ t ≤ ws.length) ∧ OfM x (.slice au x.sup.length cu) (.slice av x.vs.length cv) w B (.slice ab x.sup.length cb) (.slice asv phs.length csv) phs ⟨1, 1, p, ⟨#[]⟩, ⟨#[]⟩, 0, x.pos, x.sup, x.vs⟩ wx)
          case first =>
            have hm0 := HL2.out.toM
            by_cases m1 : x.fr < x.to_
            · have HP : Hid (ofPl x.fr x.to_ ws.length = (1, x.fr, x.to_)) := by show _ = _; rw [HNPL.out, if_pos m1]
              go_wp2_with fail
              go_meet
              exact ⟨1, x.fr.toNat, x.to_.toNat, by rw [Int.toNat_of_nonneg (by omega)], by rw [Int.toNat_of_nonneg (by omega)], ⟨by rw [HP.out, Int.toNat_of_nonneg (by omega), Int.toNat_of_nonneg (by omega)], by decide⟩, ⟨by omega, by omega, by omega⟩, hm0⟩
            by_cases m2 : 0 < x.fr
            · have HP : Hid (ofPl x.fr x.to_ ws.length = (2, x.fr - 1, x.to_)) := by show _ = _; rw [HNPL.out, if_neg m1, if_pos m2]
              have hw : IntKind.i64.wrap (x.fr - 1) = x.fr - 1 := IntWalk.i64_in _ (by omega)
              have d2 := hm0.row.cell 2 (x := .int .i64 1) rfl
              have f2 := hm0.row.frozen 2
              have hm2 := hm0.put hBlo 2 (.int .i64 2) ⟨1, 1, 2, ⟨#[]⟩, ⟨#[]⟩, 0, x.pos, x.sup, x.vs⟩ rfl
              go_wp2_with fail
              go_meet
              exact ⟨2, (x.fr - 1).toNat, x.to_.toNat, by rw [Int.toNat_of_nonneg (by omega)], by rw [Int.toNat_of_nonneg (by omega)], ⟨by rw [HP.out, Int.toNat_of_nonneg (by omega), Int.toNat_of_nonneg (by omega)], by decide⟩, ⟨by omega, by omega, by omega⟩, hm2⟩
            by_cases m3 : 0 < ws.length
            · have HP : Hid (ofPl x.fr x.to_ ws.length = (3, x.fr, 1)) := by show _ = _; rw [HNPL.out, if_neg m1, if_neg m2, if_pos m3]
              have m3i : (0 : Int) < (ws.length : Int) := by omega
              have d2 := hm0.row.cell 2 (x := .int .i64 1) rfl
              have f2 := hm0.row.frozen 2
              have hm2 := hm0.put hBlo 2 (.int .i64 3) ⟨1, 1, 3, ⟨#[]⟩, ⟨#[]⟩, 0, x.pos, x.sup, x.vs⟩ rfl
              go_wp2_with fail
              go_meet
              exact ⟨3, x.fr.toNat, 1, by rw [Int.toNat_of_nonneg (by omega)], rfl, ⟨by rw [HP.out, Int.toNat_of_nonneg (by omega)]; rfl, by decide⟩, ⟨by omega, by omega, by omega⟩, hm2⟩
            · have HP : Hid (ofPl x.fr x.to_ ws.length = (4, x.fr, x.to_)) := by show _ = _; rw [HNPL.out, if_neg m1, if_neg m2, if_neg m3]
              have m3i : ¬ (0 : Int) < (ws.length : Int) := by omega
              have d2 := hm0.row.cell 2 (x := .int .i64 1) rfl
              have f2 := hm0.row.frozen 2
              obtain ⟨nf, hnf⟩ : ∃ n : Int, n = 1 := ⟨_, rfl⟩
              obtain ⟨nt, hnt⟩ : ∃ n : Int, n = 1 := ⟨_, rfl⟩
              obtain ⟨np, hnp⟩ : ∃ n : Int, n = 4 := ⟨_, rfl⟩
              obtain ⟨lf, hlf⟩ : ∃ n : ByteArray, n = ⟨#[]⟩ := ⟨_, rfl⟩
              obtain ⟨ll, hll⟩ : ∃ n : ByteArray, n = ⟨#[]⟩ := ⟨_, rfl⟩
              obtain ⟨ln, hln⟩ : ∃ n : Int, n = 0 := ⟨_, rfl⟩
              have HM : Hid (OfM x (.slice au x.sup.length cu) (.slice av x.vs.length cv) w B (.slice ab x.sup.length cb) (.slice asv phs.length csv) phs ⟨nf, nt, np, lf, ll, ln, x.pos, x.sup, x.vs⟩ (W2.setCell ⟨B, 2, none⟩ (.int .i64 4))) := by
                show OfM _ _ _ _ _ _ _ _ _ _
                rw [hnf, hnt, hnp, hlf, hll, hln]
                exact hm0.put hBlo 2 (.int .i64 4) ⟨1, 1, 4, ⟨#[]⟩, ⟨#[]⟩, 0, x.pos, x.sup, x.vs⟩ rfl
              have HE2 : Hid (ofI ls la ws x = nteI ⟨nf, nt, np, lf, ll, ln, x.pos, x.sup, x.vs⟩ ∧ ofN ls la ws x = ⟨nf, nt, np, lf, ll, ln, x.pos, x.sup, x.vs⟩) := by
                show _ ∧ _
                have e1 : ofN ls la ws x = ⟨nf, nt, np, lf, ll, ln, x.pos, x.sup, x.vs⟩ := by
                  unfold ofN
                  rw [HP.out, if_pos rfl, hnf, hnt, hnp, hlf, hll, hln]
                refine ⟨?_, e1⟩
                rw [HI.out, if_neg (by omega), HP.out, if_neg (by simp), e1]
              have HSZ : Hid (SzN ⟨nf, nt, np, lf, ll, ln, x.pos, x.sup, x.vs⟩) := ⟨by rw [hlf]; exact Nat.zero_le _, by rw [hll]; exact Nat.zero_le _, HZE.out.sup, HZE.out.vs⟩
              have HDone : Hid (∀ W, OfF x w (.slice ab x.sup.length cb) (.slice asv phs.length csv) phs W → OfR (ofN ls la ws x) (ofI ls la ws x) w (.returned (.tuple #[.agg #[.int .i64 nf, .int .i64 nt, .int .i64 np, .string lf, .string ll, .int .i64 ln, .bool x.pos, .slice ab x.sup.length cb, .slice asv phs.length csv], .int .i64 (nteI ⟨nf, nt, np, lf, ll, ln, x.pos, x.sup, x.vs⟩)])) W) := fun W hf => ⟨⟨nf, nt, np, lf, ll, ln, x.pos, x.sup, x.vs⟩, ab, x.sup.length, cb, asv, phs.length, csv, by rw [HE2.out.1]; rfl, (fun _ => ⟨HE2.out.2.symm, by rw [HE2.out.2]; exact OfF.own2 hf rfl HX.out⟩), hf.bel⟩
              clear HL2 hm0 HNPL HP hnf hnt hnp hlf hll hln
              go_upto_region 11 with fail
              generalize W2.setCell ⟨B, 2, none⟩ (.int .i64 4) = W6 at *
              have hm := HM.out
              have b0 := hm.row.cell 0 (x := .int .i64 nf) rfl
              have b1 := hm.row.cell 1 (x := .int .i64 nt) rfl
              have b2 := hm.row.cell 2 (x := .int .i64 np) rfl
              have b3 := hm.row.cell 3 (x := .string lf) rfl
              have b4 := hm.row.cell 4 (x := .string ll) rfl
              have b5 := hm.row.cell 5 (x := .int .i64 ln) rfl
              have b6 := hm.row.cell 6 (x := .bool x.pos) rfl
              have b7 := hm.row.cell 7 (x := .slice ab x.sup.length cb) rfl
              have b8 := hm.row.cell 8 (x := .slice asv phs.length csv) rfl
              have HCK := fun w' (h : OfM x (.slice au x.sup.length cu) (.slice av x.vs.length cv) w B (.slice ab x.sup.length cb) (.slice asv phs.length csv) phs ⟨nf, nt, np, lf, ll, ln, x.pos, x.sup, x.vs⟩ w') => hid (pchk_any ⟨nf, nt, np, lf, ll, ln, x.pos, x.sup, x.vs⟩ (.slice ab x.sup.length cb) (.slice asv phs.length csv) w' (HE w' (OfM.os h).bel).out (OfM.rd h rfl HX.out) HSZ.out)
              have EK := enters_of Tryz.func22 (by kernel_rfl) rfl
              generalize hne : nteI ⟨nf, nt, np, lf, ll, ln, x.pos, x.sup, x.vs⟩ = ne at *
              go_region_law (first
                | (refine step_callB rfl 22 EK (.tmp 69) #[30] rfl (.agg #[.int .i64 nf, .int .i64 nt, .int .i64 np, .string lf, .string ll, .int .i64 ln, .bool x.pos, .slice ab x.sup.length cb, .slice asv phs.length csv]) (by simp [Act.eval]) (.int .i64 ne) (HCK W6.drew hm.drew).out ?_; intro w7 hB7; have y := hm.drew.below hB7; have y0 := y.row.cell 0 (x := .int .i64 nf) rfl; have y1 := y.row.cell 1 (x := .int .i64 nt) rfl; have y2 := y.row.cell 2 (x := .int .i64 np) rfl; have y3 := y.row.cell 3 (x := .string lf) rfl; have y4 := y.row.cell 4 (x := .string ll) rfl; have y5 := y.row.cell 5 (x := .int .i64 ln) rfl; have y6 := y.row.cell 6 (x := .bool x.pos) rfl; have y7 := y.row.cell 7 (x := .slice ab x.sup.length cb) rfl; have y8 := y.row.cell 8 (x := .slice asv phs.length csv) rfl; have r0 := y.os.res.cell 0 (x := .int .i64 0) rfl; have r1 := y.os.res.cell 1 (x := .int .i64 0) rfl; have r2 := y.os.res.cell 2 (x := .int .i64 0) rfl; have r3 := y.os.res.cell 3 (x := .string ⟨#[]⟩) rfl; have r4 := y.os.res.cell 4 (x := .string ⟨#[]⟩) rfl; have r5 := y.os.res.cell 5 (x := .int .i64 0) rfl; have r6 := y.os.res.cell 6 (x := .bool false) rfl; have r7 := y.os.res.cell 7 (x := .slice none 0 0) rfl; have r8 := y.os.res.cell 8 (x := .slice none 0 0) rfl; have g0 := y.os.res.frozen 0; have g1 := y.os.res.frozen 1; have g2 := y.os.res.frozen 2; have g3 := y.os.res.frozen 3; have g4 := y.os.res.frozen 4; have g5 := y.os.res.frozen 5; have g6 := y.os.res.frozen 6; have g7 := y.os.res.frozen 7; have g8 := y.os.res.frozen 8))
              all_goals (
                have HY := hid y.fin
                have q := HY.out.1
                have z0 := q.cell 0 (x := .int .i64 nf) rfl
                have z1 := q.cell 1 (x := .int .i64 nt) rfl
                have z2 := q.cell 2 (x := .int .i64 np) rfl
                have z3 := q.cell 3 (x := .string lf) rfl
                have z4 := q.cell 4 (x := .string ll) rfl
                have z5 := q.cell 5 (x := .int .i64 ln) rfl
                have z6 := q.cell 6 (x := .bool x.pos) rfl
                have z7 := q.cell 7 (x := .slice ab x.sup.length cb) rfl
                have z8 := q.cell 8 (x := .slice asv phs.length csv) rfl
                clear q
                go_wp2_with fail
                exact bodyPost_ret (v := .tuple #[.agg #[.int .i64 nf, .int .i64 nt, .int .i64 np, .string lf, .string ll, .int .i64 ln, .bool x.pos, .slice ab x.sup.length cb, .slice asv phs.length csv], .int .i64 ne]) (by simp [results, Tryz.f38, go_sem, z0, z1, z2, z3, z4, z5, z6, z7, z8]) rfl (HDone.out _ HY.out.2))
          case rest =>
            obtain ⟨p, f, t, rfl, rfl, HP, HFT, hM⟩ := hcut
            have HM1 := hid hM
            clear hM HL2 HNPL
            obtain ⟨a, b1, o1, ha, ea1, d1⟩ := HC1.out f (by have := HL1.out; have := HFT.out; omega)
            subst ea1
            obtain ⟨b, b2, o2, hb, ea2, d2⟩ := HC2.out (t - 1) (by have := HL2b.out; have := HFT.out; omega)
            subst ea2
            have hbel := HM1.out.os.bel
            have e1 := Below.keeps hbel _ _ d1
            have e2 := Below.keeps hbel _ _ d2
            have u1 : (0 : Int) ≤ (f : Int) := by omega
            have u2 : (f : Int) < (ls.length : Int) := by have := HL1.out; have := HFT.out; omega
            have u3 : IntKind.i64.wrap ((t : Int) - 1) = ((t - 1 : Nat) : Int) := by
              have := HFT.out
              rw [IntWalk.i64_in _ (by omega)]; omega
            have u4 : (0 : Int) ≤ ((t - 1 : Nat) : Int) := by omega
            have u5 : ((t - 1 : Nat) : Int) < (la.length : Int) := by have := HL2b.out; have := HFT.out; omega
            have HA : Hid (lnAt ls (f : Int) = a ∧ lnAt la ((t : Int) - 1) = b) := by
              have h0 := HFT.out
              refine ⟨?_, ?_⟩
              · unfold lnAt
                rw [Int.toNat_natCast, List.getD_eq_getElem?_getD, ha]; rfl
              · unfold lnAt
                rw [show ((t : Int) - 1).toNat = t - 1 by omega, List.getD_eq_getElem?_getD, hb]; rfl
            have k0 := HM1.out.row.cell 0 (x := .int .i64 1) rfl
            have k1' := HM1.out.row.cell 1 (x := .int .i64 1) rfl
            have g0 := HM1.out.row.frozen 0
            have g1 := HM1.out.row.frozen 1
            have hma := HM1.out.put hBlo 0 (.int .i64 a) ⟨a, 1, p, ⟨#[]⟩, ⟨#[]⟩, 0, x.pos, x.sup, x.vs⟩ rfl
            have HM2 := hid (hma.put hBlo 1 (.int .i64 b) ⟨a, b, p, ⟨#[]⟩, ⟨#[]⟩, 0, x.pos, x.sup, x.vs⟩ rfl)
            have nb1 : b1 < w.heap.size := World.block_lt_of_cell? _ _ d1
            have nb2 : b2 < w.heap.size := World.block_lt_of_cell? _ _ d2
            have e2s : (wc.setCell ⟨B, 0, none⟩ (.int .i64 a)).cell? ⟨b2, o2 + (t - 1), none⟩ = some (.int .i64 b) := by
              rw [World.cell?_setCell_other]
              · exact e2
              · intro e; have := (Addr.mk.inj e).1; omega
            have e1s : (wc.setCell ⟨B, 1, none⟩ (.int .i64 b)).cell? ⟨b1, o1 + f, none⟩ = some (.int .i64 a) := by
              rw [World.cell?_setCell_other]
              · exact e1
              · intro e; have := (Addr.mk.inj e).1; omega
            clear hma hbel d1 d2 ha hb nb1 nb2
            generalize ht1 : t - 1 = t1 at *
            clear ht1
            go_upto_region 17 with fail
            go_cut [89] from 86 to 96 (fun _ wx => OfM x (.slice au x.sup.length cu) (.slice av x.vs.length cv) w B (.slice ab x.sup.length cb) (.slice asv phs.length csv) phs ⟨a, b, p, ⟨#[]⟩, ⟨#[]⟩, 0, x.pos, x.sup, x.vs⟩ wx)
            case first =>
              go_region
              all_goals (go_wp2_with fail; go_meet)
              all_goals (first | exact HM2.out | exact HM2.out.drew | trace_state)
            case rest =>
              have HM3 := hid hcut
              clear hcut HM2 HM1 k0 k1' g0 g1 e1 e2 e1s e2s
              have q0 := HM3.out.row.cell 0 (x := .int .i64 a) rfl
              have q1 := HM3.out.row.cell 1 (x := .int .i64 b) rfl
              have HWI := fun w' (h : Below w.heap.size w w') => hid (within_any _ _ ls ws a b w' (H1 w' h).out (H3 w' h).out HL1.out (by have := HL1.out; omega))
              go_wp2_with fail
              (with_reducible refine (HWI _ HM3.out.os.bel).out.mono ?_)
              rintro e w5 ⟨r, rfl, hr5, hB5⟩
              have HM5 := hid (HM3.out.below hB5)
              have HOW := hid hr5
              have HWZ : Hid (Sz16 (wWs ls ws a b)) := fun s hs => hz s (wWs_mem hs)
              have HWL : Hid ((wWs ls ws a b).length ≤ 13) := Nat.le_trans (wWs_len ls ws a b) hlen
              have HAB := hid (wAt_bound ls a b)
              have hu := HFT.out
              have hll := HL1.out
              have w1 : IntKind.i64.wrap ((f : Int) - wAt ls a b) = (f : Int) - wAt ls a b := IntWalk.i64_in _ (by have := HAB.out; omega)
              have w2 : IntKind.i64.wrap ((t : Int) - wAt ls a b) = (t : Int) - wAt ls a b := IntWalk.i64_in _ (by have := HAB.out; omega)
              clear hB5 hr5 q0 q1 HM3 HWI hu hll
              have HOFL : Hid (ofLm ls la ws (f : Int) (t : Int) = ofRes (wWs ls ws a b) ((f : Int) - wAt ls a b) ((t : Int) - wAt ls a b)) := by
                show _ = _
                unfold ofLm
                rw [HA.out.1, HA.out.2]
              have HOA := hid (ofAll_any (wWs ls ws a b) ((f : Int) - wAt ls a b) ((t : Int) - wAt ls a b) r w5 (HE _ HM5.out.os.bel).out HOW.out HWZ.out (fun _ => HWL.out) (by have := HWL.out; omega))
              have HOZ := hid (ofRes_size (x := (f : Int) - wAt ls a b) (y := (t : Int) - wAt ls a b) HWZ.out)
              generalize hor : ofRes (wWs ls ws a b) ((f : Int) - wAt ls a b) ((t : Int) - wAt ls a b) = orr at *
              clear hor
              obtain ⟨lf, ll, ln, le⟩ := orr
              unfold ofVal at HOA
              simp only at HOA HOZ
              generalize wAt ls a b = A at *
              generalize wWs ls ws a b = wo at *
              obtain ⟨ar, cr, rfl, hlr, hmr, _⟩ := HOW.out.open
              have hHI : Hid (ofI ls la ws x = if le ≠ 0 then le else nteI (ofN ls la ws x)) := by
                show _ = _
                rw [HI.out, if_neg (by omega), HP.out.1, HOFL.out]
                by_cases h : le = 0
                · rw [if_neg (by simp [h]), if_neg (by simp [h])]
                · rw [if_pos ⟨HP.out.2, h⟩, if_pos h]
              have HNN : Hid (ofN ls la ws x = ⟨a, b, p, lf, ll, ln, x.pos, x.sup, x.vs⟩) := by
                show _ = _
                unfold ofN
                rw [HP.out.1, if_neg HP.out.2, HOFL.out, HA.out.1, HA.out.2]
              clear HI HP HOFL HA HAB HWZ HWL HOW
              by_cases hle : le = 0
              · subst hle
                have HIN : Hid (ofI ls la ws x = nteI (ofN ls la ws x)) := by show _ = _; rw [hHI.out, if_neg (by simp)]
                go_wp2_with fail
                (with_reducible refine HOA.out.mono ?_)
                rintro e w6 ⟨rfl, hB6⟩
                have HM6 := hid (HM5.out.below hB6)
                have HM7 := hid (HM6.out.al (.cells #[.string lf, .string ll, .int .i64 ln] 28))
                have HRL := hid (row_nw w6 #[.string lf, .string ll, .int .i64 ln] 28 rfl)
                clear hB6 HM5 HOA HM6
                have t0 := HRL.out.cell 0 (x := .string lf) rfl
                have t1' := HRL.out.cell 1 (x := .string ll) rfl
                have t2 := HRL.out.cell 2 (x := .int .i64 ln) rfl
                have s3 := HM7.out.row.cell 3 (x := .string ⟨#[]⟩) rfl
                have s4 := HM7.out.row.cell 4 (x := .string ⟨#[]⟩) rfl
                have s5 := HM7.out.row.cell 5 (x := .int .i64 0) rfl
                have g3 := HM7.out.row.frozen 3
                have g4 := HM7.out.row.frozen 4
                have g5 := HM7.out.row.frozen 5
                have hma := HM7.out.put hBlo 3 (.string lf) ⟨a, b, p, lf, ⟨#[]⟩, 0, x.pos, x.sup, x.vs⟩ rfl
                have hmb := hma.put hBlo 4 (.string ll) ⟨a, b, p, lf, ll, 0, x.pos, x.sup, x.vs⟩ rfl
                have HM := hid (hmb.put hBlo 5 (.int .i64 ln) ⟨a, b, p, lf, ll, ln, x.pos, x.sup, x.vs⟩ rfl)
                have HSZ : Hid (SzN ⟨a, b, p, lf, ll, ln, x.pos, x.sup, x.vs⟩) := ⟨HOZ.out.1, HOZ.out.2, HZE.out.sup, HZE.out.vs⟩
                have HE2 : Hid (ofI ls la ws x = nteI ⟨a, b, p, lf, ll, ln, x.pos, x.sup, x.vs⟩ ∧ ofN ls la ws x = ⟨a, b, p, lf, ll, ln, x.pos, x.sup, x.vs⟩) := ⟨by rw [HIN.out, HNN.out], HNN.out⟩
                clear hma hmb HM7 HRL HIN HNN hHI HOZ
                generalize hnf : a = nf at *
                generalize hnt : b = nt at *
                generalize hnp : p = np at *
                clear hnf hnt hnp
                have HDone : Hid (∀ W, OfF x w (.slice ab x.sup.length cb) (.slice asv phs.length csv) phs W → OfR (ofN ls la ws x) (ofI ls la ws x) w (.returned (.tuple #[.agg #[.int .i64 nf, .int .i64 nt, .int .i64 np, .string lf, .string ll, .int .i64 ln, .bool x.pos, .slice ab x.sup.length cb, .slice asv phs.length csv], .int .i64 (nteI ⟨nf, nt, np, lf, ll, ln, x.pos, x.sup, x.vs⟩)])) W) := fun W hf => ⟨⟨nf, nt, np, lf, ll, ln, x.pos, x.sup, x.vs⟩, ab, x.sup.length, cb, asv, phs.length, csv, by rw [HE2.out.1]; rfl, (fun _ => ⟨HE2.out.2.symm, by rw [HE2.out.2]; exact OfF.own2 hf rfl HX.out⟩), hf.bel⟩
                go_upto_region 23 with fail
                generalize (((w6.alloc (.cells #[.string lf, .string ll, .int .i64 ln] 28)).setCell ⟨B, 3, none⟩ (.string lf)).setCell ⟨B, 4, none⟩ (.string ll)).setCell ⟨B, 5, none⟩ (.int .i64 ln) = W6 at *
                clear t0 t1' t2 s3 s4 s5 g3 g4 g5
                have hm := HM.out
                have b0 := hm.row.cell 0 (x := .int .i64 nf) rfl
                have b1 := hm.row.cell 1 (x := .int .i64 nt) rfl
                have b2 := hm.row.cell 2 (x := .int .i64 np) rfl
                have b3 := hm.row.cell 3 (x := .string lf) rfl
                have b4 := hm.row.cell 4 (x := .string ll) rfl
                have b5 := hm.row.cell 5 (x := .int .i64 ln) rfl
                have b6 := hm.row.cell 6 (x := .bool x.pos) rfl
                have b7 := hm.row.cell 7 (x := .slice ab x.sup.length cb) rfl
                have b8 := hm.row.cell 8 (x := .slice asv phs.length csv) rfl
                have HCK := fun w' (h : OfM x (.slice au x.sup.length cu) (.slice av x.vs.length cv) w B (.slice ab x.sup.length cb) (.slice asv phs.length csv) phs ⟨nf, nt, np, lf, ll, ln, x.pos, x.sup, x.vs⟩ w') => hid (pchk_any ⟨nf, nt, np, lf, ll, ln, x.pos, x.sup, x.vs⟩ (.slice ab x.sup.length cb) (.slice asv phs.length csv) w' (HE w' (OfM.os h).bel).out (OfM.rd h rfl HX.out) HSZ.out)
                have EK := enters_of Tryz.func22 (by kernel_rfl) rfl
                generalize hne : nteI ⟨nf, nt, np, lf, ll, ln, x.pos, x.sup, x.vs⟩ = ne at *
                go_region_law (first
                  | (refine step_callB rfl 22 EK (.tmp 125) #[30] rfl (.agg #[.int .i64 nf, .int .i64 nt, .int .i64 np, .string lf, .string ll, .int .i64 ln, .bool x.pos, .slice ab x.sup.length cb, .slice asv phs.length csv]) (by simp [Act.eval]) (.int .i64 ne) (HCK W6.drew hm.drew).out ?_; intro w7 hB7; have y := hm.drew.below hB7; have y0 := y.row.cell 0 (x := .int .i64 nf) rfl; have y1 := y.row.cell 1 (x := .int .i64 nt) rfl; have y2 := y.row.cell 2 (x := .int .i64 np) rfl; have y3 := y.row.cell 3 (x := .string lf) rfl; have y4 := y.row.cell 4 (x := .string ll) rfl; have y5 := y.row.cell 5 (x := .int .i64 ln) rfl; have y6 := y.row.cell 6 (x := .bool x.pos) rfl; have y7 := y.row.cell 7 (x := .slice ab x.sup.length cb) rfl; have y8 := y.row.cell 8 (x := .slice asv phs.length csv) rfl; have r0 := y.os.res.cell 0 (x := .int .i64 0) rfl; have r1 := y.os.res.cell 1 (x := .int .i64 0) rfl; have r2 := y.os.res.cell 2 (x := .int .i64 0) rfl; have r3 := y.os.res.cell 3 (x := .string ⟨#[]⟩) rfl; have r4 := y.os.res.cell 4 (x := .string ⟨#[]⟩) rfl; have r5 := y.os.res.cell 5 (x := .int .i64 0) rfl; have r6 := y.os.res.cell 6 (x := .bool false) rfl; have r7 := y.os.res.cell 7 (x := .slice none 0 0) rfl; have r8 := y.os.res.cell 8 (x := .slice none 0 0) rfl; have g0 := y.os.res.frozen 0; have g1 := y.os.res.frozen 1; have g2 := y.os.res.frozen 2; have g3 := y.os.res.frozen 3; have g4 := y.os.res.frozen 4; have g5 := y.os.res.frozen 5; have g6 := y.os.res.frozen 6; have g7 := y.os.res.frozen 7; have g8 := y.os.res.frozen 8))
                all_goals (
                  have HY := hid y.fin
                  have q := HY.out.1
                  have z0 := q.cell 0 (x := .int .i64 nf) rfl
                  have z1 := q.cell 1 (x := .int .i64 nt) rfl
                  have z2 := q.cell 2 (x := .int .i64 np) rfl
                  have z3 := q.cell 3 (x := .string lf) rfl
                  have z4 := q.cell 4 (x := .string ll) rfl
                  have z5 := q.cell 5 (x := .int .i64 ln) rfl
                  have z6 := q.cell 6 (x := .bool x.pos) rfl
                  have z7 := q.cell 7 (x := .slice ab x.sup.length cb) rfl
                  have z8 := q.cell 8 (x := .slice asv phs.length csv) rfl
                  clear q
                  go_wp2_with fail
                  exact bodyPost_ret (v := .tuple #[.agg #[.int .i64 nf, .int .i64 nt, .int .i64 np, .string lf, .string ll, .int .i64 ln, .bool x.pos, .slice ab x.sup.length cb, .slice asv phs.length csv], .int .i64 ne]) (by simp [results, Tryz.f38, go_sem, z0, z1, z2, z3, z4, z5, z6, z7, z8]) rfl (HDone.out _ HY.out.2))
              · have hlb : (le == 0) = false := beq_eq_false_iff_ne.2 hle
                have HIN : Hid (ofI ls la ws x = le) := by show _ = _; rw [hHI.out, if_pos hle]
                have HDn : Hid (∀ W, Below w.heap.size w W → OfR (ofN ls la ws x) (ofI ls la ws x) w (.returned (.tuple #[.agg zeroN, .int .i64 le])) W) := fun W hb => ⟨nt0, none, 0, 0, none, 0, 0, by rw [HIN.out]; rfl, (fun h => (by rw [HIN.out] at h; exact absurd h hle)), hb⟩
                clear hHI HNN
                go_wp2_with fail
                (with_reducible refine HOA.out.mono ?_)
                rintro e w6 ⟨rfl, hB6⟩
                have HM7 := hid ((HM5.out.below hB6).al (.cells #[.string lf, .string ll, .int .i64 ln] 28))
                clear hB6 HM5 HOA
                have r0 := HM7.out.os.res.cell 0 (x := .int .i64 0) rfl
                have g0 := HM7.out.os.res.frozen 0
                have r1 := HM7.out.os.res.cell 1 (x := .int .i64 0) rfl
                have g1 := HM7.out.os.res.frozen 1
                have r2 := HM7.out.os.res.cell 2 (x := .int .i64 0) rfl
                have g2 := HM7.out.os.res.frozen 2
                have r3 := HM7.out.os.res.cell 3 (x := .string ⟨#[]⟩) rfl
                have g3 := HM7.out.os.res.frozen 3
                have r4 := HM7.out.os.res.cell 4 (x := .string ⟨#[]⟩) rfl
                have g4 := HM7.out.os.res.frozen 4
                have r5 := HM7.out.os.res.cell 5 (x := .int .i64 0) rfl
                have g5 := HM7.out.os.res.frozen 5
                have r6 := HM7.out.os.res.cell 6 (x := .bool false) rfl
                have g6 := HM7.out.os.res.frozen 6
                have r7 := HM7.out.os.res.cell 7 (x := .slice none 0 0) rfl
                have g7 := HM7.out.os.res.frozen 7
                have r8 := HM7.out.os.res.cell 8 (x := .slice none 0 0) rfl
                have g8 := HM7.out.os.res.frozen 8
                have HBf := hid HM7.out.os.bel
                clear hle
                go_wp2_with fail
                have q := row9 HM7.out.os.res (.int .i64 0) (.int .i64 0) (.int .i64 0) (.string ⟨#[]⟩) (.string ⟨#[]⟩) (.int .i64 0) (.bool false) (.slice none 0 0) (.slice none 0 0)
                have z0 := q.cell 0 (x := .int .i64 0) rfl
                have z1 := q.cell 1 (x := .int .i64 0) rfl
                have z2 := q.cell 2 (x := .int .i64 0) rfl
                have z3 := q.cell 3 (x := .string ⟨#[]⟩) rfl
                have z4 := q.cell 4 (x := .string ⟨#[]⟩) rfl
                have z5 := q.cell 5 (x := .int .i64 0) rfl
                have z6 := q.cell 6 (x := .bool false) rfl
                have z7 := q.cell 7 (x := .slice none 0 0) rfl
                have z8 := q.cell 8 (x := .slice none 0 0) rfl
                exact bodyPost_ret (v := .tuple #[.agg zeroN, .int .i64 le]) (by simp [results, Tryz.f38, go_sem, zeroN, z0, z1, z2, z3, z4, z5, z6, z7, z8]) rfl (HDn.out _ (zsets_bel HBf.out))
end Go.Proofs.YtjhdeoniafahbaaGreatDoor
