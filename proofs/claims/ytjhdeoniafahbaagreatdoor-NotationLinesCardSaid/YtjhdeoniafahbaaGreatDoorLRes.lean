/-
  P45.3: NotationResolves.
-/
import Derived.Test.YtjhdeoniafahbaaGreatDoorLSup
import Derived.Test.YtjhdeoniafahbaaGreatDoorJ09
namespace Go.Proofs.YtjhdeoniafahbaaGreatDoor
open Go.RowKit

theorem gv_ok {v : Vr} (h : gvB v = false) : (v.ws.length ≤ 6 ∧ ∀ s ∈ v.ws, s.size ≤ 20) ∧ v.sg.length ≤ 6 ∧ ∀ s ∈ v.sg, s.size ≤ 20 := by
  unfold gvB at h
  rw [Bool.or_eq_false_iff] at h
  have ha := gw_ok h.1
  have hb := gw_ok h.2
  exact ⟨⟨by omega, ha.2⟩, by omega, hb.2⟩
theorem en_sz {x : En} (h : grB x.sup x.vs = false) : SzE x := by
  unfold grB at h
  simp only [Bool.or_eq_false_iff, decide_eq_false_iff_not] at h
  obtain ⟨h1, h2, h3⟩ := h
  have hs := gw_ok h3
  have hv : ∀ v ∈ x.vs, _ := fun v hv => gv_ok (Bool.eq_false_iff.2 (List.any_eq_false.1 h1 v hv))
  exact ⟨fun s hm => by have := hs.2 s hm; omega, fun v hm => ⟨fun s hm2 => by have := (hv v hm).1.2 s hm2; omega, fun s hm2 => by have := (hv v hm).2.2 s hm2; omega⟩, by omega, by omega, fun v hm => ⟨by have := (hv v hm).1.1; omega, by have := (hv v hm).2.1; omega⟩⟩
theorem of_sz {ls la : List Int} {ws : List ByteArray} {x : En} (hw : ws.length ≤ 13) (hx : SzE x) (h : ofAI ls la ws x = 0) : SzN (ofAN ls la ws x) := by
  obtain ⟨hE, hN, hc⟩ := lines_plain hw h
  rw [hN]
  have hk := note_ok hE
  have hsv : (ofN ls la ws x).sup = x.sup ∧ (ofN ls la ws x).vs = x.vs := by
    rcases hc with ⟨_, e, _, _⟩ | ⟨f, t, pl, _, _, _, _, _, _, _, _, _, _, _, _, _, e1, e2, _⟩
    · rw [e]; exact ⟨rfl, rfl⟩
    · exact ⟨e1, e2⟩
  have hl : (ofN ls la ws x).lf.size ≤ 65536 ∧ (ofN ls la ws x).ll.size ≤ 65536 := by
    by_cases hp : (ofN ls la ws x).pl = 4
    · obtain ⟨a, b, _⟩ := hk.no hp
      rw [a, b]; exact ⟨Nat.zero_le _, Nat.zero_le _⟩
    · obtain ⟨h1, h2, _, _⟩ := lck_parts (hk.lm hp)
      refine ⟨by have := wordB_66 h1; omega, ?_⟩
      rcases h2 with h2 | h2
      · omega
      · have := wordB_66 h2; omega
  exact ⟨hl.1, hl.2, by rw [hsv.1]; exact hx.sup, by rw [hsv.2]; exact hx.vs⟩
theorem rs_sz {ls la : List Int} {ws : List ByteArray} {ly : Int} {n : Nt} (hn : NtSm n) (h : rsI ls la ws ly n = 0) : SzE (rsN ls la ws ly n) := by
  have hN : rsN ls la ws ly n = rsE ls ws ly n := by unfold rsN; rw [if_pos h]
  rw [hN]
  exact ⟨fun s hm => by have := hn.sup.2 s hm; omega, fun v hm => ⟨fun s hm2 => by have := (hn.vs v hm).1.2 s hm2; omega, fun s hm2 => by have := (hn.vs v hm).2.2 s hm2; omega⟩, by have := hn.sup.1; show n.sup.length ≤ _; omega, by have := hn.vl; show n.vs.length ≤ _; omega, fun v hm => ⟨by have := (hn.vs v hm).1.1; omega, by have := (hn.vs v hm).2.1; omega⟩⟩
set_option maxRecDepth 100000 in
set_option maxHeartbeats 8000000 in
theorem lres_any (v1 v2 v3 : Value) (ls la : List Int) (ws : List ByteArray) (x : En) (u s : Value) (z : Nt) (u2 s2 : Value) (m : Int) (w : World) (he : Env w) (hm : w.cell? ⟨0, 0, none⟩ = some (.int .i64 m))
    (h1 : RdI w v1 ls) (h2 : RdI w v2 la) (h3 : RdS w v3 ws) (hz3 : Szs ws) (hr : RdE w u s x) (hz : SzE0 x) (hr2 : RdN w u2 s2 z) (hz2 : SzN0 z) :
    Calls Tryz.prog 5 #[v1, v2, v3, .agg (x.cells u s), .agg (z.cells u2 s2)] w fun e w' => e = .returned (.bool true) ∧ Below w.heap.size w w' := by
  have HE := fun w' (h : Below w.heap.size w w') => hid (he.below h)
  have HM := fun w' (h : Below w.heap.size w w') => hid (Below.keeps h _ _ hm)
  have HAW := fun w' (h : Below w.heap.size w w') => hid (awake45_any m w' (HE w' h).out (HM w' h).out)
  have HOF := fun w' (x' : En) u' s' (h : Below w.heap.size w w') (hE : RdE w' u' s' x') (hz : SzE x') (hw : Sz16 ws ∧ ws.length ≤ 13) => hid (pOf_any ls la ws x' v1 v2 v3 u' s' w' (HE w' h).out (h1.below h) (h2.below h) (h3.below h) hE hw.1 hz hw.2)
  have HRV := fun w' (n : Nt) u' s' (ly : Int) (h : Below w.heap.size w w') (hN : RdN w' u' s' n) (hz : SzN n) (hw : Sz16 ws ∧ ws.length ≤ 13) => hid (pres_any ls la ws ly n v1 v2 v3 u' s' w' (HE w' h).out (h1.below h) (h2.below h) (h3.below h) hN hw.1 hz hw.2)
  obtain ⟨b1, d1, rfl, _, _, _⟩ := h1.open
  obtain ⟨b2, d2, rfl, _, _, _⟩ := h2.open
  obtain ⟨b3, d3, rfl, _, _, _⟩ := h3.open
  obtain ⟨au, cu, rfl, _, _, _⟩ := hr.rs.open
  obtain ⟨av, cv, rfl, _, _, _⟩ := hr.rv.open
  obtain ⟨ap, cp, rfl, _, _, _⟩ := hr2.rs.open
  obtain ⟨aq, cq, rfl, _, _, _⟩ := hr2.rv.open
  generalize x.sup.length = nu at *
  generalize x.vs.length = nv at *
  generalize z.sup.length = np at *
  generalize z.vs.length = nq at *
  have hb0 := below_tr (below_al w (.cells (x.cells (.slice au nu cu) (.slice av nv cv)) 26)) (below_al _ (.cells (z.cells (.slice ap np cp) (.slice aq nq cq)) 30))
  have HB0 := hid hb0
  have HE0 := hid ((row_nw w (x.cells (.slice au nu cu) (.slice av nv cv)) 26 rfl).al (.cells (z.cells (.slice ap np cp) (.slice aq nq cq)) 30))
  have hn0 := row_nw (w.alloc (.cells (x.cells (.slice au nu cu) (.slice av nv cv)) 26)) (z.cells (.slice ap np cp) (.slice aq nq cq)) 30 rfl
  rw [show (w.alloc (.cells (x.cells (.slice au nu cu) (.slice av nv cv)) 26)).heap.size = w.heap.size + 1 by simp] at hn0
  have HN0 := hid hn0
  have HRE := fun w' (h : Below w.heap.size w w') => hid (hr.below h)
  have HRN := fun w' (h : Below w.heap.size w w') => hid (hr2.below h)
  have HG1 := hid (greatw_any _ ws 10 _ (h3.below hb0) hz3)
  have HG2 := hid (greatE_any x _ _ _ (hr.below hb0) hz)
  have HGN := fun w' (h : Below w.heap.size w w') => hid (greatN_any z _ _ w' (HRN w' h).out hz2)
  clear he hm h1 h2 h3 hz3 hr hz hr2 hz2 hb0 hn0
  unfold Nt.cells at *
  unfold En.cells at *
  go_enter Tryz.func5, Tryz.ntmps5
  go_upto_region 1 with fail
  generalize (w.alloc (.cells #[.int .i64 x.ly, .int .i64 x.fr, .int .i64 x.to_, .bool x.pos, .slice au nu cu, .slice av nv cv] 26)).alloc (.cells #[.int .i64 z.fr, .int .i64 z.to_, .int .i64 z.pl, .string z.lf, .string z.ll, .int .i64 z.ln, .bool z.pos, .slice ap np cp, .slice aq nq cq] 30) = W0 at *
  obtain ⟨bn, hbn⟩ : ∃ b, b = w.heap.size + 1 := ⟨_, rfl⟩
  rw [← hbn] at HN0 ⊢
  obtain ⟨be, hbe⟩ : ∃ b, b = w.heap.size := ⟨_, rfl⟩
  rw [← hbe] at HE0 ⊢
  clear hbn hbe
  by_cases k1 : 12 < ls.length
  · have k1i : (12 : Int) < (ls.length : Int) := by omega
    clear HRE HOF
    go_wp2_with fail
    (with_reducible refine (HAW _ HB0.out).out.mono ?_)
    rintro e wa ⟨rfl, hBa⟩
    go_wp2
    go_ret
    exact ⟨rfl, below_tr HB0.out hBa⟩
  · have k1i : ¬ (12 : Int) < (ls.length : Int) := by omega
    by_cases k2 : 12 < la.length
    · have k2i : (12 : Int) < (la.length : Int) := by omega
      clear HRE HOF
      go_wp2_with fail
      (with_reducible refine (HAW _ HB0.out).out.mono ?_)
      rintro e wa ⟨rfl, hBa⟩
      go_wp2
      go_ret
      exact ⟨rfl, below_tr HB0.out hBa⟩
    · have k2i : ¬ (12 : Int) < (la.length : Int) := by omega
      cases k3 : gwB ws 10 with
      | true =>
        rw [k3] at HG1
        clear HRE HOF k3
        go_wp2_with fail
        (with_reducible refine HG1.out.mono ?_)
        rintro e w1 ⟨rfl, rfl⟩
        go_wp2_with fail
        (with_reducible refine (HAW _ HB0.out).out.mono ?_)
        rintro e wa ⟨rfl, hBa⟩
        go_wp2
        go_ret
        exact ⟨rfl, below_tr HB0.out hBa⟩
      | false =>
        have HGW := hid (gw_ok k3)
        rw [k3] at HG1
        clear k3
        cases k4 : grB x.sup x.vs with
        | true =>
          rw [k4] at HG2
          clear HRE HOF k4
          have c0 := HE0.out.cell 0 (x := .int .i64 x.ly) rfl
          have c1 := HE0.out.cell 1 (x := .int .i64 x.fr) rfl
          have c2 := HE0.out.cell 2 (x := .int .i64 x.to_) rfl
          have c3 := HE0.out.cell 3 (x := .bool x.pos) rfl
          have c4 := HE0.out.cell 4 (x := .slice au nu cu) rfl
          have c5 := HE0.out.cell 5 (x := .slice av nv cv) rfl
          go_wp2_with fail
          (with_reducible refine HG1.out.mono ?_)
          rintro e w1 ⟨rfl, rfl⟩
          go_wp2_with fail
          (with_reducible refine HG2.out.mono ?_)
          rintro e w2 ⟨rfl, hB⟩
          have HB2 := hid (below_tr HB0.out hB)
          clear hB
          go_wp2_with fail
          (with_reducible refine (HAW _ HB2.out).out.mono ?_)
          rintro e wa ⟨rfl, hBa⟩
          go_wp2
          go_ret
          exact ⟨rfl, below_tr HB2.out hBa⟩
        | false =>
          have HEZ := hid (en_sz k4)
          rw [k4] at HG2
          clear k4
          cases k5 : gnB z with
          | true =>
            rw [k5] at HGN
            clear HRE HOF k5
            have c0 := HE0.out.cell 0 (x := .int .i64 x.ly) rfl
            have c1 := HE0.out.cell 1 (x := .int .i64 x.fr) rfl
            have c2 := HE0.out.cell 2 (x := .int .i64 x.to_) rfl
            have c3 := HE0.out.cell 3 (x := .bool x.pos) rfl
            have c4 := HE0.out.cell 4 (x := .slice au nu cu) rfl
            have c5 := HE0.out.cell 5 (x := .slice av nv cv) rfl
            go_wp2_with fail
            (with_reducible refine HG1.out.mono ?_)
            rintro e w1 ⟨rfl, rfl⟩
            go_wp2_with fail
            (with_reducible refine HG2.out.mono ?_)
            rintro e w2 ⟨rfl, hB⟩
            have HB2 := hid (below_tr HB0.out hB)
            have HE2 := hid (HE0.out.below hB)
            have HN2 := hid (HN0.out.below hB)
            clear hB
            clear c0 c1 c2 c3 c4 c5
            have HG3 := HGN w2 HB2.out
            have d0 := HN2.out.cell 0 (x := .int .i64 z.fr) rfl
            have d1 := HN2.out.cell 1 (x := .int .i64 z.to_) rfl
            have d2 := HN2.out.cell 2 (x := .int .i64 z.pl) rfl
            have d3 := HN2.out.cell 3 (x := .string z.lf) rfl
            have d4 := HN2.out.cell 4 (x := .string z.ll) rfl
            have d5 := HN2.out.cell 5 (x := .int .i64 z.ln) rfl
            have d6 := HN2.out.cell 6 (x := .bool z.pos) rfl
            have d7 := HN2.out.cell 7 (x := .slice ap np cp) rfl
            have d8 := HN2.out.cell 8 (x := .slice aq nq cq) rfl
            go_wp2_with fail
            (with_reducible refine HG3.out.mono ?_)
            rintro e w3 ⟨rfl, hB⟩
            have HB3 := hid (below_tr HB2.out hB)
            clear hB
            go_wp2_with fail
            (with_reducible refine (HAW _ HB3.out).out.mono ?_)
            rintro e wa ⟨rfl, hBa⟩
            go_wp2
            go_ret
            exact ⟨rfl, below_tr HB3.out hBa⟩
          | false =>
            have HSM := hid (nt_small k5)
            rw [k5] at HGN
            clear k5
            by_cases k6 : x.ly < 0
            · clear HRE HOF
              have c0 := HE0.out.cell 0 (x := .int .i64 x.ly) rfl
              have c1 := HE0.out.cell 1 (x := .int .i64 x.fr) rfl
              have c2 := HE0.out.cell 2 (x := .int .i64 x.to_) rfl
              have c3 := HE0.out.cell 3 (x := .bool x.pos) rfl
              have c4 := HE0.out.cell 4 (x := .slice au nu cu) rfl
              have c5 := HE0.out.cell 5 (x := .slice av nv cv) rfl
              go_wp2_with fail
              (with_reducible refine HG1.out.mono ?_)
              rintro e w1 ⟨rfl, rfl⟩
              go_wp2_with fail
              (with_reducible refine HG2.out.mono ?_)
              rintro e w2 ⟨rfl, hB⟩
              have HB2 := hid (below_tr HB0.out hB)
              have HE2 := hid (HE0.out.below hB)
              have HN2 := hid (HN0.out.below hB)
              clear hB
              clear c0 c1 c2 c3 c4 c5
              have HG3 := HGN w2 HB2.out
              have d0 := HN2.out.cell 0 (x := .int .i64 z.fr) rfl
              have d1 := HN2.out.cell 1 (x := .int .i64 z.to_) rfl
              have d2 := HN2.out.cell 2 (x := .int .i64 z.pl) rfl
              have d3 := HN2.out.cell 3 (x := .string z.lf) rfl
              have d4 := HN2.out.cell 4 (x := .string z.ll) rfl
              have d5 := HN2.out.cell 5 (x := .int .i64 z.ln) rfl
              have d6 := HN2.out.cell 6 (x := .bool z.pos) rfl
              have d7 := HN2.out.cell 7 (x := .slice ap np cp) rfl
              have d8 := HN2.out.cell 8 (x := .slice aq nq cq) rfl
              go_wp2_with fail
              (with_reducible refine HG3.out.mono ?_)
              rintro e w3 ⟨rfl, hB⟩
              have HB3 := hid (below_tr HB2.out hB)
              have HE3 := hid (HE2.out.below hB)
              have HN3 := hid (HN2.out.below hB)
              clear hB
              clear d0 d1 d2 d3 d4 d5 d6 d7 d8
              have e0 := HE3.out.cell 0 (x := .int .i64 x.ly) rfl
              go_wp2_with fail
              (with_reducible refine (HAW _ HB3.out).out.mono ?_)
              rintro e wa ⟨rfl, hBa⟩
              go_wp2
              go_ret
              exact ⟨rfl, below_tr HB3.out hBa⟩
            · by_cases k7 : 62 < x.ly
              · clear HRE HOF
                have c0 := HE0.out.cell 0 (x := .int .i64 x.ly) rfl
                have c1 := HE0.out.cell 1 (x := .int .i64 x.fr) rfl
                have c2 := HE0.out.cell 2 (x := .int .i64 x.to_) rfl
                have c3 := HE0.out.cell 3 (x := .bool x.pos) rfl
                have c4 := HE0.out.cell 4 (x := .slice au nu cu) rfl
                have c5 := HE0.out.cell 5 (x := .slice av nv cv) rfl
                go_wp2_with fail
                (with_reducible refine HG1.out.mono ?_)
                rintro e w1 ⟨rfl, rfl⟩
                go_wp2_with fail
                (with_reducible refine HG2.out.mono ?_)
                rintro e w2 ⟨rfl, hB⟩
                have HB2 := hid (below_tr HB0.out hB)
                have HE2 := hid (HE0.out.below hB)
                have HN2 := hid (HN0.out.below hB)
                clear hB
                clear c0 c1 c2 c3 c4 c5
                have HG3 := HGN w2 HB2.out
                have d0 := HN2.out.cell 0 (x := .int .i64 z.fr) rfl
                have d1 := HN2.out.cell 1 (x := .int .i64 z.to_) rfl
                have d2 := HN2.out.cell 2 (x := .int .i64 z.pl) rfl
                have d3 := HN2.out.cell 3 (x := .string z.lf) rfl
                have d4 := HN2.out.cell 4 (x := .string z.ll) rfl
                have d5 := HN2.out.cell 5 (x := .int .i64 z.ln) rfl
                have d6 := HN2.out.cell 6 (x := .bool z.pos) rfl
                have d7 := HN2.out.cell 7 (x := .slice ap np cp) rfl
                have d8 := HN2.out.cell 8 (x := .slice aq nq cq) rfl
                go_wp2_with fail
                (with_reducible refine HG3.out.mono ?_)
                rintro e w3 ⟨rfl, hB⟩
                have HB3 := hid (below_tr HB2.out hB)
                have HE3 := hid (HE2.out.below hB)
                have HN3 := hid (HN2.out.below hB)
                clear hB
                clear d0 d1 d2 d3 d4 d5 d6 d7 d8
                have e0 := HE3.out.cell 0 (x := .int .i64 x.ly) rfl
                go_wp2_with fail
                (with_reducible refine (HAW _ HB3.out).out.mono ?_)
                rintro e wa ⟨rfl, hBa⟩
                go_wp2
                go_ret
                exact ⟨rfl, below_tr HB3.out hBa⟩
              · have c0 := HE0.out.cell 0 (x := .int .i64 x.ly) rfl
                have c1 := HE0.out.cell 1 (x := .int .i64 x.fr) rfl
                have c2 := HE0.out.cell 2 (x := .int .i64 x.to_) rfl
                have c3 := HE0.out.cell 3 (x := .bool x.pos) rfl
                have c4 := HE0.out.cell 4 (x := .slice au nu cu) rfl
                have c5 := HE0.out.cell 5 (x := .slice av nv cv) rfl
                go_wp2_with fail
                (with_reducible refine HG1.out.mono ?_)
                rintro e w1 ⟨rfl, rfl⟩
                go_wp2_with fail
                (with_reducible refine HG2.out.mono ?_)
                rintro e w2 ⟨rfl, hB⟩
                have HB2 := hid (below_tr HB0.out hB)
                have HE2 := hid (HE0.out.below hB)
                have HN2 := hid (HN0.out.below hB)
                clear hB
                clear c0 c1 c2 c3 c4 c5
                have HG3 := HGN w2 HB2.out
                have d0 := HN2.out.cell 0 (x := .int .i64 z.fr) rfl
                have d1 := HN2.out.cell 1 (x := .int .i64 z.to_) rfl
                have d2 := HN2.out.cell 2 (x := .int .i64 z.pl) rfl
                have d3 := HN2.out.cell 3 (x := .string z.lf) rfl
                have d4 := HN2.out.cell 4 (x := .string z.ll) rfl
                have d5 := HN2.out.cell 5 (x := .int .i64 z.ln) rfl
                have d6 := HN2.out.cell 6 (x := .bool z.pos) rfl
                have d7 := HN2.out.cell 7 (x := .slice ap np cp) rfl
                have d8 := HN2.out.cell 8 (x := .slice aq nq cq) rfl
                go_wp2_with fail
                (with_reducible refine HG3.out.mono ?_)
                rintro e w3 ⟨rfl, hB⟩
                have HB3 := hid (below_tr HB2.out hB)
                have HE3 := hid (HE2.out.below hB)
                have HN3 := hid (HN2.out.below hB)
                clear hB
                clear d0 d1 d2 d3 d4 d5 d6 d7 d8
                have e0 := HE3.out.cell 0 (x := .int .i64 x.ly) rfl
                have HLY : Hid (0 ≤ x.ly ∧ x.ly ≤ 62) := ⟨by omega, by omega⟩
                have HWZ : Hid (Sz16 ws ∧ ws.length ≤ 13) := ⟨fun y hy => by have := HGW.out.2 y hy; omega, by have := HGW.out.1; omega⟩
                have HSZ := hid (nt_sz HSM.out)
                clear HG1 HG2 HG3 HGN
                have hR1 := fun h => resolves_one (ls := ls) (la := la) (ws := ws) (x := x) HWZ.out.2 h HLY.out.1 HLY.out.2
                have hSY := fun h => of_sz (ls := ls) (la := la) (ws := ws) (x := x) HWZ.out.2 HEZ.out h
                have HR1 := fun h => hid (hR1 h)
                have HSY := fun h => hid (hSY h)
                clear hR1 hSY
                have HO3 := HOF w3 x _ _ HB3.out (HRE w3 HB3.out).out HEZ.out HWZ.out
                generalize ofAI ls la ws x = oi at *
                generalize ofAN ls la ws x = y at *
                have c0 := HE3.out.cell 0 (x := .int .i64 x.ly) rfl
                have c1 := HE3.out.cell 1 (x := .int .i64 x.fr) rfl
                have c2 := HE3.out.cell 2 (x := .int .i64 x.to_) rfl
                have c3 := HE3.out.cell 3 (x := .bool x.pos) rfl
                have c4 := HE3.out.cell 4 (x := .slice au nu cu) rfl
                have c5 := HE3.out.cell 5 (x := .slice av nv cv) rfl
                go_wp2_with fail
                (with_reducible refine HO3.out.mono ?_)
                rintro e w4 ⟨am, nm, cm, ak, nk, ck, rfl, hN, hB⟩
                have hal := below_al w4 (.cells (y.cells (.slice am nm cm) (.slice ak nk ck)) 30)
                have HB5 := hid (below_tr HB3.out (below_tr hB hal))
                have HE5 := hid ((HE3.out.below hB).below hal)
                have HN5 := hid ((HN3.out.below hB).below hal)
                have HM5 := hid (row_nw w4 (y.cells (.slice am nm cm) (.slice ak nk ck)) 30 rfl)
                have HRY := hid (hN.below hal)
                unfold Nt.cells at HB5 HE5 HN5 HM5 HRY ⊢
                clear hal hB hN HO3 HB3 HE3 HN3 HB2 HE2 HN2 k1 k1i k2 k2i k6 k7 e0 c0 c1 c2 c3 c4 c5
                go_upto_if 59 with fail
                generalize w4.alloc (.cells #[.int .i64 y.fr, .int .i64 y.to_, .int .i64 y.pl, .string y.lf, .string y.ll, .int .i64 y.ln, .bool y.pos, .slice am nm cm, .slice ak nk ck] 30) = W5 at *
                generalize w4.heap.size = bm at *
                go_cut [] from 58 to 78 (fun wx => Hid (Below w.heap.size w wx) ∧ Hid (Row wx be #[.int .i64 x.ly, .int .i64 x.fr, .int .i64 x.to_, .bool x.pos, .slice au nu cu, .slice av nv cv] 26) ∧ Hid (Row wx bn #[.int .i64 z.fr, .int .i64 z.to_, .int .i64 z.pl, .string z.lf, .string z.ll, .int .i64 z.ln, .bool z.pos, .slice ap np cp, .slice aq nq cq] 30))
                case first =>
                  by_cases hE : oi = 0
                  · obtain ⟨h1, h2⟩ := (HR1 hE).out
                    have hsy := HSY hE
                    have hpb : (oi == 0) = true := by rw [hE]; rfl
                    have HRS := HRV W5 y _ _ x.ly HB5.out HRY.out hsy.out HWZ.out
                    rw [h1, h2] at HRS
                    clear hE h1 h2 HR1 HSY hsy
                    have c0 := HE5.out.cell 0 (x := .int .i64 x.ly) rfl
                    have c1 := HE5.out.cell 1 (x := .int .i64 x.fr) rfl
                    have c2 := HE5.out.cell 2 (x := .int .i64 x.to_) rfl
                    have c3 := HE5.out.cell 3 (x := .bool x.pos) rfl
                    have c4 := HE5.out.cell 4 (x := .slice au nu cu) rfl
                    have c5 := HE5.out.cell 5 (x := .slice av nv cv) rfl
                    have d0 := HM5.out.cell 0 (x := .int .i64 y.fr) rfl
                    have d1 := HM5.out.cell 1 (x := .int .i64 y.to_) rfl
                    have d2 := HM5.out.cell 2 (x := .int .i64 y.pl) rfl
                    have d3 := HM5.out.cell 3 (x := .string y.lf) rfl
                    have d4 := HM5.out.cell 4 (x := .string y.ll) rfl
                    have d5 := HM5.out.cell 5 (x := .int .i64 y.ln) rfl
                    have d6 := HM5.out.cell 6 (x := .bool y.pos) rfl
                    have d7 := HM5.out.cell 7 (x := .slice am nm cm) rfl
                    have d8 := HM5.out.cell 8 (x := .slice ak nk ck) rfl
                    go_wp2_with fail
                    (with_reducible refine HRS.out.mono ?_)
                    rintro e w6 ⟨ag, ng, cg, ah, nh, ch, rfl, hN, hB⟩
                    have hal := below_al w6 (.cells (x.cells (.slice ag ng cg) (.slice ah nh ch)) 26)
                    have HB7 := hid (below_tr HB5.out (below_tr hB hal))
                    have HE7 := hid ((HE5.out.below hB).below hal)
                    have HN7 := hid ((HN5.out.below hB).below hal)
                    have HX7 := hid (row_nw w6 (x.cells (.slice ag ng cg) (.slice ah nh ch)) 26 rfl)
                    have HSA := hid (rsameE_any x x _ _ _ _ _ (hN.below hal) (HRE _ HB7.out).out)
                    rw [enB_iff.2 rfl] at HSA
                    unfold En.cells at HB7 HE7 HN7 HX7 HSA ⊢
                    clear hal hB hN HRS c0 c1 c2 c3 c4 c5 d0 d1 d2 d3 d4 d5 d6 d7 d8
                    go_upto_region 6 with fail
                    generalize w6.alloc (.cells #[.int .i64 x.ly, .int .i64 x.fr, .int .i64 x.to_, .bool x.pos, .slice ag ng cg, .slice ah nh ch] 26) = W7 at *
                    generalize w6.heap.size = bx at *
                    have c0 := HE7.out.cell 0 (x := .int .i64 x.ly) rfl
                    have c1 := HE7.out.cell 1 (x := .int .i64 x.fr) rfl
                    have c2 := HE7.out.cell 2 (x := .int .i64 x.to_) rfl
                    have c3 := HE7.out.cell 3 (x := .bool x.pos) rfl
                    have c4 := HE7.out.cell 4 (x := .slice au nu cu) rfl
                    have c5 := HE7.out.cell 5 (x := .slice av nv cv) rfl
                    have d0 := HX7.out.cell 0 (x := .int .i64 x.ly) rfl
                    have d1 := HX7.out.cell 1 (x := .int .i64 x.fr) rfl
                    have d2 := HX7.out.cell 2 (x := .int .i64 x.to_) rfl
                    have d3 := HX7.out.cell 3 (x := .bool x.pos) rfl
                    have d4 := HX7.out.cell 4 (x := .slice ag ng cg) rfl
                    have d5 := HX7.out.cell 5 (x := .slice ah nh ch) rfl
                    go_wp2_with fail
                    (with_reducible refine HSA.out.mono ?_)
                    rintro e w8 ⟨rfl, hB⟩
                    have HB8 := hid (below_tr HB7.out hB)
                    have HE8 := hid (HE7.out.below hB)
                    have HN8 := hid (HN7.out.below hB)
                    clear hB
                    go_wp2_with fail
                    go_meet
                    exact ⟨HB8, HE8, HN8⟩
                  · have hpb : (oi == 0) = false := beq_eq_false_iff_ne.2 hE
                    clear hE
                    go_wp2_with fail
                    go_meet
                    exact ⟨HB5, HE5, HN5⟩
                case rest =>
                  obtain ⟨HB9, HE9, HN9⟩ := hcut
                  clear HB5 HE5 HN5 HM5 HRY HR1 HSY
                  have HRS := HRV wc z _ _ x.ly HB9.out (HRN wc HB9.out).out HSZ.out HWZ.out
                  have HR2 := fun h => hid (resolves_two (ls := ls) (la := la) (ws := ws) (ly := x.ly) (n := z) h)
                  have HYZ := fun h => hid (rs_sz (ls := ls) (la := la) (ws := ws) (ly := x.ly) (n := z) HSM.out h)
                  generalize rsI ls la ws x.ly z = ri at *
                  generalize rsN ls la ws x.ly z = y2 at *
                  have c0 := HE9.out.cell 0 (x := .int .i64 x.ly) rfl
                  have c1 := HE9.out.cell 1 (x := .int .i64 x.fr) rfl
                  have c2 := HE9.out.cell 2 (x := .int .i64 x.to_) rfl
                  have c3 := HE9.out.cell 3 (x := .bool x.pos) rfl
                  have c4 := HE9.out.cell 4 (x := .slice au nu cu) rfl
                  have c5 := HE9.out.cell 5 (x := .slice av nv cv) rfl
                  have d0 := HN9.out.cell 0 (x := .int .i64 z.fr) rfl
                  have d1 := HN9.out.cell 1 (x := .int .i64 z.to_) rfl
                  have d2 := HN9.out.cell 2 (x := .int .i64 z.pl) rfl
                  have d3 := HN9.out.cell 3 (x := .string z.lf) rfl
                  have d4 := HN9.out.cell 4 (x := .string z.ll) rfl
                  have d5 := HN9.out.cell 5 (x := .int .i64 z.ln) rfl
                  have d6 := HN9.out.cell 6 (x := .bool z.pos) rfl
                  have d7 := HN9.out.cell 7 (x := .slice ap np cp) rfl
                  have d8 := HN9.out.cell 8 (x := .slice aq nq cq) rfl
                  go_wp2_with fail
                  (with_reducible refine HRS.out.mono ?_)
                  rintro e w10 ⟨ag, ng, cg, ah, nh, ch, rfl, hN, hB⟩
                  have hal := below_al w10 (.cells (y2.cells (.slice ag ng cg) (.slice ah nh ch)) 26)
                  have HB11 := hid (below_tr HB9.out (below_tr hB hal))
                  have HE11 := hid ((HE9.out.below hB).below hal)
                  have HN11 := hid ((HN9.out.below hB).below hal)
                  have HX11 := hid (row_nw w10 (y2.cells (.slice ag ng cg) (.slice ah nh ch)) 26 rfl)
                  have HRX := hid (hN.below hal)
                  unfold En.cells at HB11 HE11 HN11 HX11 HRX ⊢
                  clear hal hB hN HRS c0 c1 c2 c3 c4 c5 d0 d1 d2 d3 d4 d5 d6 d7 d8
                  go_upto_if 89 with fail
                  generalize w10.alloc (.cells #[.int .i64 y2.ly, .int .i64 y2.fr, .int .i64 y2.to_, .bool y2.pos, .slice ag ng cg, .slice ah nh ch] 26) = W11 at *
                  generalize w10.heap.size = bx at *
                  by_cases hE : ri = 0
                  · obtain ⟨h1, h2, h3⟩ := (HR2 hE).out
                    have hpb : (ri == 0) = true := by rw [hE]; rfl
                    have HO := HOF W11 y2 _ _ HB11.out HRX.out (HYZ hE).out HWZ.out
                    rw [h1, h2] at HO
                    have hly : (y2.ly == x.ly) = true := by rw [h3]; simp
                    clear hE h1 h2 h3 HR2 HYZ
                    have c0 := HX11.out.cell 0 (x := .int .i64 y2.ly) rfl
                    have c1 := HX11.out.cell 1 (x := .int .i64 y2.fr) rfl
                    have c2 := HX11.out.cell 2 (x := .int .i64 y2.to_) rfl
                    have c3 := HX11.out.cell 3 (x := .bool y2.pos) rfl
                    have c4 := HX11.out.cell 4 (x := .slice ag ng cg) rfl
                    have c5 := HX11.out.cell 5 (x := .slice ah nh ch) rfl
                    go_wp2_with fail
                    (with_reducible refine HO.out.mono ?_)
                    rintro e w12 ⟨am2, nm2, cm2, ak2, nk2, ck2, rfl, hN, hB⟩
                    have hal := below_al w12 (.cells (z.cells (.slice am2 nm2 cm2) (.slice ak2 nk2 ck2)) 30)
                    have HB13 := hid (below_tr HB11.out (below_tr hB hal))
                    have HE13 := hid ((HE11.out.below hB).below hal)
                    have HN13 := hid ((HN11.out.below hB).below hal)
                    have HX13 := hid ((HX11.out.below hB).below hal)
                    have HM13 := hid (row_nw w12 (z.cells (.slice am2 nm2 cm2) (.slice ak2 nk2 ck2)) 30 rfl)
                    have HSA := hid (rsame45_any z z _ _ _ _ _ (hN.below hal) (HRN _ HB13.out).out)
                    rw [ntB_iff.2 rfl] at HSA
                    unfold Nt.cells at HB13 HE13 HN13 HX13 HM13 HSA ⊢
                    clear hal hB hN HO c0 c1 c2 c3 c4 c5
                    go_upto_region 12 with fail
                    generalize w12.alloc (.cells #[.int .i64 z.fr, .int .i64 z.to_, .int .i64 z.pl, .string z.lf, .string z.ll, .int .i64 z.ln, .bool z.pos, .slice am2 nm2 cm2, .slice ak2 nk2 ck2] 30) = W13 at *
                    generalize w12.heap.size = bz at *
                    have g0 := HX13.out.cell 0 (x := .int .i64 y2.ly) rfl
                    have g1 := HE13.out.cell 0 (x := .int .i64 x.ly) rfl
                    have c0 := HM13.out.cell 0 (x := .int .i64 z.fr) rfl
                    have c1 := HM13.out.cell 1 (x := .int .i64 z.to_) rfl
                    have c2 := HM13.out.cell 2 (x := .int .i64 z.pl) rfl
                    have c3 := HM13.out.cell 3 (x := .string z.lf) rfl
                    have c4 := HM13.out.cell 4 (x := .string z.ll) rfl
                    have c5 := HM13.out.cell 5 (x := .int .i64 z.ln) rfl
                    have c6 := HM13.out.cell 6 (x := .bool z.pos) rfl
                    have c7 := HM13.out.cell 7 (x := .slice am2 nm2 cm2) rfl
                    have c8 := HM13.out.cell 8 (x := .slice ak2 nk2 ck2) rfl
                    have d0 := HN13.out.cell 0 (x := .int .i64 z.fr) rfl
                    have d1 := HN13.out.cell 1 (x := .int .i64 z.to_) rfl
                    have d2 := HN13.out.cell 2 (x := .int .i64 z.pl) rfl
                    have d3 := HN13.out.cell 3 (x := .string z.lf) rfl
                    have d4 := HN13.out.cell 4 (x := .string z.ll) rfl
                    have d5 := HN13.out.cell 5 (x := .int .i64 z.ln) rfl
                    have d6 := HN13.out.cell 6 (x := .bool z.pos) rfl
                    have d7 := HN13.out.cell 7 (x := .slice ap np cp) rfl
                    have d8 := HN13.out.cell 8 (x := .slice aq nq cq) rfl
                    go_wp2_with fail
                    (with_reducible refine HSA.out.mono ?_)
                    rintro e w14 ⟨rfl, hB⟩
                    have HB14 := hid (below_tr HB13.out hB)
                    clear hB
                    go_wp2_with fail
                    (with_reducible refine (HAW _ HB14.out).out.mono ?_)
                    rintro e wa ⟨rfl, hBa⟩
                    go_wp2
                    go_ret
                    exact ⟨rfl, below_tr HB14.out hBa⟩
                  · have hpb : (ri == 0) = false := beq_eq_false_iff_ne.2 hE
                    clear hE
                    go_wp2_with fail
                    (with_reducible refine (HAW _ HB11.out).out.mono ?_)
                    rintro e wa ⟨rfl, hBa⟩
                    go_wp2
                    go_ret
                    exact ⟨rfl, below_tr HB11.out hBa⟩
end Go.Proofs.YtjhdeoniafahbaaGreatDoor
