/-
  P45.1: NotationEntries.
-/
import Derived.Test.YtjhdeoniafahbaaGreatDoorSzEn
import Derived.Test.YtjhdeoniafahbaaGreatDoorR45e
namespace Go.Proofs.YtjhdeoniafahbaaGreatDoor
open Go.RowKit

set_option maxRecDepth 100000 in
set_option maxHeartbeats 8000000 in
theorem lent_any (v1 v2 v3 : Value) (ls la : List Int) (ws : List ByteArray) (x : En) (u s : Value) (ly : Int) (z : Nt) (u2 s2 : Value) (m : Int) (w : World) (he : Env w) (hm : w.cell? ⟨0, 0, none⟩ = some (.int .i64 m))
    (h1 : RdI w v1 ls) (h2 : RdI w v2 la) (h3 : RdS w v3 ws) (hz3 : Szs ws) (hr : RdE w u s x) (hz : SzE0 x) (hr2 : RdN w u2 s2 z) (hz2 : SzN0 z) :
    Calls Tryz.prog 3 #[v1, v2, v3, .agg (x.cells u s), .int .i64 ly, .agg (z.cells u2 s2)] w fun e w' => e = .returned (.bool true) ∧ Below w.heap.size w w' := by
  have HE := fun w' (h : Below w.heap.size w w') => hid (he.below h)
  have HM := fun w' (h : Below w.heap.size w w') => hid (Below.keeps h _ _ hm)
  have HAW := fun w' (h : Below w.heap.size w w') => hid (awake45_any m w' (HE w' h).out (HM w' h).out)
  have HOF := fun w' (x' : En) u' s' (h : Below w.heap.size w w') (hE : RdE w' u' s' x') (hz : SzE x') (hw : Sz16 ws ∧ ws.length ≤ 13) => hid (pOf_any ls la ws x' v1 v2 v3 u' s' w' (HE w' h).out (h1.below h) (h2.below h) (h3.below h) hE hw.1 hz hw.2)
  have HRV := fun w' (n : Nt) u' s' (ly : Int) (h : Below w.heap.size w w') (hN : RdN w' u' s' n) (hz : SzN n) (hw : Sz16 ws ∧ ws.length ≤ 13) => hid (pres_any ls la ws ly n v1 v2 v3 u' s' w' (HE w' h).out (h1.below h) (h2.below h) (h3.below h) hN hw.1 hz hw.2)
  have HOR := fun w' (x' : En) u' s' (h : Below w.heap.size w w') (hE : RdE w' u' s' x') (hz : SzE x') (hw : Sz16 ws ∧ ws.length ≤ 13) => hid (rOf_any ls la ws x' v1 v2 v3 u' s' w' (HE w' h).out (h1.below h) (h2.below h) (h3.below h) hE hw.1 hz hw.2)
  have HRR := fun w' (n : Nt) u' s' (ly : Int) (h : Below w.heap.size w w') (hN : RdN w' u' s' n) (hz : SzN n) (hs : NtSm n) (hll : ls.length ≤ 65536) (hw : Sz16 ws ∧ ws.length ≤ 13) => hid (rRes_any ls la ws ly n v1 v2 v3 u' s' w' (HE w' h).out (h1.below h) (h2.below h) (h3.below h) hN hw.1 hz hll hw.2 (by have := hs.sup.1; omega) (by have := hs.vl; omega) (fun v hv => ⟨by have := (hs.vs v hv).1.1; omega, by have := (hs.vs v hv).2.1; omega⟩))
  obtain ⟨b1, d1, rfl, _, _, _⟩ := h1.open
  obtain ⟨b2, d2, rfl, _, _, _⟩ := h2.open
  obtain ⟨b3, d3, rfl, _, _, _⟩ := h3.open
  obtain ⟨au, cu, rfl, _, _, _⟩ := hr.rs.open
  obtain ⟨av, cv, rfl, _, _, _⟩ := hr.rv.open
  obtain ⟨ap, cp, rfl, _, _, _⟩ := hr2.rs.open
  obtain ⟨aq, cq, rfl, _, _, _⟩ := hr2.rv.open
  generalize x.sup.length = nu at *
  generalize x.vs.length = nv at *
  generalize z.sup.length = np at *
  generalize z.vs.length = nq at *
  have hb0 := below_tr (below_al w (.cells (x.cells (.slice au nu cu) (.slice av nv cv)) 26)) (below_al _ (.cells (z.cells (.slice ap np cp) (.slice aq nq cq)) 30))
  have HB0 := hid hb0
  have HE0 := hid ((row_nw w (x.cells (.slice au nu cu) (.slice av nv cv)) 26 rfl).al (.cells (z.cells (.slice ap np cp) (.slice aq nq cq)) 30))
  have hn0 := row_nw (w.alloc (.cells (x.cells (.slice au nu cu) (.slice av nv cv)) 26)) (z.cells (.slice ap np cp) (.slice aq nq cq)) 30 rfl
  rw [show (w.alloc (.cells (x.cells (.slice au nu cu) (.slice av nv cv)) 26)).heap.size = w.heap.size + 1 by simp] at hn0
  have HN0 := hid hn0
  have HRE := fun w' (h : Below w.heap.size w w') => hid (hr.below h)
  have HRN := fun w' (h : Below w.heap.size w w') => hid (hr2.below h)
  have HG1 := hid (greatw_any _ ws 10 _ (h3.below hb0) hz3)
  have HG2 := hid (greatE_any x _ _ _ (hr.below hb0) hz)
  have HGN := fun w' (h : Below w.heap.size w w') => hid (greatN_any z _ _ w' (HRN w' h).out hz2)
  clear he hm h1 h2 h3 hz3 hr hz hr2 hz2 hb0 hn0
  unfold Nt.cells at *
  unfold En.cells at *
  go_enter Tryz.func3, Tryz.ntmps3
  go_upto_region 1 with fail
  generalize (w.alloc (.cells #[.int .i64 x.ly, .int .i64 x.fr, .int .i64 x.to_, .bool x.pos, .slice au nu cu, .slice av nv cv] 26)).alloc (.cells #[.int .i64 z.fr, .int .i64 z.to_, .int .i64 z.pl, .string z.lf, .string z.ll, .int .i64 z.ln, .bool z.pos, .slice ap np cp, .slice aq nq cq] 30) = W0 at *
  obtain ⟨bn, hbn⟩ : ∃ b, b = w.heap.size + 1 := ⟨_, rfl⟩
  rw [← hbn] at HN0 ⊢
  obtain ⟨be, hbe⟩ : ∃ b, b = w.heap.size := ⟨_, rfl⟩
  rw [← hbe] at HE0 ⊢
  clear hbn hbe
  by_cases k1 : 12 < ls.length
  · have k1i : (12 : Int) < (ls.length : Int) := by omega
    clear HRE HOF HOR HRV HRR
    go_wp2_with fail
    (with_reducible refine (HAW _ HB0.out).out.mono ?_)
    rintro e wa ⟨rfl, hBa⟩
    go_wp2
    go_ret
    exact ⟨rfl, below_tr HB0.out hBa⟩
  · have k1i : ¬ (12 : Int) < (ls.length : Int) := by omega
    by_cases k2 : 12 < la.length
    · have k2i : (12 : Int) < (la.length : Int) := by omega
      clear HRE HOF HOR HRV HRR
      go_wp2_with fail
      (with_reducible refine (HAW _ HB0.out).out.mono ?_)
      rintro e wa ⟨rfl, hBa⟩
      go_wp2
      go_ret
      exact ⟨rfl, below_tr HB0.out hBa⟩
    · have k2i : ¬ (12 : Int) < (la.length : Int) := by omega
      cases k3 : gwB ws 10 with
      | true =>
        rw [k3] at HG1
        clear HRE HOF HOR HRV HRR k3
        go_wp2_with fail
        (with_reducible refine HG1.out.mono ?_)
        rintro e w1 ⟨rfl, rfl⟩
        go_wp2_with fail
        (with_reducible refine (HAW _ HB0.out).out.mono ?_)
        rintro e wa ⟨rfl, hBa⟩
        go_wp2
        go_ret
        exact ⟨rfl, below_tr HB0.out hBa⟩
      | false =>
        have HGW := hid (gw_ok k3)
        rw [k3] at HG1
        clear k3
        cases k4 : grB x.sup x.vs with
        | true =>
          rw [k4] at HG2
          clear HRE HOF HOR HRV HRR k4
          have c0 := HE0.out.cell 0 (x := .int .i64 x.ly) rfl
          have c1 := HE0.out.cell 1 (x := .int .i64 x.fr) rfl
          have c2 := HE0.out.cell 2 (x := .int .i64 x.to_) rfl
          have c3 := HE0.out.cell 3 (x := .bool x.pos) rfl
          have c4 := HE0.out.cell 4 (x := .slice au nu cu) rfl
          have c5 := HE0.out.cell 5 (x := .slice av nv cv) rfl
          go_wp2_with fail
          (with_reducible refine HG1.out.mono ?_)
          rintro e w1 ⟨rfl, rfl⟩
          go_wp2_with fail
          (with_reducible refine HG2.out.mono ?_)
          rintro e w2 ⟨rfl, hB⟩
          have HB2 := hid (below_tr HB0.out hB)
          clear hB
          go_wp2_with fail
          (with_reducible refine (HAW _ HB2.out).out.mono ?_)
          rintro e wa ⟨rfl, hBa⟩
          go_wp2
          go_ret
          exact ⟨rfl, below_tr HB2.out hBa⟩
        | false =>
          have HEZ := hid (en_sz2 k4)
          rw [k4] at HG2
          clear k4
          cases k5 : gnB z with
          | true =>
            rw [k5] at HGN
            clear HRE HOF HOR HRV HRR k5
            have c0 := HE0.out.cell 0 (x := .int .i64 x.ly) rfl
            have c1 := HE0.out.cell 1 (x := .int .i64 x.fr) rfl
            have c2 := HE0.out.cell 2 (x := .int .i64 x.to_) rfl
            have c3 := HE0.out.cell 3 (x := .bool x.pos) rfl
            have c4 := HE0.out.cell 4 (x := .slice au nu cu) rfl
            have c5 := HE0.out.cell 5 (x := .slice av nv cv) rfl
            go_wp2_with fail
            (with_reducible refine HG1.out.mono ?_)
            rintro e w1 ⟨rfl, rfl⟩
            go_wp2_with fail
            (with_reducible refine HG2.out.mono ?_)
            rintro e w2 ⟨rfl, hB⟩
            have HB2 := hid (below_tr HB0.out hB)
            have HE2 := hid (HE0.out.below hB)
            have HN2 := hid (HN0.out.below hB)
            clear hB
            clear c0 c1 c2 c3 c4 c5
            have HG3 := HGN w2 HB2.out
            have d0 := HN2.out.cell 0 (x := .int .i64 z.fr) rfl
            have d1 := HN2.out.cell 1 (x := .int .i64 z.to_) rfl
            have d2 := HN2.out.cell 2 (x := .int .i64 z.pl) rfl
            have d3 := HN2.out.cell 3 (x := .string z.lf) rfl
            have d4 := HN2.out.cell 4 (x := .string z.ll) rfl
            have d5 := HN2.out.cell 5 (x := .int .i64 z.ln) rfl
            have d6 := HN2.out.cell 6 (x := .bool z.pos) rfl
            have d7 := HN2.out.cell 7 (x := .slice ap np cp) rfl
            have d8 := HN2.out.cell 8 (x := .slice aq nq cq) rfl
            go_wp2_with fail
            (with_reducible refine HG3.out.mono ?_)
            rintro e w3 ⟨rfl, hB⟩
            have HB3 := hid (below_tr HB2.out hB)
            clear hB
            go_wp2_with fail
            (with_reducible refine (HAW _ HB3.out).out.mono ?_)
            rintro e wa ⟨rfl, hBa⟩
            go_wp2
            go_ret
            exact ⟨rfl, below_tr HB3.out hBa⟩
          | false =>
            have HSM := hid (nt_small k5)
            rw [k5] at HGN
            clear k5
            have c0 := HE0.out.cell 0 (x := .int .i64 x.ly) rfl
            have c1 := HE0.out.cell 1 (x := .int .i64 x.fr) rfl
            have c2 := HE0.out.cell 2 (x := .int .i64 x.to_) rfl
            have c3 := HE0.out.cell 3 (x := .bool x.pos) rfl
            have c4 := HE0.out.cell 4 (x := .slice au nu cu) rfl
            have c5 := HE0.out.cell 5 (x := .slice av nv cv) rfl
            go_wp2_with fail
            (with_reducible refine HG1.out.mono ?_)
            rintro e w1 ⟨rfl, rfl⟩
            go_wp2_with fail
            (with_reducible refine HG2.out.mono ?_)
            rintro e w2 ⟨rfl, hB⟩
            have HB2 := hid (below_tr HB0.out hB)
            have HE2 := hid (HE0.out.below hB)
            have HN2 := hid (HN0.out.below hB)
            clear hB
            clear c0 c1 c2 c3 c4 c5
            have HG3 := HGN w2 HB2.out
            have d0 := HN2.out.cell 0 (x := .int .i64 z.fr) rfl
            have d1 := HN2.out.cell 1 (x := .int .i64 z.to_) rfl
            have d2 := HN2.out.cell 2 (x := .int .i64 z.pl) rfl
            have d3 := HN2.out.cell 3 (x := .string z.lf) rfl
            have d4 := HN2.out.cell 4 (x := .string z.ll) rfl
            have d5 := HN2.out.cell 5 (x := .int .i64 z.ln) rfl
            have d6 := HN2.out.cell 6 (x := .bool z.pos) rfl
            have d7 := HN2.out.cell 7 (x := .slice ap np cp) rfl
            have d8 := HN2.out.cell 8 (x := .slice aq nq cq) rfl
            go_wp2_with fail
            (with_reducible refine HG3.out.mono ?_)
            rintro e w3 ⟨rfl, hB⟩
            have HB3 := hid (below_tr HB2.out hB)
            have HE3 := hid (HE2.out.below hB)
            have HN3 := hid (HN2.out.below hB)
            clear hB
            clear d0 d1 d2 d3 d4 d5 d6 d7 d8
            have HWZ : Hid (Sz16 ws ∧ ws.length ≤ 13) := ⟨fun y hy => by have := HGW.out.2 y hy; omega, by have := HGW.out.1; omega⟩
            have HSZ := hid (nt_sz2 HSM.out)
            have HLL : Hid (ls.length ≤ 65536) := by show _ ≤ _; omega
            have HP1 := fun w' (h : Below w.heap.size w w') => HOF w' x _ _ h (HRE w' h).out HEZ.out HWZ.out
            have HP2 := fun w' (h : Below w.heap.size w w') => HOR w' x _ _ h (HRE w' h).out HEZ.out HWZ.out
            have HP3 := fun w' (h : Below w.heap.size w w') => HRV w' z _ _ ly h (HRN w' h).out HSZ.out HWZ.out
            have HP4 := fun w' (h : Below w.heap.size w w') => HRR w' z _ _ ly h (HRN w' h).out HSZ.out HSM.out HLL.out HWZ.out
            clear HG1 HG2 HG3 HGN HOF HOR HRV HRR HRE HRN HSM HEZ HSZ HGW HLL
            generalize ofAI ls la ws x = oi at *
            generalize ofAN ls la ws x = y at *
            generalize rsI ls la ws ly z = ri at *
            generalize rsN ls la ws ly z = e2 at *
            have c0 := HE3.out.cell 0 (x := .int .i64 x.ly) rfl
            have c1 := HE3.out.cell 1 (x := .int .i64 x.fr) rfl
            have c2 := HE3.out.cell 2 (x := .int .i64 x.to_) rfl
            have c3 := HE3.out.cell 3 (x := .bool x.pos) rfl
            have c4 := HE3.out.cell 4 (x := .slice au nu cu) rfl
            have c5 := HE3.out.cell 5 (x := .slice av nv cv) rfl
            go_wp2_with fail
            (with_reducible refine (HP1 w3 HB3.out).out.mono ?_)
            rintro e w4 ⟨am, nm, cm, ak, nk, ck, rfl, hN, hB⟩
            have hal := below_al w4 (.cells (y.cells (.slice am nm cm) (.slice ak nk ck)) 30)
            have HB5 := hid (below_tr HB3.out (below_tr hB hal))
            have HE5 := hid ((HE3.out.below hB).below hal)
            have HN5 := hid ((HN3.out.below hB).below hal)
            have HM5 := hid (row_nw w4 (y.cells (.slice am nm cm) (.slice ak nk ck)) 30 rfl)
            have HR5 := hid (hN.below hal)
            unfold Nt.cells at HB5 HE5 HN5 HM5 HR5 ⊢
            clear hal hB hN HP1 HB3 HE3 HN3 HB2 HE2 HN2 k1 k1i k2 k2i c0 c1 c2 c3 c4 c5
            go_upto_region 4 with fail
            generalize w4.alloc (.cells #[.int .i64 y.fr, .int .i64 y.to_, .int .i64 y.pl, .string y.lf, .string y.ll, .int .i64 y.ln, .bool y.pos, .slice am nm cm, .slice ak nk ck] 30) = W5 at *
            generalize w4.heap.size = bm at *
            have c0 := HE5.out.cell 0 (x := .int .i64 x.ly) rfl
            have c1 := HE5.out.cell 1 (x := .int .i64 x.fr) rfl
            have c2 := HE5.out.cell 2 (x := .int .i64 x.to_) rfl
            have c3 := HE5.out.cell 3 (x := .bool x.pos) rfl
            have c4 := HE5.out.cell 4 (x := .slice au nu cu) rfl
            have c5 := HE5.out.cell 5 (x := .slice av nv cv) rfl
            go_wp2_with fail
            (with_reducible refine (HP2 W5 HB5.out).out.mono ?_)
            rintro e w6 ⟨ag, ng, cg, ah, nh, ch, rfl, hN, hB⟩
            have hal := below_al w6 (.cells (y.cells (.slice ag ng cg) (.slice ah nh ch)) 30)
            have HB7 := hid (below_tr HB5.out (below_tr hB hal))
            have HN7 := hid ((HN5.out.below hB).below hal)
            have HM7 := hid ((HM5.out.below hB).below hal)
            have HR7 := hid ((HR5.out.below hB).below hal)
            have HQ7 := hid (row_nw w6 (y.cells (.slice ag ng cg) (.slice ah nh ch)) 30 rfl)
            have HS7 := hid (hN.below hal)
            unfold Nt.cells at HB7 HN7 HM7 HQ7 HR7 HS7 ⊢
            clear hal hB hN HP2 HB5 HE5 HN5 HM5 HR5 c0 c1 c2 c3 c4 c5
            go_upto_region 5 with fail
            generalize w6.alloc (.cells #[.int .i64 y.fr, .int .i64 y.to_, .int .i64 y.pl, .string y.lf, .string y.ll, .int .i64 y.ln, .bool y.pos, .slice ag ng cg, .slice ah nh ch] 30) = W7 at *
            generalize w6.heap.size = bg at *
            have d0 := HN7.out.cell 0 (x := .int .i64 z.fr) rfl
            have d1 := HN7.out.cell 1 (x := .int .i64 z.to_) rfl
            have d2 := HN7.out.cell 2 (x := .int .i64 z.pl) rfl
            have d3 := HN7.out.cell 3 (x := .string z.lf) rfl
            have d4 := HN7.out.cell 4 (x := .string z.ll) rfl
            have d5 := HN7.out.cell 5 (x := .int .i64 z.ln) rfl
            have d6 := HN7.out.cell 6 (x := .bool z.pos) rfl
            have d7 := HN7.out.cell 7 (x := .slice ap np cp) rfl
            have d8 := HN7.out.cell 8 (x := .slice aq nq cq) rfl
            go_wp2_with fail
            (with_reducible refine (HP3 W7 HB7.out).out.mono ?_)
            rintro e w8 ⟨ai, ni, ci, aj, nj, cj, rfl, hN, hB⟩
            have hal := below_al w8 (.cells (e2.cells (.slice ai ni ci) (.slice aj nj cj)) 26)
            have HB9 := hid (below_tr HB7.out (below_tr hB hal))
            have HN9 := hid ((HN7.out.below hB).below hal)
            have HM9 := hid ((HM7.out.below hB).below hal)
            have HR9 := hid ((HR7.out.below hB).below hal)
            have HQ9 := hid ((HQ7.out.below hB).below hal)
            have HS9 := hid ((HS7.out.below hB).below hal)
            have HX9 := hid (row_nw w8 (e2.cells (.slice ai ni ci) (.slice aj nj cj)) 26 rfl)
            have HT9 := hid (hN.below hal)
            unfold En.cells at HB9 HN9 HM9 HQ9 HR9 HS9 HX9 HT9 ⊢
            clear hal hB hN HP3 HB7 HN7 HM7 HR7 HQ7 HS7 d0 d1 d2 d3 d4 d5 d6 d7 d8
            go_upto_region 6 with fail
            generalize w8.alloc (.cells #[.int .i64 e2.ly, .int .i64 e2.fr, .int .i64 e2.to_, .bool e2.pos, .slice ai ni ci, .slice aj nj cj] 26) = W9 at *
            generalize w8.heap.size = bi at *
            have d0 := HN9.out.cell 0 (x := .int .i64 z.fr) rfl
            have d1 := HN9.out.cell 1 (x := .int .i64 z.to_) rfl
            have d2 := HN9.out.cell 2 (x := .int .i64 z.pl) rfl
            have d3 := HN9.out.cell 3 (x := .string z.lf) rfl
            have d4 := HN9.out.cell 4 (x := .string z.ll) rfl
            have d5 := HN9.out.cell 5 (x := .int .i64 z.ln) rfl
            have d6 := HN9.out.cell 6 (x := .bool z.pos) rfl
            have d7 := HN9.out.cell 7 (x := .slice ap np cp) rfl
            have d8 := HN9.out.cell 8 (x := .slice aq nq cq) rfl
            go_wp2_with fail
            (with_reducible refine (HP4 W9 HB9.out).out.mono ?_)
            rintro e w10 ⟨ap2, np2, cp2, aq2, nq2, cq2, rfl, hN, hB⟩
            have hal := below_al w10 (.cells (e2.cells (.slice ap2 np2 cp2) (.slice aq2 nq2 cq2)) 26)
            have HB11 := hid (below_tr HB9.out (below_tr hB hal))
            have HM11 := hid ((HM9.out.below hB).below hal)
            have HR11 := hid ((HR9.out.below hB).below hal)
            have HQ11 := hid ((HQ9.out.below hB).below hal)
            have HS11 := hid ((HS9.out.below hB).below hal)
            have HX11 := hid ((HX9.out.below hB).below hal)
            have HT11 := hid ((HT9.out.below hB).below hal)
            have HY11 := hid (row_nw w10 (e2.cells (.slice ap2 np2 cp2) (.slice aq2 nq2 cq2)) 26 rfl)
            have HU11 := hid (hN.below hal)
            unfold En.cells at HB11 HM11 HQ11 HR11 HS11 HX11 HT11 HY11 HU11 ⊢
            clear hal hB hN HP4 HB9 HN9 HM9 HR9 HQ9 HS9 HX9 HT9 d0 d1 d2 d3 d4 d5 d6 d7 d8
            go_upto_region 7 with fail
            generalize w10.alloc (.cells #[.int .i64 e2.ly, .int .i64 e2.fr, .int .i64 e2.to_, .bool e2.pos, .slice ap2 np2 cp2, .slice aq2 nq2 cq2] 26) = W11 at *
            generalize w10.heap.size = bq at *
            have HSA := hid (rsame45_any y y _ _ _ _ W11 HR11.out HS11.out)
            rw [ntB_iff.2 rfl] at HSA
            unfold Nt.cells at HSA
            have m0 := HM11.out.cell 0 (x := .int .i64 y.fr) rfl
            have m1 := HM11.out.cell 1 (x := .int .i64 y.to_) rfl
            have m2 := HM11.out.cell 2 (x := .int .i64 y.pl) rfl
            have m3 := HM11.out.cell 3 (x := .string y.lf) rfl
            have m4 := HM11.out.cell 4 (x := .string y.ll) rfl
            have m5 := HM11.out.cell 5 (x := .int .i64 y.ln) rfl
            have m6 := HM11.out.cell 6 (x := .bool y.pos) rfl
            have m7 := HM11.out.cell 7 (x := .slice am nm cm) rfl
            have m8 := HM11.out.cell 8 (x := .slice ak nk ck) rfl
            have g0 := HQ11.out.cell 0 (x := .int .i64 y.fr) rfl
            have g1 := HQ11.out.cell 1 (x := .int .i64 y.to_) rfl
            have g2 := HQ11.out.cell 2 (x := .int .i64 y.pl) rfl
            have g3 := HQ11.out.cell 3 (x := .string y.lf) rfl
            have g4 := HQ11.out.cell 4 (x := .string y.ll) rfl
            have g5 := HQ11.out.cell 5 (x := .int .i64 y.ln) rfl
            have g6 := HQ11.out.cell 6 (x := .bool y.pos) rfl
            have g7 := HQ11.out.cell 7 (x := .slice ag ng cg) rfl
            have g8 := HQ11.out.cell 8 (x := .slice ah nh ch) rfl
            go_wp2_with fail
            (with_reducible refine HSA.out.mono ?_)
            rintro e w12 ⟨rfl, hB⟩
            have HB13 := hid (below_tr HB11.out hB)
            have HX13 := hid (HX11.out.below hB)
            have HY13 := hid (HY11.out.below hB)
            have HSE := hid (rsameE_any e2 e2 _ _ _ _ w12 (HT11.out.below hB) (HU11.out.below hB))
            rw [enB_iff.2 rfl] at HSE
            unfold En.cells at HSE
            clear hB HSA HB11 HM11 HR11 HQ11 HS11 HX11 HT11 HY11 HU11 m0 m1 m2 m3 m4 m5 m6 m7 m8 g0 g1 g2 g3 g4 g5 g6 g7 g8
            have x0 := HX13.out.cell 0 (x := .int .i64 e2.ly) rfl
            have x1 := HX13.out.cell 1 (x := .int .i64 e2.fr) rfl
            have x2 := HX13.out.cell 2 (x := .int .i64 e2.to_) rfl
            have x3 := HX13.out.cell 3 (x := .bool e2.pos) rfl
            have x4 := HX13.out.cell 4 (x := .slice ai ni ci) rfl
            have x5 := HX13.out.cell 5 (x := .slice aj nj cj) rfl
            have y0 := HY13.out.cell 0 (x := .int .i64 e2.ly) rfl
            have y1 := HY13.out.cell 1 (x := .int .i64 e2.fr) rfl
            have y2 := HY13.out.cell 2 (x := .int .i64 e2.to_) rfl
            have y3 := HY13.out.cell 3 (x := .bool e2.pos) rfl
            have y4 := HY13.out.cell 4 (x := .slice ap2 np2 cp2) rfl
            have y5 := HY13.out.cell 5 (x := .slice aq2 nq2 cq2) rfl
            go_wp2_with fail
            (with_reducible refine HSE.out.mono ?_)
            rintro e w14 ⟨rfl, hB⟩
            have HB14 := hid (below_tr HB13.out hB)
            clear hB HSE HX13 HY13 HB13 x0 x1 x2 x3 x4 x5 y0 y1 y2 y3 y4 y5
            go_wp2_with fail
            (with_reducible refine (HAW _ HB14.out).out.mono ?_)
            rintro e wa ⟨rfl, hBa⟩
            go_wp2
            go_ret
            exact ⟨rfl, below_tr HB14.out hBa⟩
end Go.Proofs.YtjhdeoniafahbaaGreatDoor
