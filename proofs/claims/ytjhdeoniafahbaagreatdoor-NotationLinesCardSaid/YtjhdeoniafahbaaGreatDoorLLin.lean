/-
  P45.5: NotationLines.
-/
import Derived.Test.YtjhdeoniafahbaaGreatDoorLRes
namespace Go.Proofs.YtjhdeoniafahbaaGreatDoor
open Go.RowKit

/-- What stays in region 16. -/
structure LnS (bl bm : Nat) (lc nc : Array Value) (w W : World) : Prop where
  bel : Below w.heap.size w W
  li : Row W bl lc 22
  nt : Row W bm nc 30
theorem LnS.below {bl bm : Nat} {lc nc : Array Value} {w W W' : World} (h : LnS bl bm lc nc w W) (hb : Below W.heap.size W W') : LnS bl bm lc nc w W' := ⟨below_tr h.bel hb, h.li.below hb, h.nt.below hb⟩
theorem LnS.drew {bl bm : Nat} {lc nc : Array Value} {w W : World} (h : LnS bl bm lc nc w W) : LnS bl bm lc nc w W.drew := h.below (Below.refl _ _).drew
theorem LnS.drewN {bl bm : Nat} {lc nc : Array Value} {w W : World} (h : LnS bl bm lc nc w W) (n : Nat) : LnS bl bm lc nc w (W.drewN n) := h.below (below_drewN (Below.refl _ _) n)
set_option maxHeartbeats 1000000 in
theorem lin1_any (n k : Nat) (c fr to_ : Int) (B1 B2 b off d : Nat) (pl : Int) (lf ll : ByteArray) (ln : Int) (pos : Bool) (a1 : Option Addr) (n1 c1 : Nat) (a2 : Option Addr) (n2 c2 : Nat) (w : World) (h1 : Row w B1 #[.slice (some ⟨b, off, none⟩) n d] 22)
    (h2 : Row w B2 #[.int .i64 fr, .int .i64 to_, .int .i64 pl, .string lf, .string ll, .int .i64 ln, .bool pos, .slice a1 n1 c1, .slice a2 n2 c2] 30) (hc : w.cell? ⟨b, off + k, none⟩ = some (.int .i64 c)) (hk : k < n) (q1 : fr ≤ c) (q2 : c ≤ to_) :
    Calls Tryz.prog 24 #[.int .i64 k, .pointer (some ⟨B1, 0, none⟩), .pointer (some ⟨B2, 0, none⟩)] w fun e w' => e = .returned (.bool true) ∧ ∃ m, w' = w.drewN m := by
  have c0 := h1.cell 0 (x := .slice (some ⟨b, off, none⟩) n d) rfl
  have d0 := h2.cell 0 (x := .int .i64 fr) rfl
  have d1 := h2.cell 1 (x := .int .i64 to_) rfl
  have u1 : (0 : Int) ≤ (k : Int) := by omega
  have u2 : (k : Int) < (n : Int) := by omega
  clear h1 h2
  go_enter Tryz.func24, Tryz.ntmps24
  go_wp2_with fail
  go_quiet (fail)
  go_wp2_with fail
  go_ret
  exact ⟨rfl, _, rfl⟩
set_option maxRecDepth 100000 in
set_option maxHeartbeats 8000000 in
theorem llin_any (v1 v2 v3 : Value) (ls la : List Int) (ws : List ByteArray) (x : En) (u s : Value) (m : Int) (w : World) (he : Env w) (hm : w.cell? ⟨0, 0, none⟩ = some (.int .i64 m))
    (h1 : RdI w v1 ls) (h2 : RdI w v2 la) (h3 : RdS w v3 ws) (hz3 : Szs ws) (hr : RdE w u s x) (hz : SzE0 x) :
    Calls Tryz.prog 6 #[v1, v2, v3, .agg (x.cells u s)] w fun e w' => e = .returned (.bool true) ∧ Below w.heap.size w w' := by
  have HE := fun w' (h : Below w.heap.size w w') => hid (he.below h)
  have HM := fun w' (h : Below w.heap.size w w') => hid (Below.keeps h _ _ hm)
  have HAW := fun w' (h : Below w.heap.size w w') => hid (awake45_any m w' (HE w' h).out (HM w' h).out)
  have HOF := fun w' (x' : En) u' s' (h : Below w.heap.size w w') (hE : RdE w' u' s' x') (hz : SzE x') (hw : Sz16 ws ∧ ws.length ≤ 13) => hid (pOf_any ls la ws x' v1 v2 v3 u' s' w' (HE w' h).out (h1.below h) (h2.below h) (h3.below h) hE hw.1 hz hw.2)
  obtain ⟨b1, d1, rfl, _, _, hC1⟩ := h1.open
  obtain ⟨b2, d2, rfl, _, _, hC2⟩ := h2.open
  obtain ⟨b3, d3, rfl, _, _, hC3⟩ := h3.open
  have HC1 := hid hC1
  have HC2 := hid hC2
  have HC3 := hid hC3
  obtain ⟨au, cu, rfl, _, _, _⟩ := hr.rs.open
  obtain ⟨av, cv, rfl, _, _, _⟩ := hr.rv.open
  generalize x.sup.length = nu at *
  generalize x.vs.length = nv at *
  have hb0 := below_tr (below_al w (.cells #[.slice b1 ls.length d1] 22)) (below_al _ (.cells (x.cells (.slice au nu cu) (.slice av nv cv)) 26))
  have HB0 := hid hb0
  have HL0 := hid ((row_nw w #[.slice b1 ls.length d1] 22 rfl).al (.cells (x.cells (.slice au nu cu) (.slice av nv cv)) 26))
  have hn0 := row_nw (w.alloc (.cells #[.slice b1 ls.length d1] 22)) (x.cells (.slice au nu cu) (.slice av nv cv)) 26 rfl
  rw [show (w.alloc (.cells #[.slice b1 ls.length d1] 22)).heap.size = w.heap.size + 1 by simp] at hn0
  have HE0 := hid hn0
  have HRE := fun w' (h : Below w.heap.size w w') => hid (hr.below h)
  have HG1 := hid (greatw_any _ ws 10 _ (h3.below hb0) hz3)
  have HG2 := hid (greatE_any x _ _ _ (hr.below hb0) hz)
  clear he hm h1 h2 h3 hz3 hr hz hb0 hn0 hC1 hC2 hC3
  unfold En.cells at *
  go_enter Tryz.func6, Tryz.ntmps6
  go_upto_region 1 with fail
  generalize (w.alloc (.cells #[.slice b1 ls.length d1] 22)).alloc (.cells #[.int .i64 x.ly, .int .i64 x.fr, .int .i64 x.to_, .bool x.pos, .slice au nu cu, .slice av nv cv] 26) = W0 at *
  obtain ⟨be, hbe⟩ : ∃ b, b = w.heap.size + 1 := ⟨_, rfl⟩
  rw [← hbe] at HE0 ⊢
  obtain ⟨bl, hbl⟩ : ∃ b, b = w.heap.size := ⟨_, rfl⟩
  rw [← hbl] at HL0 ⊢
  clear hbe hbl
  have l0 := HL0.out.cell 0 (x := .slice b1 ls.length d1) rfl
  have c0 := HE0.out.cell 0 (x := .int .i64 x.ly) rfl
  have c1 := HE0.out.cell 1 (x := .int .i64 x.fr) rfl
  have c2 := HE0.out.cell 2 (x := .int .i64 x.to_) rfl
  have c3 := HE0.out.cell 3 (x := .bool x.pos) rfl
  have c4 := HE0.out.cell 4 (x := .slice au nu cu) rfl
  have c5 := HE0.out.cell 5 (x := .slice av nv cv) rfl
  by_cases k1 : ¬ (ls.length : Int) = (ws.length : Int)
  · have k1b : ((ls.length : Int) == (ws.length : Int)) = false := beq_eq_false_iff_ne.2 k1
    clear HOF
    go_wp2_with fail
    (with_reducible refine (HAW _ HB0.out).out.mono ?_)
    rintro e wa ⟨rfl, hBa⟩
    go_wp2
    go_ret
    exact ⟨rfl, below_tr HB0.out hBa⟩
  · have k1c : (ls.length : Int) = (ws.length : Int) := Classical.not_not.1 k1
    have k1b : ((ls.length : Int) == (ws.length : Int)) = true := beq_iff_eq.2 k1c
    have HK1 := hid k1c
    clear k1 k1c
    by_cases k2 : ¬ (la.length : Int) = (ws.length : Int)
    · have k2b : ((la.length : Int) == (ws.length : Int)) = false := beq_eq_false_iff_ne.2 k2
      clear HOF
      go_wp2_with fail
      (with_reducible refine (HAW _ HB0.out).out.mono ?_)
      rintro e wa ⟨rfl, hBa⟩
      go_wp2
      go_ret
      exact ⟨rfl, below_tr HB0.out hBa⟩
    · have k2c : (la.length : Int) = (ws.length : Int) := Classical.not_not.1 k2
      have k2b : ((la.length : Int) == (ws.length : Int)) = true := beq_iff_eq.2 k2c
      have HK2 := hid k2c
      clear k2 k2c
      by_cases k3 : x.fr < 0
      · clear HOF
        go_wp2_with fail
        (with_reducible refine (HAW _ HB0.out).out.mono ?_)
        rintro e wa ⟨rfl, hBa⟩
        go_wp2
        go_ret
        exact ⟨rfl, below_tr HB0.out hBa⟩
      · by_cases k4 : x.to_ < x.fr
        · clear HOF
          go_wp2_with fail
          (with_reducible refine (HAW _ HB0.out).out.mono ?_)
          rintro e wa ⟨rfl, hBa⟩
          go_wp2
          go_ret
          exact ⟨rfl, below_tr HB0.out hBa⟩
        · by_cases k5 : (ws.length : Int) < x.to_
          · clear HOF
            go_wp2_with fail
            (with_reducible refine (HAW _ HB0.out).out.mono ?_)
            rintro e wa ⟨rfl, hBa⟩
            go_wp2
            go_ret
            exact ⟨rfl, below_tr HB0.out hBa⟩
          · by_cases k6 : (12 : Int) < (ls.length : Int)
            · clear HOF
              go_wp2_with fail
              (with_reducible refine (HAW _ HB0.out).out.mono ?_)
              rintro e wa ⟨rfl, hBa⟩
              go_wp2
              go_ret
              exact ⟨rfl, below_tr HB0.out hBa⟩
            · by_cases k7 : (12 : Int) < (la.length : Int)
              · exfalso
                have h1 := HK1.out
                have h2 := HK2.out
                omega
              · cases q1 : gwB ws 10 with
                | true =>
                  rw [q1] at HG1
                  clear HOF q1
                  go_wp2_with fail
                  (with_reducible refine HG1.out.mono ?_)
                  rintro e w1 ⟨rfl, rfl⟩
                  go_wp2_with fail
                  (with_reducible refine (HAW _ HB0.out).out.mono ?_)
                  rintro e wa ⟨rfl, hBa⟩
                  go_wp2
                  go_ret
                  exact ⟨rfl, below_tr HB0.out hBa⟩
                | false =>
                  have HGW := hid (gw_ok q1)
                  rw [q1] at HG1
                  clear q1
                  cases q2 : grB x.sup x.vs with
                  | true =>
                    rw [q2] at HG2
                    clear HOF q2
                    go_wp2_with fail
                    (with_reducible refine HG1.out.mono ?_)
                    rintro e w1 ⟨rfl, rfl⟩
                    go_wp2_with fail
                    (with_reducible refine HG2.out.mono ?_)
                    rintro e w2 ⟨rfl, hB⟩
                    have HB2 := hid (below_tr HB0.out hB)
                    clear hB
                    go_wp2_with fail
                    (with_reducible refine (HAW _ HB2.out).out.mono ?_)
                    rintro e wa ⟨rfl, hBa⟩
                    go_wp2
                    go_ret
                    exact ⟨rfl, below_tr HB2.out hBa⟩
                  | false =>
                    have HEZ := hid (en_sz q2)
                    rw [q2] at HG2
                    clear q2
                    go_wp2_with fail
                    (with_reducible refine HG1.out.mono ?_)
                    rintro e w1 ⟨rfl, rfl⟩
                    go_wp2_with fail
                    (with_reducible refine HG2.out.mono ?_)
                    rintro e w2 ⟨rfl, hB⟩
                    have HB2 := hid (below_tr HB0.out hB)
                    have HL2 := hid (HL0.out.below hB)
                    have HE2 := hid (HE0.out.below hB)
                    clear hB
                    have HWZ : Hid (Sz16 ws ∧ ws.length ≤ 13) := ⟨fun y hy => by have := HGW.out.2 y hy; omega, by have := HGW.out.1; omega⟩
                    have HO3 := HOF w2 x _ _ HB2.out (HRE w2 HB2.out).out HEZ.out HWZ.out
                    have HLP := fun h => hid (lines_plain (ls := ls) (la := la) (ws := ws) (x := x) HWZ.out.2 h)
                    have HWN := fun (f t : Nat) (h : listsI ls la ws.length = 0) h1 h2 => hid (win (ls := ls) (la := la) (ws := ws) h (f := f) (t := t) h1 h2)
                    have HOL := fun (f t : Nat) (h : listsI ls la ws.length = 0) h1 h2 h3 => hid (ofLm_ok (ls := ls) (la := la) (ws := ws) h HWZ.out.2 (f := f) (t := t) h1 h2 h3)
                    have HLL : Hid (listsI ls la ws.length = 0 → ls.length = ws.length ∧ la.length = ws.length) := fun h => ⟨(lists_len h).1, (lists_len h).2.1⟩
                    have c0 := HE2.out.cell 0 (x := .int .i64 x.ly) rfl
                    have c1 := HE2.out.cell 1 (x := .int .i64 x.fr) rfl
                    have c2 := HE2.out.cell 2 (x := .int .i64 x.to_) rfl
                    have c3 := HE2.out.cell 3 (x := .bool x.pos) rfl
                    have c4 := HE2.out.cell 4 (x := .slice au nu cu) rfl
                    have c5 := HE2.out.cell 5 (x := .slice av nv cv) rfl
                    have l0 := HL2.out.cell 0 (x := .slice b1 ls.length d1) rfl
                    go_wp2_with fail
                    (with_reducible refine HO3.out.mono ?_)
                    rintro e w4 ⟨am, nm, cm, ak, nk, ck, rfl, hN, hB⟩
                    obtain ⟨y, hy⟩ : ∃ y, y = ofAN ls la ws x := ⟨_, rfl⟩
                    rw [← hy] at hN ⊢
                    have hal := below_al w4 (.cells (y.cells (.slice am nm cm) (.slice ak nk ck)) 30)
                    have HB5 := hid (below_tr HB2.out (below_tr hB hal))
                    have HL5 := hid ((HL2.out.below hB).below hal)
                    have HE5 := hid ((HE2.out.below hB).below hal)
                    have HM5 := hid (row_nw w4 (y.cells (.slice am nm cm) (.slice ak nk ck)) 30 rfl)
                    have HY := hid hy
                    clear hy
                    unfold Nt.cells at HB5 HL5 HE5 HM5 ⊢
                    clear hal hB hN HO3 HB2 HE2 HL2 HB0 HE0 HL0 HG1 HG2 c0 c1 c2 c3 c4 c5 l0 HEZ HGW k3 k4 k5 k6 k7 k1b k2b
                    by_cases hE : ofAI ls la ws x = 0
                    · have HLq := HLP hE
                      have hpb : (ofAI ls la ws x != 0) = false := by rw [hE]; rfl
                      go_upto_if 74 with fail
                      generalize w4.alloc (.cells #[.int .i64 y.fr, .int .i64 y.to_, .int .i64 y.pl, .string y.lf, .string y.ll, .int .i64 y.ln, .bool y.pos, .slice am nm cm, .slice ak nk ck] 30) = W5 at *
                      generalize w4.heap.size = bm at *
                      clear hE HLP
                      obtain ⟨hE2, hAN, hc⟩ := HLq.out
                      have HAN : Hid (y = ofN ls la ws x) := by show _ = _; rw [HY.out, hAN]
                      clear HY hAN hE2 HLq
                      rcases hc with ⟨h0, h1, _, _⟩ | ⟨f, t, pl, h0, hpl, hp4, hft, htl, g1, g2, g3, g4, g5, g6, g7, g8, g9, g10, g11⟩
                      · have hw0 : ((ws.length : Int) == 0) = true := by rw [h0]; rfl
                        have hyy : y = ⟨1, 1, 4, ⟨#[]⟩, ⟨#[]⟩, 0, x.pos, x.sup, x.vs⟩ := by rw [HAN.out, h1]
                        subst hyy
                        clear h0 h1 HAN HWN HOL
                        have m0 := HM5.out.cell 0 (x := .int .i64 1) rfl
                        have m1 := HM5.out.cell 1 (x := .int .i64 1) rfl
                        have m2 := HM5.out.cell 2 (x := .int .i64 4) rfl
                        have m3 := HM5.out.cell 3 (x := .string ⟨#[]⟩) rfl
                        have m4 := HM5.out.cell 4 (x := .string ⟨#[]⟩) rfl
                        have m5 := HM5.out.cell 5 (x := .int .i64 0) rfl
                        go_wp2_with fail
                        (with_reducible refine (HAW _ HB5.out).out.mono ?_)
                        rintro e wa ⟨rfl, hBa⟩
                        go_wp2
                        go_ret
                        exact ⟨rfl, below_tr HB5.out hBa⟩
                      · have hw0 : ((ws.length : Int) == 0) = false := beq_eq_false_iff_ne.2 (by omega)
                        have HLn := HLL.out g11
                        have HW := HWN f t g11 hft htl
                        have HO := HOL f t g11 hft htl g7
                        rw [← HAN.out] at g1 g2 g3 g4 g5
                        have HG := hid (And.intro g1 (And.intro g2 (And.intro g3 (And.intro g4 g5))))
                        have HP := hid hpl
                        have HP4 := hid hp4
                        have HFT := hid (And.intro hft htl)
                        have HLN := hid HLn
                        clear hpl hp4 g1 g2 g3 g4 g5 g6 g7 g8 g9 g10 g11 HWN HOL HAN h0 HLL HLn hft htl
                        have e1 := HE5.out.cell 1 (x := .int .i64 x.fr) rfl
                        have e2 := HE5.out.cell 2 (x := .int .i64 x.to_) rfl
                        go_upto_region 8 with fail
                        go_quiet (fail)
                        have hd := below_drewN (Below.refl W5.heap.size W5) nq
                        have HB6 := hid (below_tr HB5.out hd)
                        have HL6 := hid (HL5.out.below hd)
                        have HE6 := hid (HE5.out.below hd)
                        have HM6 := hid (HM5.out.below hd)
                        clear hd HB5 HL5 HE5 HM5 e1 e2 hpb hw0
                        generalize W5.drewN nq = W6 at *
                        go_upto_block 0 with fail
                        go_cut [11, 12, 13] from 105 to 113 (fun fv tv pv wx => fv = .int .i64 (f : Int) ∧ tv = .int .i64 (t : Int) ∧ pv = .int .i64 pl ∧ Hid (W6 = wx))
                        case first =>
                          have hp := HP.out
                          unfold ofPl at hp
                          by_cases m1 : x.fr < x.to_
                          · rw [if_pos m1] at hp
                            simp only [Prod.mk.injEq] at hp
                            obtain ⟨p1, p2, p3⟩ := hp
                            have HQ := hid (And.intro p1 (And.intro p2 p3))
                            clear p1 p2 p3
                            go_wp2_with fail
                            go_meet
                            exact ⟨by rw [HQ.out.2.1], by rw [HQ.out.2.2], by rw [← HQ.out.1], rfl⟩
                          · rw [if_neg m1] at hp
                            by_cases m2 : 0 < x.fr
                            · rw [if_pos m2] at hp
                              simp only [Prod.mk.injEq] at hp
                              obtain ⟨p1, p2, p3⟩ := hp
                              have hw : IntKind.i64.wrap (x.fr - 1) = (f : Int) := by have := HFT.out; rw [IntWalk.i64_in _ (by omega)]; omega
                              have HQ := hid (And.intro p1 p3)
                              clear p1 p2 p3
                              go_wp2_with fail
                              go_meet
                              exact ⟨rfl, by rw [HQ.out.2], by rw [← HQ.out.1], rfl⟩
                            · rw [if_neg m2] at hp
                              have h0 : 0 < ws.length := by have := HFT.out; omega
                              rw [if_pos h0] at hp
                              simp only [Prod.mk.injEq] at hp
                              obtain ⟨p1, p2, p3⟩ := hp
                              have HQ := hid (And.intro p1 (And.intro p2 p3))
                              clear p1 p2 p3
                              go_wp2_with fail
                              go_meet
                              exact ⟨by rw [HQ.out.2.1], by rw [← HQ.out.2.2], by rw [← HQ.out.1], rfl⟩
                        case rest =>
                          obtain ⟨rfl, rfl, rfl, HWW⟩ := hcut
                          obtain rfl : W6 = wc := HWW.out
                          have hFT := HFT.out
                          have hLN := HLN.out
                          obtain ⟨tq, htq⟩ : ∃ q : Nat, q = t - 1 := ⟨_, rfl⟩
                          have htq2 : (t : Int) - 1 = ((t - 1 : Nat) : Int) := by omega
                          obtain ⟨a, bb1, o1, ha, ea1, da⟩ := HC1.out f (by omega)
                          obtain ⟨a', bb1', o1', ha', ea1', da'⟩ := HC1.out tq (by omega)
                          subst ea1
                          cases ea1'
                          obtain ⟨c, bb2, o2, hc, ea2, dc⟩ := HC2.out tq (by omega)
                          subst ea2
                          obtain ⟨wf, bb3, o3, hwf, ea3, dwf⟩ := HC3.out f (by omega)
                          obtain ⟨wl, bb3', o3', hwl, ea3', dwl⟩ := HC3.out tq (by omega)
                          subst ea3
                          cases ea3'
                          obtain ⟨g1, g2, g3, g4, g5⟩ := HG.out
                          obtain ⟨_, _, i1, i2, i3, i4, i5, i6, i7⟩ := HW.out
                          have la1 : lnAt ls (f : Int) = a := by unfold lnAt; rw [Int.toNat_natCast, List.getD_eq_getElem?_getD, ha]; rfl
                          have la2 : lnAt ls ((t : Int) - 1) = a' := by unfold lnAt; rw [htq2, ← htq, Int.toNat_natCast, List.getD_eq_getElem?_getD, ha']; rfl
                          have la3 : lnAt la ((t : Int) - 1) = c := by unfold lnAt; rw [htq2, ← htq, Int.toNat_natCast, List.getD_eq_getElem?_getD, hc]; rfl
                          have lw1 : ws.getD f ⟨#[]⟩ = wf := by rw [List.getD_eq_getElem?_getD, hwf]; rfl
                          have lw2 : ws.getD (t - 1) ⟨#[]⟩ = wl := by rw [← htq, List.getD_eq_getElem?_getD, hwl]; rfl
                          rw [la1, la2] at i6
                          rw [la2, la3] at i7
                          rw [la1] at g2
                          rw [la3] at g3
                          rw [lw1] at g4
                          have hwb := HO.out.2.2.1
                          rw [lw2] at hwb
                          have hne : ¬ wl.size = 0 := wordB_ne hwb
                          have HI := hid (And.intro i6 i7)
                          have HM7 : Hid (Row W6 bm #[.int .i64 a, .int .i64 c, .int .i64 pl, .string wf, .string y.ll, .int .i64 y.ln, .bool y.pos, .slice am nm cm, .slice ak nk ck] 30) := by
                            show Row _ _ _ _
                            rw [← g1, ← g2, ← g3, ← g4]; exact HM6.out
                          have G5 := hid g5
                          have e1 := Below.keeps HB6.out _ _ da
                          have e2 := Below.keeps HB6.out _ _ da'
                          have e3 := Below.keeps HB6.out _ _ dc
                          have e4 := Below.keeps HB6.out _ _ dwf
                          have e5 := Below.keeps HB6.out _ _ dwl
                          have HDA := hid da
                          have HDA' := hid da'
                          have HDW := hid dwl
                          have HLT : Hid (lastW ws f t = if t - f = 1 then ⟨#[]⟩ else wl) := by show _ = _; unfold lastW; rw [lw2]
                          have HTQ := hid htq
                          have u1 : (0 : Int) ≤ (f : Int) := by omega
                          have u2 : (f : Int) < (ls.length : Int) := by omega
                          have u3 : (f : Int) < (ws.length : Int) := by omega
                          have u4 : IntKind.i64.wrap ((t : Int) - 1) = (tq : Int) := by rw [IntWalk.i64_in _ (by have := HWZ.out.2; omega)]; omega
                          have u5 : (0 : Int) ≤ (tq : Int) := by omega
                          have u6 : (tq : Int) < (la.length : Int) := by omega
                          have u7 : (tq : Int) < (ws.length : Int) := by omega
                          have u8 : (tq : Int) < (ls.length : Int) := by omega
                          have v1 : f < ls.length := by omega
                          have v2 : f < ws.length := by omega
                          have v3 : tq < la.length := by omega
                          have v4 : tq < ws.length := by omega
                          have v5 : tq < ls.length := by omega
                          have u9 : IntKind.i64.wrap ((t : Int) - (f : Int)) = (t : Int) - (f : Int) := IntWalk.i64_in _ (by have := HWZ.out.2; omega)
                          have HUT : Hid (IntKind.i64.wrap ((t : Int) - (f : Int)) = (t : Int) - (f : Int)) := u9
                          clear u9 htq htq2 ha ha' hc hwf hwl g1 g2 g3 g4 g5 i1 i2 i3 i4 i5 i6 i7 la1 la2 la3 lw1 lw2 da da' dc dwf dwl hwb HG HW HO HWW HM6 HP hFT hLN HP4 HC1 HC2 HC3 HK1 HK2
                          by_cases hcase : t - f = 1
                          · have hll : y.ll = ⟨#[]⟩ := by rw [G5.out, HLT.out, if_pos hcase]
                            obtain ⟨lz, hlz⟩ : ∃ z : ByteArray, z = ⟨#[]⟩ := ⟨_, rfl⟩
                            have HM8 : Hid (Row W6 bm #[.int .i64 a, .int .i64 c, .int .i64 pl, .string wf, .string lz, .int .i64 y.ln, .bool y.pos, .slice am nm cm, .slice ak nk ck] 30) := by
                              have h := HM7.out
                              rw [hll, ← hlz] at h
                              exact h
                            have u11 : lz.toList = [] := by rw [hlz]; decide +kernel
                            have u12 : lz.toList.isEmpty = true := by rw [u11]; rfl
                            clear hlz
                            have u9 : IntKind.i64.wrap ((t : Int) - (f : Int)) = 1 := by rw [HUT.out]; omega
                            clear hll hcase
                            clear hne G5 HLT HM7 HUT HFT HLN
                            have m0 := HM8.out.cell 0 (x := .int .i64 a) rfl
                            have m1 := HM8.out.cell 1 (x := .int .i64 c) rfl
                            have m2 := HM8.out.cell 2 (x := .int .i64 pl) rfl
                            have m3 := HM8.out.cell 3 (x := .string wf) rfl
                            have m4 := HM8.out.cell 4 (x := .string lz) rfl
                            have l0 := HL6.out.cell 0 (x := .slice (some ⟨bb1, o1, none⟩) ls.length d1) rfl
                            go_wp2_with fail
                            go_quiet (fail)
                            have hd := below_drewN (Below.refl W6.heap.size W6) nq
                            have HB7 := hid (below_tr HB6.out hd)
                            have HL7 := hid (HL6.out.below hd)
                            have HM9 := hid (HM8.out.below hd)
                            have p4 := HM9.out.cell 4 (x := .string lz) rfl
                            have p5 := Below.keeps HB7.out _ _ HDW.out
                            have HS7 : Hid (LnS bl bm #[.slice (some ⟨bb1, o1, none⟩) ls.length d1] #[.int .i64 a, .int .i64 c, .int .i64 pl, .string wf, .string lz, .int .i64 y.ln, .bool y.pos, .slice am nm cm, .slice ak nk ck] w (W6.drewN nq)) := ⟨HB7.out, HL7.out, HM9.out⟩
                            have HIF := fun w' (h : LnS bl bm #[.slice (some ⟨bb1, o1, none⟩) ls.length d1] #[.int .i64 a, .int .i64 c, .int .i64 pl, .string wf, .string lz, .int .i64 y.ln, .bool y.pos, .slice am nm cm, .slice ak nk ck] w w') => hid (lin1_any ls.length f a a c bl bm bb1 o1 d1 pl wf lz y.ln y.pos am nm cm ak nk ck w' h.li h.nt (Below.keeps h.bel _ _ HDA.out) v1 (Int.le_refl _) (by have := HI.out; omega))
                            have HIT := fun w' (h : LnS bl bm #[.slice (some ⟨bb1, o1, none⟩) ls.length d1] #[.int .i64 a, .int .i64 c, .int .i64 pl, .string wf, .string lz, .int .i64 y.ln, .bool y.pos, .slice am nm cm, .slice ak nk ck] w w') => hid (lin1_any ls.length tq a' a c bl bm bb1 o1 d1 pl wf lz y.ln y.pos am nm cm ak nk ck w' h.li h.nt (Below.keeps h.bel _ _ HDA'.out) v5 HI.out.1 HI.out.2)
                            clear m0 m1 m2 m3 m4 l0 e1 e2 e3 e4 e5 hd HB6 HL6 HM8 HB7 HL7 HM9
                            generalize W6.drewN nq = W7 at *
                            go_wp2_with fail
                            refine wp_region_held_drew (S := (fun w' => w'.cell? ⟨bm, 4, none⟩ = some (.string lz) ∧ w'.cell? ⟨bb3, o3 + tq, none⟩ = some (.string wl) ∧ LnS bl bm #[.slice (some ⟨bb1, o1, none⟩) ls.length d1] #[.int .i64 a, .int .i64 c, .int .i64 pl, .string wf, .string lz, .int .i64 y.ln, .bool y.pos, .slice am nm cm, .slice ak nk ck] w w')) (by kernel_rfl) (by (try dsimp only); (refine ⟨?_, ?_, ?_⟩ <;> first | assumption | (exact HS7.out) | (exact LnS.drew (by assumption)) | (exact HS7.out.drew) | (exact HS7.out.drewN _) | (exact LnS.drewN (by assumption) _) | go_keep)) (fun hHeld => ?_)
                            refine wpAnyH_take (i := 0) (v := ?_) rfl (by kernel_rfl) (by kernel_rfl) (by kernel_rfl) (fun _ _ _ h => h) (Or.inl ⟨by rfl, ?_⟩) (by assumption) ?_
                            rotate_left
                            · intro w hSw
                              (try dsimp only at hSw)
                              go_simp
                              try with_reducible rfl
                            try simp only [Act.put, List.setIfInBounds_toArray, List.set_cons_zero, List.set_cons_succ, List.getElem_toArray, List.getElem_cons_zero]
                            refine wpAnyH_take (i := 1) (v := ?_) rfl (by kernel_rfl) (by kernel_rfl) (by kernel_rfl) (fun _ _ _ h => h) (Or.inl ⟨by rfl, ?_⟩) (by assumption) ?_
                            rotate_left
                            · intro w hSw
                              (try dsimp only at hSw)
                              go_simp
                              try with_reducible rfl
                            try simp only [Act.put, List.setIfInBounds_toArray, List.set_cons_zero, List.set_cons_succ, List.getElem_toArray, List.getElem_cons_zero, List.getElem_cons_succ]
                            refine wpAnyH_ready (rs := [2]) (by kernel_rfl) (by simp) (AllReadyH.cons rfl (fun K hK => ?_) AllReadyH.nil)
                            go_simp
                            (go_at_call 24; go_split_ands; (first | (with_reducible refine (HIF _ (by assumption)).out.mono ?_) | (with_reducible refine (HIT _ (by assumption)).out.mono ?_)); rintro e w6 ⟨rfl, nz, rfl⟩; have z0 := Below.keeps (below_drewN (Below.refl _ _) nz) _ _ (by assumption : World.cell? _ ⟨bm, 4, none⟩ = some _); have z1 := Below.keeps (below_drewN (Below.refl _ _) nz) _ _ (by assumption : World.cell? _ ⟨bb3, o3 + tq, none⟩ = some _); have z5 := LnS.drewN (by assumption) nz)
                            first | (refine hK.out _ _ (by (try dsimp only); (refine ⟨?_, ?_, ?_⟩ <;> first | assumption | (exact HS7.out) | (exact LnS.drew (by assumption)) | (exact HS7.out.drew) | (exact HS7.out.drewN _) | (exact LnS.drewN (by assumption) _) | go_keep)) (fun hHeld => ?_)) | (go_wp2_with fail; refine hK.out _ _ (by (try dsimp only); (refine ⟨?_, ?_, ?_⟩ <;> first | assumption | (exact HS7.out) | (exact LnS.drew (by assumption)) | (exact HS7.out.drew) | (exact HS7.out.drewN _) | (exact LnS.drewN (by assumption) _) | go_keep)) (fun hHeld => ?_))
                            clear hK K
                            try simp only [Act.put, List.setIfInBounds_toArray, List.set_cons_zero, List.set_cons_succ, List.getElem_toArray, List.getElem_cons_zero, List.getElem_cons_succ]
                            refine wpAnyH_take (i := 3) (v := ?_) rfl (by kernel_rfl) (by kernel_rfl) (by kernel_rfl) (fun _ _ _ h => h) (Or.inl ⟨by rfl, ?_⟩) (by assumption) ?_
                            rotate_left
                            · intro w hSw
                              (try dsimp only at hSw)
                              go_simp
                              try with_reducible rfl
                            try simp only [Act.put, List.setIfInBounds_toArray, List.set_cons_zero, List.set_cons_succ, List.getElem_toArray, List.getElem_cons_zero, List.getElem_cons_succ]
                            refine wpAnyH_take (i := 4) (v := ?_) rfl (by kernel_rfl) (by kernel_rfl) (by kernel_rfl) (fun _ _ _ h => h) (Or.inl ⟨by rfl, ?_⟩) (by assumption) ?_
                            rotate_left
                            · intro w hSw
                              (try dsimp only at hSw)
                              go_simp
                              try with_reducible rfl
                            try simp only [Act.put, List.setIfInBounds_toArray, List.set_cons_zero, List.set_cons_succ, List.getElem_toArray, List.getElem_cons_zero, List.getElem_cons_succ]
                            refine wpAnyH_take (i := 5) (v := ?_) rfl (by kernel_rfl) (by kernel_rfl) (by kernel_rfl) (fun _ _ _ h => h) (Or.inl ⟨by rfl, ?_⟩) (by assumption) ?_
                            rotate_left
                            · intro w hSw
                              (try dsimp only at hSw)
                              go_simp
                              try with_reducible rfl
                            try simp only [Act.put, List.setIfInBounds_toArray, List.set_cons_zero, List.set_cons_succ, List.getElem_toArray, List.getElem_cons_zero, List.getElem_cons_succ]
                            refine wpAnyH_take (i := 6) (v := ?_) rfl (by kernel_rfl) (by kernel_rfl) (by kernel_rfl) (fun _ _ _ h => h) (Or.inl ⟨by rfl, ?_⟩) (by assumption) ?_
                            rotate_left
                            · intro w hSw
                              (try dsimp only at hSw)
                              go_simp
                              try with_reducible rfl
                            try simp only [Act.put, List.setIfInBounds_toArray, List.set_cons_zero, List.set_cons_succ, List.getElem_toArray, List.getElem_cons_zero, List.getElem_cons_succ]
                            refine wpAnyH_ready (rs := [7]) (by kernel_rfl) (by simp) (AllReadyH.cons rfl (fun K hK => ?_) AllReadyH.nil)
                            go_simp
                            (go_at_call 24; go_split_ands; (first | (with_reducible refine (HIT _ (HS7.out.drewN _)).out.mono ?_) | (with_reducible refine (HIT _ ((HS7.out.drewN _).drewN _)).out.mono ?_)); rintro e w6 ⟨rfl, nz2, rfl⟩)
                            first | (refine hK.out _ _ (by (try dsimp only); (refine ⟨?_, ?_, ?_⟩ <;> first | assumption | (exact Below.keeps (below_drewN (Below.refl _ W7) _) _ _ p4) | (exact Below.keeps (below_drewN (Below.refl _ W7) _) _ _ p5) | (exact HS7.out.drewN _) | (exact Below.keeps (below_drewN (Below.refl _ _) _) _ _ (Below.keeps (below_drewN (Below.refl _ W7) _) _ _ p4)) | (exact Below.keeps (below_drewN (Below.refl _ _) _) _ _ (Below.keeps (below_drewN (Below.refl _ W7) _) _ _ p5)) | (exact (HS7.out.drewN _).drewN _))) (fun hHeld => ?_)) | (go_wp2_with fail; refine hK.out _ _ (by (try dsimp only); (refine ⟨?_, ?_, ?_⟩ <;> first | assumption | (exact Below.keeps (below_drewN (Below.refl _ W7) _) _ _ p4) | (exact Below.keeps (below_drewN (Below.refl _ W7) _) _ _ p5) | (exact HS7.out.drewN _) | (exact Below.keeps (below_drewN (Below.refl _ _) _) _ _ (Below.keeps (below_drewN (Below.refl _ W7) _) _ _ p4)) | (exact Below.keeps (below_drewN (Below.refl _ _) _) _ _ (Below.keeps (below_drewN (Below.refl _ W7) _) _ _ p5)) | (exact (HS7.out.drewN _).drewN _))) (fun hHeld => ?_))
                            clear hK K
                            try simp only [Act.put, List.setIfInBounds_toArray, List.set_cons_zero, List.set_cons_succ, List.getElem_toArray, List.getElem_cons_zero, List.getElem_cons_succ]
                            refine wpAnyH_take (i := 8) (v := ?_) rfl (by kernel_rfl) (by kernel_rfl) (by kernel_rfl) (fun _ _ _ h => h) (Or.inl ⟨by rfl, ?_⟩) (by assumption) ?_
                            rotate_left
                            · intro w hSw
                              (try dsimp only at hSw)
                              go_simp
                              try with_reducible rfl
                            try simp only [Act.put, List.setIfInBounds_toArray, List.set_cons_zero, List.set_cons_succ, List.getElem_toArray, List.getElem_cons_zero, List.getElem_cons_succ]
                            refine wpAnyH_take (i := 9) (v := ?_) rfl (by kernel_rfl) (by kernel_rfl) (by kernel_rfl) (fun _ _ _ h => h) (Or.inl ⟨by rfl, ?_⟩) (by assumption) ?_
                            rotate_left
                            · intro w hSw
                              (try dsimp only at hSw)
                              go_simp
                              try with_reducible rfl
                            try simp only [Act.put, List.setIfInBounds_toArray, List.set_cons_zero, List.set_cons_succ, List.getElem_toArray, List.getElem_cons_zero, List.getElem_cons_succ]
                            refine wpAnyH_take (i := 10) (v := ?_) rfl (by kernel_rfl) (by kernel_rfl) (by kernel_rfl) (fun _ _ _ h => h) (Or.inl ⟨by rfl, ?_⟩) (by assumption) ?_
                            rotate_left
                            · intro w hSw
                              (try dsimp only at hSw)
                              go_simp
                              try with_reducible rfl
                            try simp only [Act.put, List.setIfInBounds_toArray, List.set_cons_zero, List.set_cons_succ, List.getElem_toArray, List.getElem_cons_zero, List.getElem_cons_succ]
                            refine wpAnyH_take (i := 11) (v := ?_) rfl (by kernel_rfl) (by kernel_rfl) (by kernel_rfl) (fun _ _ _ h => h) (Or.inl ⟨by rfl, ?_⟩) (by assumption) ?_
                            rotate_left
                            · intro w hSw
                              (try dsimp only at hSw)
                              go_simp
                              try with_reducible rfl
                            try simp only [Act.put, List.setIfInBounds_toArray, List.set_cons_zero, List.set_cons_succ, List.getElem_toArray, List.getElem_cons_zero, List.getElem_cons_succ]
                            refine wpAnyH_take (i := 12) (v := ?_) rfl (by kernel_rfl) (by kernel_rfl) (by kernel_rfl) (fun _ _ _ h => h) (Or.inl ⟨by rfl, ?_⟩) (by assumption) ?_
                            rotate_left
                            · intro w hSw
                              (try dsimp only at hSw)
                              go_simp
                              try with_reducible rfl
                            try simp only [Act.put, List.setIfInBounds_toArray, List.set_cons_zero, List.set_cons_succ, List.getElem_toArray, List.getElem_cons_zero, List.getElem_cons_succ]
                            refine wpAnyH_take (i := 13) (v := ?_) rfl (by kernel_rfl) (by kernel_rfl) (by kernel_rfl) (fun _ _ _ h => h) (Or.inl ⟨by rfl, ?_⟩) (by assumption) ?_
                            rotate_left
                            · intro w hSw
                              (try dsimp only at hSw)
                              go_simp
                              try with_reducible rfl
                            try simp only [Act.put, List.setIfInBounds_toArray, List.set_cons_zero, List.set_cons_succ, List.getElem_toArray, List.getElem_cons_zero, List.getElem_cons_succ]
                            refine wpAnyH_take (i := 14) (v := ?_) rfl (by kernel_rfl) (by kernel_rfl) (by kernel_rfl) (fun _ _ _ h => h) (Or.inl ⟨by rfl, ?_⟩) (by assumption) ?_
                            rotate_left
                            · intro w hSw
                              (try dsimp only at hSw)
                              go_simp
                              try with_reducible rfl
                            try simp only [Act.put, List.setIfInBounds_toArray, List.set_cons_zero, List.set_cons_succ, List.getElem_toArray, List.getElem_cons_zero, List.getElem_cons_succ]
                            refine wpAnyH_take (i := 15) (v := undef) rfl (by kernel_rfl) (by kernel_rfl) (by kernel_rfl) (fun _ _ _ h => h) (Or.inr ⟨by rfl, rfl⟩) (by assumption) ?_
                            try simp only [Act.put, List.setIfInBounds_toArray, List.set_cons_zero, List.set_cons_succ, List.getElem_toArray, List.getElem_cons_zero, List.getElem_cons_succ]
                            refine wpAnyH_take (i := 16) (v := undef) rfl (by kernel_rfl) (by kernel_rfl) (by kernel_rfl) (fun _ _ _ h => h) (Or.inr ⟨by rfl, rfl⟩) (by assumption) ?_
                            try simp only [Act.put, List.setIfInBounds_toArray, List.set_cons_zero, List.set_cons_succ, List.getElem_toArray, List.getElem_cons_zero, List.getElem_cons_succ]
                            refine wpAnyH_take (i := 17) (v := undef) rfl (by kernel_rfl) (by kernel_rfl) (by kernel_rfl) (fun _ _ _ h => h) (Or.inr ⟨by rfl, rfl⟩) (by assumption) ?_
                            try simp only [Act.put, List.setIfInBounds_toArray, List.set_cons_zero, List.set_cons_succ, List.getElem_toArray, List.getElem_cons_zero, List.getElem_cons_succ]
                            refine wpAnyH_take (i := 18) (v := undef) rfl (by kernel_rfl) (by kernel_rfl) (by kernel_rfl) (fun _ _ _ h => h) (Or.inr ⟨by rfl, rfl⟩) (by assumption) ?_
                            try simp only [Act.put, List.setIfInBounds_toArray, List.set_cons_zero, List.set_cons_succ, List.getElem_toArray, List.getElem_cons_zero, List.getElem_cons_succ]
                            refine wpAnyH_take (i := 19) (v := undef) rfl (by kernel_rfl) (by kernel_rfl) (by kernel_rfl) (fun _ _ _ h => h) (Or.inr ⟨by rfl, rfl⟩) (by assumption) ?_
                            try simp only [Act.put, List.setIfInBounds_toArray, List.set_cons_zero, List.set_cons_succ, List.getElem_toArray, List.getElem_cons_zero, List.getElem_cons_succ]
                            refine wpAnyH_take (i := 20) (v := undef) rfl (by kernel_rfl) (by kernel_rfl) (by kernel_rfl) (fun _ _ _ h => h) (Or.inr ⟨by rfl, rfl⟩) (by assumption) ?_
                            try simp only [Act.put, List.setIfInBounds_toArray, List.set_cons_zero, List.set_cons_succ, List.getElem_toArray, List.getElem_cons_zero, List.getElem_cons_succ]
                            refine wpAnyH_take (i := 21) (v := undef) rfl (by kernel_rfl) (by kernel_rfl) (by kernel_rfl) (fun _ _ _ h => h) (Or.inr ⟨by rfl, rfl⟩) (by assumption) ?_
                            try simp only [Act.put, List.setIfInBounds_toArray, List.set_cons_zero, List.set_cons_succ, List.getElem_toArray, List.getElem_cons_zero, List.getElem_cons_succ]
                            refine wpAnyH_take (i := 22) (v := undef) rfl (by kernel_rfl) (by kernel_rfl) (by kernel_rfl) (fun _ _ _ h => h) (Or.inr ⟨by rfl, rfl⟩) (by assumption) ?_
                            try simp only [Act.put, List.setIfInBounds_toArray, List.set_cons_zero, List.set_cons_succ, List.getElem_toArray, List.getElem_cons_zero, List.getElem_cons_succ]
                            refine wpAnyH_take (i := 23) (v := undef) rfl (by kernel_rfl) (by kernel_rfl) (by kernel_rfl) (fun _ _ _ h => h) (Or.inr ⟨by rfl, rfl⟩) (by assumption) ?_
                            try simp only [Act.put, List.setIfInBounds_toArray, List.set_cons_zero, List.set_cons_succ, List.getElem_toArray, List.getElem_cons_zero, List.getElem_cons_succ]
                            refine wpAnyH_take (i := 24) (v := ?_) rfl (by kernel_rfl) (by kernel_rfl) (by kernel_rfl) (fun _ _ _ h => h) (Or.inl ⟨by rfl, ?_⟩) (by assumption) ?_
                            rotate_left
                            · intro w hSw
                              (try dsimp only at hSw)
                              go_simp
                              try with_reducible rfl
                            try simp only [Act.put, List.setIfInBounds_toArray, List.set_cons_zero, List.set_cons_succ, List.getElem_toArray, List.getElem_cons_zero, List.getElem_cons_succ]
                            refine wpAnyH_take (i := 25) (v := ?_) rfl (by kernel_rfl) (by kernel_rfl) (by kernel_rfl) (fun _ _ _ h => h) (Or.inl ⟨by rfl, ?_⟩) (by assumption) ?_
                            rotate_left
                            · intro w hSw
                              (try dsimp only at hSw)
                              go_simp
                              try with_reducible rfl
                            try simp only [Act.put, List.setIfInBounds_toArray, List.set_cons_zero, List.set_cons_succ, List.getElem_toArray, List.getElem_cons_zero, List.getElem_cons_succ]
                            refine wpAnyH_take (i := 26) (v := ?_) rfl (by kernel_rfl) (by kernel_rfl) (by kernel_rfl) (fun _ _ _ h => h) (Or.inl ⟨by rfl, ?_⟩) (by assumption) ?_
                            rotate_left
                            · intro w hSw
                              (try dsimp only at hSw)
                              go_simp
                              try with_reducible rfl
                            try simp only [Act.put, List.setIfInBounds_toArray, List.set_cons_zero, List.set_cons_succ, List.getElem_toArray, List.getElem_cons_zero, List.getElem_cons_succ]
                            refine wpAnyH_ready (rs := [27]) (by kernel_rfl) (by simp) (AllReadyH.cons rfl (fun K hK => ?_) AllReadyH.nil)
                            go_simp
                            (go_at_call 14; go_split_ands; (first | (refine (HAW _ (HS7.out.drewN _).bel).out.mono ?_) | (refine (HAW _ ((HS7.out.drewN _).drewN _).bel).out.mono ?_)); rintro e w6 ⟨rfl, hB6⟩)
                            first | (refine hK.out _ _ (by (try dsimp only); (refine ⟨?_, ?_, ?_⟩ <;> first | assumption | (exact Below.keeps hB6 _ _ (by first | exact Below.keeps (below_drewN (Below.refl _ W7) _) _ _ p4 | exact Below.keeps (below_drewN (Below.refl _ _) _) _ _ (Below.keeps (below_drewN (Below.refl _ W7) _) _ _ p4))) | (exact Below.keeps hB6 _ _ (by first | exact Below.keeps (below_drewN (Below.refl _ W7) _) _ _ p5 | exact Below.keeps (below_drewN (Below.refl _ _) _) _ _ (Below.keeps (below_drewN (Below.refl _ W7) _) _ _ p5))) | (exact LnS.below (by first | exact HS7.out.drewN _ | exact (HS7.out.drewN _).drewN _) hB6))) (fun hHeld => ?_)) | (go_wp2_with fail; refine hK.out _ _ (by (try dsimp only); (refine ⟨?_, ?_, ?_⟩ <;> first | assumption | (exact Below.keeps hB6 _ _ (by first | exact Below.keeps (below_drewN (Below.refl _ W7) _) _ _ p4 | exact Below.keeps (below_drewN (Below.refl _ _) _) _ _ (Below.keeps (below_drewN (Below.refl _ W7) _) _ _ p4))) | (exact Below.keeps hB6 _ _ (by first | exact Below.keeps (below_drewN (Below.refl _ W7) _) _ _ p5 | exact Below.keeps (below_drewN (Below.refl _ _) _) _ _ (Below.keeps (below_drewN (Below.refl _ W7) _) _ _ p5))) | (exact LnS.below (by first | exact HS7.out.drewN _ | exact (HS7.out.drewN _).drewN _) hB6))) (fun hHeld => ?_))
                            clear hK K
                            try simp only [Act.put, List.setIfInBounds_toArray, List.set_cons_zero, List.set_cons_succ, List.getElem_toArray, List.getElem_cons_zero, List.getElem_cons_succ]
                            refine wpAnyH_take (i := 28) (v := ?_) rfl (by kernel_rfl) (by kernel_rfl) (by kernel_rfl) (fun _ _ _ h => h) (Or.inl ⟨by rfl, ?_⟩) (by assumption) ?_
                            rotate_left
                            · intro w hSw
                              (try dsimp only at hSw)
                              go_simp
                              try with_reducible rfl
                            try simp only [Act.put, List.setIfInBounds_toArray, List.set_cons_zero, List.set_cons_succ, List.getElem_toArray, List.getElem_cons_zero, List.getElem_cons_succ]
                            refine wpAnyH_take (i := 29) (v := ?_) rfl (by kernel_rfl) (by kernel_rfl) (by kernel_rfl) (fun _ _ _ h => h) (Or.inl ⟨by rfl, ?_⟩) (by assumption) ?_
                            rotate_left
                            · intro w hSw
                              (try dsimp only at hSw)
                              go_simp
                              try with_reducible rfl
                            try simp only [Act.put, List.setIfInBounds_toArray, List.set_cons_zero, List.set_cons_succ, List.getElem_toArray, List.getElem_cons_zero, List.getElem_cons_succ]
                            refine wpAnyH_done (by kernel_rfl) ?_ _
                            all_goals go_split_ands
                            all_goals go_wp2_with fail
                            all_goals go_ret
                            all_goals exact ⟨rfl, by first | (exact LnS.bel (by assumption)) | (exact Below.drew (LnS.bel (by assumption)))⟩
                          · have hll : y.ll = wl := by rw [G5.out, HLT.out, if_neg hcase]
                            have HM8 : Hid (Row W6 bm #[.int .i64 a, .int .i64 c, .int .i64 pl, .string wf, .string wl, .int .i64 y.ln, .bool y.pos, .slice am nm cm, .slice ak nk ck] 30) := by
                              have h := HM7.out
                              rw [hll] at h
                              exact h
                            obtain ⟨df, hdf⟩ : ∃ d : Int, d = (t : Int) - (f : Int) := ⟨_, rfl⟩
                            have u9 : IntKind.i64.wrap ((t : Int) - (f : Int)) = df := by rw [HUT.out, hdf]
                            have u10 : (df == 1) = false := beq_eq_false_iff_ne.2 (by omega)
                            have u11 := toL_ne hne
                            have u12 := mt_ne hne
                            clear hll hcase hdf
                            clear hne G5 HLT HM7 HUT HFT HLN
                            have m0 := HM8.out.cell 0 (x := .int .i64 a) rfl
                            have m1 := HM8.out.cell 1 (x := .int .i64 c) rfl
                            have m2 := HM8.out.cell 2 (x := .int .i64 pl) rfl
                            have m3 := HM8.out.cell 3 (x := .string wf) rfl
                            have m4 := HM8.out.cell 4 (x := .string wl) rfl
                            have l0 := HL6.out.cell 0 (x := .slice (some ⟨bb1, o1, none⟩) ls.length d1) rfl
                            go_wp2_with fail
                            go_quiet (fail)
                            have hd := below_drewN (Below.refl W6.heap.size W6) nq
                            have HB7 := hid (below_tr HB6.out hd)
                            have HL7 := hid (HL6.out.below hd)
                            have HM9 := hid (HM8.out.below hd)
                            have p4 := HM9.out.cell 4 (x := .string wl) rfl
                            have p5 := Below.keeps HB7.out _ _ HDW.out
                            have HS7 : Hid (LnS bl bm #[.slice (some ⟨bb1, o1, none⟩) ls.length d1] #[.int .i64 a, .int .i64 c, .int .i64 pl, .string wf, .string wl, .int .i64 y.ln, .bool y.pos, .slice am nm cm, .slice ak nk ck] w (W6.drewN nq)) := ⟨HB7.out, HL7.out, HM9.out⟩
                            have HIF := fun w' (h : LnS bl bm #[.slice (some ⟨bb1, o1, none⟩) ls.length d1] #[.int .i64 a, .int .i64 c, .int .i64 pl, .string wf, .string wl, .int .i64 y.ln, .bool y.pos, .slice am nm cm, .slice ak nk ck] w w') => hid (lin1_any ls.length f a a c bl bm bb1 o1 d1 pl wf wl y.ln y.pos am nm cm ak nk ck w' h.li h.nt (Below.keeps h.bel _ _ HDA.out) v1 (Int.le_refl _) (by have := HI.out; omega))
                            have HIT := fun w' (h : LnS bl bm #[.slice (some ⟨bb1, o1, none⟩) ls.length d1] #[.int .i64 a, .int .i64 c, .int .i64 pl, .string wf, .string wl, .int .i64 y.ln, .bool y.pos, .slice am nm cm, .slice ak nk ck] w w') => hid (lin1_any ls.length tq a' a c bl bm bb1 o1 d1 pl wf wl y.ln y.pos am nm cm ak nk ck w' h.li h.nt (Below.keeps h.bel _ _ HDA'.out) v5 HI.out.1 HI.out.2)
                            clear m0 m1 m2 m3 m4 l0 e1 e2 e3 e4 e5 hd HB6 HL6 HM8 HB7 HL7 HM9
                            generalize W6.drewN nq = W7 at *
                            go_wp2_with fail
                            go_region_held3 (fun w' => w'.cell? ⟨bm, 4, none⟩ = some (.string wl) ∧ w'.cell? ⟨bb3, o3 + tq, none⟩ = some (.string wl) ∧ LnS bl bm #[.slice (some ⟨bb1, o1, none⟩) ls.length d1] #[.int .i64 a, .int .i64 c, .int .i64 pl, .string wf, .string wl, .int .i64 y.ln, .bool y.pos, .slice am nm cm, .slice ak nk ck] w w')
                              ((refine ⟨?_, ?_, ?_⟩ <;> first | assumption | (exact HS7.out) | (exact LnS.drew (by assumption)) | (exact HS7.out.drew) | (exact HS7.out.drewN _) | (exact LnS.drewN (by assumption) _) | go_keep))
                              (first
                                | (go_at_call 24; go_split_ands; (first | (with_reducible refine (HIF _ (by assumption)).out.mono ?_) | (with_reducible refine (HIT _ (by assumption)).out.mono ?_)); rintro e w6 ⟨rfl, nz, rfl⟩; have z0 := Below.keeps (below_drewN (Below.refl _ _) nz) _ _ (by assumption : World.cell? _ ⟨bm, 4, none⟩ = some _); have z1 := Below.keeps (below_drewN (Below.refl _ _) nz) _ _ (by assumption : World.cell? _ ⟨bb3, o3 + tq, none⟩ = some _); have z5 := LnS.drewN (by assumption) nz)
                                | (go_at_call 14; go_split_ands; refine (HAW _ (LnS.bel (by assumption))).out.mono ?_; rintro e w6 ⟨rfl, hB6⟩; have z0 := Below.keeps hB6 _ _ (by assumption : World.cell? _ ⟨bm, 4, none⟩ = some _); have z1 := Below.keeps hB6 _ _ (by assumption : World.cell? _ ⟨bb3, o3 + tq, none⟩ = some _); have z5 := LnS.below (by assumption) hB6))
                            all_goals go_split_ands
                            all_goals go_wp2_with fail
                            all_goals go_ret
                            all_goals exact ⟨rfl, by first | (exact LnS.bel (by assumption)) | (exact Below.drew (LnS.bel (by assumption)))⟩
                    · have hpb : (ofAI ls la ws x != 0) = true := by simpa using hE
                      go_upto_if 74 with fail
                      generalize w4.alloc (.cells #[.int .i64 y.fr, .int .i64 y.to_, .int .i64 y.pl, .string y.lf, .string y.ll, .int .i64 y.ln, .bool y.pos, .slice am nm cm, .slice ak nk ck] 30) = W5 at *
                      generalize w4.heap.size = bm at *
                      clear hE
                      go_wp2_with fail
                      (with_reducible refine (HAW _ HB5.out).out.mono ?_)
                      rintro e wa ⟨rfl, hBa⟩
                      go_wp2
                      go_ret
                      exact ⟨rfl, below_tr HB5.out hBa⟩
end Go.Proofs.YtjhdeoniafahbaaGreatDoor
