/-
  notation.Parse.
-/
import Derived.Sort.CutIn
import Derived.Test.YtjhdeoniafahbaaGreatDoorPaP
namespace Go.Proofs.YtjhdeoniafahbaaGreatDoor
open Go.RowKit
attribute [local go_sem] Oper.semAt_some

set_option maxRecDepth 100000 in
set_option maxHeartbeats 8000000 in
theorem ppar_any (s : ByteArray) (m : Int) (w : World) (he : Env w) (hs : s.size ≤ 1048576) (hm : w.cell? ⟨0, 0, none⟩ = some (.int .i64 m)) :
    Calls Tryz.prog 23 #[.string s] w fun r w' => OfQ (parN s) (parI s) w r w' := by
  refine (callsIn_wide (n := 9)).1 ?_
  have HE := fun w' (h : Below w.heap.size w w') => hid (he.below h)
  have HM := fun w' (h : Below w.heap.size w w') => hid (Below.keeps h _ _ hm)
  have HP0 : Hid (PaS w ((w.alloc (.cells zeroN 30)).alloc (.cells #[.int .i64 0] 35))) := ⟨(row_nw w zeroN 30 rfl).al _, row_nw _ _ _ (by simp), below_tr (below_al _ _) (below_al _ _)⟩
  have HS0 := hid hs
  unfold zeroN at HP0
  refine callsIn_of_wp_marks Tryz.func23 rfl trivial ?_ rfl
  simp only [Tryz.ntmps23, List.size_toArray, List.length_cons, List.length_nil, Nat.reduceAdd, Nat.reduceSub, Array.replicate_succ, Array.replicate_zero, List.push_toArray, List.append_toArray, List.nil_append, List.cons_append]
  refine wpIn_wide.2 ?_
  clear he hm
  by_cases hbig : 65536 < s.size
  · have h1i : (65536 : Int) < (s.size : Int) := by omega
    have HPB := hid (par_big hbig)
    clear hbig
    go_upto_region 1 with fail
    generalize (w.alloc (.cells #[.int .i64 0, .int .i64 0, .int .i64 0, .string ⟨#[]⟩, .string ⟨#[]⟩, .int .i64 0, .bool false, .slice none 0 0, .slice none 0 0] 30)).alloc (.cells #[.int .i64 0] 35) = W0 at *
    have hm := HP0.out
    have r0 := hm.res.cell 0 (x := .int .i64 0) rfl
    have r1 := hm.res.cell 1 (x := .int .i64 0) rfl
    have r2 := hm.res.cell 2 (x := .int .i64 0) rfl
    have r3 := hm.res.cell 3 (x := .string ⟨#[]⟩) rfl
    have r4 := hm.res.cell 4 (x := .string ⟨#[]⟩) rfl
    have r5 := hm.res.cell 5 (x := .int .i64 0) rfl
    have r6 := hm.res.cell 6 (x := .bool false) rfl
    have r7 := hm.res.cell 7 (x := .slice none 0 0) rfl
    have r8 := hm.res.cell 8 (x := .slice none 0 0) rfl
    have g0 := hm.res.frozen 0
    have g1 := hm.res.frozen 1
    have g2 := hm.res.frozen 2
    have g3 := hm.res.frozen 3
    have g4 := hm.res.frozen 4
    have g5 := hm.res.frozen 5
    have g6 := hm.res.frozen 6
    have g7 := hm.res.frozen 7
    have g8 := hm.res.frozen 8
    have e0 := hm.err.cell 0 (x := .int .i64 0) rfl
    have f0 := hm.err.frozen 0
    clear hm
    go_wp2_with fail
    have HY := HP0.out.fin nt0 (.slice none 0 0) (.slice none 0 0) 4
    dsimp only [nt0] at HY
    have z0 := HY.1.cell 0 (x := .int .i64 0) rfl
    have z1 := HY.1.cell 1 (x := .int .i64 0) rfl
    have z2 := HY.1.cell 2 (x := .int .i64 0) rfl
    have z3 := HY.1.cell 3 (x := .string ⟨#[]⟩) rfl
    have z4 := HY.1.cell 4 (x := .string ⟨#[]⟩) rfl
    have z5 := HY.1.cell 5 (x := .int .i64 0) rfl
    have z6 := HY.1.cell 6 (x := .bool false) rfl
    have z7 := HY.1.cell 7 (x := .slice none 0 0) rfl
    have z8 := HY.1.cell 8 (x := .slice none 0 0) rfl
    have y0 := HY.2.1.cell 0 (x := .int .i64 4) rfl
    have hq := HPB.out
    exact leaveR (v := .tuple #[.agg #[.int .i64 0, .int .i64 0, .int .i64 0, .string ⟨#[]⟩, .string ⟨#[]⟩, .int .i64 0, .bool false, .slice none 0 0, .slice none 0 0], .int .i64 4]) (by simp [results, Tryz.f23, go_sem, z0, z1, z2, z3, z4, z5, z6, z7, z8, y0]) ⟨none, 0, 0, none, 0, 0, by rw [hq.1, hq.2]; rfl, by rw [hq.2]; exact ⟨Rd.nil _, RdV.nil _⟩, HY.2.2⟩
  · have h1i : ¬ (65536 : Int) < (s.size : Int) := by omega
    have HB := hid hbig
    go_upto_region 1 with fail
    generalize (w.alloc (.cells #[.int .i64 0, .int .i64 0, .int .i64 0, .string ⟨#[]⟩, .string ⟨#[]⟩, .int .i64 0, .bool false, .slice none 0 0, .slice none 0 0] 30)).alloc (.cells #[.int .i64 0] 35) = W0 at *
    have HSP := hid (splitX_any s m W0 (by omega) (HM _ HP0.out.bel).out)
    have hsl := splitS_len s
    have HSZ := hid (split_sz16 (s := s) (by omega))
    have HSJ : Hid ((joinB (splitS s)).size ≤ 65536) := by show _ ≤ _; rw [joinB_split]; omega
    have HOK : Hid (okP s = (decide (0 < endI (splitS s)) && (hdB (frP s) && ((grpsP s).all vrB && (decide (prE (noteP s) = 0) && decide (prN (noteP s) = s)))))) := rfl
    have HEI : Hid (endI (splitS s) = fIdx (fun x => decide (x = behB)) (splitS s)) := rfl
    have HFR : Hid (frP s = (splitS s).take (endI (splitS s)).toNat) := rfl
    have HGR : Hid (grpsP s = barsP ((splitS s).drop ((endI (splitS s)).toNat + 1))) := rfl
    have HNP : Hid (noteP s = { hdP (frP s) with vs := (grpsP s).map vrP }) := rfl
    have HNZ := fun h => hid (noteP_sz (s := s) (by omega) h)
    have HFA := fun h => hid (par_fail (s := s) h HB.out)
    have HYE := fun h => hid (par_yes (s := s) h)
    have HRN := hid (rdS_new W0 (splitS s) (by unfold maxLen; omega))
    have HPL : Hid ((splitS s).length ≤ 65537) := by show _ ≤ _; omega
    have hb3 := below_al W0 (.cells ((splitS s).map Value.string).toArray 9)
    have HP3 := hid (HP0.out.below hb3)
    clear hbig hsl HB
    generalize splitS s = ps at *
    go_wp2_with fail
    (with_reducible refine HSP.out.mono ?_)
    rintro e w3 ⟨rfl, rfl⟩
    generalize W0.alloc (.cells (ps.map Value.string).toArray 9) = W1 at *
    have HR4 := hid (HRN.out.below (below_al W1 (.cells #[.slice (some ⟨W0.heap.size, 0, none⟩) ps.length ps.length] 86)))
    have HP4 := hid (HP3.out.below (below_al W1 (.cells #[.slice (some ⟨W0.heap.size, 0, none⟩) ps.length ps.length] 86)))
    have HW4 := hid (row_nw W1 #[.slice (some ⟨W0.heap.size, 0, none⟩) ps.length ps.length] 86 rfl)
    have HLo : Hid (w.heap.size + 2 ≤ W1.heap.size) := HP3.out.err.lt
    clear HSP hb3 HP0 HP3 HRN
    go_upto_region 4 with fail
    generalize W1.alloc (.cells #[.slice (some ⟨W0.heap.size, 0, none⟩) ps.length ps.length] 86) = W4 at *
    generalize W1.heap.size = Br at *
    generalize W0.heap.size = b0 at *
    have HU := hid (until_any 59 (enters_of Tryz.func59 (by kernel_rfl) rfl) (fun x => decide (x = behB)) Br _ ps W4 HW4.out HR4.out (fun x W' _ _ => (parse1_any x W').mono fun e w' h => h))
    go_wp2_with fail
    (with_reducible refine HU.out.mono ?_)
    rintro e w5 hU
    obtain ⟨v1, bb, rfl, w2, hB2, hQ⟩ := hU.uni
    clear HU
    rcases hQ with ⟨rfl, hneg, rfl⟩ | ⟨rfl, k, v2, hk, hr1, hr2, rfl⟩
    · have hok : okP s = false := by rw [HOK.out, decide_eq_false (by rw [HEI.out]; omega)]; rfl
      have HPF := HFA hok
      have HP5 := hid (HP4.out.below hB2)
      clear HOK HEI HFR HGR HNP HNZ HFA HYE HP4 HR4 HW4 hB2 hneg hok
      have hm := HP5.out
      have r0 := hm.res.cell 0 (x := .int .i64 0) rfl
      have r1 := hm.res.cell 1 (x := .int .i64 0) rfl
      have r2 := hm.res.cell 2 (x := .int .i64 0) rfl
      have r3 := hm.res.cell 3 (x := .string ⟨#[]⟩) rfl
      have r4 := hm.res.cell 4 (x := .string ⟨#[]⟩) rfl
      have r5 := hm.res.cell 5 (x := .int .i64 0) rfl
      have r6 := hm.res.cell 6 (x := .bool false) rfl
      have r7 := hm.res.cell 7 (x := .slice none 0 0) rfl
      have r8 := hm.res.cell 8 (x := .slice none 0 0) rfl
      have g0 := hm.res.frozen 0
      have g1 := hm.res.frozen 1
      have g2 := hm.res.frozen 2
      have g3 := hm.res.frozen 3
      have g4 := hm.res.frozen 4
      have g5 := hm.res.frozen 5
      have g6 := hm.res.frozen 6
      have g7 := hm.res.frozen 7
      have g8 := hm.res.frozen 8
      have e0 := hm.err.cell 0 (x := .int .i64 0) rfl
      have f0 := hm.err.frozen 0
      clear hm
      go_wp2_with fail
      have HY := HP5.out.fin nt0 (.slice none 0 0) (.slice none 0 0) 3
      dsimp only [nt0] at HY
      have z0 := HY.1.cell 0 (x := .int .i64 0) rfl
      have z1 := HY.1.cell 1 (x := .int .i64 0) rfl
      have z2 := HY.1.cell 2 (x := .int .i64 0) rfl
      have z3 := HY.1.cell 3 (x := .string ⟨#[]⟩) rfl
      have z4 := HY.1.cell 4 (x := .string ⟨#[]⟩) rfl
      have z5 := HY.1.cell 5 (x := .int .i64 0) rfl
      have z6 := HY.1.cell 6 (x := .bool false) rfl
      have z7 := HY.1.cell 7 (x := .slice none 0 0) rfl
      have z8 := HY.1.cell 8 (x := .slice none 0 0) rfl
      have y0 := HY.2.1.cell 0 (x := .int .i64 3) rfl
      have hq := HPF.out
      exact leaveR (v := .tuple #[.agg #[.int .i64 0, .int .i64 0, .int .i64 0, .string ⟨#[]⟩, .string ⟨#[]⟩, .int .i64 0, .bool false, .slice none 0 0, .slice none 0 0], .int .i64 3]) (by simp [results, Tryz.f23, go_sem, z0, z1, z2, z3, z4, z5, z6, z7, z8, y0]) ⟨none, 0, 0, none, 0, 0, by rw [hq.1, hq.2]; rfl, by rw [hq.2]; exact ⟨Rd.nil _, RdV.nil _⟩, HY.2.2⟩
    · have HK : Hid (fIdx (fun x => decide (x = behB)) ps = (k : Int)) := hk
      have hkl : k < ps.length := by have := fIdx_lt (fun x => decide (x = behB)) ps; omega
      obtain ⟨a1, c1, rfl, _, _, _⟩ := hr1.open
      obtain ⟨a2, c2, rfl, hc2a, hc2b, hcell2⟩ := hr2.open
      have hrow2 := HW4.out.below hB2
      have HP5 := hid ((HP4.out.below hB2).other HLo.out 0 (.slice a2 (ps.drop k).length c2))
      have HW5 := hid (hrow2.set 0 (.slice a2 (ps.drop k).length c2))
      have H1 := hid (rdS_set (y := .slice a2 (ps.drop k).length c2) hr1 (hrow2.cell 0 rfl) (fun s e => by cases e))
      have H2 := hid (rdS_set (y := .slice a2 (ps.drop k).length c2) hr2 (hrow2.cell 0 rfl) (fun s e => by cases e))
      have HC2 : Hid ((ps.drop k).length ≤ c2 ∧ c2 ≤ 9223372036854775807) := ⟨hc2a, hc2b⟩
      clear hrow2 hr1 hr2 hk hB2 HP4 HR4 HW4 hcell2 hc2a hc2b
      generalize w2.setCell ⟨Br, 0, none⟩ (.slice a2 (ps.drop k).length c2) = W5 at *
      have hkt : (ps.take k).length = k := by rw [List.length_take]; omega
      rw [hkt] at H1 ⊢
      clear hkt
      by_cases hk0 : k = 0
      · have hok : okP s = false := by rw [HOK.out, decide_eq_false (by rw [HEI.out, HK.out, hk0]; decide)]; rfl
        have HPF := HFA hok
        have hkb : ((k : Int) == 0) = true := by rw [hk0]; rfl
        clear HOK HEI HFR HGR HNP HNZ HFA HYE hok hk0 H1 H2 HW5
        have hm := HP5.out
        have r0 := hm.res.cell 0 (x := .int .i64 0) rfl
        have r1 := hm.res.cell 1 (x := .int .i64 0) rfl
        have r2 := hm.res.cell 2 (x := .int .i64 0) rfl
        have r3 := hm.res.cell 3 (x := .string ⟨#[]⟩) rfl
        have r4 := hm.res.cell 4 (x := .string ⟨#[]⟩) rfl
        have r5 := hm.res.cell 5 (x := .int .i64 0) rfl
        have r6 := hm.res.cell 6 (x := .bool false) rfl
        have r7 := hm.res.cell 7 (x := .slice none 0 0) rfl
        have r8 := hm.res.cell 8 (x := .slice none 0 0) rfl
        have g0 := hm.res.frozen 0
        have g1 := hm.res.frozen 1
        have g2 := hm.res.frozen 2
        have g3 := hm.res.frozen 3
        have g4 := hm.res.frozen 4
        have g5 := hm.res.frozen 5
        have g6 := hm.res.frozen 6
        have g7 := hm.res.frozen 7
        have g8 := hm.res.frozen 8
        have e0 := hm.err.cell 0 (x := .int .i64 0) rfl
        have f0 := hm.err.frozen 0
        clear hm
        go_wp2_with fail
        have HY := HP5.out.fin nt0 (.slice none 0 0) (.slice none 0 0) 3
        dsimp only [nt0] at HY
        have z0 := HY.1.cell 0 (x := .int .i64 0) rfl
        have z1 := HY.1.cell 1 (x := .int .i64 0) rfl
        have z2 := HY.1.cell 2 (x := .int .i64 0) rfl
        have z3 := HY.1.cell 3 (x := .string ⟨#[]⟩) rfl
        have z4 := HY.1.cell 4 (x := .string ⟨#[]⟩) rfl
        have z5 := HY.1.cell 5 (x := .int .i64 0) rfl
        have z6 := HY.1.cell 6 (x := .bool false) rfl
        have z7 := HY.1.cell 7 (x := .slice none 0 0) rfl
        have z8 := HY.1.cell 8 (x := .slice none 0 0) rfl
        have y0 := HY.2.1.cell 0 (x := .int .i64 3) rfl
        have hq := HPF.out
        exact leaveR (v := .tuple #[.agg #[.int .i64 0, .int .i64 0, .int .i64 0, .string ⟨#[]⟩, .string ⟨#[]⟩, .int .i64 0, .bool false, .slice none 0 0, .slice none 0 0], .int .i64 3]) (by simp [results, Tryz.f23, go_sem, z0, z1, z2, z3, z4, z5, z6, z7, z8, y0]) ⟨none, 0, 0, none, 0, 0, by rw [hq.1, hq.2]; rfl, by rw [hq.2]; exact ⟨Rd.nil _, RdV.nil _⟩, HY.2.2⟩
      · have hkb : ((k : Int) == 0) = false := beq_eq_false_iff_ne.2 (by omega)
        have HFK : Hid (frP s = ps.take k) := by show _ = _; rw [HFR.out, HEI.out, HK.out, Int.toNat_natCast]
        have HGK : Hid (grpsP s = barsP (ps.drop (k + 1))) := by show _ = _; rw [HGR.out, HEI.out, HK.out, Int.toNat_natCast]
        have HO2 : Hid (okP s = (hdB (frP s) && ((grpsP s).all vrB && (decide (prE (noteP s) = 0) && decide (prN (noteP s) = s))))) := by show _ = _; rw [HOK.out, HEI.out, HK.out, decide_eq_true (by omega)]; rfl
        have hne : ps.take k ≠ [] := fun e => by have h := congrArg List.length e; rw [List.length_take, List.length_nil] at h; omega
        obtain ⟨x0, l0, hx0⟩ := List.exists_cons_of_ne_nil hne
        have HF : Hid (Calls Tryz.prog 60 #[.slice a1 k c1] W5 fun r w' => FrQ (ps.take k) W5 r w') := by
          show Calls _ _ _ _ _
          have h1 := H1.out
          rw [hx0] at h1 ⊢
          refine pfront_any x0 l0 m _ W5 (HE _ HP5.out.bel).out (HM _ HP5.out.bel).out h1 (fun z hz => HSZ.out z ?_) ?_ ?_
          · rw [← hx0] at hz; exact List.mem_of_mem_take hz
          · rw [← hx0, List.length_take]; have := HPL.out; omega
          · rw [← hx0]; have := take_join_le ps k; have := HSJ.out; omega
        rw [← HFK.out] at HF
        have H2a := H2
        clear hx0 hne HOK HEI HFR HGR H1 HFK hk0
        go_wp2_with fail
        (with_reducible refine HF.out.mono ?_)
        rintro e w6 ⟨y, au, nu, cu, rfl, hy, hB6⟩
        have HP6 := hid (HP5.out.below hB6)
        have HW6 := hid (HW5.out.below hB6)
        have H26 := hid (H2.out.below hB6)
        have HY6 := hid hy
        clear hB6 hy HF HP5 HW5 H2 H2a
        unfold Nt.cells at HY6 ⊢
        have hb7 := below_al w6 (.cells #[.int .i64 y.fr, .int .i64 y.to_, .int .i64 y.pl, .string y.lf, .string y.ll, .int .i64 y.ln, .bool y.pos, .slice au nu cu, .slice none 0 0] 30)
        have HP7 := hid (HP6.out.below hb7)
        have HW7 := hid (HW6.out.below hb7)
        have H27 := hid (H26.out.below hb7)
        have HN7 := hid (row_nw w6 #[.int .i64 y.fr, .int .i64 y.to_, .int .i64 y.pl, .string y.lf, .string y.ll, .int .i64 y.ln, .bool y.pos, .slice au nu cu, .slice none 0 0] 30 rfl)
        have HY7 : Hid (hdB (frP s) = true → y = hdP (frP s) ∧ OwS (w6.alloc (.cells #[.int .i64 y.fr, .int .i64 y.to_, .int .i64 y.pl, .string y.lf, .string y.ll, .int .i64 y.ln, .bool y.pos, .slice au nu cu, .slice none 0 0] 30)) (.slice au nu cu) y.sup) := fun h => ⟨(HY6.out h).1, (HY6.out h).2.below hb7⟩
        have HBL : Hid (0 < (ps.drop (k + 1)).length → ∀ b o, a2 = some ⟨b, o, none⟩ → b < w6.heap.size) := by
          intro h b o e
          obtain ⟨_, _, e0, _, _, hcell⟩ := Rd.open H26.out
          obtain ⟨_, b', o', _, e2, hc⟩ := hcell 0 (by rw [List.length_drop] at h ⊢; omega)
          cases e0
          rw [e] at e2
          cases e2
          exact World.block_lt_of_cell? _ _ hc
        have HA2 : Hid (∃ b o, a2 = some ⟨b, o, none⟩) := by
          obtain ⟨_, _, e0, _, _, hcell⟩ := Rd.open H26.out
          obtain ⟨_, b', o', _, e, _⟩ := hcell 0 (by rw [List.length_drop]; omega)
          cases e0
          exact ⟨b', o', e⟩
        have HBn : Hid (w.heap.size + 2 ≤ w6.heap.size) := HP6.out.err.lt
        clear HP6 HW6 H26 HY6 hb7
        cases hhd : hdB (frP s) with
        | false =>
          have hok : okP s = false := by rw [HO2.out, hhd]; rfl
          have HPF := HFA hok
          clear HO2 HGK HNP HNZ HFA HYE hok HY7 HBL HA2 H27 HW7 HN7 hhd
          go_upto_region 8 with fail
          generalize w6.alloc (.cells #[.int .i64 y.fr, .int .i64 y.to_, .int .i64 y.pl, .string y.lf, .string y.ll, .int .i64 y.ln, .bool y.pos, .slice au nu cu, .slice none 0 0] 30) = W7 at *
          have hm := HP7.out
          have r0 := hm.res.cell 0 (x := .int .i64 0) rfl
          have r1 := hm.res.cell 1 (x := .int .i64 0) rfl
          have r2 := hm.res.cell 2 (x := .int .i64 0) rfl
          have r3 := hm.res.cell 3 (x := .string ⟨#[]⟩) rfl
          have r4 := hm.res.cell 4 (x := .string ⟨#[]⟩) rfl
          have r5 := hm.res.cell 5 (x := .int .i64 0) rfl
          have r6 := hm.res.cell 6 (x := .bool false) rfl
          have r7 := hm.res.cell 7 (x := .slice none 0 0) rfl
          have r8 := hm.res.cell 8 (x := .slice none 0 0) rfl
          have g0 := hm.res.frozen 0
          have g1 := hm.res.frozen 1
          have g2 := hm.res.frozen 2
          have g3 := hm.res.frozen 3
          have g4 := hm.res.frozen 4
          have g5 := hm.res.frozen 5
          have g6 := hm.res.frozen 6
          have g7 := hm.res.frozen 7
          have g8 := hm.res.frozen 8
          have e0 := hm.err.cell 0 (x := .int .i64 0) rfl
          have f0 := hm.err.frozen 0
          clear hm
          go_wp2_with fail
          have HY := HP7.out.fin nt0 (.slice none 0 0) (.slice none 0 0) 3
          dsimp only [nt0] at HY
          have z0 := HY.1.cell 0 (x := .int .i64 0) rfl
          have z1 := HY.1.cell 1 (x := .int .i64 0) rfl
          have z2 := HY.1.cell 2 (x := .int .i64 0) rfl
          have z3 := HY.1.cell 3 (x := .string ⟨#[]⟩) rfl
          have z4 := HY.1.cell 4 (x := .string ⟨#[]⟩) rfl
          have z5 := HY.1.cell 5 (x := .int .i64 0) rfl
          have z6 := HY.1.cell 6 (x := .bool false) rfl
          have z7 := HY.1.cell 7 (x := .slice none 0 0) rfl
          have z8 := HY.1.cell 8 (x := .slice none 0 0) rfl
          have y0 := HY.2.1.cell 0 (x := .int .i64 3) rfl
          have hq := HPF.out
          exact leaveR (v := .tuple #[.agg #[.int .i64 0, .int .i64 0, .int .i64 0, .string ⟨#[]⟩, .string ⟨#[]⟩, .int .i64 0, .bool false, .slice none 0 0, .slice none 0 0], .int .i64 3]) (by simp [results, Tryz.f23, go_sem, z0, z1, z2, z3, z4, z5, z6, z7, z8, y0]) ⟨none, 0, 0, none, 0, 0, by rw [hq.1, hq.2]; rfl, by rw [hq.2]; exact ⟨Rd.nil _, RdV.nil _⟩, HY.2.2⟩
        | true =>
          have HO3 : Hid (okP s = ((grpsP s).all vrB && (decide (prE (noteP s) = 0) && decide (prN (noteP s) = s)))) := by show _ = _; rw [HO2.out, hhd]; rfl
          have hyy := HY7.out hhd
          have HNS := HNZ hhd
          obtain ⟨hy1, hy2⟩ := hyy
          subst hy1
          have HU7 := hid hy2
          clear HO2 HNZ HY7 hhd hy2
          go_upto_region 8 with fail
          have hsz7 : w6.heap.size < (w6.alloc (.cells #[.int .i64 (hdP (frP s)).fr, .int .i64 (hdP (frP s)).to_, .int .i64 (hdP (frP s)).pl, .string (hdP (frP s)).lf, .string (hdP (frP s)).ll, .int .i64 (hdP (frP s)).ln, .bool (hdP (frP s)).pos, .slice au nu cu, .slice none 0 0] 30)).heap.size := by simp
          generalize w6.alloc (.cells #[.int .i64 (hdP (frP s)).fr, .int .i64 (hdP (frP s)).to_, .int .i64 (hdP (frP s)).pl, .string (hdP (frP s)).lf, .string (hdP (frP s)).ll, .int .i64 (hdP (frP s)).ln, .bool (hdP (frP s)).pos, .slice au nu cu, .slice none 0 0] 30) = W7 at *
          generalize w6.heap.size = Bn at *
          go_upto_region 10 with fail
          go_cut [48] from 43 to 48 (fun fv wx => ∃ (A : Option Addr) (c0 b off Bv : Nat), fv = .func (.func 101) #[] #[.pointer (some ⟨Bv, 0, none⟩)] ∧ Hid (Row wx Bv #[.slice A (ps.drop (k + 1)).length c0] 23) ∧ Hid (0 < (ps.drop (k + 1)).length → A = some ⟨b, off, none⟩ ∧ b < Bn) ∧ Hid ((ps.drop (k + 1)).length ≤ c0 ∧ c0 ≤ 9223372036854775807) ∧ Hid (RdS wx (.slice A (ps.drop (k + 1)).length c0) (ps.drop (k + 1))) ∧
            Hid (PaS w wx) ∧ Hid (Row wx Bn #[.int .i64 (hdP (frP s)).fr, .int .i64 (hdP (frP s)).to_, .int .i64 (hdP (frP s)).pl, .string (hdP (frP s)).lf, .string (hdP (frP s)).ll, .int .i64 (hdP (frP s)).ln, .bool (hdP (frP s)).pos, .slice au nu cu, .slice none 0 0] 30) ∧ Hid (OwS wx (.slice au nu cu) (hdP (frP s)).sup) ∧ Hid (Bn < Bv ∧ Bv < wx.heap.size))
          case first =>
            obtain ⟨b2, o2, rfl⟩ := HA2.out
            have cb := HW7.out.cell 0 (x := .slice (some ⟨b2, o2, none⟩) (ps.drop k).length c2) rfl
            have hnd : (ps.drop k).length = ps.length - k := List.length_drop ..
            have hnd2 : (ps.drop (k + 1)).length = (ps.drop k).length - 1 := by rw [List.length_drop, List.length_drop]; omega
            have hdd : (ps.drop k).drop 1 = ps.drop (k + 1) := by rw [List.drop_drop]
            have q1 : (1 : Int) ≤ ((ps.drop k).length : Int) := by omega
            have q2 : 1 ≤ (ps.drop k).length := by omega
            have q3 : 1 ≤ c2 := by have := HC2.out.1; omega
            have q4 : (1 : Int) ≤ (c2 : Int) := by omega
            have HD : Hid ((ps.drop (k + 1)).length = (ps.drop k).length - 1) := hnd2
            have HDD : Hid ((ps.drop k).drop 1 = ps.drop (k + 1)) := hdd
            clear hnd hnd2 hdd
            generalize (ps.drop k).length = nd at *
            by_cases hc : c2 = 1
            · subst hc
              have hq : nd = 1 := by have := HC2.out.1; omega
              have HZ : Hid ((ps.drop (k + 1)).length = 0) := by show _ = _; rw [HD.out, hq]
              subst hq
              have HNL : Hid (ps.drop (k + 1) = []) := List.eq_nil_of_length_eq_zero HZ.out
              go_wp2_with fail
              (with_reducible refine (variants_any _ _ _ _).mono ?_)
              rintro e w8 ⟨rfl, rfl⟩
              go_wp2_with fail
              go_meet
              have hal := below_al W7 (.cells #[.slice (some ⟨b2, o2, none⟩) 0 0] 23)
              refine ⟨some ⟨b2, o2, none⟩, 0, b2, o2, W7.heap.size, rfl, ?_, ?_, ?_, ?_, HP7.out.below hal, HN7.out.below hal, HU7.out.below hal, ?_⟩
              · rw [HZ.out]; exact row_nw _ _ _ rfl
              · intro h; rw [HZ.out] at h; cases h
              · rw [HZ.out]; exact ⟨Nat.le_refl _, by omega⟩
              · rw [HNL.out]
                exact ⟨_, 0, rfl, Nat.le_refl _, by unfold maxLen; omega, fun i x hx => by simp at hx⟩
              · exact ⟨HN7.out.lt, by simp⟩
            · go_wp2_with fail
              (with_reducible refine (variants_any _ _ _ _).mono ?_)
              rintro e w8 ⟨rfl, rfl⟩
              go_wp2_with fail
              go_meet
              have hal := below_al W7 (.cells #[.slice (some ⟨b2, o2 + 1, none⟩) (nd - 1) (c2 - 1)] 23)
              refine ⟨some ⟨b2, o2 + 1, none⟩, c2 - 1, b2, o2 + 1, W7.heap.size, rfl, ?_, ?_, ?_, ?_, HP7.out.below hal, HN7.out.below hal, HU7.out.below hal, ?_⟩
              · rw [HD.out]; exact row_nw _ _ _ rfl
              · intro h; exact ⟨rfl, HBL.out h b2 o2 rfl⟩
              · have := HC2.out; have := HD.out; exact ⟨by omega, by omega⟩
              · rw [HD.out, ← HDD.out]
                exact (H27.out.drop 1 (by have := HD.out; have := List.length_drop (l := ps) (i := k); omega)).below hal
              · exact ⟨HN7.out.lt, by simp⟩
          case rest =>
            obtain ⟨A, c0, b, off, Bv, rfl, HVb, HVa, HVc, HVr, HPx, HNx, HUx, HVn⟩ := hcut
            clear HP7 HW7 H27 HN7 HU7 HBL HA2 HC2 hsz7
            have HWL : Hid ((ps.drop (k + 1)).length ≤ 1048576) := by show _ ≤ _; rw [List.length_drop]; have := HPL.out; omega
            have HWJ : Hid ((joinB (ps.drop (k + 1))).size ≤ 65536) := by show _ ≤ _; have := drop_join_le ps (k + 1); have := HSJ.out; omega
            clear HSJ HSZ HPL
            generalize ps.drop (k + 1) = ws at *
            generalize hdP (frP s) = y at *
            have hI0 : PaI w wc.heap.size Bv Bn ws A c0 y (.slice au nu cu) (.slice none 0 0) [] wc := ⟨HPx.out, ⟨_, HVb.out⟩, HNx.out, HUx.out, World.ownsRow_nil _ _ _ _, (fun p h => by cases h), HVr.out, Nat.le_refl _⟩
            have hx1 : Bn < Bv := HVn.out.1
            have hx2 : Bv < wc.heap.size := HVn.out.2
            have hx3 : w.heap.size + 2 ≤ Bn := HBn.out
            have HAB : Hid (0 < ws.length → ∀ b' o', A = some ⟨b', o', none⟩ → b' ≠ Bv ∧ b' ≠ Bn ∧ b' < wc.heap.size) := fun h b' o' e => by
              obtain ⟨e2, h2⟩ := HVa.out h
              rw [e2] at e
              cases e
              exact ⟨by omega, by omega, by omega⟩
            go_wp2_with fail
            refine (wpIn_wide (n := 9)).1 ?_
            refine wpIn_rangeFunc_boxS rfl (by omega) (gf := 101) (lb := #[.pointer (some ⟨Bv, 0, none⟩)]) rfl trivial (enters_of Tryz.func101 (by kernel_rfl) rfl)
              (encs := fun x : Gp ws b off => #[x.v]) (Kp := KpX wc.heap.size Bn Bn) (S := fun xs => xs.map Gp.l = barsP ws) (Sp := fun pre => ∃ r, pre.map Gp.l ++ r = barsP ws) (N := ws.length + 1) (Bs := Bv)
              ?hseq hx2 (fun h k => h.tr k) (KpX.put (Nat.le_refl _)) (fun _ => rfl)
              (fun pre W => ∃ (phs : List VrV) (asv : Option Addr) (csv : Nat), PaI w wc.heap.size Bv Bn ws A c0 y (.slice au nu cu) (.slice asv phs.length csv) phs W ∧ phs.map (·.1) = pre.map (fun g => vrP g.l) ∧ (∀ g ∈ pre, vrB g.l = true))
              (fun c pre W => c = .ret ∧ PaX w W ∧ ∃ g ∈ pre, vrB g.l = false)
              ?hI ?hIx ?hIs ⟨[], none, 0, hI0, rfl, (fun g h => by cases h)⟩ ?a1 (fun _ _ _ => True) (fun _ _ _ _ _ _ _ _ _ => trivial) ?assign ?body ?done ?stop
            case hI =>
              rintro pre W W' row ⟨phs, asv, csv, h1, h2, h3⟩ hg hr
              exact ⟨phs, asv, csv, h1.grown hg (fun r e => ⟨by have := (hr r e).1; omega, (hr r e).2⟩), h2, h3⟩
            case hIx =>
              rintro c pre W W' row ⟨h1, h2, h3⟩ hg hr
              exact ⟨h1, h2.grown hg (fun r e => ⟨by have := (hr r e).1; omega, (hr r e).2⟩), h3⟩
            case hIs =>
              rintro pre W v ⟨phs, asv, csv, h1, h2, h3⟩
              exact ⟨phs, asv, csv, h1.setB (by omega) (by omega) (fun h b' o' e => (HAB.out h b' o' e).1) v, h2, h3⟩
            case hseq =>
              intro yl J Jx W' hW' hJ hJS hY h0
              have hp : ∀ h : 0 < ws.length, b ≠ Bv ∧ b ≠ Bn ∧ b < wc.heap.size := fun h => HAB.out h b off (HVa.out h).1
              exact vgo_in (9 - 1) (by omega) ws A b off c0 Bv (fun h => (HVa.out h).1) HVc.out.1 HVc.out.2 HWL.out wc.heap.size Bn hx2 (fun h => (hp h).2.2) (by omega) (fun h => (hp h).2.1) (fun h => (hp h).1) yl J Jx W' hJ hJS hY (Row.below HVb.out hW') (HVr.out.below hW') h0
            case assign =>
              intro yl pre x W' K hi hK
              have hsz : wc.heap.size ≤ W'.heap.size := by obtain ⟨_, _, _, h, _⟩ := hi; exact h.siz
              have HK := hid (fun q : Nat => hK q W' (KeepsFrom.refl _ _) (kpX_below (Below.refl _ _) hsz) hi trivial)
              clear hK hi
              gi_wp2
              obtain ⟨q, _⟩ : ∃ q : Nat, q = 0 := ⟨_, rfl⟩
              exact HK.out q
            case body =>
              rintro yl pre x q W' ⟨phs, asv, csv, hI, hph, hall⟩ _ hpl
              have HPH := hid hph
              have HALL := hid hall
              have HI := hid hI
              have HPN : Hid (phs.length = pre.length) := by show _ = _; have := congrArg List.length hph; simpa using this
              have hxr := x.rd hI.rd (fun h => (HVa.out h).1)
              have HXL : Hid (x.l.length ≤ 1048576) := by show _ ≤ _; unfold Gp.l; rw [List.length_take, List.length_drop]; have := HWL.out; omega
              have HXJ : Hid ((joinB x.l).size ≤ 1048576) := by show _ ≤ _; have := sub_join_le ws x.i x.n; have := HWJ.out; unfold Gp.l; omega
              have HVV := hid (variant_any W'.heap.size x.v x.l m W' (W'.alloc (.cells #[x.v] 86)) (HE _ hI.ps.bel).out (HM _ hI.ps.bel).out (below_al _ _) (Nat.le_refl _) (row_nw _ _ _ rfl) (hxr.below (below_al _ _)) HXL.out HXJ.out)
              have hba := below_al W' (.cells #[x.v] 86)
              clear hph hall hxr hI hI0
              unfold Gp.v at HVV hba ⊢
              gi_wp2_with fail
              refine ⟨trivial, ?_⟩
              refine (CallsIn.inRound yl (callsIn_wide.2 HVV.out)).mono ?_
              rintro e w5 ⟨bu, mu, du, bg, mg, dg, rfl, hv, hg⟩
              have hb5 : Below W'.heap.size W' w5 := hba.grown hg hba.size (fun k e => by cases e; exact Nat.le_refl _)
              have hal6 := below_al w5 (.cells #[.slice bu mu du, .slice bg mg dg] 63)
              have HB6 := hid (below_tr hb5 hal6)
              have HI6 := hid (HI.out.below HB6.out)
              have HV6 : Hid (vrB x.l = true → OwS (w5.alloc (.cells #[.slice bu mu du, .slice bg mg dg] 63)) (.slice bu mu du) (vrP x.l).ws ∧ OwS (w5.alloc (.cells #[.slice bu mu du, .slice bg mg dg] 63)) (.slice bg mg dg) (vrP x.l).sg) := fun h => ⟨(hv h).1.below hal6, (hv h).2.below hal6⟩
              have HVL := hid (row_nw w5 #[.slice bu mu du, .slice bg mg dg] 63 rfl)
              have hszI := HI.out.siz
              clear hba hg hv hb5 hal6 HVV HI
              gi_upto_region 14 with fail
              generalize w5.alloc (.cells #[.slice bu mu du, .slice bg mg dg] 63) = W6 at *
              generalize w5.heap.size = Nv at *
              cases hvb : vrB x.l with
              | false =>
                have HVB := hid hvb
                have hm := HI6.out.ps
                have r0 := hm.res.cell 0 (x := .int .i64 0) rfl
                have r1 := hm.res.cell 1 (x := .int .i64 0) rfl
                have r2 := hm.res.cell 2 (x := .int .i64 0) rfl
                have r3 := hm.res.cell 3 (x := .string ⟨#[]⟩) rfl
                have r4 := hm.res.cell 4 (x := .string ⟨#[]⟩) rfl
                have r5 := hm.res.cell 5 (x := .int .i64 0) rfl
                have r6 := hm.res.cell 6 (x := .bool false) rfl
                have r7 := hm.res.cell 7 (x := .slice none 0 0) rfl
                have r8 := hm.res.cell 8 (x := .slice none 0 0) rfl
                have g0 := hm.res.frozen 0
                have g1 := hm.res.frozen 1
                have g2 := hm.res.frozen 2
                have g3 := hm.res.frozen 3
                have g4 := hm.res.frozen 4
                have g5 := hm.res.frozen 5
                have g6 := hm.res.frozen 6
                have g7 := hm.res.frozen 7
                have g8 := hm.res.frozen 8
                have e0 := hm.err.cell 0 (x := .int .i64 0) rfl
                have f0 := hm.err.frozen 0
                clear hm hvb
                gi_wp2
                have HY := HI6.out.ps.fin nt0 (.slice none 0 0) (.slice none 0 0) 3
                dsimp only [nt0] at HY
                refine ⟨?_, rfl, ⟨HY.1, HY.2.1, HY.2.2⟩, x, List.mem_append_right _ (List.mem_singleton.2 rfl), HVB.out⟩
                have k0 := keepsFrom_below (n := wc.heap.size) HB6.out
                have ks : ∀ (V : World) (B i : Nat) (v : Value), B < wc.heap.size → KeepsFrom wc.heap.size W' V → KeepsFrom wc.heap.size W' (V.setCell ⟨B, i, none⟩ v) := fun V B i v hB h => ⟨by simpa [World.setCell] using h.size, fun k o hk ho hc => by
                  rw [Below.heap_setCell _ _ _ _ (by simp; omega)]; exact h.same k o hk ho hc⟩
                exact ks _ _ _ _ (by omega) (ks _ _ _ _ (by omega) (ks _ _ _ _ (by omega) (ks _ _ _ _ (by omega) (ks _ _ _ _ (by omega) (ks _ _ _ _ (by omega) (ks _ _ _ _ (by omega) (ks _ _ _ _ (by omega) (ks _ _ _ _ (by omega) (ks _ _ _ _ (by omega) k0)))))))))
              | true =>
                have HVB := hid hvb
                have hV := HV6.out hvb
                clear HV6 hvb
                have c8 := HI6.out.nt.cell 8 (x := .slice asv phs.length csv) rfl
                have v0 := HVL.out.cell 0 (x := .slice bu mu du) rfl
                have v1 := HVL.out.cell 1 (x := .slice bg mg dg) rfl
                have hown := HI6.out.own
                have hn0 := HI6.out.siz
                have HWL2 : Hid (phs.length ≤ 1048577) := by show _ ≤ _; have := HWL.out; have := HPN.out; omega
                have hkk := HWL2.out
                have HH1 := hid hV.1
                have HH2 := hid hV.2
                clear hV
                gi_wp2_with (gi_at_builtin; go_loud (refine wpListIn_ap2 rfl _ _ 24 rfl wc.heap.size 63 Tryz.underlying24 infoVar rfl (by decide) (by decide) (.slice asv phs.length csv) phs.length (vrCs phs) rfl hown [.slice bu mu du, .slice bg mg dg] rfl (by simp [Value.oneCell']) rfl (by simp) (by omega) hn0 ?_; intro g1 cap1 w9 hown' hb1 hgr hat _; have HP := hid (HI6.out.push (vrP x.l, .slice bu mu du, .slice bg mg dg) HH1.out HH2.out (by omega) (by omega) hx2 (by omega) (fun h b' o' e => ⟨(HAB.out h b' o' e).2.1, (HAB.out h b' o' e).2.2⟩) hown' hb1 hgr); have hr9 : Row w9 Bn (y.cells (.slice au nu cu) (.slice asv phs.length csv)) 30 := (hb1.block _ (by omega)).trans HI6.out.nt; have d8 := hr9.cell 8 (x := .slice asv phs.length csv) rfl; have f8 := hr9.frozen 8))
                obtain ⟨k1, k2, hI9⟩ := HP.out
                refine ⟨(keepsFrom_below HB6.out).trans k1, (kpX_below HB6.out hszI).tr k2, phs ++ [(vrP x.l, .slice bu mu du, .slice bg mg dg)], some ⟨g1, 0, none⟩, cap1, ?_, ?_, ?_⟩
                · rw [List.length_append]; exact hI9
                · rw [List.map_append, List.map_append, HPH.out]; rfl
                · intro g hgm
                  rcases List.mem_append.1 hgm with h | h
                  · exact HALL.out g h
                  · rw [List.mem_singleton.1 h]; exact HVB.out
            case done =>
              rintro D xs W' hD hS ⟨phs, asv, csv, hI, hph, hall⟩ hK
              have hvs : phs.map (·.1) = (grpsP s).map vrP := by rw [hph, HGK.out, ← hS, List.map_map]; rfl
              have hnp : noteP s = { y with vs := (grpsP s).map vrP } := HNP.out
              have hON : OwN W' (.slice au nu cu) (.slice asv phs.length csv) (noteP s) := by rw [hnp]; exact hI.ownN rfl hvs
              have HO4 : Hid (okP s = (decide (prE (noteP s) = 0) && decide (prN (noteP s) = s))) := by
                show _ = _
                rw [HO3.out, HGK.out, ← hS, List.all_eq_true.2 (fun g hg => by
                  obtain ⟨z, hz, rfl⟩ := List.mem_map.1 hg
                  exact hall z hz)]
                rfl
              have hce : (noteP s).cells (.slice au nu cu) (.slice asv phs.length csv) = #[.int .i64 y.fr, .int .i64 y.to_, .int .i64 y.pl, .string y.lf, .string y.ll, .int .i64 y.ln, .bool y.pos, .slice au nu cu, .slice asv phs.length csv] := by rw [hnp]; rfl
              have HPR := hid (pprt_any (noteP s) (.slice au nu cu) (.slice asv phs.length csv) W' (HE _ hI.ps.bel).out hON.rd HNS.out)
              rw [hce] at HPR
              have HCE := hid hce
              have HON := hid hON
              have HI := hid hI
              have HKW := hid hK
              have HNPY := hid hnp
              have hDlt : D < W'.heap.size := (Array.getElem?_eq_some_iff.1 hK).1
              have b0 := hI.nt.cell 0 (x := .int .i64 y.fr) rfl
              have b1 := hI.nt.cell 1 (x := .int .i64 y.to_) rfl
              have b2 := hI.nt.cell 2 (x := .int .i64 y.pl) rfl
              have b3 := hI.nt.cell 3 (x := .string y.lf) rfl
              have b4 := hI.nt.cell 4 (x := .string y.ll) rfl
              have b5 := hI.nt.cell 5 (x := .int .i64 y.ln) rfl
              have b6 := hI.nt.cell 6 (x := .bool y.pos) rfl
              have b7 := hI.nt.cell 7 (x := .slice au nu cu) rfl
              have b8 := hI.nt.cell 8 (x := .slice asv phs.length csv) rfl
              clear hvs hnp hON hce hI hph hall hK HNP HO3 HNS HGK hS hI0 HAB
              generalize phs.length = np at *
              go_wp2_with fail
              (with_reducible refine HPR.out.mono ?_)
              rintro e w9 ⟨rfl, hB9⟩
              have HP9 := hid (HI.out.ps.below hB9)
              have HR9 := hid (HI.out.nt.below hB9)
              have HON9 := hid (HON.out.below hB9)
              have HKD : Hid (w9.heap[D]? = some (.deferred (some []))) := (hB9.block D hDlt).trans HKW.out
              have HK9 : ∀ {V : World}, V.heap[D]? = some (.deferred (some [])) → ∀ {v0 v1 v2 v3 v4 v5 v6 v7 v8 v9 : Value}, (((((((((((V.setCell ⟨w.heap.size, 0, none⟩ v0).setCell ⟨w.heap.size, 1, none⟩ v1).setCell ⟨w.heap.size, 2, none⟩ v2).setCell ⟨w.heap.size, 3, none⟩ v3).setCell ⟨w.heap.size, 4, none⟩ v4).setCell ⟨w.heap.size, 5, none⟩ v5).setCell ⟨w.heap.size, 6, none⟩ v6).setCell ⟨w.heap.size, 7, none⟩ v7).setCell ⟨w.heap.size, 8, none⟩ v8).setCell ⟨w.heap.size + 1, 0, none⟩ v9)).heap[D]? = some (.deferred (some [])) := by
                intro V hV v0 v1 v2 v3 v4 v5 v6 v7 v8 v9
                have ks : ∀ (V : World) (B i : Nat) (v : Value), B ≠ D → V.heap[D]? = some (.deferred (some [])) → (V.setCell ⟨B, i, none⟩ v).heap[D]? = some (.deferred (some [])) := fun V B i v hB h => by
                  rw [Below.heap_setCell _ _ _ _ (by simpa using hB.symm)]; exact h
                exact ks _ _ _ _ (by omega) (ks _ _ _ _ (by omega) (ks _ _ _ _ (by omega) (ks _ _ _ _ (by omega) (ks _ _ _ _ (by omega) (ks _ _ _ _ (by omega) (ks _ _ _ _ (by omega) (ks _ _ _ _ (by omega) (ks _ _ _ _ (by omega) (ks _ _ _ _ (by omega) hV)))))))))
              clear HPR HI HON HKW hB9 b0 b1 b2 b3 b4 b5 b6 b7 b8
              have hpS : Hid (prS (noteP s) = if prE (noteP s) = 0 then prN (noteP s) else ⟨#[]⟩) := rfl
              by_cases hE0 : prE (noteP s) = 0
              · have hS2 : prS (noteP s) = prN (noteP s) := by rw [hpS.out, if_pos hE0]
                rw [hS2, hE0]
                have hbq := ba_beq (prN (noteP s)) s
                by_cases hPN : prN (noteP s) = s
                · have hok : okP s = true := by rw [HO4.out, hE0, hPN]; simp
                  have hq := (HYE hok).out
                  have HQ := hid hq
                  have HPN := hid hPN
                  rw [decide_eq_true hPN] at hbq
                  clear hok hq HO4 HFA HYE hS2 hE0 hpS hPN
                  generalize prN (noteP s) = pn at *
                  have hm := HP9.out
                  have hr := HR9.out
                  have r0 := hm.res.cell 0 (x := .int .i64 0) rfl
                  have r1 := hm.res.cell 1 (x := .int .i64 0) rfl
                  have r2 := hm.res.cell 2 (x := .int .i64 0) rfl
                  have r3 := hm.res.cell 3 (x := .string ⟨#[]⟩) rfl
                  have r4 := hm.res.cell 4 (x := .string ⟨#[]⟩) rfl
                  have r5 := hm.res.cell 5 (x := .int .i64 0) rfl
                  have r6 := hm.res.cell 6 (x := .bool false) rfl
                  have r7 := hm.res.cell 7 (x := .slice none 0 0) rfl
                  have r8 := hm.res.cell 8 (x := .slice none 0 0) rfl
                  have g0 := hm.res.frozen 0
                  have g1 := hm.res.frozen 1
                  have g2 := hm.res.frozen 2
                  have g3 := hm.res.frozen 3
                  have g4 := hm.res.frozen 4
                  have g5 := hm.res.frozen 5
                  have g6 := hm.res.frozen 6
                  have g7 := hm.res.frozen 7
                  have g8 := hm.res.frozen 8
                  have e0 := hm.err.cell 0 (x := .int .i64 0) rfl
                  have f0 := hm.err.frozen 0
                  have b0 := hr.cell 0 (x := .int .i64 y.fr) rfl
                  have b1 := hr.cell 1 (x := .int .i64 y.to_) rfl
                  have b2 := hr.cell 2 (x := .int .i64 y.pl) rfl
                  have b3 := hr.cell 3 (x := .string y.lf) rfl
                  have b4 := hr.cell 4 (x := .string y.ll) rfl
                  have b5 := hr.cell 5 (x := .int .i64 y.ln) rfl
                  have b6 := hr.cell 6 (x := .bool y.pos) rfl
                  have b7 := hr.cell 7 (x := .slice au nu cu) rfl
                  have b8 := hr.cell 8 (x := .slice asv np csv) rfl
                  clear hm hr
                  go_wp2_with fail
                  have HY := HP9.out.fin { y with vs := (grpsP s).map vrP } (.slice au nu cu) (.slice asv np csv) 0
                  dsimp only at HY
                  have hown := (show OwN w9 (.slice au nu cu) (.slice asv np csv) { y with vs := (grpsP s).map vrP } by rw [← HNPY.out]; exact HON9.out).set9e HP9.out 0
                  have hK9 := HK9 (V := w9) HKD.out (v0 := .int .i64 y.fr) (v1 := .int .i64 y.to_) (v2 := .int .i64 y.pl) (v3 := .string y.lf) (v4 := .string y.ll) (v5 := .int .i64 y.ln) (v6 := .bool y.pos) (v7 := .slice au nu cu) (v8 := .slice asv np csv) (v9 := .int .i64 0)
                  refine ⟨by simp, .inl ⟨_, _, rfl, run_takeDeferred (by exact hK9), ?_⟩⟩
                  have hrp : ∀ (X : World), X.heap[D]? = some (.deferred (some [])) → ∀ r, some D = some r → w.heap.size ≤ r ∧ ∃ o : Obj, X.heap[r]? = some o ∧ o.isCells = false := fun X hX r e => by cases e; exact ⟨by omega, _, hX, rfl⟩
                  have q1 := HY.1.grown (grownBy_putObj' _ D (.deferred none)) (fun r e => (hrp _ hK9 r e).2)
                  have q2 := HY.2.1.grown (grownBy_putObj' _ D (.deferred none)) (fun r e => (hrp _ hK9 r e).2)
                  have q3 := HY.2.2.grown (grownBy_putObj' _ D (.deferred none)) HY.2.2.size (fun k e => (hrp _ hK9 k e).1)
                  have z0 := q1.cell 0 (x := .int .i64 y.fr) rfl
                  have z1 := q1.cell 1 (x := .int .i64 y.to_) rfl
                  have z2 := q1.cell 2 (x := .int .i64 y.pl) rfl
                  have z3 := q1.cell 3 (x := .string y.lf) rfl
                  have z4 := q1.cell 4 (x := .string y.ll) rfl
                  have z5 := q1.cell 5 (x := .int .i64 y.ln) rfl
                  have z6 := q1.cell 6 (x := .bool y.pos) rfl
                  have z7 := q1.cell 7 (x := .slice au nu cu) rfl
                  have z8 := q1.cell 8 (x := .slice asv np csv) rfl
                  have y0 := q2.cell 0 (x := .int .i64 0) rfl
                  exact leaveR (v := .tuple #[.agg #[.int .i64 y.fr, .int .i64 y.to_, .int .i64 y.pl, .string y.lf, .string y.ll, .int .i64 y.ln, .bool y.pos, .slice au nu cu, .slice asv np csv], .int .i64 0]) (by simp [results, Tryz.f23, go_sem, z0, z1, z2, z3, z4, z5, z6, z7, z8, y0]) ⟨au, nu, cu, asv, np, csv, by rw [HQ.out.1, HQ.out.2, HCE.out], by rw [HQ.out.2, HNPY.out]; exact (hown.grownC (grownBy_putObj' _ D (.deferred none)) (fun r e => (hrp _ hK9 r e).2)).rd, q3⟩
                · have hok : okP s = false := by rw [HO4.out, hE0, decide_eq_false hPN]; rfl
                  have HPF := HFA hok
                  rw [decide_eq_false hPN] at hbq
                  have hbq2 : ¬ (prN (noteP s)).toList = s.toList := fun e => by rw [e] at hbq; simp at hbq
                  clear hok HO4 HFA HYE hS2 hE0 hpS hPN
                  generalize prN (noteP s) = pn at *
                  have hm := HP9.out
                  have r0 := hm.res.cell 0 (x := .int .i64 0) rfl
                  have r1 := hm.res.cell 1 (x := .int .i64 0) rfl
                  have r2 := hm.res.cell 2 (x := .int .i64 0) rfl
                  have r3 := hm.res.cell 3 (x := .string ⟨#[]⟩) rfl
                  have r4 := hm.res.cell 4 (x := .string ⟨#[]⟩) rfl
                  have r5 := hm.res.cell 5 (x := .int .i64 0) rfl
                  have r6 := hm.res.cell 6 (x := .bool false) rfl
                  have r7 := hm.res.cell 7 (x := .slice none 0 0) rfl
                  have r8 := hm.res.cell 8 (x := .slice none 0 0) rfl
                  have g0 := hm.res.frozen 0
                  have g1 := hm.res.frozen 1
                  have g2 := hm.res.frozen 2
                  have g3 := hm.res.frozen 3
                  have g4 := hm.res.frozen 4
                  have g5 := hm.res.frozen 5
                  have g6 := hm.res.frozen 6
                  have g7 := hm.res.frozen 7
                  have g8 := hm.res.frozen 8
                  have e0 := hm.err.cell 0 (x := .int .i64 0) rfl
                  have f0 := hm.err.frozen 0
                  clear hm
                  go_wp2_with fail
                  have HY := HP9.out.fin nt0 (.slice none 0 0) (.slice none 0 0) 3
                  dsimp only [nt0] at HY
                  have hK9 := HK9 (V := w9) HKD.out (v0 := .int .i64 0) (v1 := .int .i64 0) (v2 := .int .i64 0) (v3 := .string ⟨#[]⟩) (v4 := .string ⟨#[]⟩) (v5 := .int .i64 0) (v6 := .bool false) (v7 := .slice none 0 0) (v8 := .slice none 0 0) (v9 := .int .i64 3)
                  refine ⟨by simp, .inl ⟨_, _, rfl, run_takeDeferred (by exact hK9), ?_⟩⟩
                  have hrp : ∀ (X : World), X.heap[D]? = some (.deferred (some [])) → ∀ r, some D = some r → w.heap.size ≤ r ∧ ∃ o : Obj, X.heap[r]? = some o ∧ o.isCells = false := fun X hX r e => by cases e; exact ⟨by omega, _, hX, rfl⟩
                  have q1 := HY.1.grown (grownBy_putObj' _ D (.deferred none)) (fun r e => (hrp _ hK9 r e).2)
                  have q2 := HY.2.1.grown (grownBy_putObj' _ D (.deferred none)) (fun r e => (hrp _ hK9 r e).2)
                  have q3 := HY.2.2.grown (grownBy_putObj' _ D (.deferred none)) HY.2.2.size (fun k e => (hrp _ hK9 k e).1)
                  have z0 := q1.cell 0 (x := .int .i64 0) rfl
                  have z1 := q1.cell 1 (x := .int .i64 0) rfl
                  have z2 := q1.cell 2 (x := .int .i64 0) rfl
                  have z3 := q1.cell 3 (x := .string ⟨#[]⟩) rfl
                  have z4 := q1.cell 4 (x := .string ⟨#[]⟩) rfl
                  have z5 := q1.cell 5 (x := .int .i64 0) rfl
                  have z6 := q1.cell 6 (x := .bool false) rfl
                  have z7 := q1.cell 7 (x := .slice none 0 0) rfl
                  have z8 := q1.cell 8 (x := .slice none 0 0) rfl
                  have y0 := q2.cell 0 (x := .int .i64 3) rfl
                  have hq := HPF.out
                  exact leaveR (v := .tuple #[.agg #[.int .i64 0, .int .i64 0, .int .i64 0, .string ⟨#[]⟩, .string ⟨#[]⟩, .int .i64 0, .bool false, .slice none 0 0, .slice none 0 0], .int .i64 3]) (by simp [results, Tryz.f23, go_sem, z0, z1, z2, z3, z4, z5, z6, z7, z8, y0]) ⟨none, 0, 0, none, 0, 0, by rw [hq.1, hq.2]; rfl, by rw [hq.2]; exact ⟨Rd.nil _, RdV.nil _⟩, q3⟩
              · have hok : okP s = false := by rw [HO4.out, decide_eq_false hE0]; rfl
                have HPF := HFA hok
                have hEb : (prE (noteP s) == 0) = false := beq_eq_false_iff_ne.2 hE0
                clear hok HO4 HFA HYE hpS
                generalize prE (noteP s) = pe at *
                generalize prS (noteP s) = pn at *
                have hm := HP9.out
                have r0 := hm.res.cell 0 (x := .int .i64 0) rfl
                have r1 := hm.res.cell 1 (x := .int .i64 0) rfl
                have r2 := hm.res.cell 2 (x := .int .i64 0) rfl
                have r3 := hm.res.cell 3 (x := .string ⟨#[]⟩) rfl
                have r4 := hm.res.cell 4 (x := .string ⟨#[]⟩) rfl
                have r5 := hm.res.cell 5 (x := .int .i64 0) rfl
                have r6 := hm.res.cell 6 (x := .bool false) rfl
                have r7 := hm.res.cell 7 (x := .slice none 0 0) rfl
                have r8 := hm.res.cell 8 (x := .slice none 0 0) rfl
                have g0 := hm.res.frozen 0
                have g1 := hm.res.frozen 1
                have g2 := hm.res.frozen 2
                have g3 := hm.res.frozen 3
                have g4 := hm.res.frozen 4
                have g5 := hm.res.frozen 5
                have g6 := hm.res.frozen 6
                have g7 := hm.res.frozen 7
                have g8 := hm.res.frozen 8
                have e0 := hm.err.cell 0 (x := .int .i64 0) rfl
                have f0 := hm.err.frozen 0
                clear hm
                go_wp2_with fail
                have HY := HP9.out.fin nt0 (.slice none 0 0) (.slice none 0 0) 3
                dsimp only [nt0] at HY
                have hK9 := HK9 (V := w9) HKD.out (v0 := .int .i64 0) (v1 := .int .i64 0) (v2 := .int .i64 0) (v3 := .string ⟨#[]⟩) (v4 := .string ⟨#[]⟩) (v5 := .int .i64 0) (v6 := .bool false) (v7 := .slice none 0 0) (v8 := .slice none 0 0) (v9 := .int .i64 3)
                refine ⟨by simp, .inl ⟨_, _, rfl, run_takeDeferred (by exact hK9), ?_⟩⟩
                have hrp : ∀ (X : World), X.heap[D]? = some (.deferred (some [])) → ∀ r, some D = some r → w.heap.size ≤ r ∧ ∃ o : Obj, X.heap[r]? = some o ∧ o.isCells = false := fun X hX r e => by cases e; exact ⟨by omega, _, hX, rfl⟩
                have q1 := HY.1.grown (grownBy_putObj' _ D (.deferred none)) (fun r e => (hrp _ hK9 r e).2)
                have q2 := HY.2.1.grown (grownBy_putObj' _ D (.deferred none)) (fun r e => (hrp _ hK9 r e).2)
                have q3 := HY.2.2.grown (grownBy_putObj' _ D (.deferred none)) HY.2.2.size (fun k e => (hrp _ hK9 k e).1)
                have z0 := q1.cell 0 (x := .int .i64 0) rfl
                have z1 := q1.cell 1 (x := .int .i64 0) rfl
                have z2 := q1.cell 2 (x := .int .i64 0) rfl
                have z3 := q1.cell 3 (x := .string ⟨#[]⟩) rfl
                have z4 := q1.cell 4 (x := .string ⟨#[]⟩) rfl
                have z5 := q1.cell 5 (x := .int .i64 0) rfl
                have z6 := q1.cell 6 (x := .bool false) rfl
                have z7 := q1.cell 7 (x := .slice none 0 0) rfl
                have z8 := q1.cell 8 (x := .slice none 0 0) rfl
                have y0 := q2.cell 0 (x := .int .i64 3) rfl
                have hq := HPF.out
                exact leaveR (v := .tuple #[.agg #[.int .i64 0, .int .i64 0, .int .i64 0, .string ⟨#[]⟩, .string ⟨#[]⟩, .int .i64 0, .bool false, .slice none 0 0, .slice none 0 0], .int .i64 3]) (by simp [results, Tryz.f23, go_sem, z0, z1, z2, z3, z4, z5, z6, z7, z8, y0]) ⟨none, 0, 0, none, 0, 0, by rw [hq.1, hq.2]; rfl, by rw [hq.2]; exact ⟨Rd.nil _, RdV.nil _⟩, q3⟩
            case stop =>
              rintro D c pre W' hD ⟨r, hSp⟩ ⟨rfl, hX, g, hg, hgv⟩ hK
              have hok : okP s = false := by
                rw [HO3.out, HGK.out, ← hSp]
                have : (pre.map Gp.l ++ r).all vrB = false := by
                  rw [List.all_append, Bool.and_eq_false_iff]
                  refine .inl (Bool.eq_false_iff.2 fun h => ?_)
                  rw [List.all_eq_true.1 h g.l (List.mem_map_of_mem hg)] at hgv
                  cases hgv
                rw [this]; rfl
              have hq := (HFA hok).out
              have hrp : ∀ r, some D = some r → w.heap.size ≤ r ∧ ∃ o : Obj, W'.heap[r]? = some o ∧ o.isCells = false := fun r e => by cases e; exact ⟨by omega, _, hK, rfl⟩
              have q1 := hX.res.grown (grownBy_putObj' W' D (.deferred none)) (fun r e => (hrp r e).2)
              have q2 := hX.err.grown (grownBy_putObj' W' D (.deferred none)) (fun r e => (hrp r e).2)
              have q3 := hX.bel.grown (grownBy_putObj' W' D (.deferred none)) hX.bel.size (fun k e => (hrp k e).1)
              unfold zeroN at q1
              have z0 := q1.cell 0 (x := .int .i64 0) rfl
              have z1 := q1.cell 1 (x := .int .i64 0) rfl
              have z2 := q1.cell 2 (x := .int .i64 0) rfl
              have z3 := q1.cell 3 (x := .string ⟨#[]⟩) rfl
              have z4 := q1.cell 4 (x := .string ⟨#[]⟩) rfl
              have z5 := q1.cell 5 (x := .int .i64 0) rfl
              have z6 := q1.cell 6 (x := .bool false) rfl
              have z7 := q1.cell 7 (x := .slice none 0 0) rfl
              have z8 := q1.cell 8 (x := .slice none 0 0) rfl
              have y0 := q2.cell 0 (x := .int .i64 3) rfl
              clear hok HFA HYE HNP HNS HO3 HGK
              refine wpIn_wide.2 ?_
              go_wp2_with fail
              refine ⟨by simp, .inl ⟨_, _, rfl, run_takeDeferred hK, ?_⟩⟩
              exact leaveR (v := .tuple #[.agg #[.int .i64 0, .int .i64 0, .int .i64 0, .string ⟨#[]⟩, .string ⟨#[]⟩, .int .i64 0, .bool false, .slice none 0 0, .slice none 0 0], .int .i64 3]) (by simp [results, Tryz.f23, go_sem, z0, z1, z2, z3, z4, z5, z6, z7, z8, y0]) ⟨none, 0, 0, none, 0, 0, by rw [hq.1, hq.2]; rfl, by rw [hq.2]; exact ⟨Rd.nil _, RdV.nil _⟩, q3⟩
end Go.Proofs.YtjhdeoniafahbaaGreatDoor
