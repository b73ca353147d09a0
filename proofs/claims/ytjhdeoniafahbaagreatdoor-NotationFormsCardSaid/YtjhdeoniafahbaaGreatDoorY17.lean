/-
  Joined, what is needed of: Par45 J09 LFrm.
-/
import Derived.Sort.CutIn
import Derived.Test.YtjhdeoniafahbaaGreatDoorY16
import Derived.Test.YtjhdeoniafahbaaGreatDoorY11
import Derived.Deep.RegionHeld3
import Derived.Test.YtjhdeoniafahbaaGreatDoorY01
namespace Go.Proofs.YtjhdeoniafahbaaGreatDoor
open Go.RowKit
attribute [local go_sem] Oper.semAt_some
set_option maxRecDepth 100000 in
set_option maxHeartbeats 8000000 in
theorem ppar_any (s : ByteArray) (m : Int) (w : World) (he : Env w) (hs : s.size ≤ 1048576) (hm : w.cell? ⟨0, 0, none⟩ = some (.int .i64 m)) :
    Calls Tryz.prog 23 #[.string s] w fun r w' => OfQ (parN s) (parI s) w r w' := by
  refine (callsIn_wide (n := 9)).1 ?_
  have HE := fun w' (h : Below w.heap.size w w') => hid (he.below h)
  have HM := fun w' (h : Below w.heap.size w w') => hid (Below.keeps h _ _ hm)
  have HP0 : Hid (PaS w ((w.alloc (.cells zeroN 30)).alloc (.cells #[.int .i64 0] 35))) := ⟨(row_nw w zeroN 30 rfl).al _, row_nw _ _ _ (by simp), below_tr (below_al _ _) (below_al _ _)⟩
  have HS0 := hid hs
  unfold zeroN at HP0
  refine callsIn_of_wp_marks Tryz.func23 rfl trivial ?_ rfl
  simp only [Tryz.ntmps23, List.size_toArray, List.length_cons, List.length_nil, Nat.reduceAdd, Nat.reduceSub, Array.replicate_succ, Array.replicate_zero, List.push_toArray, List.append_toArray, List.nil_append, List.cons_append]
  refine wpIn_wide.2 ?_
  clear he hm
  by_cases hbig : 65536 < s.size
  · have h1i : (65536 : Int) < (s.size : Int) := by omega
    have HPB := hid (par_big hbig)
    clear hbig
    go_upto_region 1 with fail
    generalize (w.alloc (.cells #[.int .i64 0, .int .i64 0, .int .i64 0, .string ⟨#[]⟩, .string ⟨#[]⟩, .int .i64 0, .bool false, .slice none 0 0, .slice none 0 0] 30)).alloc (.cells #[.int .i64 0] 35) = W0 at *
    have hm := HP0.out
    have r0 := hm.res.cell 0 (x := .int .i64 0) rfl
    have r1 := hm.res.cell 1 (x := .int .i64 0) rfl
    have r2 := hm.res.cell 2 (x := .int .i64 0) rfl
    have r3 := hm.res.cell 3 (x := .string ⟨#[]⟩) rfl
    have r4 := hm.res.cell 4 (x := .string ⟨#[]⟩) rfl
    have r5 := hm.res.cell 5 (x := .int .i64 0) rfl
    have r6 := hm.res.cell 6 (x := .bool false) rfl
    have r7 := hm.res.cell 7 (x := .slice none 0 0) rfl
    have r8 := hm.res.cell 8 (x := .slice none 0 0) rfl
    have g0 := hm.res.frozen 0
    have g1 := hm.res.frozen 1
    have g2 := hm.res.frozen 2
    have g3 := hm.res.frozen 3
    have g4 := hm.res.frozen 4
    have g5 := hm.res.frozen 5
    have g6 := hm.res.frozen 6
    have g7 := hm.res.frozen 7
    have g8 := hm.res.frozen 8
    have e0 := hm.err.cell 0 (x := .int .i64 0) rfl
    have f0 := hm.err.frozen 0
    clear hm
    go_wp2_with fail
    have HY := HP0.out.fin nt0 (.slice none 0 0) (.slice none 0 0) 4
    dsimp only [nt0] at HY
    have z0 := HY.1.cell 0 (x := .int .i64 0) rfl
    have z1 := HY.1.cell 1 (x := .int .i64 0) rfl
    have z2 := HY.1.cell 2 (x := .int .i64 0) rfl
    have z3 := HY.1.cell 3 (x := .string ⟨#[]⟩) rfl
    have z4 := HY.1.cell 4 (x := .string ⟨#[]⟩) rfl
    have z5 := HY.1.cell 5 (x := .int .i64 0) rfl
    have z6 := HY.1.cell 6 (x := .bool false) rfl
    have z7 := HY.1.cell 7 (x := .slice none 0 0) rfl
    have z8 := HY.1.cell 8 (x := .slice none 0 0) rfl
    have y0 := HY.2.1.cell 0 (x := .int .i64 4) rfl
    have hq := HPB.out
    exact leaveR (v := .tuple #[.agg #[.int .i64 0, .int .i64 0, .int .i64 0, .string ⟨#[]⟩, .string ⟨#[]⟩, .int .i64 0, .bool false, .slice none 0 0, .slice none 0 0], .int .i64 4]) (by simp [results, Tryz.f23, go_sem, z0, z1, z2, z3, z4, z5, z6, z7, z8, y0]) ⟨none, 0, 0, none, 0, 0, by rw [hq.1, hq.2]; rfl, by rw [hq.2]; exact ⟨Rd.nil _, RdV.nil _⟩, HY.2.2⟩
  · have h1i : ¬ (65536 : Int) < (s.size : Int) := by omega
    have HB := hid hbig
    go_upto_region 1 with fail
    generalize (w.alloc (.cells #[.int .i64 0, .int .i64 0, .int .i64 0, .string ⟨#[]⟩, .string ⟨#[]⟩, .int .i64 0, .bool false, .slice none 0 0, .slice none 0 0] 30)).alloc (.cells #[.int .i64 0] 35) = W0 at *
    have HSP := hid (splitX_any s m W0 (by omega) (HM _ HP0.out.bel).out)
    have hsl := splitS_len s
    have HSZ := hid (split_sz16 (s := s) (by omega))
    have HSJ : Hid ((joinB (splitS s)).size ≤ 65536) := by show _ ≤ _; rw [joinB_split]; omega
    have HOK : Hid (okP s = (decide (0 < endI (splitS s)) && (hdB (frP s) && ((grpsP s).all vrB && (decide (prE (noteP s) = 0) && decide (prN (noteP s) = s)))))) := rfl
    have HEI : Hid (endI (splitS s) = fIdx (fun x => decide (x = behB)) (splitS s)) := rfl
    have HFR : Hid (frP s = (splitS s).take (endI (splitS s)).toNat) := rfl
    have HGR : Hid (grpsP s = barsP ((splitS s).drop ((endI (splitS s)).toNat + 1))) := rfl
    have HNP : Hid (noteP s = { hdP (frP s) with vs := (grpsP s).map vrP }) := rfl
    have HNZ := fun h => hid (noteP_sz (s := s) (by omega) h)
    have HFA := fun h => hid (par_fail (s := s) h HB.out)
    have HYE := fun h => hid (par_yes (s := s) h)
    have HRN := hid (rdS_new W0 (splitS s) (by unfold maxLen; omega))
    have HPL : Hid ((splitS s).length ≤ 65537) := by show _ ≤ _; omega
    have hb3 := below_al W0 (.cells ((splitS s).map Value.string).toArray 9)
    have HP3 := hid (HP0.out.below hb3)
    clear hbig hsl HB
    generalize splitS s = ps at *
    go_wp2_with fail
    (with_reducible refine HSP.out.mono ?_)
    rintro e w3 ⟨rfl, rfl⟩
    generalize W0.alloc (.cells (ps.map Value.string).toArray 9) = W1 at *
    have HR4 := hid (HRN.out.below (below_al W1 (.cells #[.slice (some ⟨W0.heap.size, 0, none⟩) ps.length ps.length] 86)))
    have HP4 := hid (HP3.out.below (below_al W1 (.cells #[.slice (some ⟨W0.heap.size, 0, none⟩) ps.length ps.length] 86)))
    have HW4 := hid (row_nw W1 #[.slice (some ⟨W0.heap.size, 0, none⟩) ps.length ps.length] 86 rfl)
    have HLo : Hid (w.heap.size + 2 ≤ W1.heap.size) := HP3.out.err.lt
    clear HSP hb3 HP0 HP3 HRN
    go_upto_region 4 with fail
    generalize W1.alloc (.cells #[.slice (some ⟨W0.heap.size, 0, none⟩) ps.length ps.length] 86) = W4 at *
    generalize W1.heap.size = Br at *
    generalize W0.heap.size = b0 at *
    have HU := hid (until_any 59 (enters_of Tryz.func59 (by kernel_rfl) rfl) (fun x => decide (x = behB)) Br _ ps W4 HW4.out HR4.out (fun x W' _ _ => (parse1_any x W').mono fun e w' h => h))
    go_wp2_with fail
    (with_reducible refine HU.out.mono ?_)
    rintro e w5 hU
    obtain ⟨v1, bb, rfl, w2, hB2, hQ⟩ := hU.uni
    clear HU
    rcases hQ with ⟨rfl, hneg, rfl⟩ | ⟨rfl, k, v2, hk, hr1, hr2, rfl⟩
    · have hok : okP s = false := by rw [HOK.out, decide_eq_false (by rw [HEI.out]; omega)]; rfl
      have HPF := HFA hok
      have HP5 := hid (HP4.out.below hB2)
      clear HOK HEI HFR HGR HNP HNZ HFA HYE HP4 HR4 HW4 hB2 hneg hok
      have hm := HP5.out
      have r0 := hm.res.cell 0 (x := .int .i64 0) rfl
      have r1 := hm.res.cell 1 (x := .int .i64 0) rfl
      have r2 := hm.res.cell 2 (x := .int .i64 0) rfl
      have r3 := hm.res.cell 3 (x := .string ⟨#[]⟩) rfl
      have r4 := hm.res.cell 4 (x := .string ⟨#[]⟩) rfl
      have r5 := hm.res.cell 5 (x := .int .i64 0) rfl
      have r6 := hm.res.cell 6 (x := .bool false) rfl
      have r7 := hm.res.cell 7 (x := .slice none 0 0) rfl
      have r8 := hm.res.cell 8 (x := .slice none 0 0) rfl
      have g0 := hm.res.frozen 0
      have g1 := hm.res.frozen 1
      have g2 := hm.res.frozen 2
      have g3 := hm.res.frozen 3
      have g4 := hm.res.frozen 4
      have g5 := hm.res.frozen 5
      have g6 := hm.res.frozen 6
      have g7 := hm.res.frozen 7
      have g8 := hm.res.frozen 8
      have e0 := hm.err.cell 0 (x := .int .i64 0) rfl
      have f0 := hm.err.frozen 0
      clear hm
      go_wp2_with fail
      have HY := HP5.out.fin nt0 (.slice none 0 0) (.slice none 0 0) 3
      dsimp only [nt0] at HY
      have z0 := HY.1.cell 0 (x := .int .i64 0) rfl
      have z1 := HY.1.cell 1 (x := .int .i64 0) rfl
      have z2 := HY.1.cell 2 (x := .int .i64 0) rfl
      have z3 := HY.1.cell 3 (x := .string ⟨#[]⟩) rfl
      have z4 := HY.1.cell 4 (x := .string ⟨#[]⟩) rfl
      have z5 := HY.1.cell 5 (x := .int .i64 0) rfl
      have z6 := HY.1.cell 6 (x := .bool false) rfl
      have z7 := HY.1.cell 7 (x := .slice none 0 0) rfl
      have z8 := HY.1.cell 8 (x := .slice none 0 0) rfl
      have y0 := HY.2.1.cell 0 (x := .int .i64 3) rfl
      have hq := HPF.out
      exact leaveR (v := .tuple #[.agg #[.int .i64 0, .int .i64 0, .int .i64 0, .string ⟨#[]⟩, .string ⟨#[]⟩, .int .i64 0, .bool false, .slice none 0 0, .slice none 0 0], .int .i64 3]) (by simp [results, Tryz.f23, go_sem, z0, z1, z2, z3, z4, z5, z6, z7, z8, y0]) ⟨none, 0, 0, none, 0, 0, by rw [hq.1, hq.2]; rfl, by rw [hq.2]; exact ⟨Rd.nil _, RdV.nil _⟩, HY.2.2⟩
    · have HK : Hid (fIdx (fun x => decide (x = behB)) ps = (k : Int)) := hk
      have hkl : k < ps.length := by have := fIdx_lt (fun x => decide (x = behB)) ps; omega
      obtain ⟨a1, c1, rfl, _, _, _⟩ := hr1.open
      obtain ⟨a2, c2, rfl, hc2a, hc2b, hcell2⟩ := hr2.open
      have hrow2 := HW4.out.below hB2
      have HP5 := hid ((HP4.out.below hB2).other HLo.out 0 (.slice a2 (ps.drop k).length c2))
      have HW5 := hid (hrow2.set 0 (.slice a2 (ps.drop k).length c2))
      have H1 := hid (rdS_set (y := .slice a2 (ps.drop k).length c2) hr1 (hrow2.cell 0 rfl) (fun s e => by cases e))
      have H2 := hid (rdS_set (y := .slice a2 (ps.drop k).length c2) hr2 (hrow2.cell 0 rfl) (fun s e => by cases e))
      have HC2 : Hid ((ps.drop k).length ≤ c2 ∧ c2 ≤ 9223372036854775807) := ⟨hc2a, hc2b⟩
      clear hrow2 hr1 hr2 hk hB2 HP4 HR4 HW4 hcell2 hc2a hc2b
      generalize w2.setCell ⟨Br, 0, none⟩ (.slice a2 (ps.drop k).length c2) = W5 at *
      have hkt : (ps.take k).length = k := by rw [List.length_take]; omega
      rw [hkt] at H1 ⊢
      clear hkt
      by_cases hk0 : k = 0
      · have hok : okP s = false := by rw [HOK.out, decide_eq_false (by rw [HEI.out, HK.out, hk0]; decide)]; rfl
        have HPF := HFA hok
        have hkb : ((k : Int) == 0) = true := by rw [hk0]; rfl
        clear HOK HEI HFR HGR HNP HNZ HFA HYE hok hk0 H1 H2 HW5
        have hm := HP5.out
        have r0 := hm.res.cell 0 (x := .int .i64 0) rfl
        have r1 := hm.res.cell 1 (x := .int .i64 0) rfl
        have r2 := hm.res.cell 2 (x := .int .i64 0) rfl
        have r3 := hm.res.cell 3 (x := .string ⟨#[]⟩) rfl
        have r4 := hm.res.cell 4 (x := .string ⟨#[]⟩) rfl
        have r5 := hm.res.cell 5 (x := .int .i64 0) rfl
        have r6 := hm.res.cell 6 (x := .bool false) rfl
        have r7 := hm.res.cell 7 (x := .slice none 0 0) rfl
        have r8 := hm.res.cell 8 (x := .slice none 0 0) rfl
        have g0 := hm.res.frozen 0
        have g1 := hm.res.frozen 1
        have g2 := hm.res.frozen 2
        have g3 := hm.res.frozen 3
        have g4 := hm.res.frozen 4
        have g5 := hm.res.frozen 5
        have g6 := hm.res.frozen 6
        have g7 := hm.res.frozen 7
        have g8 := hm.res.frozen 8
        have e0 := hm.err.cell 0 (x := .int .i64 0) rfl
        have f0 := hm.err.frozen 0
        clear hm
        go_wp2_with fail
        have HY := HP5.out.fin nt0 (.slice none 0 0) (.slice none 0 0) 3
        dsimp only [nt0] at HY
        have z0 := HY.1.cell 0 (x := .int .i64 0) rfl
        have z1 := HY.1.cell 1 (x := .int .i64 0) rfl
        have z2 := HY.1.cell 2 (x := .int .i64 0) rfl
        have z3 := HY.1.cell 3 (x := .string ⟨#[]⟩) rfl
        have z4 := HY.1.cell 4 (x := .string ⟨#[]⟩) rfl
        have z5 := HY.1.cell 5 (x := .int .i64 0) rfl
        have z6 := HY.1.cell 6 (x := .bool false) rfl
        have z7 := HY.1.cell 7 (x := .slice none 0 0) rfl
        have z8 := HY.1.cell 8 (x := .slice none 0 0) rfl
        have y0 := HY.2.1.cell 0 (x := .int .i64 3) rfl
        have hq := HPF.out
        exact leaveR (v := .tuple #[.agg #[.int .i64 0, .int .i64 0, .int .i64 0, .string ⟨#[]⟩, .string ⟨#[]⟩, .int .i64 0, .bool false, .slice none 0 0, .slice none 0 0], .int .i64 3]) (by simp [results, Tryz.f23, go_sem, z0, z1, z2, z3, z4, z5, z6, z7, z8, y0]) ⟨none, 0, 0, none, 0, 0, by rw [hq.1, hq.2]; rfl, by rw [hq.2]; exact ⟨Rd.nil _, RdV.nil _⟩, HY.2.2⟩
      · have hkb : ((k : Int) == 0) = false := beq_eq_false_iff_ne.2 (by omega)
        have HFK : Hid (frP s = ps.take k) := by show _ = _; rw [HFR.out, HEI.out, HK.out, Int.toNat_natCast]
        have HGK : Hid (grpsP s = barsP (ps.drop (k + 1))) := by show _ = _; rw [HGR.out, HEI.out, HK.out, Int.toNat_natCast]
        have HO2 : Hid (okP s = (hdB (frP s) && ((grpsP s).all vrB && (decide (prE (noteP s) = 0) && decide (prN (noteP s) = s))))) := by show _ = _; rw [HOK.out, HEI.out, HK.out, decide_eq_true (by omega)]; rfl
        have hne : ps.take k ≠ [] := fun e => by have h := congrArg List.length e; rw [List.length_take, List.length_nil] at h; omega
        obtain ⟨x0, l0, hx0⟩ := List.exists_cons_of_ne_nil hne
        have HF : Hid (Calls Tryz.prog 60 #[.slice a1 k c1] W5 fun r w' => FrQ (ps.take k) W5 r w') := by
          show Calls _ _ _ _ _
          have h1 := H1.out
          rw [hx0] at h1 ⊢
          refine pfront_any x0 l0 m _ W5 (HE _ HP5.out.bel).out (HM _ HP5.out.bel).out h1 (fun z hz => HSZ.out z ?_) ?_ ?_
          · rw [← hx0] at hz; exact List.mem_of_mem_take hz
          · rw [← hx0, List.length_take]; have := HPL.out; omega
          · rw [← hx0]; have := take_join_le ps k; have := HSJ.out; omega
        rw [← HFK.out] at HF
        have H2a := H2
        clear hx0 hne HOK HEI HFR HGR H1 HFK hk0
        go_wp2_with fail
        (with_reducible refine HF.out.mono ?_)
        rintro e w6 ⟨y, au, nu, cu, rfl, hy, hB6⟩
        have HP6 := hid (HP5.out.below hB6)
        have HW6 := hid (HW5.out.below hB6)
        have H26 := hid (H2.out.below hB6)
        have HY6 := hid hy
        clear hB6 hy HF HP5 HW5 H2 H2a
        unfold Nt.cells at HY6 ⊢
        have hb7 := below_al w6 (.cells #[.int .i64 y.fr, .int .i64 y.to_, .int .i64 y.pl, .string y.lf, .string y.ll, .int .i64 y.ln, .bool y.pos, .slice au nu cu, .slice none 0 0] 30)
        have HP7 := hid (HP6.out.below hb7)
        have HW7 := hid (HW6.out.below hb7)
        have H27 := hid (H26.out.below hb7)
        have HN7 := hid (row_nw w6 #[.int .i64 y.fr, .int .i64 y.to_, .int .i64 y.pl, .string y.lf, .string y.ll, .int .i64 y.ln, .bool y.pos, .slice au nu cu, .slice none 0 0] 30 rfl)
        have HY7 : Hid (hdB (frP s) = true → y = hdP (frP s) ∧ OwS (w6.alloc (.cells #[.int .i64 y.fr, .int .i64 y.to_, .int .i64 y.pl, .string y.lf, .string y.ll, .int .i64 y.ln, .bool y.pos, .slice au nu cu, .slice none 0 0] 30)) (.slice au nu cu) y.sup) := fun h => ⟨(HY6.out h).1, (HY6.out h).2.below hb7⟩
        have HBL : Hid (0 < (ps.drop (k + 1)).length → ∀ b o, a2 = some ⟨b, o, none⟩ → b < w6.heap.size) := by
          intro h b o e
          obtain ⟨_, _, e0, _, _, hcell⟩ := Rd.open H26.out
          obtain ⟨_, b', o', _, e2, hc⟩ := hcell 0 (by rw [List.length_drop] at h ⊢; omega)
          cases e0
          rw [e] at e2
          cases e2
          exact World.block_lt_of_cell? _ _ hc
        have HA2 : Hid (∃ b o, a2 = some ⟨b, o, none⟩) := by
          obtain ⟨_, _, e0, _, _, hcell⟩ := Rd.open H26.out
          obtain ⟨_, b', o', _, e, _⟩ := hcell 0 (by rw [List.length_drop]; omega)
          cases e0
          exact ⟨b', o', e⟩
        have HBn : Hid (w.heap.size + 2 ≤ w6.heap.size) := HP6.out.err.lt
        clear HP6 HW6 H26 HY6 hb7
        cases hhd : hdB (frP s) with
        | false =>
          have hok : okP s = false := by rw [HO2.out, hhd]; rfl
          have HPF := HFA hok
          clear HO2 HGK HNP HNZ HFA HYE hok HY7 HBL HA2 H27 HW7 HN7 hhd
          go_upto_region 8 with fail
          generalize w6.alloc (.cells #[.int .i64 y.fr, .int .i64 y.to_, .int .i64 y.pl, .string y.lf, .string y.ll, .int .i64 y.ln, .bool y.pos, .slice au nu cu, .slice none 0 0] 30) = W7 at *
          have hm := HP7.out
          have r0 := hm.res.cell 0 (x := .int .i64 0) rfl
          have r1 := hm.res.cell 1 (x := .int .i64 0) rfl
          have r2 := hm.res.cell 2 (x := .int .i64 0) rfl
          have r3 := hm.res.cell 3 (x := .string ⟨#[]⟩) rfl
          have r4 := hm.res.cell 4 (x := .string ⟨#[]⟩) rfl
          have r5 := hm.res.cell 5 (x := .int .i64 0) rfl
          have r6 := hm.res.cell 6 (x := .bool false) rfl
          have r7 := hm.res.cell 7 (x := .slice none 0 0) rfl
          have r8 := hm.res.cell 8 (x := .slice none 0 0) rfl
          have g0 := hm.res.frozen 0
          have g1 := hm.res.frozen 1
          have g2 := hm.res.frozen 2
          have g3 := hm.res.frozen 3
          have g4 := hm.res.frozen 4
          have g5 := hm.res.frozen 5
          have g6 := hm.res.frozen 6
          have g7 := hm.res.frozen 7
          have g8 := hm.res.frozen 8
          have e0 := hm.err.cell 0 (x := .int .i64 0) rfl
          have f0 := hm.err.frozen 0
          clear hm
          go_wp2_with fail
          have HY := HP7.out.fin nt0 (.slice none 0 0) (.slice none 0 0) 3
          dsimp only [nt0] at HY
          have z0 := HY.1.cell 0 (x := .int .i64 0) rfl
          have z1 := HY.1.cell 1 (x := .int .i64 0) rfl
          have z2 := HY.1.cell 2 (x := .int .i64 0) rfl
          have z3 := HY.1.cell 3 (x := .string ⟨#[]⟩) rfl
          have z4 := HY.1.cell 4 (x := .string ⟨#[]⟩) rfl
          have z5 := HY.1.cell 5 (x := .int .i64 0) rfl
          have z6 := HY.1.cell 6 (x := .bool false) rfl
          have z7 := HY.1.cell 7 (x := .slice none 0 0) rfl
          have z8 := HY.1.cell 8 (x := .slice none 0 0) rfl
          have y0 := HY.2.1.cell 0 (x := .int .i64 3) rfl
          have hq := HPF.out
          exact leaveR (v := .tuple #[.agg #[.int .i64 0, .int .i64 0, .int .i64 0, .string ⟨#[]⟩, .string ⟨#[]⟩, .int .i64 0, .bool false, .slice none 0 0, .slice none 0 0], .int .i64 3]) (by simp [results, Tryz.f23, go_sem, z0, z1, z2, z3, z4, z5, z6, z7, z8, y0]) ⟨none, 0, 0, none, 0, 0, by rw [hq.1, hq.2]; rfl, by rw [hq.2]; exact ⟨Rd.nil _, RdV.nil _⟩, HY.2.2⟩
        | true =>
          have HO3 : Hid (okP s = ((grpsP s).all vrB && (decide (prE (noteP s) = 0) && decide (prN (noteP s) = s)))) := by show _ = _; rw [HO2.out, hhd]; rfl
          have hyy := HY7.out hhd
          have HNS := HNZ hhd
          obtain ⟨hy1, hy2⟩ := hyy
          subst hy1
          have HU7 := hid hy2
          clear HO2 HNZ HY7 hhd hy2
          go_upto_region 8 with fail
          have hsz7 : w6.heap.size < (w6.alloc (.cells #[.int .i64 (hdP (frP s)).fr, .int .i64 (hdP (frP s)).to_, .int .i64 (hdP (frP s)).pl, .string (hdP (frP s)).lf, .string (hdP (frP s)).ll, .int .i64 (hdP (frP s)).ln, .bool (hdP (frP s)).pos, .slice au nu cu, .slice none 0 0] 30)).heap.size := by simp
          generalize w6.alloc (.cells #[.int .i64 (hdP (frP s)).fr, .int .i64 (hdP (frP s)).to_, .int .i64 (hdP (frP s)).pl, .string (hdP (frP s)).lf, .string (hdP (frP s)).ll, .int .i64 (hdP (frP s)).ln, .bool (hdP (frP s)).pos, .slice au nu cu, .slice none 0 0] 30) = W7 at *
          generalize w6.heap.size = Bn at *
          go_upto_region 10 with fail
          go_cut [48] from 43 to 48 (fun fv wx => ∃ (A : Option Addr) (c0 b off Bv : Nat), fv = .func (.func 101) #[] #[.pointer (some ⟨Bv, 0, none⟩)] ∧ Hid (Row wx Bv #[.slice A (ps.drop (k + 1)).length c0] 23) ∧ Hid (0 < (ps.drop (k + 1)).length → A = some ⟨b, off, none⟩ ∧ b < Bn) ∧ Hid ((ps.drop (k + 1)).length ≤ c0 ∧ c0 ≤ 9223372036854775807) ∧ Hid (RdS wx (.slice A (ps.drop (k + 1)).length c0) (ps.drop (k + 1))) ∧
            Hid (PaS w wx) ∧ Hid (Row wx Bn #[.int .i64 (hdP (frP s)).fr, .int .i64 (hdP (frP s)).to_, .int .i64 (hdP (frP s)).pl, .string (hdP (frP s)).lf, .string (hdP (frP s)).ll, .int .i64 (hdP (frP s)).ln, .bool (hdP (frP s)).pos, .slice au nu cu, .slice none 0 0] 30) ∧ Hid (OwS wx (.slice au nu cu) (hdP (frP s)).sup) ∧ Hid (Bn < Bv ∧ Bv < wx.heap.size))
          case first =>
            obtain ⟨b2, o2, rfl⟩ := HA2.out
            have cb := HW7.out.cell 0 (x := .slice (some ⟨b2, o2, none⟩) (ps.drop k).length c2) rfl
            have hnd : (ps.drop k).length = ps.length - k := List.length_drop ..
            have hnd2 : (ps.drop (k + 1)).length = (ps.drop k).length - 1 := by rw [List.length_drop, List.length_drop]; omega
            have hdd : (ps.drop k).drop 1 = ps.drop (k + 1) := by rw [List.drop_drop]
            have q1 : (1 : Int) ≤ ((ps.drop k).length : Int) := by omega
            have q2 : 1 ≤ (ps.drop k).length := by omega
            have q3 : 1 ≤ c2 := by have := HC2.out.1; omega
            have q4 : (1 : Int) ≤ (c2 : Int) := by omega
            have HD : Hid ((ps.drop (k + 1)).length = (ps.drop k).length - 1) := hnd2
            have HDD : Hid ((ps.drop k).drop 1 = ps.drop (k + 1)) := hdd
            clear hnd hnd2 hdd
            generalize (ps.drop k).length = nd at *
            by_cases hc : c2 = 1
            · subst hc
              have hq : nd = 1 := by have := HC2.out.1; omega
              have HZ : Hid ((ps.drop (k + 1)).length = 0) := by show _ = _; rw [HD.out, hq]
              subst hq
              have HNL : Hid (ps.drop (k + 1) = []) := List.eq_nil_of_length_eq_zero HZ.out
              go_wp2_with fail
              (with_reducible refine (variants_any _ _ _ _).mono ?_)
              rintro e w8 ⟨rfl, rfl⟩
              go_wp2_with fail
              go_meet
              have hal := below_al W7 (.cells #[.slice (some ⟨b2, o2, none⟩) 0 0] 23)
              refine ⟨some ⟨b2, o2, none⟩, 0, b2, o2, W7.heap.size, rfl, ?_, ?_, ?_, ?_, HP7.out.below hal, HN7.out.below hal, HU7.out.below hal, ?_⟩
              · rw [HZ.out]; exact row_nw _ _ _ rfl
              · intro h; rw [HZ.out] at h; cases h
              · rw [HZ.out]; exact ⟨Nat.le_refl _, by omega⟩
              · rw [HNL.out]
                exact ⟨_, 0, rfl, Nat.le_refl _, by unfold maxLen; omega, fun i x hx => by simp at hx⟩
              · exact ⟨HN7.out.lt, by simp⟩
            · go_wp2_with fail
              (with_reducible refine (variants_any _ _ _ _).mono ?_)
              rintro e w8 ⟨rfl, rfl⟩
              go_wp2_with fail
              go_meet
              have hal := below_al W7 (.cells #[.slice (some ⟨b2, o2 + 1, none⟩) (nd - 1) (c2 - 1)] 23)
              refine ⟨some ⟨b2, o2 + 1, none⟩, c2 - 1, b2, o2 + 1, W7.heap.size, rfl, ?_, ?_, ?_, ?_, HP7.out.below hal, HN7.out.below hal, HU7.out.below hal, ?_⟩
              · rw [HD.out]; exact row_nw _ _ _ rfl
              · intro h; exact ⟨rfl, HBL.out h b2 o2 rfl⟩
              · have := HC2.out; have := HD.out; exact ⟨by omega, by omega⟩
              · rw [HD.out, ← HDD.out]
                exact (H27.out.drop 1 (by have := HD.out; have := List.length_drop (l := ps) (i := k); omega)).below hal
              · exact ⟨HN7.out.lt, by simp⟩
          case rest =>
            obtain ⟨A, c0, b, off, Bv, rfl, HVb, HVa, HVc, HVr, HPx, HNx, HUx, HVn⟩ := hcut
            clear HP7 HW7 H27 HN7 HU7 HBL HA2 HC2 hsz7
            have HWL : Hid ((ps.drop (k + 1)).length ≤ 1048576) := by show _ ≤ _; rw [List.length_drop]; have := HPL.out; omega
            have HWJ : Hid ((joinB (ps.drop (k + 1))).size ≤ 65536) := by show _ ≤ _; have := drop_join_le ps (k + 1); have := HSJ.out; omega
            clear HSJ HSZ HPL
            generalize ps.drop (k + 1) = ws at *
            generalize hdP (frP s) = y at *
            have hI0 : PaI w wc.heap.size Bv Bn ws A c0 y (.slice au nu cu) (.slice none 0 0) [] wc := ⟨HPx.out, ⟨_, HVb.out⟩, HNx.out, HUx.out, World.ownsRow_nil _ _ _ _, (fun p h => by cases h), HVr.out, Nat.le_refl _⟩
            have hx1 : Bn < Bv := HVn.out.1
            have hx2 : Bv < wc.heap.size := HVn.out.2
            have hx3 : w.heap.size + 2 ≤ Bn := HBn.out
            have HAB : Hid (0 < ws.length → ∀ b' o', A = some ⟨b', o', none⟩ → b' ≠ Bv ∧ b' ≠ Bn ∧ b' < wc.heap.size) := fun h b' o' e => by
              obtain ⟨e2, h2⟩ := HVa.out h
              rw [e2] at e
              cases e
              exact ⟨by omega, by omega, by omega⟩
            go_wp2_with fail
            refine (wpIn_wide (n := 9)).1 ?_
            refine wpIn_rangeFunc_boxS rfl (by omega) (gf := 101) (lb := #[.pointer (some ⟨Bv, 0, none⟩)]) rfl trivial (enters_of Tryz.func101 (by kernel_rfl) rfl)
              (encs := fun x : Gp ws b off => #[x.v]) (Kp := KpX wc.heap.size Bn Bn) (S := fun xs => xs.map Gp.l = barsP ws) (Sp := fun pre => ∃ r, pre.map Gp.l ++ r = barsP ws) (N := ws.length + 1) (Bs := Bv)
              ?hseq hx2 (fun h k => h.tr k) (KpX.put (Nat.le_refl _)) (fun _ => rfl)
              (fun pre W => ∃ (phs : List VrV) (asv : Option Addr) (csv : Nat), PaI w wc.heap.size Bv Bn ws A c0 y (.slice au nu cu) (.slice asv phs.length csv) phs W ∧ phs.map (·.1) = pre.map (fun g => vrP g.l) ∧ (∀ g ∈ pre, vrB g.l = true))
              (fun c pre W => c = .ret ∧ PaX w W ∧ ∃ g ∈ pre, vrB g.l = false)
              ?hI ?hIx ?hIs ⟨[], none, 0, hI0, rfl, (fun g h => by cases h)⟩ ?a1 (fun _ _ _ => True) (fun _ _ _ _ _ _ _ _ _ => trivial) ?assign ?body ?done ?stop
            case hI =>
              rintro pre W W' row ⟨phs, asv, csv, h1, h2, h3⟩ hg hr
              exact ⟨phs, asv, csv, h1.grown hg (fun r e => ⟨by have := (hr r e).1; omega, (hr r e).2⟩), h2, h3⟩
            case hIx =>
              rintro c pre W W' row ⟨h1, h2, h3⟩ hg hr
              exact ⟨h1, h2.grown hg (fun r e => ⟨by have := (hr r e).1; omega, (hr r e).2⟩), h3⟩
            case hIs =>
              rintro pre W v ⟨phs, asv, csv, h1, h2, h3⟩
              exact ⟨phs, asv, csv, h1.setB (by omega) (by omega) (fun h b' o' e => (HAB.out h b' o' e).1) v, h2, h3⟩
            case hseq =>
              intro yl J Jx W' hW' hJ hJS hY h0
              have hp : ∀ h : 0 < ws.length, b ≠ Bv ∧ b ≠ Bn ∧ b < wc.heap.size := fun h => HAB.out h b off (HVa.out h).1
              exact vgo_in (9 - 1) (by omega) ws A b off c0 Bv (fun h => (HVa.out h).1) HVc.out.1 HVc.out.2 HWL.out wc.heap.size Bn hx2 (fun h => (hp h).2.2) (by omega) (fun h => (hp h).2.1) (fun h => (hp h).1) yl J Jx W' hJ hJS hY (Row.below HVb.out hW') (HVr.out.below hW') h0
            case assign =>
              intro yl pre x W' K hi hK
              have hsz : wc.heap.size ≤ W'.heap.size := by obtain ⟨_, _, _, h, _⟩ := hi; exact h.siz
              have HK := hid (fun q : Nat => hK q W' (KeepsFrom.refl _ _) (kpX_below (Below.refl _ _) hsz) hi trivial)
              clear hK hi
              gi_wp2
              obtain ⟨q, _⟩ : ∃ q : Nat, q = 0 := ⟨_, rfl⟩
              exact HK.out q
            case body =>
              rintro yl pre x q W' ⟨phs, asv, csv, hI, hph, hall⟩ _ hpl
              have HPH := hid hph
              have HALL := hid hall
              have HI := hid hI
              have HPN : Hid (phs.length = pre.length) := by show _ = _; have := congrArg List.length hph; simpa using this
              have hxr := x.rd hI.rd (fun h => (HVa.out h).1)
              have HXL : Hid (x.l.length ≤ 1048576) := by show _ ≤ _; unfold Gp.l; rw [List.length_take, List.length_drop]; have := HWL.out; omega
              have HXJ : Hid ((joinB x.l).size ≤ 1048576) := by show _ ≤ _; have := sub_join_le ws x.i x.n; have := HWJ.out; unfold Gp.l; omega
              have HVV := hid (variant_any W'.heap.size x.v x.l m W' (W'.alloc (.cells #[x.v] 86)) (HE _ hI.ps.bel).out (HM _ hI.ps.bel).out (below_al _ _) (Nat.le_refl _) (row_nw _ _ _ rfl) (hxr.below (below_al _ _)) HXL.out HXJ.out)
              have hba := below_al W' (.cells #[x.v] 86)
              clear hph hall hxr hI hI0
              unfold Gp.v at HVV hba ⊢
              gi_wp2_with fail
              refine ⟨trivial, ?_⟩
              refine (CallsIn.inRound yl (callsIn_wide.2 HVV.out)).mono ?_
              rintro e w5 ⟨bu, mu, du, bg, mg, dg, rfl, hv, hg⟩
              have hb5 : Below W'.heap.size W' w5 := hba.grown hg hba.size (fun k e => by cases e; exact Nat.le_refl _)
              have hal6 := below_al w5 (.cells #[.slice bu mu du, .slice bg mg dg] 63)
              have HB6 := hid (below_tr hb5 hal6)
              have HI6 := hid (HI.out.below HB6.out)
              have HV6 : Hid (vrB x.l = true → OwS (w5.alloc (.cells #[.slice bu mu du, .slice bg mg dg] 63)) (.slice bu mu du) (vrP x.l).ws ∧ OwS (w5.alloc (.cells #[.slice bu mu du, .slice bg mg dg] 63)) (.slice bg mg dg) (vrP x.l).sg) := fun h => ⟨(hv h).1.below hal6, (hv h).2.below hal6⟩
              have HVL := hid (row_nw w5 #[.slice bu mu du, .slice bg mg dg] 63 rfl)
              have hszI := HI.out.siz
              clear hba hg hv hb5 hal6 HVV HI
              gi_upto_region 14 with fail
              generalize w5.alloc (.cells #[.slice bu mu du, .slice bg mg dg] 63) = W6 at *
              generalize w5.heap.size = Nv at *
              cases hvb : vrB x.l with
              | false =>
                have HVB := hid hvb
                have hm := HI6.out.ps
                have r0 := hm.res.cell 0 (x := .int .i64 0) rfl
                have r1 := hm.res.cell 1 (x := .int .i64 0) rfl
                have r2 := hm.res.cell 2 (x := .int .i64 0) rfl
                have r3 := hm.res.cell 3 (x := .string ⟨#[]⟩) rfl
                have r4 := hm.res.cell 4 (x := .string ⟨#[]⟩) rfl
                have r5 := hm.res.cell 5 (x := .int .i64 0) rfl
                have r6 := hm.res.cell 6 (x := .bool false) rfl
                have r7 := hm.res.cell 7 (x := .slice none 0 0) rfl
                have r8 := hm.res.cell 8 (x := .slice none 0 0) rfl
                have g0 := hm.res.frozen 0
                have g1 := hm.res.frozen 1
                have g2 := hm.res.frozen 2
                have g3 := hm.res.frozen 3
                have g4 := hm.res.frozen 4
                have g5 := hm.res.frozen 5
                have g6 := hm.res.frozen 6
                have g7 := hm.res.frozen 7
                have g8 := hm.res.frozen 8
                have e0 := hm.err.cell 0 (x := .int .i64 0) rfl
                have f0 := hm.err.frozen 0
                clear hm hvb
                gi_wp2
                have HY := HI6.out.ps.fin nt0 (.slice none 0 0) (.slice none 0 0) 3
                dsimp only [nt0] at HY
                refine ⟨?_, rfl, ⟨HY.1, HY.2.1, HY.2.2⟩, x, List.mem_append_right _ (List.mem_singleton.2 rfl), HVB.out⟩
                have k0 := keepsFrom_below (n := wc.heap.size) HB6.out
                have ks : ∀ (V : World) (B i : Nat) (v : Value), B < wc.heap.size → KeepsFrom wc.heap.size W' V → KeepsFrom wc.heap.size W' (V.setCell ⟨B, i, none⟩ v) := fun V B i v hB h => ⟨by simpa [World.setCell] using h.size, fun k o hk ho hc => by
                  rw [Below.heap_setCell _ _ _ _ (by simp; omega)]; exact h.same k o hk ho hc⟩
                exact ks _ _ _ _ (by omega) (ks _ _ _ _ (by omega) (ks _ _ _ _ (by omega) (ks _ _ _ _ (by omega) (ks _ _ _ _ (by omega) (ks _ _ _ _ (by omega) (ks _ _ _ _ (by omega) (ks _ _ _ _ (by omega) (ks _ _ _ _ (by omega) (ks _ _ _ _ (by omega) k0)))))))))
              | true =>
                have HVB := hid hvb
                have hV := HV6.out hvb
                clear HV6 hvb
                have c8 := HI6.out.nt.cell 8 (x := .slice asv phs.length csv) rfl
                have v0 := HVL.out.cell 0 (x := .slice bu mu du) rfl
                have v1 := HVL.out.cell 1 (x := .slice bg mg dg) rfl
                have hown := HI6.out.own
                have hn0 := HI6.out.siz
                have HWL2 : Hid (phs.length ≤ 1048577) := by show _ ≤ _; have := HWL.out; have := HPN.out; omega
                have hkk := HWL2.out
                have HH1 := hid hV.1
                have HH2 := hid hV.2
                clear hV
                gi_wp2_with (gi_at_builtin; go_loud (refine wpListIn_ap2 rfl _ _ 24 rfl wc.heap.size 63 Tryz.underlying24 infoVar rfl (by decide) (by decide) (.slice asv phs.length csv) phs.length (vrCs phs) rfl hown [.slice bu mu du, .slice bg mg dg] rfl (by simp [Value.oneCell']) rfl (by simp) (by omega) hn0 ?_; intro g1 cap1 w9 hown' hb1 hgr hat _; have HP := hid (HI6.out.push (vrP x.l, .slice bu mu du, .slice bg mg dg) HH1.out HH2.out (by omega) (by omega) hx2 (by omega) (fun h b' o' e => ⟨(HAB.out h b' o' e).2.1, (HAB.out h b' o' e).2.2⟩) hown' hb1 hgr); have hr9 : Row w9 Bn (y.cells (.slice au nu cu) (.slice asv phs.length csv)) 30 := (hb1.block _ (by omega)).trans HI6.out.nt; have d8 := hr9.cell 8 (x := .slice asv phs.length csv) rfl; have f8 := hr9.frozen 8))
                obtain ⟨k1, k2, hI9⟩ := HP.out
                refine ⟨(keepsFrom_below HB6.out).trans k1, (kpX_below HB6.out hszI).tr k2, phs ++ [(vrP x.l, .slice bu mu du, .slice bg mg dg)], some ⟨g1, 0, none⟩, cap1, ?_, ?_, ?_⟩
                · rw [List.length_append]; exact hI9
                · rw [List.map_append, List.map_append, HPH.out]; rfl
                · intro g hgm
                  rcases List.mem_append.1 hgm with h | h
                  · exact HALL.out g h
                  · rw [List.mem_singleton.1 h]; exact HVB.out
            case done =>
              rintro D xs W' hD hS ⟨phs, asv, csv, hI, hph, hall⟩ hK
              have hvs : phs.map (·.1) = (grpsP s).map vrP := by rw [hph, HGK.out, ← hS, List.map_map]; rfl
              have hnp : noteP s = { y with vs := (grpsP s).map vrP } := HNP.out
              have hON : OwN W' (.slice au nu cu) (.slice asv phs.length csv) (noteP s) := by rw [hnp]; exact hI.ownN rfl hvs
              have HO4 : Hid (okP s = (decide (prE (noteP s) = 0) && decide (prN (noteP s) = s))) := by
                show _ = _
                rw [HO3.out, HGK.out, ← hS, List.all_eq_true.2 (fun g hg => by
                  obtain ⟨z, hz, rfl⟩ := List.mem_map.1 hg
                  exact hall z hz)]
                rfl
              have hce : (noteP s).cells (.slice au nu cu) (.slice asv phs.length csv) = #[.int .i64 y.fr, .int .i64 y.to_, .int .i64 y.pl, .string y.lf, .string y.ll, .int .i64 y.ln, .bool y.pos, .slice au nu cu, .slice asv phs.length csv] := by rw [hnp]; rfl
              have HPR := hid (pprt_any (noteP s) (.slice au nu cu) (.slice asv phs.length csv) W' (HE _ hI.ps.bel).out hON.rd HNS.out)
              rw [hce] at HPR
              have HCE := hid hce
              have HON := hid hON
              have HI := hid hI
              have HKW := hid hK
              have HNPY := hid hnp
              have hDlt : D < W'.heap.size := (Array.getElem?_eq_some_iff.1 hK).1
              have b0 := hI.nt.cell 0 (x := .int .i64 y.fr) rfl
              have b1 := hI.nt.cell 1 (x := .int .i64 y.to_) rfl
              have b2 := hI.nt.cell 2 (x := .int .i64 y.pl) rfl
              have b3 := hI.nt.cell 3 (x := .string y.lf) rfl
              have b4 := hI.nt.cell 4 (x := .string y.ll) rfl
              have b5 := hI.nt.cell 5 (x := .int .i64 y.ln) rfl
              have b6 := hI.nt.cell 6 (x := .bool y.pos) rfl
              have b7 := hI.nt.cell 7 (x := .slice au nu cu) rfl
              have b8 := hI.nt.cell 8 (x := .slice asv phs.length csv) rfl
              clear hvs hnp hON hce hI hph hall hK HNP HO3 HNS HGK hS hI0 HAB
              generalize phs.length = np at *
              go_wp2_with fail
              (with_reducible refine HPR.out.mono ?_)
              rintro e w9 ⟨rfl, hB9⟩
              have HP9 := hid (HI.out.ps.below hB9)
              have HR9 := hid (HI.out.nt.below hB9)
              have HON9 := hid (HON.out.below hB9)
              have HKD : Hid (w9.heap[D]? = some (.deferred (some []))) := (hB9.block D hDlt).trans HKW.out
              have HK9 : ∀ {V : World}, V.heap[D]? = some (.deferred (some [])) → ∀ {v0 v1 v2 v3 v4 v5 v6 v7 v8 v9 : Value}, (((((((((((V.setCell ⟨w.heap.size, 0, none⟩ v0).setCell ⟨w.heap.size, 1, none⟩ v1).setCell ⟨w.heap.size, 2, none⟩ v2).setCell ⟨w.heap.size, 3, none⟩ v3).setCell ⟨w.heap.size, 4, none⟩ v4).setCell ⟨w.heap.size, 5, none⟩ v5).setCell ⟨w.heap.size, 6, none⟩ v6).setCell ⟨w.heap.size, 7, none⟩ v7).setCell ⟨w.heap.size, 8, none⟩ v8).setCell ⟨w.heap.size + 1, 0, none⟩ v9)).heap[D]? = some (.deferred (some [])) := by
                intro V hV v0 v1 v2 v3 v4 v5 v6 v7 v8 v9
                have ks : ∀ (V : World) (B i : Nat) (v : Value), B ≠ D → V.heap[D]? = some (.deferred (some [])) → (V.setCell ⟨B, i, none⟩ v).heap[D]? = some (.deferred (some [])) := fun V B i v hB h => by
                  rw [Below.heap_setCell _ _ _ _ (by simpa using hB.symm)]; exact h
                exact ks _ _ _ _ (by omega) (ks _ _ _ _ (by omega) (ks _ _ _ _ (by omega) (ks _ _ _ _ (by omega) (ks _ _ _ _ (by omega) (ks _ _ _ _ (by omega) (ks _ _ _ _ (by omega) (ks _ _ _ _ (by omega) (ks _ _ _ _ (by omega) (ks _ _ _ _ (by omega) hV)))))))))
              clear HPR HI HON HKW hB9 b0 b1 b2 b3 b4 b5 b6 b7 b8
              have hpS : Hid (prS (noteP s) = if prE (noteP s) = 0 then prN (noteP s) else ⟨#[]⟩) := rfl
              by_cases hE0 : prE (noteP s) = 0
              · have hS2 : prS (noteP s) = prN (noteP s) := by rw [hpS.out, if_pos hE0]
                rw [hS2, hE0]
                have hbq := ba_beq (prN (noteP s)) s
                by_cases hPN : prN (noteP s) = s
                · have hok : okP s = true := by rw [HO4.out, hE0, hPN]; simp
                  have hq := (HYE hok).out
                  have HQ := hid hq
                  have HPN := hid hPN
                  rw [decide_eq_true hPN] at hbq
                  clear hok hq HO4 HFA HYE hS2 hE0 hpS hPN
                  generalize prN (noteP s) = pn at *
                  have hm := HP9.out
                  have hr := HR9.out
                  have r0 := hm.res.cell 0 (x := .int .i64 0) rfl
                  have r1 := hm.res.cell 1 (x := .int .i64 0) rfl
                  have r2 := hm.res.cell 2 (x := .int .i64 0) rfl
                  have r3 := hm.res.cell 3 (x := .string ⟨#[]⟩) rfl
                  have r4 := hm.res.cell 4 (x := .string ⟨#[]⟩) rfl
                  have r5 := hm.res.cell 5 (x := .int .i64 0) rfl
                  have r6 := hm.res.cell 6 (x := .bool false) rfl
                  have r7 := hm.res.cell 7 (x := .slice none 0 0) rfl
                  have r8 := hm.res.cell 8 (x := .slice none 0 0) rfl
                  have g0 := hm.res.frozen 0
                  have g1 := hm.res.frozen 1
                  have g2 := hm.res.frozen 2
                  have g3 := hm.res.frozen 3
                  have g4 := hm.res.frozen 4
                  have g5 := hm.res.frozen 5
                  have g6 := hm.res.frozen 6
                  have g7 := hm.res.frozen 7
                  have g8 := hm.res.frozen 8
                  have e0 := hm.err.cell 0 (x := .int .i64 0) rfl
                  have f0 := hm.err.frozen 0
                  have b0 := hr.cell 0 (x := .int .i64 y.fr) rfl
                  have b1 := hr.cell 1 (x := .int .i64 y.to_) rfl
                  have b2 := hr.cell 2 (x := .int .i64 y.pl) rfl
                  have b3 := hr.cell 3 (x := .string y.lf) rfl
                  have b4 := hr.cell 4 (x := .string y.ll) rfl
                  have b5 := hr.cell 5 (x := .int .i64 y.ln) rfl
                  have b6 := hr.cell 6 (x := .bool y.pos) rfl
                  have b7 := hr.cell 7 (x := .slice au nu cu) rfl
                  have b8 := hr.cell 8 (x := .slice asv np csv) rfl
                  clear hm hr
                  go_wp2_with fail
                  have HY := HP9.out.fin { y with vs := (grpsP s).map vrP } (.slice au nu cu) (.slice asv np csv) 0
                  dsimp only at HY
                  have hown := (show OwN w9 (.slice au nu cu) (.slice asv np csv) { y with vs := (grpsP s).map vrP } by rw [← HNPY.out]; exact HON9.out).set9e HP9.out 0
                  have hK9 := HK9 (V := w9) HKD.out (v0 := .int .i64 y.fr) (v1 := .int .i64 y.to_) (v2 := .int .i64 y.pl) (v3 := .string y.lf) (v4 := .string y.ll) (v5 := .int .i64 y.ln) (v6 := .bool y.pos) (v7 := .slice au nu cu) (v8 := .slice asv np csv) (v9 := .int .i64 0)
                  refine ⟨by simp, .inl ⟨_, _, rfl, run_takeDeferred (by exact hK9), ?_⟩⟩
                  have hrp : ∀ (X : World), X.heap[D]? = some (.deferred (some [])) → ∀ r, some D = some r → w.heap.size ≤ r ∧ ∃ o : Obj, X.heap[r]? = some o ∧ o.isCells = false := fun X hX r e => by cases e; exact ⟨by omega, _, hX, rfl⟩
                  have q1 := HY.1.grown (grownBy_putObj' _ D (.deferred none)) (fun r e => (hrp _ hK9 r e).2)
                  have q2 := HY.2.1.grown (grownBy_putObj' _ D (.deferred none)) (fun r e => (hrp _ hK9 r e).2)
                  have q3 := HY.2.2.grown (grownBy_putObj' _ D (.deferred none)) HY.2.2.size (fun k e => (hrp _ hK9 k e).1)
                  have z0 := q1.cell 0 (x := .int .i64 y.fr) rfl
                  have z1 := q1.cell 1 (x := .int .i64 y.to_) rfl
                  have z2 := q1.cell 2 (x := .int .i64 y.pl) rfl
                  have z3 := q1.cell 3 (x := .string y.lf) rfl
                  have z4 := q1.cell 4 (x := .string y.ll) rfl
                  have z5 := q1.cell 5 (x := .int .i64 y.ln) rfl
                  have z6 := q1.cell 6 (x := .bool y.pos) rfl
                  have z7 := q1.cell 7 (x := .slice au nu cu) rfl
                  have z8 := q1.cell 8 (x := .slice asv np csv) rfl
                  have y0 := q2.cell 0 (x := .int .i64 0) rfl
                  exact leaveR (v := .tuple #[.agg #[.int .i64 y.fr, .int .i64 y.to_, .int .i64 y.pl, .string y.lf, .string y.ll, .int .i64 y.ln, .bool y.pos, .slice au nu cu, .slice asv np csv], .int .i64 0]) (by simp [results, Tryz.f23, go_sem, z0, z1, z2, z3, z4, z5, z6, z7, z8, y0]) ⟨au, nu, cu, asv, np, csv, by rw [HQ.out.1, HQ.out.2, HCE.out], by rw [HQ.out.2, HNPY.out]; exact (hown.grownC (grownBy_putObj' _ D (.deferred none)) (fun r e => (hrp _ hK9 r e).2)).rd, q3⟩
                · have hok : okP s = false := by rw [HO4.out, hE0, decide_eq_false hPN]; rfl
                  have HPF := HFA hok
                  rw [decide_eq_false hPN] at hbq
                  have hbq2 : ¬ (prN (noteP s)).toList = s.toList := fun e => by rw [e] at hbq; simp at hbq
                  clear hok HO4 HFA HYE hS2 hE0 hpS hPN
                  generalize prN (noteP s) = pn at *
                  have hm := HP9.out
                  have r0 := hm.res.cell 0 (x := .int .i64 0) rfl
                  have r1 := hm.res.cell 1 (x := .int .i64 0) rfl
                  have r2 := hm.res.cell 2 (x := .int .i64 0) rfl
                  have r3 := hm.res.cell 3 (x := .string ⟨#[]⟩) rfl
                  have r4 := hm.res.cell 4 (x := .string ⟨#[]⟩) rfl
                  have r5 := hm.res.cell 5 (x := .int .i64 0) rfl
                  have r6 := hm.res.cell 6 (x := .bool false) rfl
                  have r7 := hm.res.cell 7 (x := .slice none 0 0) rfl
                  have r8 := hm.res.cell 8 (x := .slice none 0 0) rfl
                  have g0 := hm.res.frozen 0
                  have g1 := hm.res.frozen 1
                  have g2 := hm.res.frozen 2
                  have g3 := hm.res.frozen 3
                  have g4 := hm.res.frozen 4
                  have g5 := hm.res.frozen 5
                  have g6 := hm.res.frozen 6
                  have g7 := hm.res.frozen 7
                  have g8 := hm.res.frozen 8
                  have e0 := hm.err.cell 0 (x := .int .i64 0) rfl
                  have f0 := hm.err.frozen 0
                  clear hm
                  go_wp2_with fail
                  have HY := HP9.out.fin nt0 (.slice none 0 0) (.slice none 0 0) 3
                  dsimp only [nt0] at HY
                  have hK9 := HK9 (V := w9) HKD.out (v0 := .int .i64 0) (v1 := .int .i64 0) (v2 := .int .i64 0) (v3 := .string ⟨#[]⟩) (v4 := .string ⟨#[]⟩) (v5 := .int .i64 0) (v6 := .bool false) (v7 := .slice none 0 0) (v8 := .slice none 0 0) (v9 := .int .i64 3)
                  refine ⟨by simp, .inl ⟨_, _, rfl, run_takeDeferred (by exact hK9), ?_⟩⟩
                  have hrp : ∀ (X : World), X.heap[D]? = some (.deferred (some [])) → ∀ r, some D = some r → w.heap.size ≤ r ∧ ∃ o : Obj, X.heap[r]? = some o ∧ o.isCells = false := fun X hX r e => by cases e; exact ⟨by omega, _, hX, rfl⟩
                  have q1 := HY.1.grown (grownBy_putObj' _ D (.deferred none)) (fun r e => (hrp _ hK9 r e).2)
                  have q2 := HY.2.1.grown (grownBy_putObj' _ D (.deferred none)) (fun r e => (hrp _ hK9 r e).2)
                  have q3 := HY.2.2.grown (grownBy_putObj' _ D (.deferred none)) HY.2.2.size (fun k e => (hrp _ hK9 k e).1)
                  have z0 := q1.cell 0 (x := .int .i64 0) rfl
                  have z1 := q1.cell 1 (x := .int .i64 0) rfl
                  have z2 := q1.cell 2 (x := .int .i64 0) rfl
                  have z3 := q1.cell 3 (x := .string ⟨#[]⟩) rfl
                  have z4 := q1.cell 4 (x := .string ⟨#[]⟩) rfl
                  have z5 := q1.cell 5 (x := .int .i64 0) rfl
                  have z6 := q1.cell 6 (x := .bool false) rfl
                  have z7 := q1.cell 7 (x := .slice none 0 0) rfl
                  have z8 := q1.cell 8 (x := .slice none 0 0) rfl
                  have y0 := q2.cell 0 (x := .int .i64 3) rfl
                  have hq := HPF.out
                  exact leaveR (v := .tuple #[.agg #[.int .i64 0, .int .i64 0, .int .i64 0, .string ⟨#[]⟩, .string ⟨#[]⟩, .int .i64 0, .bool false, .slice none 0 0, .slice none 0 0], .int .i64 3]) (by simp [results, Tryz.f23, go_sem, z0, z1, z2, z3, z4, z5, z6, z7, z8, y0]) ⟨none, 0, 0, none, 0, 0, by rw [hq.1, hq.2]; rfl, by rw [hq.2]; exact ⟨Rd.nil _, RdV.nil _⟩, q3⟩
              · have hok : okP s = false := by rw [HO4.out, decide_eq_false hE0]; rfl
                have HPF := HFA hok
                have hEb : (prE (noteP s) == 0) = false := beq_eq_false_iff_ne.2 hE0
                clear hok HO4 HFA HYE hpS
                generalize prE (noteP s) = pe at *
                generalize prS (noteP s) = pn at *
                have hm := HP9.out
                have r0 := hm.res.cell 0 (x := .int .i64 0) rfl
                have r1 := hm.res.cell 1 (x := .int .i64 0) rfl
                have r2 := hm.res.cell 2 (x := .int .i64 0) rfl
                have r3 := hm.res.cell 3 (x := .string ⟨#[]⟩) rfl
                have r4 := hm.res.cell 4 (x := .string ⟨#[]⟩) rfl
                have r5 := hm.res.cell 5 (x := .int .i64 0) rfl
                have r6 := hm.res.cell 6 (x := .bool false) rfl
                have r7 := hm.res.cell 7 (x := .slice none 0 0) rfl
                have r8 := hm.res.cell 8 (x := .slice none 0 0) rfl
                have g0 := hm.res.frozen 0
                have g1 := hm.res.frozen 1
                have g2 := hm.res.frozen 2
                have g3 := hm.res.frozen 3
                have g4 := hm.res.frozen 4
                have g5 := hm.res.frozen 5
                have g6 := hm.res.frozen 6
                have g7 := hm.res.frozen 7
                have g8 := hm.res.frozen 8
                have e0 := hm.err.cell 0 (x := .int .i64 0) rfl
                have f0 := hm.err.frozen 0
                clear hm
                go_wp2_with fail
                have HY := HP9.out.fin nt0 (.slice none 0 0) (.slice none 0 0) 3
                dsimp only [nt0] at HY
                have hK9 := HK9 (V := w9) HKD.out (v0 := .int .i64 0) (v1 := .int .i64 0) (v2 := .int .i64 0) (v3 := .string ⟨#[]⟩) (v4 := .string ⟨#[]⟩) (v5 := .int .i64 0) (v6 := .bool false) (v7 := .slice none 0 0) (v8 := .slice none 0 0) (v9 := .int .i64 3)
                refine ⟨by simp, .inl ⟨_, _, rfl, run_takeDeferred (by exact hK9), ?_⟩⟩
                have hrp : ∀ (X : World), X.heap[D]? = some (.deferred (some [])) → ∀ r, some D = some r → w.heap.size ≤ r ∧ ∃ o : Obj, X.heap[r]? = some o ∧ o.isCells = false := fun X hX r e => by cases e; exact ⟨by omega, _, hX, rfl⟩
                have q1 := HY.1.grown (grownBy_putObj' _ D (.deferred none)) (fun r e => (hrp _ hK9 r e).2)
                have q2 := HY.2.1.grown (grownBy_putObj' _ D (.deferred none)) (fun r e => (hrp _ hK9 r e).2)
                have q3 := HY.2.2.grown (grownBy_putObj' _ D (.deferred none)) HY.2.2.size (fun k e => (hrp _ hK9 k e).1)
                have z0 := q1.cell 0 (x := .int .i64 0) rfl
                have z1 := q1.cell 1 (x := .int .i64 0) rfl
                have z2 := q1.cell 2 (x := .int .i64 0) rfl
                have z3 := q1.cell 3 (x := .string ⟨#[]⟩) rfl
                have z4 := q1.cell 4 (x := .string ⟨#[]⟩) rfl
                have z5 := q1.cell 5 (x := .int .i64 0) rfl
                have z6 := q1.cell 6 (x := .bool false) rfl
                have z7 := q1.cell 7 (x := .slice none 0 0) rfl
                have z8 := q1.cell 8 (x := .slice none 0 0) rfl
                have y0 := q2.cell 0 (x := .int .i64 3) rfl
                have hq := HPF.out
                exact leaveR (v := .tuple #[.agg #[.int .i64 0, .int .i64 0, .int .i64 0, .string ⟨#[]⟩, .string ⟨#[]⟩, .int .i64 0, .bool false, .slice none 0 0, .slice none 0 0], .int .i64 3]) (by simp [results, Tryz.f23, go_sem, z0, z1, z2, z3, z4, z5, z6, z7, z8, y0]) ⟨none, 0, 0, none, 0, 0, by rw [hq.1, hq.2]; rfl, by rw [hq.2]; exact ⟨Rd.nil _, RdV.nil _⟩, q3⟩
            case stop =>
              rintro D c pre W' hD ⟨r, hSp⟩ ⟨rfl, hX, g, hg, hgv⟩ hK
              have hok : okP s = false := by
                rw [HO3.out, HGK.out, ← hSp]
                have : (pre.map Gp.l ++ r).all vrB = false := by
                  rw [List.all_append, Bool.and_eq_false_iff]
                  refine .inl (Bool.eq_false_iff.2 fun h => ?_)
                  rw [List.all_eq_true.1 h g.l (List.mem_map_of_mem hg)] at hgv
                  cases hgv
                rw [this]; rfl
              have hq := (HFA hok).out
              have hrp : ∀ r, some D = some r → w.heap.size ≤ r ∧ ∃ o : Obj, W'.heap[r]? = some o ∧ o.isCells = false := fun r e => by cases e; exact ⟨by omega, _, hK, rfl⟩
              have q1 := hX.res.grown (grownBy_putObj' W' D (.deferred none)) (fun r e => (hrp r e).2)
              have q2 := hX.err.grown (grownBy_putObj' W' D (.deferred none)) (fun r e => (hrp r e).2)
              have q3 := hX.bel.grown (grownBy_putObj' W' D (.deferred none)) hX.bel.size (fun k e => (hrp k e).1)
              unfold zeroN at q1
              have z0 := q1.cell 0 (x := .int .i64 0) rfl
              have z1 := q1.cell 1 (x := .int .i64 0) rfl
              have z2 := q1.cell 2 (x := .int .i64 0) rfl
              have z3 := q1.cell 3 (x := .string ⟨#[]⟩) rfl
              have z4 := q1.cell 4 (x := .string ⟨#[]⟩) rfl
              have z5 := q1.cell 5 (x := .int .i64 0) rfl
              have z6 := q1.cell 6 (x := .bool false) rfl
              have z7 := q1.cell 7 (x := .slice none 0 0) rfl
              have z8 := q1.cell 8 (x := .slice none 0 0) rfl
              have y0 := q2.cell 0 (x := .int .i64 3) rfl
              clear hok HFA HYE HNP HNS HO3 HGK
              refine wpIn_wide.2 ?_
              go_wp2_with fail
              refine ⟨by simp, .inl ⟨_, _, rfl, run_takeDeferred hK, ?_⟩⟩
              exact leaveR (v := .tuple #[.agg #[.int .i64 0, .int .i64 0, .int .i64 0, .string ⟨#[]⟩, .string ⟨#[]⟩, .int .i64 0, .bool false, .slice none 0 0, .slice none 0 0], .int .i64 3]) (by simp [results, Tryz.f23, go_sem, z0, z1, z2, z3, z4, z5, z6, z7, z8, y0]) ⟨none, 0, 0, none, 0, 0, by rw [hq.1, hq.2]; rfl, by rw [hq.2]; exact ⟨Rd.nil _, RdV.nil _⟩, q3⟩
end Go.Proofs.YtjhdeoniafahbaaGreatDoor
namespace Go.Proofs.YtjhdeoniafahbaaGreatDoor
open Go.RowKit
theorem lnGo_ok : ∀ (ls la : List Int) (p : Option Int), lnGo p ls la = 0 → ls.length = la.length →
    (∀ q a, p = some q → ls[0]? = some a → q ≤ a) ∧ (∀ (i : Nat) a b, ls[i]? = some a → la[i]? = some b → a ≤ b) ∧ (∀ (i : Nat) b a, la[i]? = some b → ls[i + 1]? = some a → b ≤ a)
  | [], _, _, _, _ => ⟨fun q a _ h => by simp at h, fun i a b h => by simp at h, fun i b a _ h => by simp at h⟩
  | a :: r, [], _, _, hl => by simp at hl
  | a :: r, b :: t, p, h, hl => by
    rw [lnGo] at h
    split at h
    · cases h
    · split at h
      · cases h
      · rename_i h2
        rw [not_or] at h2
        obtain ⟨i1, i2, i3⟩ := lnGo_ok r t (some b) h (by simpa using hl)
        refine ⟨?_, ?_, ?_⟩
        · rintro q x rfl hx
          obtain rfl : a = x := by simpa using hx
          have := h2.2
          unfold lnBad at this
          simpa using this
        · intro i x y hx hy
          cases i with
          | zero =>
            obtain rfl : a = x := by simpa using hx
            obtain rfl : b = y := by simpa using hy
            omega
          | succ i => exact i2 i x y (by simpa using hx) (by simpa using hy)
        · intro i y x hy hx
          cases i with
          | zero =>
            obtain rfl : b = y := by simpa using hy
            exact i1 b x rfl (by simpa using hx)
          | succ i => exact i3 i y x (by simpa using hy) (by simpa using hx)
theorem ln_mono {ls la : List Int} (hl : ls.length = la.length) (h2 : ∀ (i : Nat) a b, ls[i]? = some a → la[i]? = some b → a ≤ b) (h3 : ∀ (i : Nat) b a, la[i]? = some b → ls[i + 1]? = some a → b ≤ a) :
    ∀ (d i : Nat) (a b : Int), ls[i]? = some a → ls[i + d]? = some b → a ≤ b
  | 0, i, a, b, ha, hb => by
    rw [Nat.add_zero, ha] at hb
    cases hb; exact Int.le_refl _
  | d + 1, i, a, b, ha, hb => by
    have hlt := (List.getElem?_eq_some_iff.1 hb).1
    have e1 : ls[i + d]? = some ls[i + d] := List.getElem?_eq_getElem (by omega)
    have e2 : la[i + d]? = some la[i + d] := List.getElem?_eq_getElem (by omega)
    have g1 := ln_mono hl h2 h3 d i a _ ha e1
    have g2 := h2 _ _ _ e1 e2
    have g3 := h3 _ _ _ e2 hb
    omega
theorem fIdx_first {α : Type} {p : α → Bool} {l : List α} {k : Nat} (h : fIdx p l = (k : Int)) : ∀ j y, j < k → l[j]? = some y → p y = false := by
  intro j y hj hy
  unfold fIdx at h
  cases hf : l.findIdx? p with
  | none => rw [hf] at h; simp at h
  | some i =>
    rw [hf] at h
    obtain rfl : i = k := by simp at h; omega
    obtain ⟨_, _, h3⟩ := List.findIdx?_eq_some_iff_getElem.1 hf
    obtain ⟨hlt, rfl⟩ := List.getElem?_eq_some_iff.1 hy
    simpa using h3 j hj
theorem tw_ge {α : Type} {p : α → Bool} : ∀ (n : Nat) (l : List α), (∀ j, j < n → ∃ y, l[j]? = some y ∧ p y = true) → n ≤ (l.takeWhile p).length
  | 0, _, _ => Nat.zero_le _
  | n + 1, [], h => by obtain ⟨y, hy, _⟩ := h 0 (by omega); simp at hy
  | n + 1, a :: r, h => by
    obtain ⟨y, hy, hp⟩ := h 0 (by omega)
    obtain rfl : a = y := by simpa using hy
    rw [List.takeWhile_cons, if_pos hp, List.length_cons]
    have := tw_ge n r fun j hj => by
      obtain ⟨z, hz, hq⟩ := h (j + 1) (by omega)
      exact ⟨z, by simpa using hz, hq⟩
    omega
theorem lnAt_some {l : List Int} {i : Nat} (h : i < l.length) : l[i]? = some (lnAt l i) := by
  unfold lnAt
  rw [List.getD_eq_getElem?_getD, Int.toNat_natCast, List.getElem?_eq_getElem h]; rfl
/-- The window of the words f .. t holds them. -/
theorem win {ls la : List Int} {ws : List ByteArray} (hl : listsI ls la ws.length = 0) {f t : Nat} (hf : f < t) (ht : t ≤ ws.length) :
    ∃ i e : Nat, i ≤ f ∧ t ≤ e ∧ e ≤ ws.length ∧ wAt ls (lnAt ls (f : Int)) (lnAt la ((t : Int) - 1)) = (i : Int) ∧ wWs ls ws (lnAt ls (f : Int)) (lnAt la ((t : Int) - 1)) = (ws.take e).drop i ∧
      lnAt ls (f : Int) ≤ lnAt ls ((t : Int) - 1) ∧ lnAt ls ((t : Int) - 1) ≤ lnAt la ((t : Int) - 1) := by
  obtain ⟨n1, n2, hgo⟩ := lists_len hl
  obtain ⟨_, h2, h3⟩ := lnGo_ok ls la none hgo (by omega)
  have hm := ln_mono (by omega) h2 h3
  have et : (t : Int) - 1 = ((t - 1 : Nat) : Int) := by omega
  rw [et]
  have ea := lnAt_some (l := ls) (i := f) (by omega)
  have ec := lnAt_some (l := ls) (i := t - 1) (by omega)
  have eb := lnAt_some (l := la) (i := t - 1) (by omega)
  have hac := hm (t - 1 - f) f _ _ ea (by rw [show f + (t - 1 - f) = t - 1 by omega]; exact ec)
  have hcb := h2 _ _ _ ec eb
  generalize lnAt ls (f : Int) = a at *
  generalize lnAt la ((t - 1 : Nat) : Int) = b at *
  generalize lnAt ls ((t - 1 : Nat) : Int) = c at *
  have hany : ls.any (inB a b) = true := List.any_eq_true.2 ⟨a, List.mem_of_getElem? ea, by unfold inB; simp; omega⟩
  have hpos := fIdx_pos (inB a b) ls
  rw [hany] at hpos
  have hpos2 : 0 ≤ wFst ls a b := of_decide_eq_true hpos
  rcases fIdx_cases (inB a b) ls with hI | ⟨i, x, hI, hx, hi, hp⟩
  · have : wFst ls a b = -1 := hI
    omega
  · have hW : wFst ls a b = (i : Int) := hI
    have hif : i ≤ f := by
      by_cases h : f < i
      · have := fIdx_first hI f a h ea
        have hq : inB a b a = true := by unfold inB; simp; omega
        rw [hq] at this; cases this
      · omega
    unfold inB at hp
    simp only [Bool.and_eq_true, decide_eq_true_eq] at hp
    have htw : t - i ≤ ((ls.drop i).takeWhile (inB a b)).length := tw_ge _ _ fun j hj => by
      have ej : ls[i + j]? = some ls[i + j] := List.getElem?_eq_getElem (by omega)
      refine ⟨_, by rw [List.getElem?_drop]; exact ej, ?_⟩
      have g1 := hm j i _ _ hx ej
      have g2 := hm (t - 1 - (i + j)) (i + j) _ _ ej (by rw [show i + j + (t - 1 - (i + j)) = t - 1 by omega]; exact ec)
      unfold inB
      simp only [Bool.and_eq_true, decide_eq_true_eq]
      omega
    have hle := (List.takeWhile_prefix (inB a b) (l := ls.drop i)).length_le
    rw [List.length_drop] at hle
    have hE : wEnd ls a b = i + ((ls.drop i).takeWhile (inB a b)).length := by unfold wEnd; rw [hW, Int.toNat_natCast]
    refine ⟨i, wEnd ls a b, hif, by omega, by omega, ?_, ?_, hac, hcb⟩
    · unfold wAt; rw [if_neg (by omega), hW]
    · unfold wWs; rw [if_neg (by omega), hW, Int.toNat_natCast]
theorem win_at {ws : List ByteArray} {i e k : Nat} (h1 : i ≤ k) (h2 : k < e) (d : ByteArray) : ((ws.take e).drop i).getD (k - i) d = ws.getD k d := by
  rw [List.getD_eq_getElem?_getD, List.getD_eq_getElem?_getD, List.getElem?_drop, List.getElem?_take, if_pos (by omega), show i + (k - i) = k by omega]
theorem win_last {ws : List ByteArray} {i e f t : Nat} (h1 : i ≤ f) (h2 : f < t) (h3 : t ≤ e) : lastW ((ws.take e).drop i) (f - i) (t - i) = lastW ws f t := by
  unfold lastW
  rw [show t - i - (f - i) = t - f by omega, show t - i - 1 = t - 1 - i by omega, win_at (by omega) (by omega)]
/-- The lemma of the words f .. t. -/
theorem ofLm_ok {ls la : List Int} {ws : List ByteArray} (hl : listsI ls la ws.length = 0) (hw : ws.length ≤ 13) {f t : Nat} (hf : f < t) (ht : t ≤ ws.length) (h : (ofLm ls la ws (f : Int) (t : Int)).2.2.2 = 0) :
    (ofLm ls la ws (f : Int) (t : Int)).1 = ws.getD f ⟨#[]⟩ ∧ (ofLm ls la ws (f : Int) (t : Int)).2.1 = lastW ws f t ∧ wordB (ws.getD (t - 1) ⟨#[]⟩) = true ∧
    findRes (wWs ls ws (lnAt ls (f : Int)) (lnAt la ((t : Int) - 1))) (ofLm ls la ws (f : Int) (t : Int)).1 (ofLm ls la ws (f : Int) (t : Int)).2.1 (ofLm ls la ws (f : Int) (t : Int)).2.2.1 =
      ((f : Int) - wAt ls (lnAt ls (f : Int)) (lnAt la ((t : Int) - 1)), (t : Int) - wAt ls (lnAt ls (f : Int)) (lnAt la ((t : Int) - 1)), 0) := by
  obtain ⟨i, e, h1, h2, h3, hA, hW, _, _⟩ := win hl hf ht
  unfold ofLm at h ⊢
  rw [hA, hW] at h ⊢
  have ef : (f : Int) - (i : Int) = ((f - i : Nat) : Int) := by omega
  have et : (t : Int) - (i : Int) = ((t - i : Nat) : Int) := by omega
  rw [ef, et] at h ⊢
  have hlen : ((ws.take e).drop i).length = e - i := by rw [List.length_drop, List.length_take]; omega
  have hck : lcheckI ((ws.take e).drop i) = 0 := by
    unfold ofRes at h
    split at h
    · rename_i hc; exact absurd h hc
    · rename_i hc; exact Classical.not_not.1 hc
  have hwd := lcheck_words hck
  have hR : ofRes ((ws.take e).drop i) ((f - i : Nat) : Int) ((t - i : Nat) : Int) = (ws.getD f ⟨#[]⟩, lastW ws f t, ((ofNum (occ ((ws.take e).drop i) (ws.getD f ⟨#[]⟩) (lastW ws f t)) (f - i, t - i - 1) : Nat) : Int), 0) := by
    unfold ofRes
    rw [if_neg (by omega), if_neg (by omega), Int.toNat_natCast, Int.toNat_natCast, win_at h1 (by omega), win_last h1 hf h2]
  rw [hR]
  have hp := part_mem (ws := (ws.take e).drop i) (fun s hs => wordB_ne (hwd s hs)) (a := f - i) (b := t - i) (by omega) (by omega)
  rw [win_at h1 (by omega), win_last h1 hf h2] at hp
  have hfd := found_plain (occ_sorted _ _ _) hp (by show t - i - 1 ≤ 1000; omega)
  have hwt : wordB (ws.getD (t - 1) ⟨#[]⟩) = true := by
    have e1 : ((ws.take e).drop i)[t - 1 - i]? = some (((ws.take e).drop i).getD (t - 1 - i) ⟨#[]⟩) := by
      rw [List.getD_eq_getElem?_getD, List.getElem?_eq_getElem (by omega)]; rfl
    have := hwd _ (List.mem_of_getElem? e1)
    rwa [win_at (by omega) (by omega)] at this
  refine ⟨rfl, rfl, hwt, ?_⟩
  unfold findRes
  dsimp only
  rw [if_neg (by omega), Int.toNat_natCast]
  have hnum : ofNum (occ ((ws.take e).drop i) (ws.getD f ⟨#[]⟩) (lastW ws f t)) (f - i, t - i - 1) ≤ 65536 := by
    have hb : (occ ((ws.take e).drop i) (ws.getD f ⟨#[]⟩) (lastW ws f t)).length ≤ 65536 := by
      have := occ_len (ws := (ws.take e).drop i) (by omega) (ws.getD f ⟨#[]⟩) (lastW ws f t)
      omega
    unfold ofNum
    split
    · omega
    · have := numP_le (p := (f - i, t - i - 1)) (occ_sorted ((ws.take e).drop i) (ws.getD f ⟨#[]⟩) (lastW ws f t)); omega
  have hlm : lemCk (ws.getD f ⟨#[]⟩) (lastW ws f t) (ofNum (occ ((ws.take e).drop i) (ws.getD f ⟨#[]⟩) (lastW ws f t)) (f - i, t - i - 1) : Nat) = 0 := by
    have := found_lem hwd (a := f - i) (b := t - i) (by omega) (by omega) hnum
    rwa [win_at h1 (by omega), win_last h1 hf h2] at this
  rw [if_neg (by omega), hfd.1, hfd.2.1, hfd.2.2]
  simp only [Prod.mk.injEq, and_true, true_and]
  omega
/-- P45.5, plainly. -/
theorem lines_plain {ls la : List Int} {ws : List ByteArray} {x : En} (hw : ws.length ≤ 13) (h : ofAI ls la ws x = 0) :
    nteI (ofN ls la ws x) = 0 ∧ ofAN ls la ws x = ofN ls la ws x ∧
    ((ws.length = 0 ∧ ofN ls la ws x = ⟨1, 1, 4, ⟨#[]⟩, ⟨#[]⟩, 0, x.pos, x.sup, x.vs⟩ ∧ x.fr = 0 ∧ x.to_ = 0) ∨
    ∃ (f t : Nat) (pl : Int), 0 < ws.length ∧ ofPl x.fr x.to_ ws.length = (pl, (f : Int), (t : Int)) ∧ pl ≠ 4 ∧ f < t ∧ t ≤ ws.length ∧ (ofN ls la ws x).pl = pl ∧ (ofN ls la ws x).fr = lnAt ls (f : Int) ∧ (ofN ls la ws x).to_ = lnAt la ((t : Int) - 1) ∧
      (ofN ls la ws x).lf = ws.getD f ⟨#[]⟩ ∧ (ofN ls la ws x).ll = lastW ws f t ∧ (ofN ls la ws x).ln = (ofLm ls la ws (f : Int) (t : Int)).2.2.1 ∧ (ofLm ls la ws (f : Int) (t : Int)).2.2.2 = 0 ∧
      (ofN ls la ws x).pos = x.pos ∧ (ofN ls la ws x).sup = x.sup ∧ (ofN ls la ws x).vs = x.vs ∧ listsI ls la ws.length = 0) := by
  have hl : listsI ls la ws.length = 0 := by
    unfold ofAI at h
    split at h
    · assumption
    · rename_i hc; exact absurd h hc
  have hN : ofAN ls la ws x = ofN ls la ws x := by unfold ofAN; rw [if_pos h]
  unfold ofAI at h
  rw [if_pos hl] at h
  unfold ofI at h
  split at h
  · cases h
  · rename_i h1
    split at h
    · rename_i h2; exact absurd h h2.2
    · rename_i h2
      refine ⟨h, hN, ?_⟩
      have hpl : (ws.length = 0 ∧ x.fr = 0 ∧ x.to_ = 0 ∧ ofPl x.fr x.to_ ws.length = (4, x.fr, x.to_)) ∨ ∃ (f t : Nat) (pl : Int), 0 < ws.length ∧ ofPl x.fr x.to_ ws.length = (pl, (f : Int), (t : Int)) ∧ pl ≠ 4 ∧ f < t ∧ t ≤ ws.length := by
        unfold ofPl
        by_cases c1 : x.fr < x.to_
        · rw [if_pos c1]
          exact .inr ⟨x.fr.toNat, x.to_.toNat, 1, by omega, by rw [Int.toNat_of_nonneg (by omega), Int.toNat_of_nonneg (by omega)], by decide, by omega, by omega⟩
        · rw [if_neg c1]
          by_cases c2 : 0 < x.fr
          · rw [if_pos c2]
            exact .inr ⟨(x.fr - 1).toNat, x.to_.toNat, 2, by omega, by rw [Int.toNat_of_nonneg (by omega), Int.toNat_of_nonneg (by omega)], by decide, by omega, by omega⟩
          · rw [if_neg c2]
            by_cases c3 : 0 < ws.length
            · rw [if_pos c3]
              exact .inr ⟨0, 1, 3, c3, by rw [show x.fr = 0 by omega]; rfl, by decide, by omega, by omega⟩
            · rw [if_neg c3]
              exact .inl ⟨by omega, by omega, by omega, rfl⟩
      rcases hpl with ⟨e0, e1, e2, e3⟩ | ⟨f, t, pl, e0, e1, e2, e3, e4⟩
      · refine .inl ⟨e0, ?_, e1, e2⟩
        unfold ofN; rw [e3, if_pos rfl]
      · rw [e1] at h2
        have hlm : (ofLm ls la ws (f : Int) (t : Int)).2.2.2 = 0 := by
          by_cases hc : (ofLm ls la ws (f : Int) (t : Int)).2.2.2 = 0
          · exact hc
          · exact absurd ⟨e2, hc⟩ h2
        obtain ⟨g1, g2, _, _⟩ := ofLm_ok hl hw e3 e4 hlm
        have hn : ofN ls la ws x = ⟨lnAt ls (f : Int), lnAt la ((t : Int) - 1), pl, ws.getD f ⟨#[]⟩, lastW ws f t, (ofLm ls la ws (f : Int) (t : Int)).2.2.1, x.pos, x.sup, x.vs⟩ := by
          unfold ofN
          rw [e1, if_neg e2]
          dsimp only
          rw [g1, g2]
        exact .inr ⟨f, t, pl, e0, e1, e2, e3, e4, by rw [hn], by rw [hn], by rw [hn], by rw [hn], by rw [hn], by rw [hn], hlm, by rw [hn], by rw [hn], by rw [hn], hl⟩
/-- P45.3, the first half. -/
theorem resolves_one {ls la : List Int} {ws : List ByteArray} {x : En} (hw : ws.length ≤ 13) (h : ofAI ls la ws x = 0) (h0 : 0 ≤ x.ly) (h62 : x.ly ≤ 62) : rsI ls la ws x.ly (ofAN ls la ws x) = 0 ∧ rsN ls la ws x.ly (ofAN ls la ws x) = x := by
  obtain ⟨hE, hN, hc⟩ := lines_plain hw h
  rw [hN]
  have hl : listsI ls la ws.length = 0 := by
    unfold ofAI at h
    split at h
    · assumption
    · rename_i hc; exact absurd h hc
  have hOf : ofI ls la ws x = 0 := by
    unfold ofAI at h
    rwa [if_pos hl] at h
  have key : (¬ ((ofN ls la ws x).pl ≠ 4 ∧ (rsF ls ws (ofN ls la ws x)).2.2 ≠ 0)) ∧ rsE ls ws x.ly (ofN ls la ws x) = x := by
    rcases hc with ⟨_, e1, e2, e3⟩ | ⟨f, t, pl, e0, e1, e2, e3, e4, q1, q2, q3, q4, q5, q6, q7, q8, q9, q10, _⟩
    · rw [e1]
      refine ⟨fun hh => hh.1 rfl, ?_⟩
      unfold rsE rsP
      rw [if_neg (by simp), if_neg (by simp)]
      cases x
      simp only at e2 e3
      subst e2; subst e3; rfl
    · obtain ⟨g1, g2, _, g4⟩ := ofLm_ok hl hw e3 e4 q7
      have hF : rsF ls ws (ofN ls la ws x) = ((f : Int) - wAt ls (lnAt ls (f : Int)) (lnAt la ((t : Int) - 1)), (t : Int) - wAt ls (lnAt ls (f : Int)) (lnAt la ((t : Int) - 1)), 0) := by
        unfold rsF
        rw [q2, q3, q4, q5, q6, ← g1, ← g2]
        exact g4
      refine ⟨fun hh => hh.2 (by rw [hF]), ?_⟩
      have hP : rsP ls ws (ofN ls la ws x) = (x.fr, x.to_) := by
        unfold rsP
        rw [hF, q1, q2, q3]
        dsimp only
        unfold ofI at hOf
        rw [ofPl] at e1
        split at hOf
        · cases hOf
        · rename_i hb
          split at e1
          · simp only [Prod.mk.injEq] at e1
            rw [if_pos e1.1.symm, e1.2.1, e1.2.2, Prod.mk.injEq]
            omega
          · split at e1
            · simp only [Prod.mk.injEq] at e1
              rw [if_neg (by omega), if_pos e1.1.symm, Prod.mk.injEq]
              omega
            · simp only [Prod.mk.injEq] at e1
              rw [if_neg (by omega), if_neg (by omega), Prod.mk.injEq]
              omega
      unfold rsE
      rw [hP, q8, q9, q10]
  have hI : rsI ls la ws x.ly (ofN ls la ws x) = 0 := by
    unfold rsI
    rw [if_neg (by omega), if_neg (by omega), if_neg (by omega), if_neg key.1, key.2, if_neg]
    rintro (hh | hh)
    · exact hh hOf
    · rw [ntB_iff.2 rfl] at hh; cases hh
  refine ⟨hI, ?_⟩
  unfold rsN
  rw [if_pos hI]
  exact key.2
end Go.Proofs.YtjhdeoniafahbaaGreatDoor
namespace Go.Proofs.YtjhdeoniafahbaaGreatDoor
open Go.RowKit

deriving instance DecidableEq for Vr
deriving instance DecidableEq for Nt
deriving instance DecidableEq for En
def exE45 : En := ⟨1, 0, 1, false, [], [⟨[⟨#[100, 111, 109, 105, 110, 117, 115]⟩], [⟨#[65]⟩, ⟨#[66]⟩]⟩]⟩
def exN45 : Nt := ⟨1, 1, 1, ⟨#[100, 101, 117, 115]⟩, ⟨#[]⟩, 0, false, [], [⟨[⟨#[100, 111, 109, 105, 110, 117, 115]⟩], [⟨#[65]⟩, ⟨#[66]⟩]⟩]⟩
def exW45 : List ByteArray := [⟨#[100, 101, 117, 115]⟩, ⟨#[101, 115, 116]⟩]
def exT45 : ByteArray := ⟨#[49, 32, 100, 101, 117, 115, 32, 93, 32, 100, 111, 109, 105, 110, 117, 115, 32, 123, 65, 32, 66, 125]⟩
theorem ex45_of : ofAI [1, 1] [1, 1] exW45 exE45 = 0 := by decide +kernel
theorem ex45_on : ofAN [1, 1] [1, 1] exW45 exE45 = exN45 := by decide +kernel
theorem ex45_pe : prE exN45 = 0 := by decide +kernel
theorem ex45_pn : prN exN45 = exT45 := by decide +kernel
theorem ex45_ps : prS exN45 = exT45 := by unfold prS; rw [if_pos ex45_pe, ex45_pn]
theorem ex45_par : parI exT45 = 0 ∧ parN exT45 = exN45 := par_uniq ex45_pe ex45_pn
theorem ex45_rs : rsI [1, 1] [1, 1] exW45 1 exN45 = 0 ∧ rsN [1, 1] [1, 1] exW45 1 exN45 = exE45 := by
  have h := resolves_one (ls := [1, 1]) (la := [1, 1]) (ws := exW45) (x := exE45) (by decide) ex45_of (by decide) (by decide)
  rw [ex45_on] at h
  exact h
theorem ex45_sz : Sz16 exW45 ∧ SzN exN45 := by
  refine ⟨by unfold Sz16; decide +kernel, by decide, by decide, (by intro s h; cases h), ?_⟩
  intro v hv
  have : v = ⟨[⟨#[100, 111, 109, 105, 110, 117, 115]⟩], [⟨#[65]⟩, ⟨#[66]⟩]⟩ := by simpa [exN45] using hv
  subst this
  unfold Sz16
  decide +kernel
theorem ex45_sze : SzE exE45 := by
  refine ⟨(by intro s h; cases h), ?_, by decide, by decide, ?_⟩
  · intro v hv
    have : v = ⟨[⟨#[100, 111, 109, 105, 110, 117, 115]⟩], [⟨#[65]⟩, ⟨#[66]⟩]⟩ := by simpa [exE45] using hv
    subst this
    unfold Sz16
    decide +kernel
  · intro v hv
    have : v = ⟨[⟨#[100, 111, 109, 105, 110, 117, 115]⟩], [⟨#[65]⟩, ⟨#[66]⟩]⟩ := by simpa [exE45] using hv
    subst this
    decide
theorem rd_two {α : Type} {enc : α → Value} {W : World} {r : Nat} {x y : α} {t : TypeId} (h : Row W r #[enc x, enc y] t) : Rd enc W (.slice (some ⟨r, 0, none⟩) 2 2) [x, y] := by
  refine ⟨some ⟨r, 0, none⟩, 2, rfl, Nat.le_refl _, by unfold maxLen; omega, fun i z hz => ?_⟩
  match i, hz with
  | 0, hz => cases hz; exact ⟨r, 0, rfl, h.cell 0 rfl⟩
  | 1, hz => cases hz; exact ⟨r, 0, rfl, h.cell 1 rfl⟩
theorem rd_one {α : Type} {enc : α → Value} {W : World} {r : Nat} {x : α} {t : TypeId} (h : Row W r #[enc x] t) : Rd enc W (.slice (some ⟨r, 0, none⟩) 1 1) [x] := by
  refine ⟨some ⟨r, 0, none⟩, 1, rfl, Nat.le_refl _, by unfold maxLen; omega, fun i z hz => ?_⟩
  match i, hz with
  | 0, hz => cases hz; exact ⟨r, 0, rfl, h.cell 0 rfl⟩
theorem ex45_world (w : World) : Below w.heap.size w ((((((w.alloc (.cells #[.string ⟨#[100, 111, 109, 105, 110, 117, 115]⟩] 9)).alloc (.cells #[.string ⟨#[65]⟩, .string ⟨#[66]⟩] 9)).alloc (.cells #[.slice (some ⟨w.heap.size, 0, none⟩) 1 1, .slice (some ⟨w.heap.size + 1, 0, none⟩) 2 2] 63)).alloc (.cells #[.int .i64 1, .int .i64 0, .int .i64 1, .bool false, .slice none 0 0, .slice (some ⟨w.heap.size + 2, 0, none⟩) 1 1] 26)).alloc (.cells #[.int .i64 1, .int .i64 1] 3)).alloc (.cells #[.string ⟨#[100, 101, 117, 115]⟩, .string ⟨#[101, 115, 116]⟩] 9)) ∧ Row ((((((w.alloc (.cells #[.string ⟨#[100, 111, 109, 105, 110, 117, 115]⟩] 9)).alloc (.cells #[.string ⟨#[65]⟩, .string ⟨#[66]⟩] 9)).alloc (.cells #[.slice (some ⟨w.heap.size, 0, none⟩) 1 1, .slice (some ⟨w.heap.size + 1, 0, none⟩) 2 2] 63)).alloc (.cells #[.int .i64 1, .int .i64 0, .int .i64 1, .bool false, .slice none 0 0, .slice (some ⟨w.heap.size + 2, 0, none⟩) 1 1] 26)).alloc (.cells #[.int .i64 1, .int .i64 1] 3)).alloc (.cells #[.string ⟨#[100, 101, 117, 115]⟩, .string ⟨#[101, 115, 116]⟩] 9)) (w.heap.size + 3) (exE45.cells (.slice none 0 0) (.slice (some ⟨w.heap.size + 2, 0, none⟩) 1 1)) 26 ∧
    RdE ((((((w.alloc (.cells #[.string ⟨#[100, 111, 109, 105, 110, 117, 115]⟩] 9)).alloc (.cells #[.string ⟨#[65]⟩, .string ⟨#[66]⟩] 9)).alloc (.cells #[.slice (some ⟨w.heap.size, 0, none⟩) 1 1, .slice (some ⟨w.heap.size + 1, 0, none⟩) 2 2] 63)).alloc (.cells #[.int .i64 1, .int .i64 0, .int .i64 1, .bool false, .slice none 0 0, .slice (some ⟨w.heap.size + 2, 0, none⟩) 1 1] 26)).alloc (.cells #[.int .i64 1, .int .i64 1] 3)).alloc (.cells #[.string ⟨#[100, 101, 117, 115]⟩, .string ⟨#[101, 115, 116]⟩] 9)) (.slice none 0 0) (.slice (some ⟨w.heap.size + 2, 0, none⟩) 1 1) exE45 ∧ RdI ((((((w.alloc (.cells #[.string ⟨#[100, 111, 109, 105, 110, 117, 115]⟩] 9)).alloc (.cells #[.string ⟨#[65]⟩, .string ⟨#[66]⟩] 9)).alloc (.cells #[.slice (some ⟨w.heap.size, 0, none⟩) 1 1, .slice (some ⟨w.heap.size + 1, 0, none⟩) 2 2] 63)).alloc (.cells #[.int .i64 1, .int .i64 0, .int .i64 1, .bool false, .slice none 0 0, .slice (some ⟨w.heap.size + 2, 0, none⟩) 1 1] 26)).alloc (.cells #[.int .i64 1, .int .i64 1] 3)).alloc (.cells #[.string ⟨#[100, 101, 117, 115]⟩, .string ⟨#[101, 115, 116]⟩] 9)) (.slice (some ⟨w.heap.size + 4, 0, none⟩) 2 2) [1, 1] ∧ RdS ((((((w.alloc (.cells #[.string ⟨#[100, 111, 109, 105, 110, 117, 115]⟩] 9)).alloc (.cells #[.string ⟨#[65]⟩, .string ⟨#[66]⟩] 9)).alloc (.cells #[.slice (some ⟨w.heap.size, 0, none⟩) 1 1, .slice (some ⟨w.heap.size + 1, 0, none⟩) 2 2] 63)).alloc (.cells #[.int .i64 1, .int .i64 0, .int .i64 1, .bool false, .slice none 0 0, .slice (some ⟨w.heap.size + 2, 0, none⟩) 1 1] 26)).alloc (.cells #[.int .i64 1, .int .i64 1] 3)).alloc (.cells #[.string ⟨#[100, 101, 117, 115]⟩, .string ⟨#[101, 115, 116]⟩] 9)) (.slice (some ⟨w.heap.size + 5, 0, none⟩) 2 2) exW45 := by
  have r0 : Row ((((((w.alloc (.cells #[.string ⟨#[100, 111, 109, 105, 110, 117, 115]⟩] 9)).alloc (.cells #[.string ⟨#[65]⟩, .string ⟨#[66]⟩] 9)).alloc (.cells #[.slice (some ⟨w.heap.size, 0, none⟩) 1 1, .slice (some ⟨w.heap.size + 1, 0, none⟩) 2 2] 63)).alloc (.cells #[.int .i64 1, .int .i64 0, .int .i64 1, .bool false, .slice none 0 0, .slice (some ⟨w.heap.size + 2, 0, none⟩) 1 1] 26)).alloc (.cells #[.int .i64 1, .int .i64 1] 3)).alloc (.cells #[.string ⟨#[100, 101, 117, 115]⟩, .string ⟨#[101, 115, 116]⟩] 9)) w.heap.size #[.string ⟨#[100, 111, 109, 105, 110, 117, 115]⟩] 9 := (((((row_nw _ _ _ rfl).al _).al _).al _).al _).al _
  have r1 : Row ((((((w.alloc (.cells #[.string ⟨#[100, 111, 109, 105, 110, 117, 115]⟩] 9)).alloc (.cells #[.string ⟨#[65]⟩, .string ⟨#[66]⟩] 9)).alloc (.cells #[.slice (some ⟨w.heap.size, 0, none⟩) 1 1, .slice (some ⟨w.heap.size + 1, 0, none⟩) 2 2] 63)).alloc (.cells #[.int .i64 1, .int .i64 0, .int .i64 1, .bool false, .slice none 0 0, .slice (some ⟨w.heap.size + 2, 0, none⟩) 1 1] 26)).alloc (.cells #[.int .i64 1, .int .i64 1] 3)).alloc (.cells #[.string ⟨#[100, 101, 117, 115]⟩, .string ⟨#[101, 115, 116]⟩] 9)) (w.heap.size + 1) #[.string ⟨#[65]⟩, .string ⟨#[66]⟩] 9 := ((((row_nw _ _ _ (by simp)).al _).al _).al _).al _
  have r2 : Row ((((((w.alloc (.cells #[.string ⟨#[100, 111, 109, 105, 110, 117, 115]⟩] 9)).alloc (.cells #[.string ⟨#[65]⟩, .string ⟨#[66]⟩] 9)).alloc (.cells #[.slice (some ⟨w.heap.size, 0, none⟩) 1 1, .slice (some ⟨w.heap.size + 1, 0, none⟩) 2 2] 63)).alloc (.cells #[.int .i64 1, .int .i64 0, .int .i64 1, .bool false, .slice none 0 0, .slice (some ⟨w.heap.size + 2, 0, none⟩) 1 1] 26)).alloc (.cells #[.int .i64 1, .int .i64 1] 3)).alloc (.cells #[.string ⟨#[100, 101, 117, 115]⟩, .string ⟨#[101, 115, 116]⟩] 9)) (w.heap.size + 2) #[.slice (some ⟨w.heap.size, 0, none⟩) 1 1, .slice (some ⟨w.heap.size + 1, 0, none⟩) 2 2] 63 := (((row_nw _ _ _ (by simp)).al _).al _).al _
  have r3 : Row ((((((w.alloc (.cells #[.string ⟨#[100, 111, 109, 105, 110, 117, 115]⟩] 9)).alloc (.cells #[.string ⟨#[65]⟩, .string ⟨#[66]⟩] 9)).alloc (.cells #[.slice (some ⟨w.heap.size, 0, none⟩) 1 1, .slice (some ⟨w.heap.size + 1, 0, none⟩) 2 2] 63)).alloc (.cells #[.int .i64 1, .int .i64 0, .int .i64 1, .bool false, .slice none 0 0, .slice (some ⟨w.heap.size + 2, 0, none⟩) 1 1] 26)).alloc (.cells #[.int .i64 1, .int .i64 1] 3)).alloc (.cells #[.string ⟨#[100, 101, 117, 115]⟩, .string ⟨#[101, 115, 116]⟩] 9)) (w.heap.size + 3) #[.int .i64 1, .int .i64 0, .int .i64 1, .bool false, .slice none 0 0, .slice (some ⟨w.heap.size + 2, 0, none⟩) 1 1] 26 := ((row_nw _ _ _ (by simp)).al _).al _
  have r4 : Row ((((((w.alloc (.cells #[.string ⟨#[100, 111, 109, 105, 110, 117, 115]⟩] 9)).alloc (.cells #[.string ⟨#[65]⟩, .string ⟨#[66]⟩] 9)).alloc (.cells #[.slice (some ⟨w.heap.size, 0, none⟩) 1 1, .slice (some ⟨w.heap.size + 1, 0, none⟩) 2 2] 63)).alloc (.cells #[.int .i64 1, .int .i64 0, .int .i64 1, .bool false, .slice none 0 0, .slice (some ⟨w.heap.size + 2, 0, none⟩) 1 1] 26)).alloc (.cells #[.int .i64 1, .int .i64 1] 3)).alloc (.cells #[.string ⟨#[100, 101, 117, 115]⟩, .string ⟨#[101, 115, 116]⟩] 9)) (w.heap.size + 4) #[.int .i64 1, .int .i64 1] 3 := (row_nw _ _ _ (by simp)).al _
  have r5 : Row ((((((w.alloc (.cells #[.string ⟨#[100, 111, 109, 105, 110, 117, 115]⟩] 9)).alloc (.cells #[.string ⟨#[65]⟩, .string ⟨#[66]⟩] 9)).alloc (.cells #[.slice (some ⟨w.heap.size, 0, none⟩) 1 1, .slice (some ⟨w.heap.size + 1, 0, none⟩) 2 2] 63)).alloc (.cells #[.int .i64 1, .int .i64 0, .int .i64 1, .bool false, .slice none 0 0, .slice (some ⟨w.heap.size + 2, 0, none⟩) 1 1] 26)).alloc (.cells #[.int .i64 1, .int .i64 1] 3)).alloc (.cells #[.string ⟨#[100, 101, 117, 115]⟩, .string ⟨#[101, 115, 116]⟩] 9)) (w.heap.size + 5) #[.string ⟨#[100, 101, 117, 115]⟩, .string ⟨#[101, 115, 116]⟩] 9 := row_nw _ _ _ (by simp)
  have hb : Below w.heap.size w ((((((w.alloc (.cells #[.string ⟨#[100, 111, 109, 105, 110, 117, 115]⟩] 9)).alloc (.cells #[.string ⟨#[65]⟩, .string ⟨#[66]⟩] 9)).alloc (.cells #[.slice (some ⟨w.heap.size, 0, none⟩) 1 1, .slice (some ⟨w.heap.size + 1, 0, none⟩) 2 2] 63)).alloc (.cells #[.int .i64 1, .int .i64 0, .int .i64 1, .bool false, .slice none 0 0, .slice (some ⟨w.heap.size + 2, 0, none⟩) 1 1] 26)).alloc (.cells #[.int .i64 1, .int .i64 1] 3)).alloc (.cells #[.string ⟨#[100, 101, 117, 115]⟩, .string ⟨#[101, 115, 116]⟩] 9)) := below_tr (below_al _ _) (below_tr (below_al _ _) (below_tr (below_al _ _) (below_tr (below_al _ _) (below_tr (below_al _ _) (below_al _ _)))))
  generalize ((((((w.alloc (.cells #[.string ⟨#[100, 111, 109, 105, 110, 117, 115]⟩] 9)).alloc (.cells #[.string ⟨#[65]⟩, .string ⟨#[66]⟩] 9)).alloc (.cells #[.slice (some ⟨w.heap.size, 0, none⟩) 1 1, .slice (some ⟨w.heap.size + 1, 0, none⟩) 2 2] 63)).alloc (.cells #[.int .i64 1, .int .i64 0, .int .i64 1, .bool false, .slice none 0 0, .slice (some ⟨w.heap.size + 2, 0, none⟩) 1 1] 26)).alloc (.cells #[.int .i64 1, .int .i64 1] 3)).alloc (.cells #[.string ⟨#[100, 101, 117, 115]⟩, .string ⟨#[101, 115, 116]⟩] 9)) = W at *
  refine ⟨hb, r3, ⟨Rd.nil _, ?_⟩, rd_two r4, rd_two r5⟩
  refine ⟨some ⟨w.heap.size + 2, 0, none⟩, 1, rfl, Nat.le_refl _, by unfold maxLen; omega, fun i z hz => ?_⟩
  match i, hz with
  | 0, hz => cases hz; exact ⟨w.heap.size + 2, 0, _, _, rfl, r2.cell 0 rfl, r2.cell 1 rfl, rd_one r0, rd_two r1⟩
set_option maxRecDepth 100000 in
set_option maxHeartbeats 4000000 in
theorem awake45_any (m : Int) (w : World) (he : Env w) (hm : w.cell? ⟨0, 0, none⟩ = some (.int .i64 m)) :
    Calls Tryz.prog 14 #[] w fun e w' => e = .returned (.bool true) ∧ Below w.heap.size w w' := by
  have HE := fun w' (h : Below w.heap.size w w') => hid (he.below h)
  have HM := fun w' (h : Below w.heap.size w w') => hid (Below.keeps h _ _ hm)
  obtain ⟨hb6, hr6, hE6, hI6, hS6⟩ := ex45_world w
  have HB6 := hid hb6
  have HR6 := hid hr6
  have HE6 := hid hE6
  have HI6 := hid hI6
  have HS6 := hid hS6
  clear he hm hb6 hr6 hE6 hI6 hS6
  go_enter Tryz.func14, Tryz.ntmps14
  go_upto_region 3 with fail
  generalize ((((((w.alloc (.cells #[.string ⟨#[100, 111, 109, 105, 110, 117, 115]⟩] 9)).alloc (.cells #[.string ⟨#[65]⟩, .string ⟨#[66]⟩] 9)).alloc (.cells #[.slice (some ⟨w.heap.size, 0, none⟩) 1 1, .slice (some ⟨w.heap.size + 1, 0, none⟩) 2 2] 63)).alloc (.cells #[.int .i64 1, .int .i64 0, .int .i64 1, .bool false, .slice none 0 0, .slice (some ⟨w.heap.size + 2, 0, none⟩) 1 1] 26)).alloc (.cells #[.int .i64 1, .int .i64 1] 3)).alloc (.cells #[.string ⟨#[100, 101, 117, 115]⟩, .string ⟨#[101, 115, 116]⟩] 9)) = W6 at *
  generalize w.heap.size + 5 = b5 at *
  generalize w.heap.size + 4 = b4 at *
  generalize w.heap.size + 3 = b3 at *
  generalize w.heap.size + 2 = b2 at *
  have HOF := hid (pOf_any [1, 1] [1, 1] exW45 exE45 _ _ _ _ _ W6 (HE _ HB6.out).out HI6.out HI6.out HS6.out HE6.out ex45_sz.1 ex45_sze (by decide))
  rw [ex45_of, ex45_on] at HOF
  obtain ⟨x, hx⟩ : ∃ x, x = exE45 := ⟨_, rfl⟩
  obtain ⟨y, hy⟩ : ∃ y, y = exN45 := ⟨_, rfl⟩
  have HSZN : Hid (SzN y) := by show SzN y; rw [hy]; exact ex45_sz.2
  have HPE : Hid (prE y = 0) := by show _ = _; rw [hy]; exact ex45_pe
  have HPS : Hid (prS y = ⟨#[49, 32, 100, 101, 117, 115, 32, 93, 32, 100, 111, 109, 105, 110, 117, 115, 32, 123, 65, 32, 66, 125]⟩) := by show _ = _; rw [hy]; exact ex45_ps
  have HPA : Hid (parI ⟨#[49, 32, 100, 101, 117, 115, 32, 93, 32, 100, 111, 109, 105, 110, 117, 115, 32, 123, 65, 32, 66, 125]⟩ = 0 ∧ parN ⟨#[49, 32, 100, 101, 117, 115, 32, 93, 32, 100, 111, 109, 105, 110, 117, 115, 32, 123, 65, 32, 66, 125]⟩ = y) := by show _ ∧ _; rw [hy]; exact ex45_par
  have HRS : Hid (rsI [1, 1] [1, 1] exW45 1 y = 0 ∧ rsN [1, 1] [1, 1] exW45 1 y = x) := by show _ ∧ _; rw [hy, hx]; exact ex45_rs
  rw [← hy, ← hx] at HOF
  rw [← hx] at HR6 HE6
  have hxl : x.ly = 1 := by rw [hx]; rfl
  have hxf : x.fr = 0 := by rw [hx]; rfl
  have hxt : x.to_ = 1 := by rw [hx]; rfl
  have hxp : x.pos = false := by rw [hx]; rfl
  clear hx hy
  unfold En.cells at HOF HR6
  have c0 := HR6.out.cell 0 (x := .int .i64 x.ly) rfl
  have c1 := HR6.out.cell 1 (x := .int .i64 x.fr) rfl
  have c2 := HR6.out.cell 2 (x := .int .i64 x.to_) rfl
  have c3 := HR6.out.cell 3 (x := .bool x.pos) rfl
  have c4 := HR6.out.cell 4 (x := .slice none 0 0) rfl
  have c5 := HR6.out.cell 5 (x := .slice (some ⟨b2, 0, none⟩) 1 1) rfl
  clear hxl hxf hxt hxp
  go_wp2_with fail
  (with_reducible refine HOF.out.mono ?_)
  rintro e w7 ⟨au, nu, cu, av, nv, cv, rfl, hN, hB7⟩
  have hal := below_al w7 (.cells (y.cells (.slice au nu cu) (.slice av nv cv)) 30)
  have HB8 := hid (below_tr HB6.out (below_tr hB7 hal))
  have HR8 := hid ((HR6.out.below hB7).below hal)
  have HE8 := hid ((HE6.out.below hB7).below hal)
  have HI8 := hid ((HI6.out.below hB7).below hal)
  have HS8 := hid ((HS6.out.below hB7).below hal)
  have HN8 := hid (hN.below hal)
  have HY8 := hid (row_nw w7 (y.cells (.slice au nu cu) (.slice av nv cv)) 30 rfl)
  clear HOF HB6 HR6 HE6 HI6 HS6 hN hB7 hal c0 c1 c2 c3 c4 c5
  unfold Nt.cells at *
  go_upto_region 4 with fail
  generalize w7.alloc (.cells #[.int .i64 y.fr, .int .i64 y.to_, .int .i64 y.pl, .string y.lf, .string y.ll, .int .i64 y.ln, .bool y.pos, .slice au nu cu, .slice av nv cv] 30) = W8 at *
  generalize w7.heap.size = b8 at *
  have d0 := HY8.out.cell 0 (x := .int .i64 y.fr) rfl
  have d1 := HY8.out.cell 1 (x := .int .i64 y.to_) rfl
  have d2 := HY8.out.cell 2 (x := .int .i64 y.pl) rfl
  have d3 := HY8.out.cell 3 (x := .string y.lf) rfl
  have d4 := HY8.out.cell 4 (x := .string y.ll) rfl
  have d5 := HY8.out.cell 5 (x := .int .i64 y.ln) rfl
  have d6 := HY8.out.cell 6 (x := .bool y.pos) rfl
  have d7 := HY8.out.cell 7 (x := .slice au nu cu) rfl
  have d8 := HY8.out.cell 8 (x := .slice av nv cv) rfl
  have HPR := hid (pprt_any y (.slice au nu cu) (.slice av nv cv) W8 (HE _ HB8.out).out HN8.out HSZN.out)
  rw [HPE.out, HPS.out] at HPR
  unfold Nt.cells at HPR
  go_wp2_with fail
  (with_reducible refine HPR.out.mono ?_)
  rintro e w9 ⟨rfl, hB9⟩
  have HB9 := hid (below_tr HB8.out hB9)
  have HR9 := hid (HR8.out.below hB9)
  have HE9 := hid (HE8.out.below hB9)
  have HI9 := hid (HI8.out.below hB9)
  have HS9 := hid (HS8.out.below hB9)
  clear HPR HB8 HR8 HE8 HI8 HS8 HN8 HY8 hB9 HPE HPS d0 d1 d2 d3 d4 d5 d6 d7 d8
  have HPC := hid (ppar_any ⟨#[49, 32, 100, 101, 117, 115, 32, 93, 32, 100, 111, 109, 105, 110, 117, 115, 32, 123, 65, 32, 66, 125]⟩ m w9 (HE _ HB9.out).out (by decide) (HM _ HB9.out).out)
  rw [HPA.out.1, HPA.out.2] at HPC
  go_wp2_with fail
  (with_reducible refine HPC.out.mono ?_)
  rintro e w10 ⟨bu, mu, du, bv, mv, dv, rfl, hN, hB10⟩
  have hal := below_al w10 (.cells (y.cells (.slice bu mu du) (.slice bv mv dv)) 30)
  have HB11 := hid (below_tr HB9.out (below_tr hB10 hal))
  have HR11 := hid ((HR9.out.below hB10).below hal)
  have HE11 := hid ((HE9.out.below hB10).below hal)
  have HI11 := hid ((HI9.out.below hB10).below hal)
  have HS11 := hid ((HS9.out.below hB10).below hal)
  have HN11 := hid (hN.below hal)
  have HY11 := hid (row_nw w10 (y.cells (.slice bu mu du) (.slice bv mv dv)) 30 rfl)
  clear HPC HB9 HR9 HE9 HI9 HS9 hN hB10 hal HPA
  unfold Nt.cells at *
  go_upto_region 6 with fail
  generalize w10.alloc (.cells #[.int .i64 y.fr, .int .i64 y.to_, .int .i64 y.pl, .string y.lf, .string y.ll, .int .i64 y.ln, .bool y.pos, .slice bu mu du, .slice bv mv dv] 30) = W11 at *
  generalize w10.heap.size = b11 at *
  have f0 := HY11.out.cell 0 (x := .int .i64 y.fr) rfl
  have f1 := HY11.out.cell 1 (x := .int .i64 y.to_) rfl
  have f2 := HY11.out.cell 2 (x := .int .i64 y.pl) rfl
  have f3 := HY11.out.cell 3 (x := .string y.lf) rfl
  have f4 := HY11.out.cell 4 (x := .string y.ll) rfl
  have f5 := HY11.out.cell 5 (x := .int .i64 y.ln) rfl
  have f6 := HY11.out.cell 6 (x := .bool y.pos) rfl
  have f7 := HY11.out.cell 7 (x := .slice bu mu du) rfl
  have f8 := HY11.out.cell 8 (x := .slice bv mv dv) rfl
  have HRE := hid (pres_any [1, 1] [1, 1] exW45 1 y _ _ _ (.slice bu mu du) (.slice bv mv dv) W11 (HE _ HB11.out).out HI11.out HI11.out HS11.out HN11.out ex45_sz.1 HSZN.out (by decide))
  rw [HRS.out.1, HRS.out.2] at HRE
  unfold Nt.cells at HRE
  go_wp2_with fail
  (with_reducible refine HRE.out.mono ?_)
  rintro e w12 ⟨gu, ku, lu, gv, kv, lv, rfl, hX, hB12⟩
  have hal := below_al w12 (.cells (x.cells (.slice gu ku lu) (.slice gv kv lv)) 26)
  have HB13 := hid (below_tr HB11.out (below_tr hB12 hal))
  have HR13 := hid ((HR11.out.below hB12).below hal)
  have HE13 := hid ((HE11.out.below hB12).below hal)
  have HX13 := hid (hX.below hal)
  have HY13 := hid (row_nw w12 (x.cells (.slice gu ku lu) (.slice gv kv lv)) 26 rfl)
  clear HRE HB11 HR11 HE11 HI11 HS11 HN11 HY11 hX hB12 hal f0 f1 f2 f3 f4 f5 f6 f7 f8 HRS
  unfold En.cells at *
  go_upto_region 7 with fail
  generalize w12.alloc (.cells #[.int .i64 x.ly, .int .i64 x.fr, .int .i64 x.to_, .bool x.pos, .slice gu ku lu, .slice gv kv lv] 26) = W13 at *
  generalize w12.heap.size = b13 at *
  have c0 := HR13.out.cell 0 (x := .int .i64 x.ly) rfl
  have c1 := HR13.out.cell 1 (x := .int .i64 x.fr) rfl
  have c2 := HR13.out.cell 2 (x := .int .i64 x.to_) rfl
  have c3 := HR13.out.cell 3 (x := .bool x.pos) rfl
  have c4 := HR13.out.cell 4 (x := .slice none 0 0) rfl
  have c5 := HR13.out.cell 5 (x := .slice (some ⟨b2, 0, none⟩) 1 1) rfl
  have h0 := HY13.out.cell 0 (x := .int .i64 x.ly) rfl
  have h1 := HY13.out.cell 1 (x := .int .i64 x.fr) rfl
  have h2 := HY13.out.cell 2 (x := .int .i64 x.to_) rfl
  have h3 := HY13.out.cell 3 (x := .bool x.pos) rfl
  have h4 := HY13.out.cell 4 (x := .slice gu ku lu) rfl
  have h5 := HY13.out.cell 5 (x := .slice gv kv lv) rfl
  have HSM := hid (rsameE_any x x _ _ _ _ W13 HX13.out HE13.out)
  rw [enB_iff.2 rfl] at HSM
  unfold En.cells at HSM
  go_wp2_with fail
  (with_reducible refine HSM.out.mono ?_)
  rintro e w14 ⟨rfl, hB14⟩
  go_wp2
  go_ret
  exact ⟨rfl, below_tr HB13.out hB14⟩
end Go.Proofs.YtjhdeoniafahbaaGreatDoor
namespace Go.Proofs.YtjhdeoniafahbaaGreatDoor
open Go.RowKit
structure FrmS (w : World) (B0 B1 B2 : Nat) (x : Nt) (u s : Value) (y : Nt) (u1 s1 u2 s2 v1 v2 : Value) (L : List ByteArray) (W : World) : Prop where
  bel : Below w.heap.size w W
  r0 : Row W B0 (x.cells u s) 30
  r1 : Row W B1 (y.cells u1 s1) 30
  r2 : Row W B2 (y.cells u2 s2) 30
  n1 : RdN W u1 s1 y
  n2 : RdN W u2 s2 y
  p1 : RdS W v1 L
  p2 : RdS W v2 L
theorem FrmS.below {w : World} {B0 B1 B2 : Nat} {x : Nt} {u s : Value} {y : Nt} {u1 s1 u2 s2 v1 v2 : Value} {L : List ByteArray} {W W' : World} (h : FrmS w B0 B1 B2 x u s y u1 s1 u2 s2 v1 v2 L W) (hb : Below W.heap.size W W') : FrmS w B0 B1 B2 x u s y u1 s1 u2 s2 v1 v2 L W' :=
  ⟨below_tr h.bel hb, h.r0.below hb, h.r1.below hb, h.r2.below hb, h.n1.below hb, h.n2.below hb, h.p1.below hb, h.p2.below hb⟩
theorem FrmS.drew {w : World} {B0 B1 B2 : Nat} {x : Nt} {u s : Value} {y : Nt} {u1 s1 u2 s2 v1 v2 : Value} {L : List ByteArray} {W : World} (h : FrmS w B0 B1 B2 x u s y u1 s1 u2 s2 v1 v2 L W) : FrmS w B0 B1 B2 x u s y u1 s1 u2 s2 v1 v2 L W.drew := h.below (Below.refl _ _).drew
theorem FrmS.all {w : World} {B0 B1 B2 : Nat} {x y : Nt} {au av am ak ag ah : Option Addr} {nu cu nv cv nm cm nk ck ng cg nh ch : Nat} {v1 v2 : Value} {L : List ByteArray} {W : World} (h : FrmS w B0 B1 B2 x (.slice au nu cu) (.slice av nv cv) y (.slice am nm cm) (.slice ak nk ck) (.slice ag ng cg) (.slice ah nh ch) v1 v2 L W) :
    W.cell? ⟨B0, 0, none⟩ = some (.int .i64 x.fr) ∧ W.cell? ⟨B0, 1, none⟩ = some (.int .i64 x.to_) ∧ W.cell? ⟨B0, 2, none⟩ = some (.int .i64 x.pl) ∧ W.cell? ⟨B0, 3, none⟩ = some (.string x.lf) ∧ W.cell? ⟨B0, 4, none⟩ = some (.string x.ll) ∧ W.cell? ⟨B0, 5, none⟩ = some (.int .i64 x.ln) ∧ W.cell? ⟨B0, 6, none⟩ = some (.bool x.pos) ∧ W.cell? ⟨B0, 7, none⟩ = some (.slice au nu cu) ∧ W.cell? ⟨B0, 8, none⟩ = some (.slice av nv cv) ∧ W.cell? ⟨B1, 0, none⟩ = some (.int .i64 y.fr) ∧ W.cell? ⟨B1, 1, none⟩ = some (.int .i64 y.to_) ∧ W.cell? ⟨B1, 2, none⟩ = some (.int .i64 y.pl) ∧ W.cell? ⟨B1, 3, none⟩ = some (.string y.lf) ∧ W.cell? ⟨B1, 4, none⟩ = some (.string y.ll) ∧ W.cell? ⟨B1, 5, none⟩ = some (.int .i64 y.ln) ∧ W.cell? ⟨B1, 6, none⟩ = some (.bool y.pos) ∧ W.cell? ⟨B1, 7, none⟩ = some (.slice am nm cm) ∧ W.cell? ⟨B1, 8, none⟩ = some (.slice ak nk ck) ∧ W.cell? ⟨B2, 0, none⟩ = some (.int .i64 y.fr) ∧ W.cell? ⟨B2, 1, none⟩ = some (.int .i64 y.to_) ∧ W.cell? ⟨B2, 2, none⟩ = some (.int .i64 y.pl) ∧ W.cell? ⟨B2, 3, none⟩ = some (.string y.lf) ∧ W.cell? ⟨B2, 4, none⟩ = some (.string y.ll) ∧ W.cell? ⟨B2, 5, none⟩ = some (.int .i64 y.ln) ∧ W.cell? ⟨B2, 6, none⟩ = some (.bool y.pos) ∧ W.cell? ⟨B2, 7, none⟩ = some (.slice ag ng cg) ∧ W.cell? ⟨B2, 8, none⟩ = some (.slice ah nh ch) ∧ FrmS w B0 B1 B2 x (.slice au nu cu) (.slice av nv cv) y (.slice am nm cm) (.slice ak nk ck) (.slice ag ng cg) (.slice ah nh ch) v1 v2 L W :=
  ⟨h.r0.cell 0 rfl, h.r0.cell 1 rfl, h.r0.cell 2 rfl, h.r0.cell 3 rfl, h.r0.cell 4 rfl, h.r0.cell 5 rfl, h.r0.cell 6 rfl, h.r0.cell 7 rfl, h.r0.cell 8 rfl, h.r1.cell 0 rfl, h.r1.cell 1 rfl, h.r1.cell 2 rfl, h.r1.cell 3 rfl, h.r1.cell 4 rfl, h.r1.cell 5 rfl, h.r1.cell 6 rfl, h.r1.cell 7 rfl, h.r1.cell 8 rfl, h.r2.cell 0 rfl, h.r2.cell 1 rfl, h.r2.cell 2 rfl, h.r2.cell 3 rfl, h.r2.cell 4 rfl, h.r2.cell 5 rfl, h.r2.cell 6 rfl, h.r2.cell 7 rfl, h.r2.cell 8 rfl, h⟩
set_option maxRecDepth 100000 in
set_option maxHeartbeats 8000000 in
theorem lfrm_any (x : Nt) (u s : Value) (t : ByteArray) (v : Value) (ws : List ByteArray) (m : Int) (w : World) (he : Env w) (hm : w.cell? ⟨0, 0, none⟩ = some (.int .i64 m)) (hr : RdN w u s x) (hz : SzN0 x) (ht : t.size ≤ maxLen) (hv : RdS w v ws) (hvz : Szs ws) :
    Calls Tryz.prog 9 #[.agg (x.cells u s), .string t, v] w fun e w' => e = .returned (.bool true) ∧ Below w.heap.size w w' := by
  have HE := fun w' (h : Below w.heap.size w w') => hid (he.below h)
  have HM := fun w' (h : Below w.heap.size w w') => hid (Below.keeps h _ _ hm)
  have HAW := fun w' (h : Below w.heap.size w w') => hid (awake45_any m w' (HE w' h).out (HM w' h).out)
  have htm : t.size ≤ 9223372036854775807 := ht
  obtain ⟨au, cu, rfl, _, _, _⟩ := hr.rs.open
  obtain ⟨av, cv, rfl, _, _, _⟩ := hr.rv.open
  generalize x.sup.length = nu at *
  generalize x.vs.length = nv at *
  have HR := fun w' (h : Below w.heap.size w w') => hid (hr.below h)
  have HV := fun w' (h : Below w.heap.size w w') => hid (hv.below h)
  have HB0 := hid (below_al w (.cells (x.cells (.slice au nu cu) (.slice av nv cv)) 30))
  have HN0 := hid (row_nw w (x.cells (.slice au nu cu) (.slice av nv cv)) 30 rfl)
  have HG := hid (greatN_any x (.slice au nu cu) (.slice av nv cv) _ (HR _ HB0.out).out hz)
  have HGW := fun w' (h : Below w.heap.size w w') => hid (greatw_any v ws 10 w' (HV w' h).out hvz)
  have HNS := fun h => hid (nt_small (x := x) h)
  have HCK := fun w' (h : Below w.heap.size w w') hz => hid (pchk_any x (.slice au nu cu) (.slice av nv cv) w' (HE w' h).out (HR w' h).out hz)
  have HRK := fun w' (h : Below w.heap.size w w') hz => hid (rchk_any x (.slice au nu cu) (.slice av nv cv) w' (HE w' h).out (HR w' h).out hz)
  have HPR := fun w' (h : Below w.heap.size w w') hz => hid (pprt_any x (.slice au nu cu) (.slice av nv cv) w' (HE w' h).out (HR w' h).out hz)
  have HRR := fun w' (h : Below w.heap.size w w') hz => hid (rprt_any x (.slice au nu cu) (.slice av nv cv) w' (HE w' h).out (HR w' h).out hz)
  have HPA := fun w' (h : Below w.heap.size w w') hz => hid (ppar_any t m w' (HE w' h).out hz (HM w' h).out)
  have HRA := fun w' (h : Below w.heap.size w w') hz => hid (rpar45_any t w' (HE w' h).out hz)
  have HPQ := fun w' (h : Below w.heap.size w w') h1 h2 => hid (pquote_any v ws w' (HE w' h).out (HV w' h).out h1 h2)
  have HRQ := fun w' (h : Below w.heap.size w w') h1 h2 => hid (rQuote_any v ws w' (HE w' h).out (HV w' h).out h1 h2)
  have HPU := fun w' (h : Below w.heap.size w w') hz => hid (punq_any t m w' (HE w' h).out hz (HM w' h).out)
  have HRU := fun w' (h : Below w.heap.size w w') hz => hid (rUnq_any t w' (HE w' h).out hz)
  have HGO := fun h => hid (gw_ok (l := ws) (n := 10) h)
  obtain ⟨aw, cw, rfl, _, _, _⟩ := hv.open
  clear he hm hr hz ht hv hvz
  generalize hnw : ws.length = nw at *
  have HNW := hid hnw
  clear hnw
  unfold Nt.cells at HB0 HN0 HG HCK HRK HPR HRR ⊢
  have c0 := HN0.out.cell 0 (x := .int .i64 x.fr) rfl
  have c1 := HN0.out.cell 1 (x := .int .i64 x.to_) rfl
  have c2 := HN0.out.cell 2 (x := .int .i64 x.pl) rfl
  have c3 := HN0.out.cell 3 (x := .string x.lf) rfl
  have c4 := HN0.out.cell 4 (x := .string x.ll) rfl
  have c5 := HN0.out.cell 5 (x := .int .i64 x.ln) rfl
  have c6 := HN0.out.cell 6 (x := .bool x.pos) rfl
  have c7 := HN0.out.cell 7 (x := .slice au nu cu) rfl
  have c8 := HN0.out.cell 8 (x := .slice av nv cv) rfl
  go_enter Tryz.func9, Tryz.ntmps9
  go_upto_region 1 with fail
  generalize w.alloc (.cells #[.int .i64 x.fr, .int .i64 x.to_, .int .i64 x.pl, .string x.lf, .string x.ll, .int .i64 x.ln, .bool x.pos, .slice au nu cu, .slice av nv cv] 30) = W0 at *
  obtain ⟨B0, hbn⟩ : ∃ b, b = w.heap.size := ⟨_, rfl⟩
  rw [← hbn] at HN0 c0 c1 c2 c3 c4 c5 c6 c7 c8 ⊢
  clear hbn
  cases hg : gnB x with
  | true =>
    rw [hg] at HG
    clear hg HNS HCK HRK HPR HRR HPA HRA HPQ HRQ HPU HRU HGW HGO
    go_wp2_with fail
    (with_reducible refine HG.out.mono ?_)
    rintro e w1 ⟨rfl, hB⟩
    have HB1 := hid (below_tr HB0.out hB)
    clear hB c0 c1 c2 c3 c4 c5 c6 c7 c8
    go_wp2_with fail
    (with_reducible refine (HAW _ HB1.out).out.mono ?_)
    rintro e wa ⟨rfl, hBa⟩
    go_wp2
    go_ret
    exact ⟨rfl, below_tr HB1.out hBa⟩
  | false =>
    have HSM := HNS hg
    have HSZ := hid (nt_sz2 HSM.out)
    rw [hg] at HG
    clear hg HNS
    by_cases hb : 200 < t.size
    · have hb1 : (200 : Int) < (t.size : Int) := by omega
      clear HCK HRK HPR HRR HPA HRA HPQ HRQ HPU HRU HGW HGO HSM HSZ
      go_wp2_with fail
      (with_reducible refine HG.out.mono ?_)
      rintro e w1 ⟨rfl, hB⟩
      have HB1 := hid (below_tr HB0.out hB)
      clear hB c0 c1 c2 c3 c4 c5 c6 c7 c8
      go_wp2_with fail
      (with_reducible refine (HAW _ HB1.out).out.mono ?_)
      rintro e wa ⟨rfl, hBa⟩
      go_wp2
      go_ret
      exact ⟨rfl, below_tr HB1.out hBa⟩
    have hb1 : ¬ (200 : Int) < (t.size : Int) := by omega
    cases hgw : gwB ws 10 with
    | true =>
      rw [hgw] at HGW
      clear hgw hb HCK HRK HPR HRR HPA HRA HPQ HRQ HPU HRU HGO HSM HSZ
      go_wp2_with fail
      (with_reducible refine HG.out.mono ?_)
      rintro e w1 ⟨rfl, hB⟩
      have HB1 := hid (below_tr HB0.out hB)
      clear hB c0 c1 c2 c3 c4 c5 c6 c7 c8
      go_wp2_with fail
      (with_reducible refine (HGW _ HB1.out).out.mono ?_)
      rintro e w2 ⟨rfl, rfl⟩
      go_wp2_with fail
      (with_reducible refine (HAW _ HB1.out).out.mono ?_)
      rintro e wa ⟨rfl, hBa⟩
      go_wp2
      go_ret
      exact ⟨rfl, below_tr HB1.out hBa⟩
    | false =>
      rw [hgw] at HGW
      obtain ⟨hg1, hg2⟩ := (HGO hgw).out
      have h10 : ws.length ≤ 10 := by have := HNW.out; omega
      have hj10 : (joinB ws).size ≤ 1000000000 := by
        have h1 := joinB_len hg2
        have h2 : ws.length * (20 + 1) ≤ 10 * 21 := Nat.mul_le_mul h10 (Nat.le_refl _)
        omega
      have HP1 := fun w' h => HPR w' h HSZ.out
      have HP2 := fun w' h => HRR w' h HSZ.out
      have HK1 := fun w' h => HCK w' h HSZ.out
      have HK2 := fun w' h => HRK w' h HSZ.out
      have HA1 := fun w' h => HPA w' h (by omega)
      have HA2 := fun w' h => HRA w' h (by omega)
      have HQ1 := fun w' h => HPQ w' h (fun s hs => by have := hg2 s hs; omega) (by omega)
      have HQ2 := fun w' h => HRQ w' h (fun s hs => by have := hg2 s hs; omega) hj10
      have HU1 := fun w' h => HPU w' h (by omega)
      have HU2 := fun w' h => HRU w' h (by omega)
      clear hgw hb HCK HRK HPR HRR HPA HRA HPQ HRQ HPU HRU HGO HSM HSZ hg1 hg2 h10 hj10 HR HV HM HNW
      generalize prS x = ps at *
      generalize prE x = pe at *
      generalize nteI x = ne at *
      generalize parN t = y at *
      generalize parI t = pi at *
      generalize quotS ws = qs at *
      generalize quotI ws = qi at *
      generalize unqI t = ui at *
      generalize unqL t = LU at *
      go_wp2_with fail
      (with_reducible refine HG.out.mono ?_)
      rintro e w1 ⟨rfl, hB⟩
      have HB1 := hid (below_tr HB0.out hB)
      have HN1 := hid (HN0.out.below hB)
      clear hB HB0 HN0 HG c0 c1 c2 c3 c4 c5 c6 c7 c8
      go_wp2_with fail
      (with_reducible refine (HGW _ HB1.out).out.mono ?_)
      rintro e w2 ⟨rfl, rfl⟩
      clear HGW
      have c0 := HN1.out.cell 0 (x := .int .i64 x.fr) rfl
      have c1 := HN1.out.cell 1 (x := .int .i64 x.to_) rfl
      have c2 := HN1.out.cell 2 (x := .int .i64 x.pl) rfl
      have c3 := HN1.out.cell 3 (x := .string x.lf) rfl
      have c4 := HN1.out.cell 4 (x := .string x.ll) rfl
      have c5 := HN1.out.cell 5 (x := .int .i64 x.ln) rfl
      have c6 := HN1.out.cell 6 (x := .bool x.pos) rfl
      have c7 := HN1.out.cell 7 (x := .slice au nu cu) rfl
      have c8 := HN1.out.cell 8 (x := .slice av nv cv) rfl
      go_wp2_with fail
      (with_reducible refine (HP1 _ HB1.out).out.mono ?_)
      rintro e w2 ⟨rfl, hB⟩
      have HB2 := hid (below_tr HB1.out hB)
      have HN2 := hid (HN1.out.below hB)
      clear hB HB1 HN1 HP1 c0 c1 c2 c3 c4 c5 c6 c7 c8
      have c0 := HN2.out.cell 0 (x := .int .i64 x.fr) rfl
      have c1 := HN2.out.cell 1 (x := .int .i64 x.to_) rfl
      have c2 := HN2.out.cell 2 (x := .int .i64 x.pl) rfl
      have c3 := HN2.out.cell 3 (x := .string x.lf) rfl
      have c4 := HN2.out.cell 4 (x := .string x.ll) rfl
      have c5 := HN2.out.cell 5 (x := .int .i64 x.ln) rfl
      have c6 := HN2.out.cell 6 (x := .bool x.pos) rfl
      have c7 := HN2.out.cell 7 (x := .slice au nu cu) rfl
      have c8 := HN2.out.cell 8 (x := .slice av nv cv) rfl
      go_wp2_with fail
      (with_reducible refine (HP2 _ HB2.out).out.mono ?_)
      rintro e w3 ⟨rfl, hB⟩
      have HB3 := hid (below_tr HB2.out hB)
      have HN3 := hid (HN2.out.below hB)
      clear hB HB2 HN2 HP2 c0 c1 c2 c3 c4 c5 c6 c7 c8
      go_wp2_with fail
      (with_reducible refine (HA1 _ HB3.out).out.mono ?_)
      rintro e w4 ⟨am, nm, cm, ak, nk, ck, rfl, hN, hB⟩
      have hal := below_al w4 (.cells (y.cells (.slice am nm cm) (.slice ak nk ck)) 30)
      have HB5 := hid (below_tr HB3.out (below_tr hB hal))
      have HN5 := hid ((HN3.out.below hB).below hal)
      have HM5 := hid (row_nw w4 (y.cells (.slice am nm cm) (.slice ak nk ck)) 30 rfl)
      have HY5 := hid (hN.below hal)
      unfold Nt.cells at HB5 HN5 HM5 HY5 ⊢
      clear hal hB hN HB3 HN3 HA1
      go_upto_region 6 with fail
      generalize w4.alloc (.cells #[.int .i64 y.fr, .int .i64 y.to_, .int .i64 y.pl, .string y.lf, .string y.ll, .int .i64 y.ln, .bool y.pos, .slice am nm cm, .slice ak nk ck] 30) = W5 at *
      generalize w4.heap.size = B1 at *
      go_wp2_with fail
      (with_reducible refine (HA2 _ HB5.out).out.mono ?_)
      rintro e w6 ⟨ag, ng, cg, ah, nh, ch, rfl, hN, hB⟩
      have hal := below_al w6 (.cells (y.cells (.slice ag ng cg) (.slice ah nh ch)) 30)
      have HB7 := hid (below_tr HB5.out (below_tr hB hal))
      have HN7 := hid ((HN5.out.below hB).below hal)
      have HM7 := hid ((HM5.out.below hB).below hal)
      have HY7 := hid ((HY5.out.below hB).below hal)
      have HX7 := hid (row_nw w6 (y.cells (.slice ag ng cg) (.slice ah nh ch)) 30 rfl)
      have HZ7 := hid (hN.below hal)
      unfold Nt.cells at HB7 HN7 HM7 HY7 HX7 HZ7 ⊢
      clear hal hB hN HB5 HN5 HM5 HY5 HA2
      go_upto_region 7 with fail
      generalize w6.alloc (.cells #[.int .i64 y.fr, .int .i64 y.to_, .int .i64 y.pl, .string y.lf, .string y.ll, .int .i64 y.ln, .bool y.pos, .slice ag ng cg, .slice ah nh ch] 30) = W7 at *
      generalize w6.heap.size = B2 at *
      go_wp2_with fail
      (with_reducible refine (HQ1 _ HB7.out).out.mono ?_)
      rintro e w8 ⟨rfl, hB⟩
      have HB8 := hid (below_tr HB7.out hB)
      have HN8 := hid (HN7.out.below hB)
      have HM8 := hid (HM7.out.below hB)
      have HY8 := hid (HY7.out.below hB)
      have HX8 := hid (HX7.out.below hB)
      have HZ8 := hid (HZ7.out.below hB)
      clear hB HB7 HN7 HM7 HY7 HX7 HZ7 HQ1
      go_wp2_with fail
      (with_reducible refine (HQ2 _ HB8.out).out.mono ?_)
      rintro e w9 ⟨rfl, hB⟩
      have HB9 := hid (below_tr HB8.out hB)
      have HN9 := hid (HN8.out.below hB)
      have HM9 := hid (HM8.out.below hB)
      have HY9 := hid (HY8.out.below hB)
      have HX9 := hid (HX8.out.below hB)
      have HZ9 := hid (HZ8.out.below hB)
      clear hB HB8 HN8 HM8 HY8 HX8 HZ8 HQ2
      go_wp2_with fail
      (with_reducible refine (HU1 _ HB9.out).out.mono ?_)
      rintro e w10 ⟨vq, rfl, hq, hB⟩
      obtain ⟨aq, cq, rfl⟩ := hq.form
      have HB10 := hid (below_tr HB9.out hB)
      have HN10 := hid (HN9.out.below hB)
      have HM10 := hid (HM9.out.below hB)
      have HY10 := hid (HY9.out.below hB)
      have HX10 := hid (HX9.out.below hB)
      have HZ10 := hid (HZ9.out.below hB)
      have HQ10 := hid hq.rd
      clear hB hq HB9 HN9 HM9 HY9 HX9 HZ9 HU1
      generalize hnq : LU.length = nq at *
      go_wp2_with fail
      (with_reducible refine (HU2 _ HB10.out).out.mono ?_)
      rintro e w11 ⟨vr, rfl, hq, hB⟩
      obtain ⟨ar, cr, rfl⟩ := hq.form
      rw [hnq] at hq ⊢
      have hst0 : FrmS w B0 B1 B2 x (.slice au nu cu) (.slice av nv cv) y (.slice am nm cm) (.slice ak nk ck) (.slice ag ng cg) (.slice ah nh ch) (.slice aq nq cq) (.slice ar nq cr) LU w11 := ⟨below_tr HB10.out hB, HN10.out.below hB, HM10.out.below hB, HX10.out.below hB, HY10.out.below hB, HZ10.out.below hB, HQ10.out.below hB, hq.rd⟩
      have hst := hst0
      clear hB hq HB10 HN10 HM10 HY10 HX10 HZ10 HQ10 HU2 hnq hst0
      have c0 := hst.r0.cell 0 (x := .int .i64 x.fr) rfl
      have c1 := hst.r0.cell 1 (x := .int .i64 x.to_) rfl
      have c2 := hst.r0.cell 2 (x := .int .i64 x.pl) rfl
      have c3 := hst.r0.cell 3 (x := .string x.lf) rfl
      have c4 := hst.r0.cell 4 (x := .string x.ll) rfl
      have c5 := hst.r0.cell 5 (x := .int .i64 x.ln) rfl
      have c6 := hst.r0.cell 6 (x := .bool x.pos) rfl
      have c7 := hst.r0.cell 7 (x := .slice au nu cu) rfl
      have c8 := hst.r0.cell 8 (x := .slice av nv cv) rfl
      have d0 := hst.r1.cell 0 (x := .int .i64 y.fr) rfl
      have d1 := hst.r1.cell 1 (x := .int .i64 y.to_) rfl
      have d2 := hst.r1.cell 2 (x := .int .i64 y.pl) rfl
      have d3 := hst.r1.cell 3 (x := .string y.lf) rfl
      have d4 := hst.r1.cell 4 (x := .string y.ll) rfl
      have d5 := hst.r1.cell 5 (x := .int .i64 y.ln) rfl
      have d6 := hst.r1.cell 6 (x := .bool y.pos) rfl
      have d7 := hst.r1.cell 7 (x := .slice am nm cm) rfl
      have d8 := hst.r1.cell 8 (x := .slice ak nk ck) rfl
      have e0 := hst.r2.cell 0 (x := .int .i64 y.fr) rfl
      have e1 := hst.r2.cell 1 (x := .int .i64 y.to_) rfl
      have e2 := hst.r2.cell 2 (x := .int .i64 y.pl) rfl
      have e3 := hst.r2.cell 3 (x := .string y.lf) rfl
      have e4 := hst.r2.cell 4 (x := .string y.ll) rfl
      have e5 := hst.r2.cell 5 (x := .int .i64 y.ln) rfl
      have e6 := hst.r2.cell 6 (x := .bool y.pos) rfl
      have e7 := hst.r2.cell 7 (x := .slice ag ng cg) rfl
      have e8 := hst.r2.cell 8 (x := .slice ah nh ch) rfl
      have HSA := fun w' (h : FrmS w B0 B1 B2 x (.slice au nu cu) (.slice av nv cv) y (.slice am nm cm) (.slice ak nk ck) (.slice ag ng cg) (.slice ah nh ch) (.slice aq nq cq) (.slice ar nq cr) LU w') => hid (rsame45_any y y _ _ _ _ w' h.n1 h.n2)
      rw [ntB_iff.2 rfl] at HSA
      unfold Nt.cells at HSA
      have HEQ := fun w' (h : FrmS w B0 B1 B2 x (.slice au nu cu) (.slice av nv cv) y (.slice am nm cm) (.slice ak nk ck) (.slice ag ng cg) (.slice ah nh ch) (.slice aq nq cq) (.slice ar nq cr) LU w') => hid (equalS_any _ _ LU LU w' h.p1 h.p2)
      simp only [decide_true] at HEQ
      have f1 : (ne == ne) = true := by simp
      have f2 : (pe == pe) = true := by simp
      have f3 : (pi == pi) = true := by simp
      have f4 : (qi == qi) = true := by simp
      have f5 : (ui == ui) = true := by simp
      have f6 : (ps.toList == ps.toList) = true := by simp
      have f7 : (qs.toList == qs.toList) = true := by simp
      go_wp2_with fail
      go_region_held3 (fun w' => w'.cell? ⟨B0, 0, none⟩ = some (.int .i64 x.fr) ∧ w'.cell? ⟨B0, 1, none⟩ = some (.int .i64 x.to_) ∧ w'.cell? ⟨B0, 2, none⟩ = some (.int .i64 x.pl) ∧ w'.cell? ⟨B0, 3, none⟩ = some (.string x.lf) ∧ w'.cell? ⟨B0, 4, none⟩ = some (.string x.ll) ∧ w'.cell? ⟨B0, 5, none⟩ = some (.int .i64 x.ln) ∧ w'.cell? ⟨B0, 6, none⟩ = some (.bool x.pos) ∧ w'.cell? ⟨B0, 7, none⟩ = some (.slice au nu cu) ∧ w'.cell? ⟨B0, 8, none⟩ = some (.slice av nv cv) ∧ w'.cell? ⟨B1, 0, none⟩ = some (.int .i64 y.fr) ∧ w'.cell? ⟨B1, 1, none⟩ = some (.int .i64 y.to_) ∧ w'.cell? ⟨B1, 2, none⟩ = some (.int .i64 y.pl) ∧ w'.cell? ⟨B1, 3, none⟩ = some (.string y.lf) ∧ w'.cell? ⟨B1, 4, none⟩ = some (.string y.ll) ∧ w'.cell? ⟨B1, 5, none⟩ = some (.int .i64 y.ln) ∧ w'.cell? ⟨B1, 6, none⟩ = some (.bool y.pos) ∧ w'.cell? ⟨B1, 7, none⟩ = some (.slice am nm cm) ∧ w'.cell? ⟨B1, 8, none⟩ = some (.slice ak nk ck) ∧ w'.cell? ⟨B2, 0, none⟩ = some (.int .i64 y.fr) ∧ w'.cell? ⟨B2, 1, none⟩ = some (.int .i64 y.to_) ∧ w'.cell? ⟨B2, 2, none⟩ = some (.int .i64 y.pl) ∧ w'.cell? ⟨B2, 3, none⟩ = some (.string y.lf) ∧ w'.cell? ⟨B2, 4, none⟩ = some (.string y.ll) ∧ w'.cell? ⟨B2, 5, none⟩ = some (.int .i64 y.ln) ∧ w'.cell? ⟨B2, 6, none⟩ = some (.bool y.pos) ∧ w'.cell? ⟨B2, 7, none⟩ = some (.slice ag ng cg) ∧ w'.cell? ⟨B2, 8, none⟩ = some (.slice ah nh ch) ∧ FrmS w B0 B1 B2 x (.slice au nu cu) (.slice av nv cv) y (.slice am nm cm) (.slice ak nk ck) (.slice ag ng cg) (.slice ah nh ch) (.slice aq nq cq) (.slice ar nq cr) LU w')
        (first | with_reducible exact FrmS.all hst | with_reducible exact FrmS.all (by with_reducible assumption) | with_reducible exact FrmS.all (FrmS.drew hst) | with_reducible exact FrmS.all (FrmS.drew (by with_reducible assumption)))
        (first
          | (go_at_call 22; go_split_ands; (with_reducible refine (HK1 _ (FrmS.bel (by with_reducible assumption))).out.mono ?_); rintro e wz ⟨rfl, hBz⟩; have zs := FrmS.below (by with_reducible assumption) hBz)
          | (go_at_call 34; go_split_ands; (with_reducible refine (HK2 _ (FrmS.bel (by with_reducible assumption))).out.mono ?_); rintro e wz ⟨rfl, hBz⟩; have zs := FrmS.below (by with_reducible assumption) hBz)
          | (go_at_call 19; go_split_ands; (with_reducible refine (HSA _ (by with_reducible assumption)).out.mono ?_); rintro e wz ⟨rfl, hBz⟩; have zs := FrmS.below (by with_reducible assumption) hBz)
          | (go_at_call 35; go_split_ands; (with_reducible refine (HEQ _ (by with_reducible assumption)).out.mono ?_); rintro e wz ⟨rfl, hBz⟩; have zs := FrmS.below (by with_reducible assumption) hBz)
          | (go_at_call 14; go_split_ands; (with_reducible refine (HAW _ (FrmS.bel (by with_reducible assumption))).out.mono ?_); rintro e wz ⟨rfl, hBz⟩; have zs := FrmS.below (by with_reducible assumption) hBz))
      all_goals go_split_ands
      all_goals go_wp2
      all_goals go_ret
      all_goals exact ⟨rfl, FrmS.bel (by with_reducible assumption)⟩
end Go.Proofs.YtjhdeoniafahbaaGreatDoor
