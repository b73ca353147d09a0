/-
  P45.2: NotationLossless.
-/
import Derived.Test.YtjhdeoniafahbaaGreatDoorLSup
namespace Go.Proofs.YtjhdeoniafahbaaGreatDoor
open Go.RowKit

theorem par_sz {s : ByteArray} (hs : s.size ≤ 65536) (h : parI s = 0) : SzN (parN s) := by
  unfold parI at h
  split at h
  · rename_i ho
    rw [(par_yes ho).2]
    have ho2 := ho
    unfold okP at ho2
    simp only [Bool.and_eq_true] at ho2
    exact noteP_sz hs ho2.2.1
  · split at h <;> cases h
theorem par_cases {s : ByteArray} (hs : s.size ≤ 65536) : parI s = 0 ∨ parI s = 3 := by
  unfold parI
  split
  · exact .inl rfl
  · rw [if_neg (by omega)]; exact .inr rfl
set_option maxRecDepth 100000 in
set_option maxHeartbeats 8000000 in
theorem llos_any (x : Nt) (u s : Value) (t : ByteArray) (m : Int) (w : World) (he : Env w) (hm : w.cell? ⟨0, 0, none⟩ = some (.int .i64 m)) (hr : RdN w u s x) (hz : SzN0 x) (ht : t.size ≤ maxLen) :
    Calls Tryz.prog 4 #[.agg (x.cells u s), .string t] w fun e w' => e = .returned (.bool true) ∧ Below w.heap.size w w' := by
  have HE := fun w' (h : Below w.heap.size w w') => hid (he.below h)
  have HM := fun w' (h : Below w.heap.size w w') => hid (Below.keeps h _ _ hm)
  have HAW := fun w' (h : Below w.heap.size w w') => hid (awake45_any m w' (HE w' h).out (HM w' h).out)
  have htm : t.size ≤ 9223372036854775807 := ht
  obtain ⟨au, cu, rfl, _, _, _⟩ := hr.rs.open
  obtain ⟨av, cv, rfl, _, _, _⟩ := hr.rv.open
  generalize x.sup.length = nu at *
  generalize x.vs.length = nv at *
  have HR := fun w' (h : Below w.heap.size w w') => hid (hr.below h)
  have HB0 := hid (below_al w (.cells (x.cells (.slice au nu cu) (.slice av nv cv)) 30))
  have HN0 := hid (row_nw w (x.cells (.slice au nu cu) (.slice av nv cv)) 30 rfl)
  have HG := hid (greatN_any x (.slice au nu cu) (.slice av nv cv) _ (HR _ HB0.out).out hz)
  have HNS := fun h => hid (nt_small (x := x) h)
  have HCK := fun w' (h : Below w.heap.size w w') hz => hid (pchk_any x (.slice au nu cu) (.slice av nv cv) w' (HE w' h).out (HR w' h).out hz)
  have HPR := fun w' (h : Below w.heap.size w w') hz => hid (pprt_any x (.slice au nu cu) (.slice av nv cv) w' (HE w' h).out (HR w' h).out hz)
  have HPA := fun q w' (h : Below w.heap.size w w') hz => hid (ppar_any q m w' (HE w' h).out hz (HM w' h).out)
  clear he hm hr hz ht
  unfold Nt.cells at HB0 HN0 HG HCK HPR ⊢
  have c0 := HN0.out.cell 0 (x := .int .i64 x.fr) rfl
  have c1 := HN0.out.cell 1 (x := .int .i64 x.to_) rfl
  have c2 := HN0.out.cell 2 (x := .int .i64 x.pl) rfl
  have c3 := HN0.out.cell 3 (x := .string x.lf) rfl
  have c4 := HN0.out.cell 4 (x := .string x.ll) rfl
  have c5 := HN0.out.cell 5 (x := .int .i64 x.ln) rfl
  have c6 := HN0.out.cell 6 (x := .bool x.pos) rfl
  have c7 := HN0.out.cell 7 (x := .slice au nu cu) rfl
  have c8 := HN0.out.cell 8 (x := .slice av nv cv) rfl
  go_enter Tryz.func4, Tryz.ntmps4
  go_upto_region 1 with fail
  generalize w.alloc (.cells #[.int .i64 x.fr, .int .i64 x.to_, .int .i64 x.pl, .string x.lf, .string x.ll, .int .i64 x.ln, .bool x.pos, .slice au nu cu, .slice av nv cv] 30) = W0 at *
  obtain ⟨bn, hbn⟩ : ∃ b, b = w.heap.size := ⟨_, rfl⟩
  rw [← hbn] at HN0 c0 c1 c2 c3 c4 c5 c6 c7 c8 ⊢
  clear hbn
  cases hg : gnB x with
  | true =>
    rw [hg] at HG
    clear hg HNS HCK HPR HPA
    go_wp2_with fail
    (with_reducible refine HG.out.mono ?_)
    rintro e w1 ⟨rfl, hB⟩
    have HB1 := hid (below_tr HB0.out hB)
    have HN1 := hid (HN0.out.below hB)
    clear hB
    clear c0 c1 c2 c3 c4 c5 c6 c7 c8
    go_wp2_with fail
    (with_reducible refine (HAW _ HB1.out).out.mono ?_)
    rintro e wa ⟨rfl, hBa⟩
    go_wp2
    go_ret
    exact ⟨rfl, below_tr HB1.out hBa⟩
  | false =>
    have HSM := HNS hg
    have HSZ := hid (nt_sz HSM.out)
    have HPE := hid (prE_small HSM.out)
    rw [hg] at HG
    clear hg HNS
    by_cases hb : 200 < t.size
    · have hb1 : (200 : Int) < (t.size : Int) := by omega
      clear HCK HPR HPA
      go_wp2_with fail
      (with_reducible refine HG.out.mono ?_)
      rintro e w1 ⟨rfl, hB⟩
      have HB1 := hid (below_tr HB0.out hB)
      have HN1 := hid (HN0.out.below hB)
      clear hB
      clear c0 c1 c2 c3 c4 c5 c6 c7 c8
      go_wp2_with fail
      (with_reducible refine (HAW _ HB1.out).out.mono ?_)
      rintro e wa ⟨rfl, hBa⟩
      go_wp2
      go_ret
      exact ⟨rfl, below_tr HB1.out hBa⟩
    · have hb1 : ¬ (200 : Int) < (t.size : Int) := by omega
      have HTZ : Hid (t.size ≤ 200) := by show _ ≤ _; omega
      clear hb
      go_wp2_with fail
      (with_reducible refine HG.out.mono ?_)
      rintro e w1 ⟨rfl, hB⟩
      have HB1 := hid (below_tr HB0.out hB)
      have HN1 := hid (HN0.out.below hB)
      clear hB
      clear c0 c1 c2 c3 c4 c5 c6 c7 c8
      have c0 := HN1.out.cell 0 (x := .int .i64 x.fr) rfl
      have c1 := HN1.out.cell 1 (x := .int .i64 x.to_) rfl
      have c2 := HN1.out.cell 2 (x := .int .i64 x.pl) rfl
      have c3 := HN1.out.cell 3 (x := .string x.lf) rfl
      have c4 := HN1.out.cell 4 (x := .string x.ll) rfl
      have c5 := HN1.out.cell 5 (x := .int .i64 x.ln) rfl
      have c6 := HN1.out.cell 6 (x := .bool x.pos) rfl
      have c7 := HN1.out.cell 7 (x := .slice au nu cu) rfl
      have c8 := HN1.out.cell 8 (x := .slice av nv cv) rfl
      have HP1 := HPR _ HB1.out HSZ.out
      have HPZ : Hid ((prS x).size ≤ 65536) := by
        show _ ≤ _
        unfold prS
        split
        · rename_i h
          have h0 := HPE.out
          exact prN_small (note_ok (by rw [← h0]; exact h)) HSM.out
        · exact Nat.zero_le _
      have HPN : Hid (prE x = 0 → parI (prS x) = 0 ∧ parN (prS x) = x) := fun h => by
        have e : prS x = prN x := by unfold prS; rw [if_pos h]
        rw [e]
        exact par_uniq h rfl
      have HEN : Hid (nteI x = prE x) := HPE.out.symm
      clear HPR HG HPE HSM
      generalize prS x = ps at *
      go_wp2_with fail
      (with_reducible refine HP1.out.mono ?_)
      rintro e w2 ⟨rfl, hB⟩
      have HB2 := hid (below_tr HB1.out hB)
      have HN2 := hid (HN1.out.below hB)
      clear hB
      clear c0 c1 c2 c3 c4 c5 c6 c7 c8
      have c0 := HN2.out.cell 0 (x := .int .i64 x.fr) rfl
      have c1 := HN2.out.cell 1 (x := .int .i64 x.to_) rfl
      have c2 := HN2.out.cell 2 (x := .int .i64 x.pl) rfl
      have c3 := HN2.out.cell 3 (x := .string x.lf) rfl
      have c4 := HN2.out.cell 4 (x := .string x.ll) rfl
      have c5 := HN2.out.cell 5 (x := .int .i64 x.ln) rfl
      have c6 := HN2.out.cell 6 (x := .bool x.pos) rfl
      have c7 := HN2.out.cell 7 (x := .slice au nu cu) rfl
      have c8 := HN2.out.cell 8 (x := .slice av nv cv) rfl
      have HC2 := HCK _ HB2.out HSZ.out
      rw [HEN.out] at HC2
      clear HCK HP1 HEN HB1 HN1
      generalize prE x = pe at *
      go_wp2_with fail
      (with_reducible refine HC2.out.mono ?_)
      rintro e w3 ⟨rfl, hB⟩
      have HB3 := hid (below_tr HB2.out hB)
      have HN3 := hid (HN2.out.below hB)
      clear hB
      clear c0 c1 c2 c3 c4 c5 c6 c7 c8
      go_upto_if 31 with fail
      go_cut [] from 30 to 45 (fun wx => Hid (Below w.heap.size w wx))
      case first =>
        by_cases hE : pe = 0
        · obtain ⟨h1, h2⟩ := HPN.out hE
          have hpb : (pe == 0) = true := by rw [hE]; rfl
          have HP3 := HPA ps w3 HB3.out (by have := HPZ.out; omega)
          rw [h1, h2] at HP3
          clear hE h1 h2 HPN HPA
          go_wp2_with fail
          (with_reducible refine HP3.out.mono ?_)
          rintro e w4 ⟨am, nm, cm, ak, nk, ck, rfl, hN, hB⟩
          have hal := below_al w4 (.cells (x.cells (.slice am nm cm) (.slice ak nk ck)) 30)
          have HB5 := hid (below_tr HB3.out (below_tr hB hal))
          have HN5 := hid ((HN3.out.below hB).below hal)
          have HM5 := hid (row_nw w4 (x.cells (.slice am nm cm) (.slice ak nk ck)) 30 rfl)
          have HSA := hid (rsame45_any x x _ _ _ _ _ (HR _ HB5.out).out (hN.below hal))
          rw [ntB_iff.2 rfl] at HSA
          unfold Nt.cells at HB5 HN5 HM5 HSA ⊢
          clear hal hB hN HP3 HB3 HN3
          go_upto_region 8 with fail
          generalize w4.alloc (.cells #[.int .i64 x.fr, .int .i64 x.to_, .int .i64 x.pl, .string x.lf, .string x.ll, .int .i64 x.ln, .bool x.pos, .slice am nm cm, .slice ak nk ck] 30) = W5 at *
          generalize w4.heap.size = bm at *
          have c0 := HN5.out.cell 0 (x := .int .i64 x.fr) rfl
          have c1 := HN5.out.cell 1 (x := .int .i64 x.to_) rfl
          have c2 := HN5.out.cell 2 (x := .int .i64 x.pl) rfl
          have c3 := HN5.out.cell 3 (x := .string x.lf) rfl
          have c4 := HN5.out.cell 4 (x := .string x.ll) rfl
          have c5 := HN5.out.cell 5 (x := .int .i64 x.ln) rfl
          have c6 := HN5.out.cell 6 (x := .bool x.pos) rfl
          have c7 := HN5.out.cell 7 (x := .slice au nu cu) rfl
          have c8 := HN5.out.cell 8 (x := .slice av nv cv) rfl
          have d0 := HM5.out.cell 0 (x := .int .i64 x.fr) rfl
          have d1 := HM5.out.cell 1 (x := .int .i64 x.to_) rfl
          have d2 := HM5.out.cell 2 (x := .int .i64 x.pl) rfl
          have d3 := HM5.out.cell 3 (x := .string x.lf) rfl
          have d4 := HM5.out.cell 4 (x := .string x.ll) rfl
          have d5 := HM5.out.cell 5 (x := .int .i64 x.ln) rfl
          have d6 := HM5.out.cell 6 (x := .bool x.pos) rfl
          have d7 := HM5.out.cell 7 (x := .slice am nm cm) rfl
          have d8 := HM5.out.cell 8 (x := .slice ak nk ck) rfl
          go_wp2_with fail
          (with_reducible refine HSA.out.mono ?_)
          rintro e w6 ⟨rfl, hB⟩
          have HB6 := hid (below_tr HB5.out hB)
          clear hB
          go_wp2_with fail
          go_meet
          exact HB6
        · have hpb : (pe == 0) = false := beq_eq_false_iff_ne.2 hE
          clear hE
          go_wp2_with fail
          go_meet
          exact HB3
      case rest =>
        have HB7 := hid hcut.out
        have HP7 := HPA t wc HB7.out (by have := HTZ.out; omega)
        have hts := HTZ.out
        clear HPA HPN HB3 HN3 HB2 HN2 HC2
        rcases par_cases (s := t) (by omega) with hI | hI
        · obtain ⟨h1, h2⟩ := par_ok hI
          have hsz := par_sz (by omega) hI
          rw [hI] at HP7
          generalize parN t = y at *
          have HPS : Hid (prS y = t) := by show _ = _; unfold prS; rw [if_pos h1, h2]
          have H1 := hid h1
          have HZ := hid hsz
          clear h1 h2 hsz hI
          go_wp2_with fail
          (with_reducible refine HP7.out.mono ?_)
          rintro e w8 ⟨am, nm, cm, ak, nk, ck, rfl, hN, hB⟩
          have hal := below_al w8 (.cells (y.cells (.slice am nm cm) (.slice ak nk ck)) 30)
          have HB9 := hid (below_tr HB7.out (below_tr hB hal))
          have HM9 := hid (row_nw w8 (y.cells (.slice am nm cm) (.slice ak nk ck)) 30 rfl)
          have HPY := hid (pprt_any y _ _ _ (HE _ HB9.out).out (hN.below hal) HZ.out)
          rw [H1.out, HPS.out] at HPY
          unfold Nt.cells at HB9 HM9 HPY ⊢
          clear hal hB hN HP7
          go_upto_region 11 with fail
          generalize w8.alloc (.cells #[.int .i64 y.fr, .int .i64 y.to_, .int .i64 y.pl, .string y.lf, .string y.ll, .int .i64 y.ln, .bool y.pos, .slice am nm cm, .slice ak nk ck] 30) = W9 at *
          generalize w8.heap.size = bm at *
          have d0 := HM9.out.cell 0 (x := .int .i64 y.fr) rfl
          have d1 := HM9.out.cell 1 (x := .int .i64 y.to_) rfl
          have d2 := HM9.out.cell 2 (x := .int .i64 y.pl) rfl
          have d3 := HM9.out.cell 3 (x := .string y.lf) rfl
          have d4 := HM9.out.cell 4 (x := .string y.ll) rfl
          have d5 := HM9.out.cell 5 (x := .int .i64 y.ln) rfl
          have d6 := HM9.out.cell 6 (x := .bool y.pos) rfl
          have d7 := HM9.out.cell 7 (x := .slice am nm cm) rfl
          have d8 := HM9.out.cell 8 (x := .slice ak nk ck) rfl
          go_wp2_with fail
          (with_reducible refine HPY.out.mono ?_)
          rintro e w10 ⟨rfl, hB⟩
          have HB10 := hid (below_tr HB9.out hB)
          clear hB
          go_wp2_with fail
          (with_reducible refine (HAW _ HB10.out).out.mono ?_)
          rintro e wa ⟨rfl, hBa⟩
          go_wp2
          go_ret
          exact ⟨rfl, below_tr HB10.out hBa⟩
        · rw [hI] at HP7
          clear hI
          go_wp2_with fail
          (with_reducible refine HP7.out.mono ?_)
          rintro e w8 ⟨am, nm, cm, ak, nk, ck, rfl, hN, hB⟩
          have HB9 := hid (below_tr HB7.out (below_tr hB (below_al w8 (.cells ((parN t).cells (.slice am nm cm) (.slice ak nk ck)) 30))))
          unfold Nt.cells at HB9 ⊢
          clear hB hN HP7
          go_upto_region 11 with fail
          generalize w8.alloc (.cells #[.int .i64 (parN t).fr, .int .i64 (parN t).to_, .int .i64 (parN t).pl, .string (parN t).lf, .string (parN t).ll, .int .i64 (parN t).ln, .bool (parN t).pos, .slice am nm cm, .slice ak nk ck] 30) = W9 at *
          go_wp2_with fail
          (with_reducible refine (HAW _ HB9.out).out.mono ?_)
          rintro e wa ⟨rfl, hBa⟩
          go_wp2
          go_ret
          exact ⟨rfl, below_tr HB9.out hBa⟩
end Go.Proofs.YtjhdeoniafahbaaGreatDoor
