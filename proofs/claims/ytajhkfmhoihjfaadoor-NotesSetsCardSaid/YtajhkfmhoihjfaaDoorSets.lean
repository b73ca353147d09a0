/-
  P50.1: the walk of NotesSets.
-/
import Derived.Test.YtajhkfmhoihjfaaDoorNoteH
import Derived.Test.YtajhkfmhoihjfaaDoorAwk
namespace Go.Proofs.YtajhkfmhoihjfaaDoor
open Go.RowKit Go.Shelf

set_option maxHeartbeats 4000000 in
set_option maxRecDepth 100000 in
theorem sets_any (st : St) (s : ByteArray) (v : Value) (l : List ByteArray) (m : Int) (w : World) (hs : s.size ≤ maxLen) (hr : RdS w v l) (hz : Szs l) (hm : w.cell? ⟨0, 0, none⟩ = some (.int .i64 m)) :
    Calls Tryd.prog 3 #[.agg st.cells, .string s, v] w fun e w' => e = .returned (.bool true) ∧ Below w.heap.size w w' := by
  obtain ⟨a, cap, rfl, hlc, hcm, _⟩ := hr.open
  have hb0 := below_al w (.cells st.cells 25)
  have hb1 := below_al (w.alloc (.cells st.cells 25)) (.cells #[.string s] 9)
  have hst0 : ((w.alloc (.cells st.cells 25)).alloc (.cells #[.string s] 9)).heap[w.heap.size]? = some (.cells st.cells 25 (0, 0)) := (Below.heap_alloc _ _ _ (by simp)).trans (World.alloc_heap_new w _)
  have hlt0 : w.heap.size < ((w.alloc (.cells st.cells 25)).alloc (.cells #[.string s] 9)).heap.size := by simp; omega
  have hrs : RdS ((w.alloc (.cells st.cells 25)).alloc (.cells #[.string s] 9)) (.slice (some ⟨(w.alloc (.cells st.cells 25)).heap.size, 0, none⟩) 1 1) [s] := Rd.lit _ [s] _ _ 1 rfl rfl (by decide)
  rw [World.size_alloc] at hrs
  have HG1 := hid (great50_any _ [s] _ hrs (fun x hx => by have : x = s := by simpa using hx
                                                           subst this; exact hs))
  have HR0 := hid ((hr.below hb0).below hb1)
  have HG2 := hid (great50_any (.slice a l.length cap) l _ HR0.out hz)
  have HM0 := hid (cell_al (cell_al hm (.cells st.cells 25)) (.cells #[.string s] 9))
  have HB0 := hid (below_tr hb0 hb1)
  have HST0 := hid hst0
  have HLT0 := hid hlt0
  clear hb0 hb1 hst0 hlt0 hrs hm hr
  obtain ⟨W0, hW0⟩ : ∃ W0, W0 = (w.alloc (.cells st.cells 25)).alloc (.cells #[.string s] 9) := ⟨_, rfl⟩
  cases hg1 : great50 [s] with
  | true =>
    rw [hg1] at HG1
    rw [← hW0] at HM0 HB0
    have HW0 := hid hW0
    clear hW0 hg1
    unfold St.cells at *
    go_enter Tryd.func3, Tryd.ntmps3
    go_wp2_with fail
    refine HG1.out.mono ?_
    rintro e w1 ⟨rfl, rfl⟩
    rw [← HW0.out]
    go_wp2_with fail
    refine (awake_any m _ HM0.out).mono ?_
    rintro e w2 ⟨rfl, hB2⟩
    have HB2 := hid (below_tr HB0.out hB2)
    clear hB2
    go_wp2
    go_ret
    exact ⟨rfl, HB2.out⟩
  | false =>
    rw [hg1] at HG1
    cases hg2 : great50 l with
    | true =>
      rw [hg2] at HG2
      rw [← hW0] at HM0 HB0
      have HW0 := hid hW0
      clear hW0 hg1 hg2
      unfold St.cells at *
      go_enter Tryd.func3, Tryd.ntmps3
      go_wp2_with fail
      refine HG1.out.mono ?_
      rintro e w1 ⟨rfl, rfl⟩
      go_wp2_with fail
      refine HG2.out.mono ?_
      rintro e w1 ⟨rfl, rfl⟩
      rw [← HW0.out]
      go_wp2_with fail
      refine (awake_any m _ HM0.out).mono ?_
      rintro e w2 ⟨rfl, hB2⟩
      have HB2 := hid (below_tr HB0.out hB2)
      clear hB2
      go_wp2
      go_ret
      exact ⟨rfl, HB2.out⟩
    | false =>
      rw [hg2] at HG2
      have hl10 : l.length ≤ 10 := by
        unfold great50 at hg2
        simp only [Bool.or_eq_false_iff, decide_eq_false_iff_not] at hg2
        omega
      rw [← hW0] at HM0 HB0 HST0 HLT0 HR0
      have HW0 := hid hW0
      have HT := fun w' h => hid (ntext_any s m w' h)
      have HRT := fun w' => hid (rntext_any s w')
      have HS := fun w' h => hid (nSet_any st s m w' h)
      have HRS := fun w' => hid (rset_any st s w')
      have HH := fun w' h => hid (nheight_any st s m w' h)
      have HRH := fun w' => hid (rheight_any st s w')
      have HJ := fun v w' h k => hid (njoin_any v l m w' h (by omega) k)
      have HRJ := fun v w' h => hid (rjoin_any v l w' h (by omega) hz)
      have HE1 := fun v u w' h k => hid (equalS_any v u (noteL s) (noteL s) w' h k)
      have HE2 := fun v u w' h k => hid (equalS_any v u (setR st s) (setR st s) w' h k)
      rw [decide_eq_true (rfl : noteL s = noteL s)] at HE1
      rw [decide_eq_true (rfl : setR st s = setR st s)] at HE2
      generalize noteL s = NL at *
      generalize noteI s = NI at *
      generalize setR st s = SR at *
      generalize setI st s = SI at *
      generalize heightI st s = hI at *
      generalize heightN st s = hN at *
      generalize joinI l = JI at *
      generalize joinT l = JT at *
      clear hW0 hg1 hg2 hz
      unfold St.cells at HG1 HG2 HS HRS HH HRH
      unfold St.cells at HW0
      obtain ⟨SC, hSC⟩ : ∃ SC, SC = st.cells := ⟨_, rfl⟩
      unfold St.cells
      go_enter Tryd.func3, Tryd.ntmps3
      go_wp2_with fail
      refine HG1.out.mono ?_
      rintro e w1 ⟨rfl, rfl⟩
      go_wp2_with fail
      refine HG2.out.mono ?_
      rintro e w1 ⟨rfl, rfl⟩
      rw [← HW0.out]
      clear HG1 HG2 HW0 hSC
      go_wp2_with fail
      refine (HT _ HM0.out).out.mono ?_
      rintro e w1 ⟨v1, rfl, hr1, hB⟩
      obtain ⟨a1, cap1, rfl, _, _, _⟩ := hr1.open
      have HN1 := hid hr1
      have HM1 := hid (Below.keeps hB _ _ HM0.out)
      have HR1 := hid (HR0.out.below hB)
      have HST1 := hid ((hB.block w.heap.size HLT0.out).trans HST0.out)
      have HLT1 : Hid (w.heap.size < w1.heap.size) := Nat.lt_of_lt_of_le HLT0.out hB.size
      have HB1 := hid (below_tr HB0.out hB)
      clear hr1 hB HM0 HR0 HST0 HLT0 HB0 HT
      go_wp2_with fail
      refine (HRT _).out.mono ?_
      rintro e w2 ⟨v2, rfl, hr2, hB⟩
      obtain ⟨a2, cap2, rfl, _, _, _⟩ := hr2.open
      have HN2 := hid (HN1.out.below hB)
      have HQ2 := hid hr2
      have HM2 := hid (Below.keeps hB _ _ HM1.out)
      have HR2 := hid (HR1.out.below hB)
      have hst2 := (hB.block w.heap.size HLT1.out).trans HST1.out
      have HST2 := hid hst2
      have HLT2 : Hid (w.heap.size < w2.heap.size) := Nat.lt_of_lt_of_le HLT1.out hB.size
      have HB2 := hid (below_tr HB1.out hB)
      clear hr2 hB HM1 HR1 HST1 HLT1 HB1 HN1 HRT
      obtain ⟨f0, f1, f2, f3, f4, f5, f6, f7, f8, f9, f10, f11, f12⟩ := st_facts' hst2
      clear hst2
      go_wp2_with fail
      refine (HS _ HM2.out).out.mono ?_
      rintro e w3 ⟨v3, rfl, hr3, hB⟩
      obtain ⟨a3, cap3, rfl, _, _, _⟩ := hr3.open
      have HN3 := hid (HN2.out.below hB)
      have HQ3 := hid (HQ2.out.below hB)
      have HS3 := hid hr3
      have HM3 := hid (Below.keeps hB _ _ HM2.out)
      have HR3 := hid (HR2.out.below hB)
      have hst3 := (hB.block w.heap.size HLT2.out).trans HST2.out
      have HST3 := hid hst3
      have HLT3 : Hid (w.heap.size < w3.heap.size) := Nat.lt_of_lt_of_le HLT2.out hB.size
      have HB3 := hid (below_tr HB2.out hB)
      clear hr3 hB HM2 HR2 HST2 HLT2 HB2 HN2 HQ2 HS f0 f1 f2 f3 f4 f5 f6 f7 f8 f9 f10 f11 f12
      obtain ⟨f0, f1, f2, f3, f4, f5, f6, f7, f8, f9, f10, f11, f12⟩ := st_facts' hst3
      clear hst3
      go_wp2_with fail
      refine (HRS _).out.mono ?_
      rintro e w4 ⟨v4, rfl, hr4, hB⟩
      obtain ⟨a4, cap4, rfl, _, _, _⟩ := hr4.open
      have HN4 := hid (HN3.out.below hB)
      have HQ4 := hid (HQ3.out.below hB)
      have HS4 := hid (HS3.out.below hB)
      have HP4 := hid hr4
      have HM4 := hid (Below.keeps hB _ _ HM3.out)
      have HR4 := hid (HR3.out.below hB)
      have hst4 := (hB.block w.heap.size HLT3.out).trans HST3.out
      have HST4 := hid hst4
      have HLT4 : Hid (w.heap.size < w4.heap.size) := Nat.lt_of_lt_of_le HLT3.out hB.size
      have HB4 := hid (below_tr HB3.out hB)
      clear hr4 hB HM3 HR3 HST3 HLT3 HB3 HN3 HQ3 HS3 HRS f0 f1 f2 f3 f4 f5 f6 f7 f8 f9 f10 f11 f12
      obtain ⟨f0, f1, f2, f3, f4, f5, f6, f7, f8, f9, f10, f11, f12⟩ := st_facts' hst4
      clear hst4
      go_wp2_with fail
      refine (HH _ HM4.out).out.mono ?_
      rintro e w5 ⟨rfl, hB⟩
      have HN5 := hid (HN4.out.below hB)
      have HQ5 := hid (HQ4.out.below hB)
      have HS5 := hid (HS4.out.below hB)
      have HP5 := hid (HP4.out.below hB)
      have HM5 := hid (Below.keeps hB _ _ HM4.out)
      have HR5 := hid (HR4.out.below hB)
      have hst5 := (hB.block w.heap.size HLT4.out).trans HST4.out
      have HB5 := hid (below_tr HB4.out hB)
      clear hB HM4 HR4 HST4 HLT4 HB4 HN4 HQ4 HS4 HP4 HH f0 f1 f2 f3 f4 f5 f6 f7 f8 f9 f10 f11 f12
      obtain ⟨f0, f1, f2, f3, f4, f5, f6, f7, f8, f9, f10, f11, f12⟩ := st_facts' hst5
      clear hst5
      go_wp2_with fail
      refine (HRH _).out.mono ?_
      rintro e w6 ⟨rfl, hB⟩
      have HN6 := hid (HN5.out.below hB)
      have HQ6 := hid (HQ5.out.below hB)
      have HS6 := hid (HS5.out.below hB)
      have HP6 := hid (HP5.out.below hB)
      have HM6 := hid (Below.keeps hB _ _ HM5.out)
      have HR6 := hid (HR5.out.below hB)
      have HB6 := hid (below_tr HB5.out hB)
      clear hB HM5 HR5 HB5 HN5 HQ5 HS5 HP5 HRH f0 f1 f2 f3 f4 f5 f6 f7 f8 f9 f10 f11 f12
      go_wp2_with fail
      refine (HJ _ _ HR6.out HM6.out).out.mono ?_
      rintro e w7 ⟨rfl, hB⟩
      have HN7 := hid (HN6.out.below hB)
      have HQ7 := hid (HQ6.out.below hB)
      have HS7 := hid (HS6.out.below hB)
      have HP7 := hid (HP6.out.below hB)
      have HM7 := hid (Below.keeps hB _ _ HM6.out)
      have HR7 := hid (HR6.out.below hB)
      have HB7 := hid (below_tr HB6.out hB)
      clear hB HM6 HR6 HB6 HN6 HQ6 HS6 HP6 HJ
      go_wp2_with fail
      refine (HRJ _ _ HR7.out).out.mono ?_
      rintro e w8 ⟨rfl, hB⟩
      have HN8 := hid (HN7.out.below hB)
      have HQ8 := hid (HQ7.out.below hB)
      have HS8 := hid (HS7.out.below hB)
      have HP8 := hid (HP7.out.below hB)
      have HM8 := hid (Below.keeps hB _ _ HM7.out)
      have HB8 := hid (below_tr HB7.out hB)
      clear hB HM7 HR7 HB7 HN7 HQ7 HS7 HP7 HRJ
      go_wp2_with fail
      refine (HE1 _ _ _ HN8.out HQ8.out).out.mono ?_
      rintro e w9 ⟨rfl, hB⟩
      have HS9 := hid (HS8.out.below hB)
      have HP9 := hid (HP8.out.below hB)
      have HM9 := hid (Below.keeps hB _ _ HM8.out)
      have HB9 := hid (below_tr HB8.out hB)
      clear hB HM8 HB8 HN8 HQ8 HS8 HP8 HE1
      go_wp2_with fail
      refine (HE2 _ _ _ HS9.out HP9.out).out.mono ?_
      rintro e w10 ⟨rfl, hB⟩
      have hm10 := Below.keeps hB _ _ HM9.out
      have HB10 := hid (below_tr HB9.out hB)
      clear hB HM9 HB9 HS9 HP9 HE2
      go_wp2_with fail
      refine (awake_any m _ hm10).mono ?_
      rintro e w11 ⟨rfl, hB⟩
      have HBE := hid (below_tr HB10.out hB)
      clear hB
      go_wp2
      go_ret
      exact ⟨rfl, HBE.out⟩
end Go.Proofs.YtajhkfmhoihjfaaDoor
