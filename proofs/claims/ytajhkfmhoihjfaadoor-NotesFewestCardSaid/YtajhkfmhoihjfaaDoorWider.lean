/-
  P50.7: the walk of NotesWider.
-/
import Derived.Test.YtajhkfmhoihjfaaDoorLawA
import Derived.WalkLawsBesides
namespace Go.Proofs.YtajhkfmhoihjfaaDoor
open Go.RowKit Go.Shelf

theorem split_ne (s : ByteArray) : splitS s ≠ [] := fun e => by
  have := splitS_count s
  rw [e] at this
  simp at this
theorem split_le {s : ByteArray} (h : s.size ≤ 100) : (splitS s).length ≤ 101 := by
  have := splitS_len s; omega
/-- The height of a note of this chapter's statements. -/
theorem height_of {st : St} {s : ByteArray} (h1 : styleI st = 0) (h2 : noteI s = 0) (h3 : s.size ≤ 100) (h4 : st.nh = 10) :
    heightI st s = 0 ∧ heightN st s = 10 * ((setL st (splitS s)).length : Int) ∧ (setL st (splitS s)).length ≤ 101 := by
  obtain ⟨_, kl, ks, _⟩ := style_ok h1
  have hl := setL_len kl.1 ks.1 (splitS s)
  have hs := split_le h3
  have hi : setI st s = 0 := by unfold setI; rw [if_neg (by omega)]; exact h2
  have hr : (setR st s).length = (setL st (splitS s)).length := by unfold setR; rw [if_pos hi, List.length_map]
  have hh : heightI st s = 0 := by
    unfold heightI
    rw [if_pos hi, hr, h4, if_neg (by omega)]
  refine ⟨hh, ?_, by omega⟩
  unfold heightN
  rw [if_pos hh, hr, h4]; omega
theorem one_line {st : St} {s : ByteArray} (h1 : styleI st = 0) (h3 : s.size ≤ 100) (hl : st.letter < 100) (hs : st.sp < 100) (hw : st.width = 1048576) : (setL st (splitS s)).length = 1 := by
  obtain ⟨_, kl, ks, _⟩ := style_ok h1
  refine setL_one kl.1 ks.1 (split_ne s) ?_
  rw [wL_inc, hw]
  have h := incL_le st 9999 (splitS s) fun x hx => by
    have hx1 := splitS_size s x hx
    have hx2 := clN_le x
    unfold wd
    have h1 : st.letter * (clN x : Int) ≤ 99 * (clN x : Int) := Int.mul_le_mul_of_nonneg_right (by omega) (by omega)
    omega
  have := split_le h3
  omega

theorem st_facts {st : St} {W : World} {B : Nat} (h : W.heap[B]? = some (.cells st.cells 25 (0, 0))) :
    W.cell? ⟨B, 0, none⟩ = some (.int .i64 st.width) ∧ W.cell? ⟨B, 1, none⟩ = some (.int .i64 st.lh) ∧ W.cell? ⟨B, 2, none⟩ = some (.int .i64 st.nh) ∧ W.cell? ⟨B, 3, none⟩ = some (.int .i64 st.ph) ∧
    W.cell? ⟨B, 4, none⟩ = some (.int .i64 st.gap) ∧ W.cell? ⟨B, 5, none⟩ = some (.int .i64 st.sp) ∧ W.cell? ⟨B, 6, none⟩ = some (.int .i64 st.stretch) ∧ W.cell? ⟨B, 7, none⟩ = some (.int .i64 st.shrink) ∧
    W.cell? ⟨B, 8, none⟩ = some (.int .i64 st.letter) ∧ W.cell? ⟨B, 9, none⟩ = some (.int .i64 st.hyphen) ∧ W.cell? ⟨B, 10, none⟩ = some (.int .i64 st.every) ∧
    W.cell? ⟨B, 11, none⟩ = some (.slice st.pos.1 st.pos.2.1 st.pos.2.2) ∧ W.cell? ⟨B, 12, none⟩ = some (.slice st.lay.1 st.lay.2.1 st.lay.2.2) :=
  ⟨cell_st h 0 rfl, cell_st h 1 rfl, cell_st h 2 rfl, cell_st h 3 rfl, cell_st h 4 rfl, cell_st h 5 rfl, cell_st h 6 rfl, cell_st h 7 rfl, cell_st h 8 rfl, cell_st h 9 rfl, cell_st h 10 rfl, cell_st h 11 rfl, cell_st h 12 rfl⟩
theorem st_set {st : St} {W : World} {B : Nat} (h : W.heap[B]? = some (.cells st.cells 25 (0, 0))) (x : Int) : (W.setCell ⟨B, 0, none⟩ (.int .i64 x)).heap[B]? = some (.cells { st with width := x }.cells 25 (0, 0)) :=
  Go.heap_setCell_same W B 0 _ _ _ h
theorem st_frozen {st : St} {W : World} {B : Nat} (h : W.heap[B]? = some (.cells st.cells 25 (0, 0))) (i : Nat) : W.frozen? ⟨B, i, none⟩ = false := by
  unfold World.frozen?
  rw [h]; simp

set_option maxHeartbeats 2000000 in
set_option maxRecDepth 100000 in
theorem wider_any (s : ByteArray) (a b c d : Int) (m : Int) (w : World) (ha : 0 ≤ a ∧ a < 65536) (hb : 0 ≤ b ∧ b < 65536) (hc : 0 ≤ c ∧ c < 65536) (hd : 0 ≤ d ∧ d < 65536) (hm : w.cell? ⟨0, 0, none⟩ = some (.int .i64 m)) :
    Calls Tryd.prog 6 #[.string s, .int .u16 a, .int .u16 b, .int .u16 c, .int .u16 d] w fun e w' => e = .returned (.bool true) ∧ Below w.heap.size w w' := by
  have HF := hid (fine_any s w)
  cases hf : fineB s with
  | false =>
    rw [hf] at HF
    go_enter Tryd.func6, Tryd.ntmps6
    go_wp2_with fail
    refine HF.out.mono ?_
    rintro e w1 ⟨rfl, hB1⟩
    have hm1 := Below.keeps hB1 _ _ hm
    have HB1 := hid hB1
    clear hB1 hm HF
    go_wp2_with fail
    refine (awake_any m _ hm1).mono ?_
    rintro e w2 ⟨rfl, hB2⟩
    have HB2 := hid (below_tr HB1.out hB2)
    clear hB2
    go_wp2
    go_ret
    exact ⟨rfl, HB2.out⟩
  | true =>
    rw [hf] at HF
    obtain ⟨hs1, hn1⟩ := fine_of hf
    have HST := hid (lstyle_any a b c w ha hb hc)
    have HST' := fun w' => hid (lstyle_any a b c w' ha hb hc)
    have ra : 0 ≤ a % 1000 ∧ a % 1000 < 1000 := by omega
    have rb : 0 ≤ b % 100 ∧ b % 100 < 100 := by omega
    have rc : 0 ≤ c % 100 ∧ c % 100 < 100 := by omega
    obtain ⟨st, hst⟩ : ∃ st, st = stW (a % 1000) (b % 100) (c % 100) := ⟨_, rfl⟩
    have i1 : styleI st = 0 := by rw [hst]; exact stW_ok (by omega) rb rc
    have i2 : styleI { st with width := st.width + d } = 0 := by rw [hst]; exact stW_ok (a := a % 1000 + d) (by omega) rb rc
    have i3 : styleI { st with width := 1048576 } = 0 := by rw [hst]; exact stW_ok (a := 1048576) (by omega) rb rc
    have lw : 0 ≤ st.width ∧ st.width < 1000 := by rw [hst]; exact ra
    have lb : st.letter < 100 := by rw [hst]; exact rb.2
    have lc : st.sp < 100 := by rw [hst]; exact rc.2
    have nh : st.nh = 10 := by rw [hst]; rfl
    obtain ⟨_, kl, ks, _⟩ := style_ok i1
    obtain ⟨e1, n1, _⟩ := height_of i1 hn1 hs1 nh
    obtain ⟨e2, n2, _⟩ := height_of (st := { st with width := st.width + d }) i2 hn1 hs1 nh
    obtain ⟨e3, n3, _⟩ := height_of (st := { st with width := 1048576 }) i3 hn1 hs1 nh
    have hw1 := setL_wider (st := st) (st' := { st with width := st.width + d }) kl.1 ks.1 ⟨rfl, rfl, by dsimp only; omega⟩ (splitS s)
    have hw2 := setL_pos (st := { st with width := st.width + d }) (split_ne s)
    have hw3 := one_line (st := { st with width := 1048576 }) i3 hs1 lb lc rfl
    rw [hw3] at n3
    have HH1 := fun w' h => hid (nheight_any st s m w' h)
    have HH2 := fun w' h => hid (nheight_any { st with width := st.width + d } s m w' h)
    have HH3 := fun w' h => hid (nheight_any { st with width := 1048576 } s m w' h)
    rw [← hst] at HST'
    rw [e1, n1] at HH1
    rw [e2, n2] at HH2
    rw [e3, n3] at HH3
    have q1 : 10 * ((setL { st with width := st.width + d } (splitS s)).length : Int) ≤ 10 * ((setL st (splitS s)).length : Int) := by omega
    have q2 : 10 ≤ 10 * ((setL { st with width := st.width + d } (splitS s)).length : Int) := by omega
    generalize 10 * ((setL { st with width := st.width + d } (splitS s)).length : Int) = N2 at *
    generalize 10 * ((setL st (splitS s)).length : Int) = N1 at *
    rw [show (10 : Int) * ((1 : Nat) : Int) = 10 by rfl] at HH3
    have hwr : wrap64 (st.width + d) = st.width + d := IntWalk.wrap64_in _ (by omega)
    clear HST hst i1 i2 i3 e1 n1 e2 n2 e3 n3 hw1 hw2 hw3 hf hs1 hn1 ra rb rc nh kl ks lb lc hwr
    unfold St.cells at HH1 HH2 HH3 HST'
    dsimp only at HH1 HH2 HH3
    go_enter Tryd.func6, Tryd.ntmps6
    go_wp2_with fail
    refine HF.out.mono ?_
    rintro e w1 ⟨rfl, hB1⟩
    have hm1 := Below.keeps hB1 _ _ hm
    have HB1 := hid hB1
    clear hB1 hm HF
    go_wp2_with fail
    refine (HST' _).out.mono ?_
    rintro e w2 ⟨rfl, hB2⟩
    have hm2 := Below.keeps hB2 _ _ hm1
    have HB2 := hid (below_tr HB1.out hB2)
    clear hB2 hm1 HB1 HST'
    have HPOS : Hid (0 < w2.heap.size) := Nat.lt_of_le_of_lt (Nat.zero_le _) (World.block_lt_of_cell? _ _ hm2)
    have HGE : Hid (w.heap.size ≤ w2.heap.size) := HB2.out.size
    have hst3 := World.alloc_heap_new w2 (.cells st.cells 25)
    have hb3 := below_al w2 (.cells st.cells 25)
    have hlt : w2.heap.size < (w2.alloc (.cells st.cells 25)).heap.size := by simp
    have hm3 := cell_al hm2 (.cells st.cells 25)
    have HST3 := hid hst3
    have HB3 := hid (below_tr HB2.out hb3)
    have HM3 := hid hm3
    have HLT := hid hlt
    clear hst3 hb3 hlt hm2 HB2
    unfold St.cells at hm3
    go_wp2_with fail
    refine (HH1 _ hm3).out.mono ?_
    rintro e w4 ⟨rfl, hB4⟩
    change Below (w2.alloc (.cells st.cells 25)).heap.size (w2.alloc (.cells st.cells 25)) w4 at hB4
    have hst4 := (hB4.block w2.heap.size HLT.out).trans HST3.out
    have hm4 := Below.keeps hB4 _ _ HM3.out
    have HB4 := hid (below_tr HB3.out hB4)
    have hlt4 : w2.heap.size < w4.heap.size := Nat.lt_of_lt_of_le HLT.out hB4.size
    have hst5 := st_set hst4 (st.width + d)
    obtain ⟨f4_0, f4_1, f4_2, f4_3, f4_4, f4_5, f4_6, f4_7, f4_8, f4_9, f4_10, f4_11, f4_12⟩ := st_facts hst4
    have fz := st_frozen hst4 0
    have HST5 := hid hst5
    have hne : w2.heap.size ≠ 0 := by have := HPOS.out; omega
    have HM5 : Hid ((w4.setCell ⟨w2.heap.size, 0, none⟩ (.int .i64 (st.width + d))).cell? ⟨0, 0, none⟩ = some (.int .i64 m)) := (World.cell?_of_block (Below.heap_setCell _ _ _ _ (by simpa using hne.symm))).trans hm4
    have HB5 : Hid (Below w.heap.size w (w4.setCell ⟨w2.heap.size, 0, none⟩ (.int .i64 (st.width + d)))) := HB4.out.setCell (p := ⟨w2.heap.size, 0, none⟩) HGE.out _
    have HLT5 : Hid (w2.heap.size < (w4.setCell ⟨w2.heap.size, 0, none⟩ (.int .i64 (st.width + d))).heap.size) := by show _ < (Array.modify _ _ _).size; rw [Array.size_modify]; exact hlt4
    clear hst4 hst5 hB4 hm4 hm3 HST3 HM3 HLT HH1 HB3 HB4 hlt4 hne
    go_upto_region 6 with fail
    generalize w4.setCell ⟨w2.heap.size, 0, none⟩ (.int .i64 (st.width + d)) = w5 at *
    clear f4_0 f4_1 f4_2 f4_3 f4_4 f4_5 f4_6 f4_7 f4_8 f4_9 f4_10 f4_11 f4_12
    obtain ⟨f5_0, f5_1, f5_2, f5_3, f5_4, f5_5, f5_6, f5_7, f5_8, f5_9, f5_10, f5_11, f5_12⟩ := st_facts HST5.out
    dsimp only at f5_0 f5_1 f5_2 f5_3 f5_4 f5_5 f5_6 f5_7 f5_8 f5_9 f5_10 f5_11 f5_12
    go_wp2_with fail
    refine (HH2 _ HM5.out).out.mono ?_
    rintro e w6 ⟨rfl, hB6⟩
    have hst6 := (hB6.block w2.heap.size HLT5.out).trans HST5.out
    have hm6 := Below.keeps hB6 _ _ HM5.out
    have HB6 := hid (HB5.out.trans (hB6.mono HB5.out.size))
    have hlt6 : w2.heap.size < w6.heap.size := Nat.lt_of_lt_of_le HLT5.out hB6.size
    have hst7 := st_set hst6 1048576
    have fz6 := st_frozen hst6 0
    have HST7 := hid hst7
    have hne : w2.heap.size ≠ 0 := by have := HPOS.out; omega
    have HM7 : Hid ((w6.setCell ⟨w2.heap.size, 0, none⟩ (.int .i64 1048576)).cell? ⟨0, 0, none⟩ = some (.int .i64 m)) := (World.cell?_of_block (Below.heap_setCell _ _ _ _ (by simpa using hne.symm))).trans hm6
    have HB7 : Hid (Below w.heap.size w (w6.setCell ⟨w2.heap.size, 0, none⟩ (.int .i64 1048576))) := HB6.out.setCell (p := ⟨w2.heap.size, 0, none⟩) HGE.out _
    clear f5_0 f5_1 f5_2 f5_3 f5_4 f5_5 f5_6 f5_7 f5_8 f5_9 f5_10 f5_11 f5_12
    obtain ⟨f6_0, f6_1, f6_2, f6_3, f6_4, f6_5, f6_6, f6_7, f6_8, f6_9, f6_10, f6_11, f6_12⟩ := st_facts hst6
    dsimp only at f6_0 f6_1 f6_2 f6_3 f6_4 f6_5 f6_6 f6_7 f6_8 f6_9 f6_10 f6_11 f6_12
    clear hst6 hst7 hB6 hm6 HST5 HM5 HLT5 HH2 HB5 HB6 hlt6 hne fz
    go_upto_region 8 with fail
    generalize w6.setCell ⟨w2.heap.size, 0, none⟩ (.int .i64 1048576) = w7 at *
    clear f6_0 f6_1 f6_2 f6_3 f6_4 f6_5 f6_6 f6_7 f6_8 f6_9 f6_10 f6_11 f6_12
    obtain ⟨f7_0, f7_1, f7_2, f7_3, f7_4, f7_5, f7_6, f7_7, f7_8, f7_9, f7_10, f7_11, f7_12⟩ := st_facts HST7.out
    dsimp only at f7_0 f7_1 f7_2 f7_3 f7_4 f7_5 f7_6 f7_7 f7_8 f7_9 f7_10 f7_11 f7_12
    go_wp2_with fail
    refine (HH3 _ HM7.out).out.mono ?_
    rintro e w8 ⟨rfl, hB8⟩
    have HB8 := hid (HB7.out.trans (hB8.mono HB7.out.size))
    have hm8 := Below.keeps hB8 _ _ HM7.out
    clear f7_0 f7_1 f7_2 f7_3 f7_4 f7_5 f7_6 f7_7 f7_8 f7_9 f7_10 f7_11 f7_12
    clear HB7 HM7 HST7 HH3 hB8 fz6
    go_wp2_with fail
    refine (awake_any m _ hm8).mono ?_
    rintro e w9 ⟨rfl, hB9⟩
    have HBE := hid (HB8.out.trans (hB9.mono HB8.out.size))
    clear hB9 HB8
    go_wp2
    go_ret
    exact ⟨rfl, HBE.out⟩
end Go.Proofs.YtajhkfmhoihjfaaDoor
