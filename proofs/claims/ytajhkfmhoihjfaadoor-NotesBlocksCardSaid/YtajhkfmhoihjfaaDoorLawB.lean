/-
  P50.1: the walk of NotesBlocks.
-/
import Derived.Test.YtajhkfmhoihjfaaDoorCase
import Derived.Test.YtajhkfmhoihjfaaDoorRblk
import Derived.Test.YtajhkfmhoihjfaaDoorSame
import Derived.Test.YtajhkfmhoihjfaaDoorRord
import Derived.Test.YtajhkfmhoihjfaaDoorAwk
namespace Go.Proofs.YtajhkfmhoihjfaaDoor
open Go.RowKit Go.Shelf

set_option maxHeartbeats 4000000 in
set_option maxRecDepth 100000 in
theorem lblocks_yes (x : Cs) (l1 l2 : List Int) (l3 : List ByteArray) (m : Int) (w : World) (hr : CsR w x l1 l2 l3) (hz : Szs l3) (hg : greatC x l1 l2 l3 = true) (hm : w.cell? ⟨0, 0, none⟩ = some (.int .i64 m)) :
    Calls Tryd.prog 9 #[.agg x.cells] w fun e w' => e = .returned (.bool true) ∧ Below w.heap.size w w' := by
  have hb0 := below_al w (.cells x.cells 56)
  have hst0 := World.alloc_heap_new w (.cells x.cells 56)
  have HG := hid (lgreat_any x l1 l2 l3 _ (hr.below hb0) hz)
  have hlt0 : w.heap.size < (w.alloc (.cells x.cells 56)).heap.size := by simp
  have HR0 := hid (hr.below hb0)
  have HM0 := hid (cell_al hm (.cells x.cells 56))
  have HB0 := hid hb0
  have HST0 := hid hst0
  have HLT0 := hid hlt0
  obtain ⟨f0, f1, f2, f3, f4, f5, f6, f7, f8, f9, f10, f11, f12, f13, f14, f15, f16, f17⟩ := cs_facts hst0
  clear hb0 hst0 hlt0 hr hz hm
  rw [hg] at HG
  clear f0 f1 f2 f3 f4 f5 f6 f7 f8 f9 f10 f11 f12 f13 f14 f15 f16 f17
  go_enter Tryd.func9, Tryd.ntmps9
  go_wp2_with (refine wpList_load_row rfl 56 _ rfl w.heap.size rfl 56 _ (0, 0) _ HST0.out Tryd.underlying56 rfl (by kernel_rfl) ?_)
  generalize w.alloc (.cells x.cells 56) = w0 at *
  refine HG.out.mono ?_
  rintro e w1 ⟨rfl, hB⟩
  have hm1 := Below.keeps hB _ _ HM0.out
  have HB1 := hid (below_tr HB0.out hB)
  clear hB
  go_wp2_with fail
  refine (awake_any m _ hm1).mono ?_
  rintro e w2 ⟨rfl, hB⟩
  have HB2 := hid (below_tr HB1.out hB)
  clear hB
  go_wp2
  go_ret
  exact ⟨rfl, HB2.out⟩
set_option maxHeartbeats 4000000 in
set_option maxRecDepth 100000 in
theorem lblocks_no (x : Cs) (l1 l2 : List Int) (l3 : List ByteArray) (m : Int) (w : World) (hr : CsR w x l1 l2 l3) (hz : Szs l3) (hg : greatC x l1 l2 l3 = false) (hm : w.cell? ⟨0, 0, none⟩ = some (.int .i64 m)) :
    Calls Tryd.prog 9 #[.agg x.cells] w fun e w' => e = .returned (.bool true) ∧ Below w.heap.size w w' := by
  have hb0 := below_al w (.cells x.cells 56)
  have hst0 := World.alloc_heap_new w (.cells x.cells 56)
  have HG := hid (lgreat_any x l1 l2 l3 _ (hr.below hb0) hz)
  have hlt0 : w.heap.size < (w.alloc (.cells x.cells 56)).heap.size := by simp
  have HR0 := hid (hr.below hb0)
  have HM0 := hid (cell_al hm (.cells x.cells 56))
  have HB0 := hid hb0
  have HST0 := hid hst0
  have HLT0 := hid hlt0
  obtain ⟨f0, f1, f2, f3, f4, f5, f6, f7, f8, f9, f10, f11, f12, f13, f14, f15, f16, f17⟩ := cs_facts hst0
  clear hb0 hst0 hlt0 hr hz hm
  rw [hg] at HG
  obtain ⟨g1, g2, g3, _⟩ := greatC_no hg
  have HBP := fun w' (h : CsR w' x l1 l2 l3) k => hid (nblocks_any x.st x.count x.blocks _ _ _ l1 l2 l3 m w' h.r1 h.r2 h.r3 (by omega) k)
  have HBR := fun w' (h : CsR w' x l1 l2 l3) k => hid (rblocks_any x.st x.count x.blocks _ _ _ l1 l2 l3 m w' h.r1 h.r2 h.r3 (by omega) k)
  have HOP := fun w' (h : CsR w' x l1 l2 l3) => hid (order_any _ _ l1 l2 w' h.r1 h.r2 g1 g2)
  have HOR := fun w' (h : CsR w' x l1 l2 l3) => hid (rorder_any _ _ l1 l2 w' h.r1 h.r2 g1 g2)
  have HSA := fun v u w' h k => hid (same_any v u (blocksM x.st x.count x.blocks l1 l2 l3) w' h k)
  have HEQ := fun v u w' h k => hid (equalI_any v u (natI (ordL l1 l2)) (natI (ordL l1 l2)) w' h k)
  rw [decide_eq_true (rfl : natI (ordL l1 l2) = natI (ordL l1 l2))] at HEQ
  generalize blocksM x.st x.count x.blocks l1 l2 l3 = BM at *
  generalize blocksI x.st x.count x.blocks l1 l2 l3 = BI at *
  generalize natI (ordL l1 l2) = OL at *
  generalize ordI l1 l2 = OI at *
  clear hg g1 g2 g3
  unfold St.cells at HBP HBR
  clear f0 f1 f2 f3 f4 f5 f6 f7 f8 f9 f10 f11 f12 f13 f14 f15 f16 f17
  go_enter Tryd.func9, Tryd.ntmps9
  go_wp2_with (refine wpList_load_row rfl 56 _ rfl w.heap.size rfl 56 _ (0, 0) _ HST0.out Tryd.underlying56 rfl (by kernel_rfl) ?_)
  generalize w.alloc (.cells x.cells 56) = w0 at *
  refine HG.out.mono ?_
  rintro e w1 ⟨rfl, hB⟩
  have HM1 := hid (Below.keeps hB _ _ HM0.out)
  have HR1 := hid (HR0.out.below hB)
  have hst1 : w1.heap[w.heap.size]? = some (.cells x.cells 56 (0, 0)) := (hB.block w.heap.size HLT0.out).trans HST0.out
  have HST1 := hid hst1
  have HLT1 : Hid (w.heap.size < w1.heap.size) := Nat.lt_of_lt_of_le HLT0.out hB.size
  have HB1 := hid (below_tr HB0.out hB)
  clear hB HM0 HR0 HST0 HLT0 HB0 HG
  obtain ⟨f0, f1, f2, f3, f4, f5, f6, f7, f8, f9, f10, f11, f12, f13, f14, f15, f16, f17⟩ := cs_facts hst1
  clear hst1
  go_wp2_with fail
  refine (HBP _ HR1.out HM1.out).out.mono ?_
  rintro e w2 ⟨v2, rfl, hr2, hB⟩
  obtain ⟨a2, c2, rfl, _, _, _⟩ := hr2.open
  have HV2 := hid hr2
  have HM2 := hid (Below.keeps hB _ _ HM1.out)
  have HR2 := hid (HR1.out.below hB)
  have hst2 := (hB.block w.heap.size HLT1.out).trans HST1.out
  have HST2 := hid hst2
  have HLT2 : Hid (w.heap.size < w2.heap.size) := Nat.lt_of_lt_of_le HLT1.out hB.size
  have HB2 := hid (below_tr HB1.out hB)
  clear hB hr2 f0 f1 f2 f3 f4 f5 f6 f7 f8 f9 f10 f11 f12 f13 f14 f15 f16 f17 HM1 HR1 HST1 HLT1 HB1 HBP
  obtain ⟨f0, f1, f2, f3, f4, f5, f6, f7, f8, f9, f10, f11, f12, f13, f14, f15, f16, f17⟩ := cs_facts hst2
  clear hst2
  go_wp2_with fail
  refine (HBR _ HR2.out HM2.out).out.mono ?_
  rintro e w3 ⟨v3, rfl, hr3, hB⟩
  obtain ⟨a3, c3, rfl, _, _, _⟩ := hr3.open
  have HV3 := hid (HV2.out.below hB)
  have HU3 := hid hr3
  have HM3 := hid (Below.keeps hB _ _ HM2.out)
  have HR3 := hid (HR2.out.below hB)
  have hst3 := (hB.block w.heap.size HLT2.out).trans HST2.out
  have HST3 := hid hst3
  have HLT3 : Hid (w.heap.size < w3.heap.size) := Nat.lt_of_lt_of_le HLT2.out hB.size
  have HB3 := hid (below_tr HB2.out hB)
  clear hB hr3 f0 f1 f2 f3 f4 f5 f6 f7 f8 f9 f10 f11 f12 f13 f14 f15 f16 f17 HM2 HR2 HST2 HLT2 HB2 HBR HV2
  obtain ⟨f0, f1, f2, f3, f4, f5, f6, f7, f8, f9, f10, f11, f12, f13, f14, f15, f16, f17⟩ := cs_facts hst3
  clear hst3
  go_wp2_with fail
  refine (HOP _ HR3.out).out.mono ?_
  rintro e w4 ⟨v4, rfl, hr4, hB⟩
  obtain ⟨a4, c4, rfl, _, _, _⟩ := hr4.open
  have HV4 := hid (HV3.out.below hB)
  have HU4 := hid (HU3.out.below hB)
  have HO4 := hid hr4
  have HM4 := hid (Below.keeps hB _ _ HM3.out)
  have HR4 := hid (HR3.out.below hB)
  have hst4 := (hB.block w.heap.size HLT3.out).trans HST3.out
  have HB4 := hid (below_tr HB3.out hB)
  clear hB hr4 f0 f1 f2 f3 f4 f5 f6 f7 f8 f9 f10 f11 f12 f13 f14 f15 f16 f17 HM3 HR3 HST3 HLT3 HB3 HOP HV3 HU3
  obtain ⟨f0, f1, f2, f3, f4, f5, f6, f7, f8, f9, f10, f11, f12, f13, f14, f15, f16, f17⟩ := cs_facts hst4
  clear hst4
  go_wp2_with fail
  refine (HOR _ HR4.out).out.mono ?_
  rintro e w5 ⟨v5, rfl, hr5, hB⟩
  obtain ⟨a5, c5, rfl, _, _, _⟩ := hr5.open
  have HV5 := hid (HV4.out.below hB)
  have HU5 := hid (HU4.out.below hB)
  have HO5 := hid (HO4.out.below hB)
  have HP5 := hid hr5
  have HM5 := hid (Below.keeps hB _ _ HM4.out)
  have HB5 := hid (below_tr HB4.out hB)
  clear hB hr5 f0 f1 f2 f3 f4 f5 f6 f7 f8 f9 f10 f11 f12 f13 f14 f15 f16 f17 HM4 HR4 HB4 HOR HV4 HU4 HO4
  go_wp2_with fail
  refine (HSA _ _ _ HV5.out HU5.out).out.mono ?_
  rintro e w6 ⟨rfl, hB⟩
  have HO6 := hid (HO5.out.below hB)
  have HP6 := hid (HP5.out.below hB)
  have HM6 := hid (Below.keeps hB _ _ HM5.out)
  have HB6 := hid (below_tr HB5.out hB)
  clear hB HM5 HB5 HSA HV5 HU5 HO5 HP5
  go_wp2_with fail
  refine (HEQ _ _ _ HO6.out HP6.out).out.mono ?_
  rintro e w7 ⟨rfl, hB⟩
  have hm7 := Below.keeps hB _ _ HM6.out
  have HB7 := hid (below_tr HB6.out hB)
  clear hB HM6 HB6 HEQ HO6 HP6
  go_wp2_with fail
  refine (awake_any m _ hm7).mono ?_
  rintro e w8 ⟨rfl, hB⟩
  have HBE := hid (below_tr HB7.out hB)
  clear hB
  go_wp2
  go_ret
  exact ⟨rfl, HBE.out⟩
theorem lblocks_any (x : Cs) (l1 l2 : List Int) (l3 : List ByteArray) (m : Int) (w : World) (hr : CsR w x l1 l2 l3) (hz : Szs l3) (hm : w.cell? ⟨0, 0, none⟩ = some (.int .i64 m)) :
    Calls Tryd.prog 9 #[.agg x.cells] w fun e w' => e = .returned (.bool true) ∧ Below w.heap.size w w' := by
  cases hg : greatC x l1 l2 l3 with
  | true => exact lblocks_yes x l1 l2 l3 m w hr hz hg hm
  | false => exact lblocks_no x l1 l2 l3 m w hr hz hg hm
end Go.Proofs.YtajhkfmhoihjfaaDoor
