/-
  P50.5: the walk of NotesHeights.
-/
import Derived.Test.YtajhkfmhoihjfaaDoorCase
import Derived.Test.YtajhkfmhoihjfaaDoorBlk
import Derived.Test.YtajhkfmhoihjfaaDoorPlH
import Derived.Test.YtajhkfmhoihjfaaDoorSame
import Derived.Test.YtajhkfmhoihjfaaDoorConcI
import Derived.Test.YtajhkfmhoihjfaaDoorAwk
namespace Go.Proofs.YtajhkfmhoihjfaaDoor
open Go.RowKit Go.Shelf

set_option maxHeartbeats 4000000 in
set_option maxRecDepth 100000 in
theorem lheights_yes (x : Cs) (l1 l2 : List Int) (l3 : List ByteArray) (u : Nat) (m : Int) (w : World) (hr : CsR w x l1 l2 l3) (hz : Szs l3) (hg : greatC x l1 l2 l3 = true) (hm : w.cell? ⟨0, 0, none⟩ = some (.int .i64 m)) :
    Calls Tryd.prog 10 #[.agg x.cells, .int .u8 u] w fun e w' => e = .returned (.bool true) ∧ Below w.heap.size w w' := by
  have hb0 := below_al w (.cells x.cells 56)
  have hst0 := World.alloc_heap_new w (.cells x.cells 56)
  have HG := hid (lgreat_any x l1 l2 l3 _ (hr.below hb0) hz)
  have hlt0 : w.heap.size < (w.alloc (.cells x.cells 56)).heap.size := by simp
  have HR0 := hid (hr.below hb0)
  have HM0 := hid (cell_al hm (.cells x.cells 56))
  have HB0 := hid hb0
  have HST0 := hid hst0
  have HLT0 := hid hlt0
  obtain ⟨f0, f1, f2, f3, f4, f5, f6, f7, f8, f9, f10, f11, f12, f13, f14, f15, f16, f17⟩ := cs_facts hst0
  clear hb0 hst0 hlt0 hr hz hm
  rw [hg] at HG
  clear f0 f1 f2 f3 f4 f5 f6 f7 f8 f9 f10 f11 f12 f13 f14 f15 f16 f17
  go_enter Tryd.func10, Tryd.ntmps10
  go_wp2_with (refine wpList_load_row rfl 56 _ rfl w.heap.size rfl 56 _ (0, 0) _ HST0.out Tryd.underlying56 rfl (by kernel_rfl) ?_)
  generalize w.alloc (.cells x.cells 56) = w0 at *
  refine HG.out.mono ?_
  rintro e w1 ⟨rfl, hB⟩
  have hm1 := Below.keeps hB _ _ HM0.out
  have HB1 := hid (below_tr HB0.out hB)
  clear hB
  go_wp2_with fail
  refine (awake_any m _ hm1).mono ?_
  rintro e w2 ⟨rfl, hB⟩
  have HB2 := hid (below_tr HB1.out hB)
  clear hB
  go_wp2
  go_ret
  exact ⟨rfl, HB2.out⟩
set_option maxHeartbeats 4000000 in
set_option maxRecDepth 100000 in
theorem lheights_err (x : Cs) (l1 l2 : List Int) (l3 : List ByteArray) (u : Nat) (m : Int) (w : World) (hr : CsR w x l1 l2 l3) (hz : Szs l3) (hg : greatC x l1 l2 l3 = false) (hI : blocksI x.st x.count x.blocks l1 l2 l3 ≠ 0) (hm : w.cell? ⟨0, 0, none⟩ = some (.int .i64 m)) :
    Calls Tryd.prog 10 #[.agg x.cells, .int .u8 u] w fun e w' => e = .returned (.bool true) ∧ Below w.heap.size w w' := by
  have hb0 := below_al w (.cells x.cells 56)
  have hst0 := World.alloc_heap_new w (.cells x.cells 56)
  have HG := hid (lgreat_any x l1 l2 l3 _ (hr.below hb0) hz)
  have hlt0 : w.heap.size < (w.alloc (.cells x.cells 56)).heap.size := by simp
  have HR0 := hid (hr.below hb0)
  have HM0 := hid (cell_al hm (.cells x.cells 56))
  have HB0 := hid hb0
  have HST0 := hid hst0
  have HLT0 := hid hlt0
  clear hb0 hst0 hlt0 hr hz hm
  rw [hg] at HG
  obtain ⟨g1, g2, g3, _⟩ := greatC_no hg
  have HBP := fun w' (h : CsR w' x l1 l2 l3) k => hid (nblocks_any x.st x.count x.blocks _ _ _ l1 l2 l3 m w' h.r1 h.r2 h.r3 (by omega) k)
  have hM : blocksM x.st x.count x.blocks l1 l2 l3 = [] := by unfold blocksM; rw [if_neg hI]
  rw [hM] at HBP
  generalize blocksI x.st x.count x.blocks l1 l2 l3 = BI at *
  clear hg g1 g2 g3 hM
  unfold St.cells at HBP
  go_enter Tryd.func10, Tryd.ntmps10
  go_wp2_with (refine wpList_load_row rfl 56 _ rfl w.heap.size rfl 56 _ (0, 0) _ HST0.out Tryd.underlying56 rfl (by kernel_rfl) ?_)
  generalize w.alloc (.cells x.cells 56) = w0 at *
  refine HG.out.mono ?_
  rintro e w1 ⟨rfl, hB⟩
  have HM1 := hid (Below.keeps hB _ _ HM0.out)
  have HR1 := hid (HR0.out.below hB)
  have hst1 : w1.heap[w.heap.size]? = some (.cells x.cells 56 (0, 0)) := (hB.block w.heap.size HLT0.out).trans HST0.out
  have HST1 := hid hst1
  have HLT1 : Hid (w.heap.size < w1.heap.size) := Nat.lt_of_lt_of_le HLT0.out hB.size
  have HB1 := hid (below_tr HB0.out hB)
  clear hB HM0 HR0 HST0 HLT0 HB0 HG
  obtain ⟨f0, f1, f2, f3, f4, f5, f6, f7, f8, f9, f10, f11, f12, f13, f14, f15, f16, f17⟩ := cs_facts hst1
  clear hst1
  go_wp2_with fail
  refine (HBP _ HR1.out HM1.out).out.mono ?_
  rintro e w2 ⟨v2, rfl, hr2, hB⟩
  obtain ⟨a2, c2, rfl, _, _, _⟩ := hr2.open
  have hm2 := Below.keeps hB _ _ HM1.out
  have HB2 := hid (below_tr HB1.out hB)
  clear hB hr2 f0 f1 f2 f3 f4 f5 f6 f7 f8 f9 f10 f11 f12 f13 f14 f15 f16 f17 HM1 HR1 HST1 HLT1 HB1 HBP
  go_wp2_with fail
  refine (awake_any m _ hm2).mono ?_
  rintro e w3 ⟨rfl, hB⟩
  have HB3 := hid (below_tr HB2.out hB)
  clear hB
  go_wp2
  go_ret
  exact ⟨rfl, HB3.out⟩
end Go.Proofs.YtajhkfmhoihjfaaDoor
