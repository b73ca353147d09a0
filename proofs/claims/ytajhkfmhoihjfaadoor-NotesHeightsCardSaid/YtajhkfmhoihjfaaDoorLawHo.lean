/-
  P50.5: the walk of NotesHeights where there is no error.
-/
import Derived.Test.YtajhkfmhoihjfaaDoorLawH
import Derived.Test.YtajhkfmhoihjfaaDoorConc2
import Derived.Deep.RegionHeld3
import Derived.Deep.Cut
namespace Go.Proofs.YtajhkfmhoihjfaaDoor
open Go.RowKit Go.Shelf

theorem cell_nwE (W : World) (cs : Array Value) (t : TypeId) (i : Nat) {n : Nat} {x : Value} (hn : n = W.heap.size) (h : cs[i]? = some x) : (W.alloc (.cells cs t)).cell? ⟨n, i, none⟩ = some x := by subst hn; exact cell_nw W cs t i h

theorem cell_two0 (W : World) (a b : Value) (t : TypeId) {n : Nat} (hn : n = W.heap.size) : (W.alloc (.cells #[a, b] t)).cell? ⟨n, 0, none⟩ = some a := by subst hn; exact cell_nw W #[a, b] t 0 rfl
theorem cell_two1 (W : World) (a b : Value) (t : TypeId) {n : Nat} (hn : n = W.heap.size) : (W.alloc (.cells #[a, b] t)).cell? ⟨n, 1, none⟩ = some b := by subst hn; exact cell_nw W #[a, b] t 1 rfl
/-- What a call has kept. -/
structure BelowC (A B : World) : Prop where
  out : Below A.heap.size A B
theorem belowC_keeps {A B : World} {p : Addr} {x : Value} (h : BelowC A B) (hx : A.cell? p = some x) : B.cell? p = some x := Below.keeps h.out _ _ hx
theorem belowC_tr {W A B : World} (k : BelowC A B) (h : Below W.heap.size W A) : Below W.heap.size W B := below_tr h k.out
theorem rd_belowC {α : Type} {enc : α → Value} {A B : World} {v : Value} {l : List α} (h : Rd enc A v l) (k : BelowC A B) : Rd enc B v l := Rd.below h k.out
theorem rd_belowC' {α : Type} {enc : α → Value} {A B : World} {v : Value} {l : List α} (k : BelowC A B) (h : Rd enc A v l) : Rd enc B v l := Rd.below h k.out
theorem cell_dr {W : World} {p : Addr} {x : Value} (h : W.cell? p = some x) : W.drew.cell? p = some x := h

theorem sum_take_succ (l : List Int) (k : Nat) (x : Int) (h : l[k]? = some x) : (l.take (k + 1)).sum = (l.take k).sum + x := by
  rw [List.take_add_one, h, List.sum_append]; simp
theorem map_take_succ {α : Type} (f : α → Int) (l : List α) (k : Nat) (x : α) (h : l[k]? = some x) : ((l.take (k + 1)).map f).sum = ((l.take k).map f).sum + f x := by
  rw [List.take_add_one, h, List.map_append, List.sum_append]; simp
theorem sum_bd (l : List Int) (c : Int) (h : ∀ n ∈ l, 0 ≤ n ∧ n ≤ c) : 0 ≤ l.sum ∧ l.sum ≤ l.length * c := by
  induction l with
  | nil => simp
  | cons x r ih =>
    have h1 := h x (by simp)
    have h2 := ih fun n hn => h n (by simp [hn])
    rw [List.sum_cons, List.length_cons, Int.natCast_add, Int.add_mul]
    omega

set_option maxHeartbeats 4000000 in
set_option maxRecDepth 100000 in
theorem lheights_ok (x : Cs) (l1 l2 : List Int) (l3 : List ByteArray) (u : Nat) (hu : u < 256) (m : Int) (w : World) (hr : CsR w x l1 l2 l3) (hz : Szs l3) (hg : greatC x l1 l2 l3 = false) (hI : blocksI x.st x.count x.blocks l1 l2 l3 = 0) (hm : w.cell? ⟨0, 0, none⟩ = some (.int .i64 m)) :
    Calls Tryd.prog 10 #[.agg x.cells, .int .u8 u] w fun e w' => e = .returned (.bool true) ∧ Below w.heap.size w w' := by
  obtain ⟨n2, n3, ⟨bc1, bc2⟩, ⟨bb1, bb2⟩, hrows, hcols, hbd, hhts, hsum, hturn⟩ := blk_ok hI
  have HTU := hid hturn
  have HHT := hid hhts
  have HSM := hid hsum
  have HCO := hid hcols
  have HBD := hid hbd
  have p1 : (x.ats.2.1 : Int) = (x.nots.2.1 : Int) := by have e1 := rd_len hr.r1; have e3 := rd_len hr.r3; omega
  have p2 : (x.lays.2.1 : Int) = (x.nots.2.1 : Int) := by have e1 := rd_len hr.r2; have e3 := rd_len hr.r3; omega
  have p3 : x.nots.2.1 = l3.length := rd_len hr.r3
  have HP1 := hid p1
  have HP2 := hid p2
  have HP3 := hid p3
  have HRW := hid hrows
  have HCB := hid (And.intro (And.intro bc1 bc2) (And.intro bb1 bb2))
  clear hturn hhts hsum hcols hbd p1 p2 p3 hrows bc1 bc2 bb1 bb2
  have hb0 := below_al w (.cells x.cells 56)
  have hst0 := World.alloc_heap_new w (.cells x.cells 56)
  have HG := hid (lgreat_any x l1 l2 l3 _ (hr.below hb0) hz)
  have hlt0 : w.heap.size < (w.alloc (.cells x.cells 56)).heap.size := by simp
  have HR0 := hid (hr.below hb0)
  have HM0 := hid (cell_al hm (.cells x.cells 56))
  have HB0 := hid hb0
  have HST0 := hid hst0
  have HLT0 := hid hlt0
  clear hb0 hst0 hlt0 hr hz hm
  rw [hg] at HG
  obtain ⟨g1, g2, g3, _⟩ := greatC_no hg
  have HBP := fun w' (h : CsR w' x l1 l2 l3) k => hid (nblocks_any x.st x.count x.blocks _ _ _ l1 l2 l3 m w' h.r1 h.r2 h.r3 (by omega) k)
  have HBP2 := fun w' v1 v2 v3 k (h1 : RdI w' v1 (l1.drop k ++ l1.take k)) (h2 : RdI w' v2 (l2.drop k ++ l2.take k)) (h3 : RdS w' v3 (l3.drop k ++ l3.take k)) km => hid (nblocks_any x.st x.count x.blocks v1 v2 v3 _ _ _ m w' h1 h2 h3 (by rw [List.length_append, List.length_drop, List.length_take]; omega) km)
  have HNH := fun s w' k => hid (nheight_any x.st s m w' k)
  rw [hI] at HBP
  have HBP3 : Hid (∀ w' v1 v2 v3 k, RdI w' v1 (l1.drop k ++ l1.take k) → RdI w' v2 (l2.drop k ++ l2.take k) → RdS w' v3 (l3.drop k ++ l3.take k) → w'.cell? ⟨0, 0, none⟩ = some (.int .i64 m) →
      Calls Tryd.prog 31 #[.agg x.st.cells, .int .i64 x.count, v1, v2, v3, .int .i64 x.blocks] w' fun e w'' => ∃ v, e = .returned (.tuple #[v, .int .i64 0]) ∧ RdM w'' v (blocksM x.st x.count x.blocks l1 l2 l3) ∧ Below w'.heap.size w' w'') := by
    intro w' v1 v2 v3 k h1 h2 h3 km
    have h := (HBP2 w' v1 v2 v3 k h1 h2 h3 km).out
    rw [(HTU.out k).1, (HTU.out k).2] at h
    exact h
  clear HBP2 HTU
  generalize blocksM x.st x.count x.blocks l1 l2 l3 = BM at *
  have HN := hid (And.intro n2 n3)
  clear hI hg n2 n3
  have HGG := hid (And.intro g1 (And.intro g2 g3))
  clear g1 g2 g3
  unfold St.cells at HNH HBP3
  unfold St.cells at HBP
  go_enter Tryd.func10, Tryd.ntmps10
  go_wp2_with (refine wpList_load_row rfl 56 _ rfl w.heap.size rfl 56 _ (0, 0) _ HST0.out Tryd.underlying56 rfl (by kernel_rfl) ?_)
  generalize w.alloc (.cells x.cells 56) = w0 at *
  refine HG.out.mono ?_
  rintro e w1 ⟨rfl, hB⟩
  have HM1 := hid (Below.keeps hB _ _ HM0.out)
  have HR1 := hid (HR0.out.below hB)
  have hst1 : w1.heap[w.heap.size]? = some (.cells x.cells 56 (0, 0)) := (hB.block w.heap.size HLT0.out).trans HST0.out
  have HST1 := hid hst1
  have HLT1 : Hid (w.heap.size < w1.heap.size) := Nat.lt_of_lt_of_le HLT0.out hB.size
  have HB1 := hid (below_tr HB0.out hB)
  clear hB HM0 HR0 HST0 HLT0 HB0 HG
  obtain ⟨f0, f1, f2, f3, f4, f5, f6, f7, f8, f9, f10, f11, f12, f13, f14, f15, f16, f17⟩ := cs_facts hst1
  clear hst1
  go_wp2_with fail
  refine (HBP _ HR1.out HM1.out).out.mono ?_
  rintro e w2 ⟨v2, rfl, hr2, hB⟩
  obtain ⟨a2, c2, rfl, hc2, hm2, hcell2⟩ := hr2.open
  have HC2 := hid hcell2
  have HV2 := hid hr2
  have HM2 := hid (Below.keeps hB _ _ HM1.out)
  have HR2 := hid (HR1.out.below hB)
  have hst2 := (hB.block w.heap.size HLT1.out).trans HST1.out
  have HST2 := hid hst2
  have HLT2 : Hid (w.heap.size < w2.heap.size) := Nat.lt_of_lt_of_le HLT1.out hB.size
  have HB2 := hid (below_tr HB1.out hB)
  clear hB hr2 hcell2 f0 f1 f2 f3 f4 f5 f6 f7 f8 f9 f10 f11 f12 f13 f14 f15 f16 f17 HM1 HR1 HST1 HLT1 HB1 HBP
  obtain ⟨f0, f1, f2, f3, f4, f5, f6, f7, f8, f9, f10, f11, f12, f13, f14, f15, f16, f17⟩ := cs_facts hst2
  clear hst2
  have q1 : ((BM.length : Int) != x.count) = false := by rw [HRW.out]; simp
  have q2 : ((x.ats.2.1 : Int) != (x.nots.2.1 : Int)) = false := by rw [HP1.out]; simp
  have q3 : ((x.lays.2.1 : Int) != (x.nots.2.1 : Int)) = false := by rw [HP2.out]; simp
  go_wp2_with fail
  clear q1 q2 q3
  clear f15 f16
  go_loopw [7, 72] (fun sv i wr => ∃ (k : Nat) (s : Int), k ≤ BM.length ∧ i = .int .i64 k ∧ sv = .int .i64 s ∧ Hid (s = ((BM.take k).map List.sum).sum) ∧ 0 ≤ s ∧ s ≤ (k : Int) * 17179869184 ∧ Hid (wr = w2)) (fun _ i _ => BM.length - (intOf i).toNat)
  case atStart => exact ⟨0, 0, by omega, rfl, rfl, by simp [Hid], by omega, by omega, rfl⟩
  case round =>
    obtain ⟨k, s, hk, rfl, rfl, HS, hs0, hs1, HW⟩ := hrel
    have hw := HW.out
    subst hw
    clear HW
    by_cases hlt : k < BM.length
    · obtain ⟨row, b1, o1, u1, hrow, rfl, hcu1, hru1⟩ := HC2.out k hlt
      have hmem := List.mem_of_getElem? hrow
      have hcl := HCO.out row hmem
      have HBR := hid (HBD.out row hmem)
      have HSK := hid (map_take_succ List.sum BM k row hrow)
      have hk5 : (BM.length : Int) ≤ 4096 := by have := HRW.out; have := HCB.out; omega
      have hr16 : row.length ≤ 16 := by have := HCB.out; omega
      obtain ⟨ra, rc, rfl, hrc1, hrm1, hrcell1⟩ := hru1.open
      have HRC := hid hrcell1
      have q4 : ((row.length : Int) != x.blocks) = false := by rw [hcl]; simp
      clear hrow hru1 hrcell1 hmem hcl
      have hki : (k : Int) < (BM.length : Int) := by omega
      go_wp2
      clear q4 hcu1
      go_loopw [7, 83] (fun sv i wi => ∃ (j : Nat) (t : Int), j ≤ row.length ∧ i = .int .i64 j ∧ sv = .int .i64 t ∧ Hid (t = s + (row.take j).sum) ∧ 0 ≤ t ∧ t ≤ (k : Int) * 17179869184 + (j : Int) * 1073741824 ∧ Hid (wi = wr)) (fun _ i _ => row.length - (intOf i).toNat)
      case atStart => exact ⟨0, s, by omega, rfl, rfl, by simp [Hid], by omega, by omega, rfl⟩
      case round => as_aux_lemma =>
        obtain ⟨j, t, hj, rfl, rfl, HT, ht0, ht1, HWi⟩ := hrel
        have hwi := HWi.out
        subst hwi
        clear HWi
        by_cases hjl : j < row.length
        · obtain ⟨y, rb, ro, hy, rfl, hcy⟩ := HRC.out j hjl
          have hyb := HBR.out y (List.mem_of_getElem? hy)
          have HTS := hid (sum_take_succ row j y hy)
          have hji : (j : Int) < (row.length : Int) := by omega
          clear hy
          go_wp2
          go_roundw
          case rel => exact ⟨j + 1, t + y, by omega, by go_num, by go_num, by rw [HTS.out, HT.out]; unfold Hid; omega, by omega, by omega, by unfold Hid; trivial⟩
          case measure => simp [intOf]; omega
        · have hji : ¬ (j : Int) < (row.length : Int) := by omega
          have hjr : j = row.length := by omega
          go_wp2
          go_roundw
          case rel => exact ⟨k + 1, t, by omega, by go_num, rfl, by rw [HSK.out, HT.out, HS.out, hjr, List.take_length]; rfl, by omega, by omega, by unfold Hid; trivial⟩
          case measure => simp [intOf]; omega
    · have hki : ¬ (k : Int) < (BM.length : Int) := by omega
      have hkM : k = BM.length := by omega
      have HSS : Hid (s = ((l3.map fun y => heightN x.st y).sum)) := by
        unfold Hid
        rw [HS.out, hkM, List.take_length, ← HSM.out]; rfl
      have hsb : s ≤ 4096 * 17179869184 := by have := HRW.out; have := HCB.out; omega
      have HR3 := hid HR2.out.r3
      obtain ⟨a3, c3, he3, hc3, hm3, hcell3⟩ := HR2.out.r3.open
      have HC3 := hid hcell3
      have hl10 := HGG.out.2.2
      obtain ⟨he31, he32, he33⟩ : x.nots.1 = a3 ∧ x.nots.2.1 = l3.length ∧ x.nots.2.2 = c3 := by simpa using he3
      rw [he31, he32, he33] at f17
      have HE3 := hid (And.intro he31 (And.intro he32 he33))
      clear he3 hcell3 he31 he32 he33 HS hkM hs1
      go_wp2
      clear f0 f1 f2 f3 f4 f5 f6 f7 f8 f9 f10 f11 f12 f13 f14 f17
      obtain ⟨wo, rfl⟩ : ∃ wo : World, wo = wr := ⟨_, rfl⟩
      go_loopw [8, 95] (fun sv i wi => ∃ (j : Nat) (t : Int), j ≤ l3.length ∧ i = .int .i64 j ∧ sv = .int .i64 t ∧ Hid (t = ((l3.take j).map fun y => heightN x.st y).sum) ∧ 0 ≤ t ∧ t ≤ (j : Int) * 1073741824 ∧ Hid (Below wo.heap.size wo wi)) (fun _ i _ => l3.length - (intOf i).toNat)
      case atStart => exact ⟨0, 0, by omega, rfl, rfl, by simp [Hid], by omega, by omega, Below.refl _ _⟩
      case round => as_aux_lemma =>
        obtain ⟨j, t, hj, rfl, rfl, HT, ht0, ht1, HBi⟩ := hrel
        have HST3 := hid ((HBi.out.block w.heap.size HLT2.out).trans HST2.out)
        obtain ⟨f0, f1, f2, f3, f4, f5, f6, f7, f8, f9, f10, f11, f12, f13, f14, f15, f16, f17⟩ := cs_facts HST3.out
        rw [HE3.out.1, HE3.out.2.1, HE3.out.2.2] at f17
        clear f15 f16
        by_cases hjl : j < l3.length
        · obtain ⟨y, rb, ro, hy, rfl, hcy0⟩ := HC3.out j hjl
          have hcy := Below.keeps HBi.out _ _ hcy0
          have hh0 := HHT.out y (List.mem_of_getElem? hy)
          have hyb := heightN_bd hh0
          have HTS := hid (map_take_succ (fun y => heightN x.st y) l3 j y hy)
          have hji : (j : Int) < (l3.length : Int) := by omega
          have HNY := hid (HNH y wr (Below.keeps HBi.out _ _ HM2.out))
          rw [hh0] at HNY
          generalize heightN x.st y = hN at *
          clear hy hcy0 hh0
          go_wp2_with fail
          refine HNY.out.out.mono ?_
          rintro e w3 ⟨rfl, hB⟩
          have HB3 := hid (below_tr HBi.out hB)
          clear hB
          go_wp2
          go_roundw
          case rel => exact ⟨j + 1, t + hN, by omega, by go_num, by go_num, by rw [HTS.out, HT.out]; rfl, by omega, by omega, HB3.out⟩
          case measure => simp [intOf]; omega
        · have hji : ¬ (j : Int) < (l3.length : Int) := by omega
          have hjr : j = l3.length := by omega
          have HTE : Hid (t = s) := by unfold Hid; rw [HT.out, HSS.out, hjr, List.take_length]
          have hts : t = s := HTE.out
          subst hts
          clear hjr HTE HT hjl ht0 ht1
          by_cases hn0 : l3.length = 0
          · have hz3 : (l3.length : Int) = 0 := by omega
            have hl0 : l3 = [] := List.eq_nil_of_length_eq_zero hn0
            have hs00 : t = 0 := by rw [HSS.out, hl0]; rfl
            have hm3 := Below.keeps HBi.out _ _ HM2.out
            have HBX := hid (below_tr HB2.out HBi.out)
            clear HSS hl0
            subst hs00
            go_wp2_with fail
            refine (awake_any m _ hm3).mono ?_
            rintro e w3 ⟨rfl, hB⟩
            have HB3 := hid (below_tr HBX.out hB)
            clear hB
            go_wp2
            go_ret
            exact ⟨rfl, HB3.out⟩
          · have hz3 : ¬ (l3.length : Int) = 0 := by omega
            have hrem : (u : Int).tmod (l3.length : Int) = ((u % l3.length : Nat) : Int) := by rw [Int.tmod_eq_emod_of_nonneg (by omega)]; exact (Int.natCast_emod _ _).symm
            have HKL := hid (Nat.mod_lt u (Nat.pos_of_ne_zero hn0))
            generalize u % l3.length = K at *
            have HKK := hid (And.intro HKL.out (And.intro HN.out.1 HN.out.2))
            go_wp2_with fail
            obtain ⟨aA, cA, heA, hcA, hmA, hcellA⟩ := HR2.out.r1.open
            obtain ⟨aL, cL, heL, hcL, hmL, hcellL⟩ := HR2.out.r2.open
            have hK := HKL.out
            obtain ⟨n2, n3⟩ := HN.out
            obtain ⟨_, bA, oA, _, rfl, _⟩ := hcellA 0 (by omega)
            obtain ⟨_, bL, oL, _, rfl, _⟩ := hcellL 0 (by omega)
            obtain ⟨_, bS, oS, _, rfl, _⟩ := HC3.out 0 (by omega)
            have hr1 := (HR2.out.r1).below HBi.out
            have hr2 := (HR2.out.r2).below HBi.out
            have hr3 := (HR2.out.r3).below HBi.out
            obtain ⟨f0, f1, f2, f3, f4, f5, f6, f7, f8, f9, f10, f11, f12, f13, f14, f15, f16, f17⟩ := cs_facts HST3.out
            rw [heA] at f15 hr1
            rw [heL] at f16 hr2
            have e1 : (K : Int) ≤ (cA : Int) := by omega
            have e2 : (K : Int) ≤ (cL : Int) := by omega
            have e3 : (K : Int) ≤ (c3 : Int) := by omega
            have e4 : ¬ cA = K := by omega
            have e5 : ¬ cL = K := by omega
            have e6 : ¬ c3 = K := by omega
            have e7 : (K : Int) ≤ (l3.length : Int) := by omega
            rw [HE3.out.1, HE3.out.2.1, HE3.out.2.2] at hr3
            rw [HE3.out.1, HE3.out.2.1, HE3.out.2.2] at f17
            rw [n3] at hr1 f15
            rw [n2.symm.trans n3] at hr2 f16
            have HMM := hid (Below.keeps HBi.out _ _ HM2.out)
            have HSK : Hid (∀ w', Below wr.heap.size wr w' → (w'.cell? ⟨w.heap.size, 0, none⟩ = some (.int .i64 x.st.width) ∧ w'.cell? ⟨w.heap.size, 1, none⟩ = some (.int .i64 x.st.lh) ∧ w'.cell? ⟨w.heap.size, 2, none⟩ = some (.int .i64 x.st.nh) ∧ w'.cell? ⟨w.heap.size, 3, none⟩ = some (.int .i64 x.st.ph) ∧ w'.cell? ⟨w.heap.size, 4, none⟩ = some (.int .i64 x.st.gap) ∧ w'.cell? ⟨w.heap.size, 5, none⟩ = some (.int .i64 x.st.sp) ∧ w'.cell? ⟨w.heap.size, 6, none⟩ = some (.int .i64 x.st.stretch) ∧ w'.cell? ⟨w.heap.size, 7, none⟩ = some (.int .i64 x.st.shrink) ∧ w'.cell? ⟨w.heap.size, 8, none⟩ = some (.int .i64 x.st.letter) ∧ w'.cell? ⟨w.heap.size, 9, none⟩ = some (.int .i64 x.st.hyphen) ∧ w'.cell? ⟨w.heap.size, 10, none⟩ = some (.int .i64 x.st.every) ∧ w'.cell? ⟨w.heap.size, 11, none⟩ = some (.slice x.st.pos.1 x.st.pos.2.1 x.st.pos.2.2) ∧ w'.cell? ⟨w.heap.size, 12, none⟩ = some (.slice x.st.lay.1 x.st.lay.2.1 x.st.lay.2.2) ∧ w'.cell? ⟨w.heap.size, 13, none⟩ = some (.int .i64 x.count) ∧ w'.cell? ⟨w.heap.size, 14, none⟩ = some (.int .i64 x.blocks) ∧ w'.cell? ⟨w.heap.size, 15, none⟩ = some (.slice (some ⟨bA, oA, none⟩) l3.length cA) ∧ w'.cell? ⟨w.heap.size, 16, none⟩ = some (.slice (some ⟨bL, oL, none⟩) l3.length cL) ∧ w'.cell? ⟨w.heap.size, 17, none⟩ = some (.slice (some ⟨bS, oS, none⟩) l3.length c3) ∧ w'.cell? ⟨0, 0, none⟩ = some (.int .i64 m) ∧ Below wr.heap.size wr w')) := fun w' h => ⟨Below.keeps h _ _ f0, Below.keeps h _ _ f1, Below.keeps h _ _ f2, Below.keeps h _ _ f3, Below.keeps h _ _ f4, Below.keeps h _ _ f5, Below.keeps h _ _ f6, Below.keeps h _ _ f7, Below.keeps h _ _ f8, Below.keeps h _ _ f9, Below.keeps h _ _ f10, Below.keeps h _ _ f11, Below.keeps h _ _ f12, Below.keeps h _ _ f13, Below.keeps h _ _ f14, Below.keeps h _ _ f15, Below.keeps h _ _ f16, Below.keeps h _ _ f17, Below.keeps h _ _ HMM.out, h⟩
            have HR1 := hid hr1
            have HR2x := hid hr2
            have HR3x := hid hr3
            clear n2 n3 hr1 hr2 hr3
            go_cut [18, 19] from 20 (fun s t wx => t = .int .i64 0 ∧ RdM wx s BM ∧ Below wr.heap.size wr wx)
            case first => as_aux_lemma =>
              go_region_held3 (fun w' => w'.cell? ⟨w.heap.size, 0, none⟩ = some (.int .i64 x.st.width) ∧ w'.cell? ⟨w.heap.size, 1, none⟩ = some (.int .i64 x.st.lh) ∧ w'.cell? ⟨w.heap.size, 2, none⟩ = some (.int .i64 x.st.nh) ∧ w'.cell? ⟨w.heap.size, 3, none⟩ = some (.int .i64 x.st.ph) ∧ w'.cell? ⟨w.heap.size, 4, none⟩ = some (.int .i64 x.st.gap) ∧ w'.cell? ⟨w.heap.size, 5, none⟩ = some (.int .i64 x.st.sp) ∧ w'.cell? ⟨w.heap.size, 6, none⟩ = some (.int .i64 x.st.stretch) ∧ w'.cell? ⟨w.heap.size, 7, none⟩ = some (.int .i64 x.st.shrink) ∧ w'.cell? ⟨w.heap.size, 8, none⟩ = some (.int .i64 x.st.letter) ∧ w'.cell? ⟨w.heap.size, 9, none⟩ = some (.int .i64 x.st.hyphen) ∧ w'.cell? ⟨w.heap.size, 10, none⟩ = some (.int .i64 x.st.every) ∧ w'.cell? ⟨w.heap.size, 11, none⟩ = some (.slice x.st.pos.1 x.st.pos.2.1 x.st.pos.2.2) ∧ w'.cell? ⟨w.heap.size, 12, none⟩ = some (.slice x.st.lay.1 x.st.lay.2.1 x.st.lay.2.2) ∧ w'.cell? ⟨w.heap.size, 13, none⟩ = some (.int .i64 x.count) ∧ w'.cell? ⟨w.heap.size, 14, none⟩ = some (.int .i64 x.blocks) ∧ w'.cell? ⟨w.heap.size, 15, none⟩ = some (.slice (some ⟨bA, oA, none⟩) l3.length cA) ∧ w'.cell? ⟨w.heap.size, 16, none⟩ = some (.slice (some ⟨bL, oL, none⟩) l3.length cL) ∧ w'.cell? ⟨w.heap.size, 17, none⟩ = some (.slice (some ⟨bS, oS, none⟩) l3.length c3) ∧ w'.cell? ⟨0, 0, none⟩ = some (.int .i64 m) ∧ Below wr.heap.size wr w')
                (((try go_split_ands); first | (exact HSK.out _ (Below.refl _ _).drew) | (refine HSK.out _ (belowC_tr (by assumption) ?_); assumption) | (exact HSK.out _ (below_tr (by assumption) (below_al _ _)))))
                (first
                  | (go_at_call 36; (try go_split_ands); refine (concat2I_any _ (.slice (some ⟨bA, oA + K, none⟩) (l3.length - K) (cA - K)) (.slice (some ⟨bA, oA, none⟩) K cA) (l1.drop K) (l1.take K) _ ?_ ?_ ?_ ?_ (by rw [List.length_drop]; have := HKK.out; omega) (by rw [List.length_take]; have := HKK.out; omega) (fun _ _ h => by cases h) (fun _ _ h => by cases h)).mono ?_; (focus (((repeat (first | ((with_reducible (refine cell_two0 _ _ _ _ ?_)); (first | (with_reducible rfl) | (simp only [World.size_alloc]; done))) | (with_reducible (refine cell_dr ?_)) | (with_reducible (refine cell_al ?_ _)) | (apply belowC_keeps; (focus assumption)))); done))); (focus (((repeat (first | ((with_reducible (refine cell_two1 _ _ _ _ ?_)); (first | (with_reducible rfl) | (simp only [World.size_alloc]; done))) | (with_reducible (refine cell_dr ?_)) | (with_reducible (refine cell_al ?_ _)) | (apply belowC_keeps; (focus assumption)))); done))); (focus (refine Rd.dropk (l := l1) (Rd.below HR1.out ?_) K ?_; (focus assumption); (focus (have := HKK.out; omega)))); (focus (refine Rd.take (l := l1) (Rd.below HR1.out ?_) K ?_; (focus assumption); (focus (have := HKK.out; omega)))); rintro e wc ⟨rka, rfl, hka, hBc⟩; have hBq : BelowC _ _ := ⟨hBc⟩; clear hBc)
                  | (go_at_call 36; (try go_split_ands); refine (concat2I_any _ (.slice (some ⟨bL, oL + K, none⟩) (l3.length - K) (cL - K)) (.slice (some ⟨bL, oL, none⟩) K cL) (l2.drop K) (l2.take K) _ ?_ ?_ ?_ ?_ (by rw [List.length_drop]; have := HKK.out; omega) (by rw [List.length_take]; have := HKK.out; omega) (fun _ _ h => by cases h) (fun _ _ h => by cases h)).mono ?_; (focus (((repeat (first | ((with_reducible (refine cell_two0 _ _ _ _ ?_)); (first | (with_reducible rfl) | (simp only [World.size_alloc]; done))) | (with_reducible (refine cell_dr ?_)) | (with_reducible (refine cell_al ?_ _)) | (apply belowC_keeps; (focus assumption)))); done))); (focus (((repeat (first | ((with_reducible (refine cell_two1 _ _ _ _ ?_)); (first | (with_reducible rfl) | (simp only [World.size_alloc]; done))) | (with_reducible (refine cell_dr ?_)) | (with_reducible (refine cell_al ?_ _)) | (apply belowC_keeps; (focus assumption)))); done))); (focus (refine Rd.dropk (l := l2) (Rd.below HR2x.out ?_) K ?_; (focus assumption); (focus (have := HKK.out; omega)))); (focus (refine Rd.take (l := l2) (Rd.below HR2x.out ?_) K ?_; (focus assumption); (focus (have := HKK.out; omega)))); rintro e wc ⟨rkl, rfl, hkl, hBc⟩; (first | (have hka2 : RdI wc rka (l1.drop K ++ l1.take K) := hka.below hBc) | (have hka2 : RdI wc rka (l1.drop K ++ l1.take K) := (hka.below (below_al _ _)).below hBc) | (have hka2 : RdI wc rka (l1.drop K ++ l1.take K) := ((hka.below (below_al _ _)).below (below_al _ _)).below hBc) | (fail "TRX")); have hBq : BelowC _ _ := ⟨hBc⟩; clear hBc)
                  | (go_at_call 37; (try go_split_ands); refine (concat2S_any _ (.slice (some ⟨bS, oS + K, none⟩) (l3.length - K) (c3 - K)) (.slice (some ⟨bS, oS, none⟩) K c3) (l3.drop K) (l3.take K) _ ?_ ?_ ?_ ?_ (by rw [List.length_drop]; have := HKK.out; omega) (by rw [List.length_take]; have := HKK.out; omega) (fun _ _ h => by cases h) (fun _ _ h => by cases h)).mono ?_; (focus (((repeat (first | ((with_reducible (refine cell_two0 _ _ _ _ ?_)); (first | (with_reducible rfl) | (simp only [World.size_alloc]; done))) | (with_reducible (refine cell_dr ?_)) | (with_reducible (refine cell_al ?_ _)) | (apply belowC_keeps; (focus assumption)))); done))); (focus (((repeat (first | ((with_reducible (refine cell_two1 _ _ _ _ ?_)); (first | (with_reducible rfl) | (simp only [World.size_alloc]; done))) | (with_reducible (refine cell_dr ?_)) | (with_reducible (refine cell_al ?_ _)) | (apply belowC_keeps; (focus assumption)))); done))); (focus (refine Rd.dropk (l := l3) (Rd.below HR3x.out ?_) K ?_; (focus assumption); (focus (have := HKK.out; omega)))); (focus (refine Rd.take (l := l3) (Rd.below HR3x.out ?_) K ?_; (focus assumption); (focus (have := HKK.out; omega)))); rintro e wc ⟨rks, rfl, hks, hBc⟩; (first | (have hka3 : RdI wc rka (l1.drop K ++ l1.take K) := hka2.below hBc) | (have hka3 : RdI wc rka (l1.drop K ++ l1.take K) := (hka2.below (below_al _ _)).below hBc) | (have hka3 : RdI wc rka (l1.drop K ++ l1.take K) := ((hka2.below (below_al _ _)).below (below_al _ _)).below hBc) | (fail "TRX")); (first | (have hkl2 : RdI wc rkl (l2.drop K ++ l2.take K) := hkl.below hBc) | (have hkl2 : RdI wc rkl (l2.drop K ++ l2.take K) := (hkl.below (below_al _ _)).below hBc) | (have hkl2 : RdI wc rkl (l2.drop K ++ l2.take K) := ((hkl.below (below_al _ _)).below (below_al _ _)).below hBc) | (fail "TRX")); have hBq : BelowC _ _ := ⟨hBc⟩; clear hBc)
                  | (go_at_call 31; (try go_split_ands); refine (HBP3.out _ rka rkl rks K hka3 hkl2 hks ?_).mono ?_; (focus assumption); rintro e wc ⟨vz, rfl, hvz, hBc⟩; have hBq : BelowC _ _ := ⟨hBc⟩; clear hBc))
              all_goals go_split_ands
              skip
              all_goals (go_wp2_with fail; go_meet; exact ⟨rfl, by assumption, by assumption⟩)
            case rest => as_aux_lemma =>
            obtain ⟨rfl, hv9, hb9⟩ := hcut
            obtain ⟨a9, c9, rfl, hc9, hm9, _⟩ := hv9.open
            have HSA := hid (same_any _ _ BM wc ((HV2.out.below HBi.out).below hb9) hv9)
            have HAW := fun w' (h : Below wc.heap.size wc w') => hid (awake_any m w' (Below.keeps (below_tr hb9 h) _ _ HMM.out))
            have HBX := hid (below_tr (below_tr HB2.out HBi.out) hb9)
            clear hv9 HBP3 HSK HR1 HR2x HR3x HNH HC3 HR2 HV2 f0 f1 f2 f3 f4 f5 f6 f7 f8 f9 f10 f11 f12 f13 f14 f15 f16 f17
            go_wp2_with fail
            refine HSA.out.mono ?_
            rintro e w8 ⟨rfl, hB8⟩
            go_wp2_with fail
            refine (HAW _ hB8).out.mono ?_
            rintro e w9 ⟨rfl, hB9⟩
            go_wp2
            go_ret
            exact ⟨rfl, below_tr (below_tr HBX.out hB8) hB9⟩
end Go.Proofs.YtajhkfmhoihjfaaDoor
