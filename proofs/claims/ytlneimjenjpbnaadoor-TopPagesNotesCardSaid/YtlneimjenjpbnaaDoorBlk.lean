/-
  notes.Blocks.
-/
import Derived.Test.YtlneimjenjpbnaaDoorJ03
import Derived.Test.YtlneimjenjpbnaaDoorNoteE
namespace Go.Proofs.YtlneimjenjpbnaaDoor
open Go.RowKit Go.Shelf

theorem st_factsB {st : St} {W : World} {B : Nat} (h : W.heap[B]? = some (.cells st.cells 25 (0, 0))) :
    W.cell? ⟨B, 0, none⟩ = some (.int .i64 st.width) ∧ W.cell? ⟨B, 1, none⟩ = some (.int .i64 st.lh) ∧ W.cell? ⟨B, 2, none⟩ = some (.int .i64 st.nh) ∧ W.cell? ⟨B, 3, none⟩ = some (.int .i64 st.ph) ∧
    W.cell? ⟨B, 4, none⟩ = some (.int .i64 st.gap) ∧ W.cell? ⟨B, 5, none⟩ = some (.int .i64 st.sp) ∧ W.cell? ⟨B, 6, none⟩ = some (.int .i64 st.stretch) ∧ W.cell? ⟨B, 7, none⟩ = some (.int .i64 st.shrink) ∧
    W.cell? ⟨B, 8, none⟩ = some (.int .i64 st.letter) ∧ W.cell? ⟨B, 9, none⟩ = some (.int .i64 st.hyphen) ∧ W.cell? ⟨B, 10, none⟩ = some (.int .i64 st.every) ∧
    W.cell? ⟨B, 11, none⟩ = some (.slice st.pos.1 st.pos.2.1 st.pos.2.2) ∧ W.cell? ⟨B, 12, none⟩ = some (.slice st.lay.1 st.lay.2.1 st.lay.2.2) :=
  ⟨cell_st h 0 rfl, cell_st h 1 rfl, cell_st h 2 rfl, cell_st h 3 rfl, cell_st h 4 rfl, cell_st h 5 rfl, cell_st h 6 rfl, cell_st h 7 rfl, cell_st h 8 rfl, cell_st h 9 rfl, cell_st h 10 rfl, cell_st h 11 rfl, cell_st h 12 rfl⟩
set_option maxHeartbeats 400000 in
theorem indexFuncI0_any (K : Nat) (eK : ∀ args w, (callFunc K args).run Tryd.prog w = .ok (.enter K args) w) (p : Int → Bool) (v : Value) (l : List Int) (w : World) (hr : RdI w v l)
    (hC : ∀ (x : Int) (W' : World), Below w.heap.size w W' → Calls Tryd.prog K #[.int .i64 x] W' fun e W'' => e = .returned (.bool (p x)) ∧ Below W'.heap.size W' W'') :
    Calls Tryd.prog 37 #[v, .func (.func K) #[] #[]] w fun e w' => e = .returned (.int .i64 (fIdx p l)) ∧ Below w.heap.size w w' := by
  obtain ⟨a, cap, rfl, hlc, hcm, hcell⟩ := hr.open
  have HCell := hid hcell; clear hcell
  have HC := hid hC; clear hC
  go_enter Tryd.func37, Tryd.ntmps37
  go_wp2
  go_loopw [8] (fun i wr => ∃ k : Nat, k ≤ l.length ∧ i = .int .i64 k ∧ Hid (∀ y ∈ l.take k, p y = false) ∧ Below w.heap.size w wr) (fun i _ => l.length - (intOf i).toNat)
  case atStart => exact ⟨0, Nat.zero_le _, rfl, by simp [Hid], Below.refl _ _⟩
  case round =>
    rename_i wr
    obtain ⟨k, hk, rfl, HK, hB⟩ := hrel
    by_cases hlt : k < l.length
    · obtain ⟨x, b, off, hx, rfl, hc0⟩ := HCell.out k hlt
      have hc := Below.keeps hB _ _ hc0
      clear hc0
      have HX := hid hx; clear hx
      by_cases hp : p x = true
      · have HP := hid hp
        go_wp2_with (refine (HC.out _ _ hB).mono ?_; rintro e w' ⟨rfl, hB'⟩)
        go_ret
        exact ⟨ret_int (fIdx_hit _ l k x HK.out HX.out HP.out).symm, hB.trans (hB'.mono hB.size)⟩
      · have hp' : p x = false := by simpa using hp
        have HP := hid hp'
        clear hp
        go_wp2_with (refine (HC.out _ _ hB).mono ?_; rintro e w' ⟨rfl, hB'⟩)
        go_roundw
        case rel => exact ⟨k + 1, by omega, by go_num, take_none HK.out HX.out HP.out, hB.trans (hB'.mono hB.size)⟩
        case measure => simp [intOf]; omega
    · go_wp2
      go_ret
      refine ⟨ret_int ?_, hB⟩
      have h := HK.out
      rw [List.take_of_length_le (by omega)] at h
      exact (fIdx_none _ l h).symm

theorem containsFuncI0_any (K : Nat) (eK : ∀ args w, (callFunc K args).run Tryd.prog w = .ok (.enter K args) w) (p : Int → Bool) (v : Value) (l : List Int) (w : World) (hr : RdI w v l)
    (hC : ∀ (x : Int) (W' : World), Below w.heap.size w W' → Calls Tryd.prog K #[.int .i64 x] W' fun e W'' => e = .returned (.bool (p x)) ∧ Below W'.heap.size W' W'') :
    Calls Tryd.prog 20 #[v, .func (.func K) #[] #[]] w fun e w' => e = .returned (.bool (l.any p)) ∧ Below w.heap.size w w' := by
  have HI := indexFuncI0_any K eK p v l w hr hC
  have HF := hid (fIdx_pos p l)
  generalize fIdx p l = r at *
  have H2 := hid HI; clear HI hC
  go_enter Tryd.func20, Tryd.ntmps20
  go_wp2_with (go_at_call 37; refine H2.out.mono ?_; rintro e w' ⟨rfl, hB'⟩)
  go_ret
  exact ⟨ret_bool HF.out, hB'⟩

set_option maxHeartbeats 400000 in
theorem blocks1_any (x : Int) (w : World) :
    Calls Tryd.prog 21 #[.int .i64 x] w fun e w' => e = .returned (.bool (big x)) ∧ Below w.heap.size w w' := by
  have HB : Hid (big x = decide (1073741824 < x)) := rfl
  go_enter Tryd.func21, Tryd.ntmps21
  go_wp2
  go_ret
  exact ⟨ret_bool HB.out.symm, Below.refl _ _⟩

theorem MatR.push {W W' : World} {base G B : Nat} {rs : List Nat} {M : List (List Int)} (h : MatR W base G B rs M) (hb : Below W.heap.size W W') (hbs : base ≤ W.heap.size) {row : List Int} (hl : row.length = B)
    (hr : W'.heap[W.heap.size]? = some (.cells (row.map (Value.int .i64)).toArray 3 (0, 0))) {cur : Array Value} (hcur : W.heap[G]? = some (.cells cur 32 (0, 0))) (hk : rs.length < cur.size) :
    MatR (W'.setCell ⟨G, rs.length, none⟩ (.slice (some ⟨W.heap.size, 0, none⟩) B B)) base G B (rs ++ [W.heap.size]) (M ++ [row]) := by
  have hrl := h.rlt
  have hG := h.Glt
  refine ⟨by simp [h.len], ?_, h.hG, fun r hm => ?_, ?_, fun i r row' hi hrow => ?_⟩
  · refine List.nodup_append.2 ⟨h.nodup, by simp, fun a ha b hb' => ?_⟩
    have : b = W.heap.size := by simpa using hb'
    have := hrl a ha
    omega
  · rcases List.mem_append.1 hm with h1 | h1
    · exact h.hr r h1
    · have : r = W.heap.size := by simpa using h1
      subst this
      exact ⟨hbs, by omega⟩
  · have h1 := (hb.block G hG).trans hcur
    refine ⟨cur.setIfInBounds rs.length (.slice (some ⟨W.heap.size, 0, none⟩) B B), Go.heap_setCell_same W' G rs.length cur _ _ h1, fun i r hi => ?_⟩
    obtain ⟨cur2, h3, h4⟩ := h.outer
    rw [hcur] at h3
    obtain rfl : cur = cur2 := by
      have := Option.some.inj h3
      simpa using this
    rcases Nat.lt_or_ge i rs.length with h5 | h5
    · rw [List.getElem?_append_left h5] at hi
      rw [Array.getElem?_setIfInBounds_ne (by omega)]
      exact h4 i r hi
    · rw [List.getElem?_append_right h5] at hi
      have hz : i - rs.length = 0 := by
        have := (List.getElem?_eq_some_iff.1 hi).1
        simp at this; exact this
      rw [hz] at hi
      have hr' : W.heap.size = r := by simpa using hi
      have hi' : i = rs.length := by omega
      subst hi' hr'
      rw [Array.getElem?_setIfInBounds]
      simp [hk]
  · rcases Nat.lt_or_ge i rs.length with h5 | h5
    · rw [List.getElem?_append_left h5] at hi
      rw [List.getElem?_append_left (by rw [← h.len]; exact h5)] at hrow
      have h1 := h.inner i r row' hi hrow
      have h2 := (h.hr r (List.mem_of_getElem? hi)).2
      exact ⟨h1.1, (Below.heap_setCell _ _ _ _ (by simpa using h2)).trans ((hb.block r (hrl r (List.mem_of_getElem? hi))).trans h1.2)⟩
    · rw [List.getElem?_append_right h5] at hi
      have hz : i - rs.length = 0 := by
        have := (List.getElem?_eq_some_iff.1 hi).1
        simp at this; exact this
      rw [List.getElem?_append_right (by rw [← h.len]; exact h5), ← h.len, hz] at hrow
      rw [hz] at hi
      have hr' : W.heap.size = r := by simpa using hi
      have hw' : row = row' := by simpa using hrow
      subst hr' hw'
      exact ⟨hl, (Below.heap_setCell _ _ _ _ (by simp; omega)).trans hr⟩
theorem badCC_cases (count blocks : Int) : (badC' count blocks = true ∧ (count < 0 ∨ (¬ count < 0 ∧ 4096 < count) ∨ (¬ count < 0 ∧ ¬ 4096 < count ∧ blocks < 0) ∨ (¬ count < 0 ∧ ¬ 4096 < count ∧ ¬ blocks < 0 ∧ 16 < blocks))) ∨ (badC' count blocks = false ∧ ¬ count < 0 ∧ ¬ 4096 < count ∧ ¬ blocks < 0 ∧ ¬ 16 < blocks) := by
  unfold badC'
  by_cases h1 : count < 0
  · left; exact ⟨by simp [h1], .inl h1⟩
  · by_cases h2 : 4096 < count
    · left; exact ⟨by simp [h2], .inr (.inl ⟨h1, h2⟩)⟩
    · by_cases h3 : blocks < 0
      · left; exact ⟨by simp [h3], .inr (.inr (.inl ⟨h1, h2, h3⟩))⟩
      · by_cases h4 : 16 < blocks
        · left; exact ⟨by simp [h4], .inr (.inr (.inr ⟨h1, h2, h3, h4⟩))⟩
        · right; exact ⟨by simp [h1, h2, h3, h4], h1, h2, h3, h4⟩
theorem infoSl : (Tryd.prog.info? 32).map (fun i => (i.zero, i.size, i.bytes)) = some (some (.slice none 0 0), 1, 24) := by kernel_rfl
theorem infoIn : (Tryd.prog.info? 3).map (fun i => (i.zero, i.size, i.bytes)) = some (some (.int .i64 0), 1, 8) := by kernel_rfl

set_option maxHeartbeats 8000000 in
set_option maxRecDepth 100000 in
theorem nblocks_any (st : St) (count blocks : Int) (v1 v2 v3 : Value) (l1 l2 : List Int) (l3 : List ByteArray) (m : Int) (w : World) (hr1 : RdI w v1 l1) (hr2 : RdI w v2 l2) (hr3 : RdS w v3 l3) (hl3 : l3.length ≤ 1000) (hm : w.cell? ⟨0, 0, none⟩ = some (.int .i64 m)) :
    Calls Tryd.prog 8 #[.agg st.cells, .int .i64 count, v1, v2, v3, .int .i64 blocks] w fun e w' => ∃ v, e = .returned (.tuple #[v, .int .i64 (blocksI st count blocks l1 l2 l3)]) ∧ RdM w' v (blocksM st count blocks l1 l2 l3) ∧ Below w.heap.size w w' := by
  have HS := hid (cstyle_any st (w.alloc (.cells st.cells 25)))
  have HST0 : Hid ((w.alloc (.cells st.cells 25)).heap[w.heap.size]? = some (.cells st.cells 25 (0, 0))) := World.alloc_heap_new w _
  have HLT0 : Hid (w.heap.size < (w.alloc (.cells st.cells 25)).heap.size) := by simp [Hid]
  have HB0 := hid (below_al w (.cells st.cells 25))
  obtain ⟨a1, cap1, rfl, hc1, hm1, hcell1⟩ := hr1.open
  obtain ⟨a2, cap2, rfl, hc2, hm2, hcell2⟩ := hr2.open
  obtain ⟨a3, cap3, rfl, hc3, hm3, hcell3⟩ := hr3.open
  have HC1 := hid hcell1
  have HC2 := hid hcell2
  have HC3 := hid hcell3
  have HM := hid hm
  clear hcell1 hcell2 hcell3 hr1 hr2 hr3 hm
  have HI : Hid (blocksI st count blocks l1 l2 l3 = if preI st count blocks l1.length l2.length l3.length ≠ 0 then preI st count blocks l1.length l2.length l3.length
    else if (goB st count blocks (nts l1 l2 l3) (zerM count blocks)).1 ≠ 0 then (goB st count blocks (nts l1 l2 l3) (zerM count blocks)).1
    else if anyBig (goB st count blocks (nts l1 l2 l3) (zerM count blocks)).2 = true then 4 else 0) := rfl
  have HMx : Hid (blocksM st count blocks l1 l2 l3 = if blocksI st count blocks l1 l2 l3 = 0 then (goB st count blocks (nts l1 l2 l3) (zerM count blocks)).2 else []) := rfl
  by_cases h0 : styleI st = 0
  · rcases badCC_cases count blocks with ⟨hb1, h | ⟨h, h2⟩ | ⟨h, h2, h3⟩ | ⟨h, h2, h3, h4⟩⟩ | ⟨hb1, h, h2, h3, h4⟩
    · have _t := h
      have HP : Hid (preI st count blocks l1.length l2.length l3.length = 2) := by unfold preI; rw [if_neg (by omega)]; rw [if_pos hb1]; rfl
      have HI2 : Hid (blocksI st count blocks l1 l2 l3 = 2) := by rw [HI.out, HP.out]; rfl
      have HM2 : Hid (blocksM st count blocks l1 l2 l3 = []) := by rw [HMx.out, HI2.out]; rfl
      rw [h0] at HS
      clear HI HMx hb1
      unfold St.cells at *
      go_enter Tryd.func8, Tryd.ntmps8
      go_wp2_with fail
      refine HS.out.mono ?_
      rintro e w1 ⟨rfl, hB1⟩
      have HBE := hid (below_tr HB0.out hB1)
      clear hB1
      go_wp2
      go_ret2
      exact ⟨_, by rw [HI2.out]; rfl, by rw [HM2.out]; exact RdM.nil _, HBE.out⟩
    · have _t := h
      have HP : Hid (preI st count blocks l1.length l2.length l3.length = 2) := by unfold preI; rw [if_neg (by omega)]; rw [if_pos hb1]; rfl
      have HI2 : Hid (blocksI st count blocks l1 l2 l3 = 2) := by rw [HI.out, HP.out]; rfl
      have HM2 : Hid (blocksM st count blocks l1 l2 l3 = []) := by rw [HMx.out, HI2.out]; rfl
      rw [h0] at HS
      clear HI HMx hb1
      unfold St.cells at *
      go_enter Tryd.func8, Tryd.ntmps8
      go_wp2_with fail
      refine HS.out.mono ?_
      rintro e w1 ⟨rfl, hB1⟩
      have HBE := hid (below_tr HB0.out hB1)
      clear hB1
      go_wp2
      go_ret2
      exact ⟨_, by rw [HI2.out]; rfl, by rw [HM2.out]; exact RdM.nil _, HBE.out⟩
    · have _t := h
      have HP : Hid (preI st count blocks l1.length l2.length l3.length = 2) := by unfold preI; rw [if_neg (by omega)]; rw [if_pos hb1]; rfl
      have HI2 : Hid (blocksI st count blocks l1 l2 l3 = 2) := by rw [HI.out, HP.out]; rfl
      have HM2 : Hid (blocksM st count blocks l1 l2 l3 = []) := by rw [HMx.out, HI2.out]; rfl
      rw [h0] at HS
      clear HI HMx hb1
      unfold St.cells at *
      go_enter Tryd.func8, Tryd.ntmps8
      go_wp2_with fail
      refine HS.out.mono ?_
      rintro e w1 ⟨rfl, hB1⟩
      have HBE := hid (below_tr HB0.out hB1)
      clear hB1
      go_wp2
      go_ret2
      exact ⟨_, by rw [HI2.out]; rfl, by rw [HM2.out]; exact RdM.nil _, HBE.out⟩
    · have _t := h
      have HP : Hid (preI st count blocks l1.length l2.length l3.length = 2) := by unfold preI; rw [if_neg (by omega)]; rw [if_pos hb1]; rfl
      have HI2 : Hid (blocksI st count blocks l1 l2 l3 = 2) := by rw [HI.out, HP.out]; rfl
      have HM2 : Hid (blocksM st count blocks l1 l2 l3 = []) := by rw [HMx.out, HI2.out]; rfl
      rw [h0] at HS
      clear HI HMx hb1
      unfold St.cells at *
      go_enter Tryd.func8, Tryd.ntmps8
      go_wp2_with fail
      refine HS.out.mono ?_
      rintro e w1 ⟨rfl, hB1⟩
      have HBE := hid (below_tr HB0.out hB1)
      clear hB1
      go_wp2
      go_ret2
      exact ⟨_, by rw [HI2.out]; rfl, by rw [HM2.out]; exact RdM.nil _, HBE.out⟩
    · by_cases hn2 : l1.length = l2.length
      · by_cases hn3 : l1.length = l3.length
        · have HP : Hid (preI st count blocks l1.length l2.length l3.length = 0) := by unfold preI; rw [if_neg (by omega), if_neg (by rw [hb1]; decide), if_neg (by omega)]; rfl
          have HI1 : Hid (blocksI st count blocks l1 l2 l3 = if (goB st count blocks (nts l1 l2 l3) (zerM count blocks)).1 ≠ 0 then (goB st count blocks (nts l1 l2 l3) (zerM count blocks)).1
            else if anyBig (goB st count blocks (nts l1 l2 l3) (zerM count blocks)).2 = true then 4 else 0) := by rw [HI.out, HP.out]; rfl
          obtain ⟨C, hC⟩ : ∃ C : Nat, count = (C : Int) := ⟨count.toNat, by omega⟩
          obtain ⟨B, hB⟩ : ∃ B : Nat, blocks = (B : Int) := ⟨blocks.toNat, by omega⟩
          subst hC hB
          have hC4 : C ≤ 4096 := by omega
          have hB16 : B ≤ 16 := by omega
          have q2 : ((l1.length : Int) != (l2.length : Int)) = false := by simp [hn2]
          have q3 : ((l1.length : Int) != (l3.length : Int)) = false := by simp [hn3]
          have HN3 := hid hn3
          have HN2 := hid hn2
          rw [h0] at HS
          clear HI hn2 hn3 hb1 h h2 h3 h4
          obtain ⟨i8, hi8, hz80, hz81, hz82⟩ := info_parts infoSl
          obtain ⟨i9, hi9, hz90, hz91, hz92⟩ := info_parts infoIn
          unfold St.cells at HS
          unfold St.cells
          go_enter Tryd.func8, Tryd.ntmps8
          go_wp2_with fail
          refine HS.out.mono ?_
          rintro e w1 ⟨rfl, hB1⟩
          have HST1 := hid ((hB1.block w.heap.size HLT0.out).trans HST0.out)
          have HLT1 : Hid (w.heap.size < w1.heap.size) := Nat.lt_of_lt_of_le HLT0.out hB1.size
          have HB1 := hid (below_tr HB0.out hB1)
          clear hB1 HST0 HLT0 HB0 HS
          go_wp2_with (at_make; refine wpList_make_full _ rfl _ _ 33 rfl w1.heap.size 32 i8 (.slice none 0 0) 1 Tryd.underlying33 hi8 hz80 hz81 .i64 .i64 _ _ C rfl rfl rfl rfl (by rw [hz82]; omega) (by unfold maxLen; omega) (Nat.le_refl _) ?_; intro w2 hown2 hg2)
          obtain ⟨hG2, _⟩ := own_full hown2
          have hCs : ((madeCells #[Value.slice none 0 0] (C * 1)).toList.toArray).size = C := by
            rw [Nat.mul_one, toList_madeCells_one]; simp
          have HB2 : Hid (Below w1.heap.size w1 w2) := ⟨hg2.os, hg2.tape, hg2.output, hg2.size, fun k hk => hg2.block k hk (by simp)⟩
          have HCUR2 : Hid (∃ cur, w2.heap[w1.heap.size]? = some (.cells cur 32 (0, 0)) ∧ cur.size = C) := ⟨_, hG2, hCs⟩
          have HMAT2 : Hid (MatR w2 w1.heap.size w1.heap.size B [] []) := ⟨rfl, List.nodup_nil, Nat.le_refl _, (fun r h => by cases h), ⟨_, hG2, (fun i r h => by simp at h)⟩, (fun i r row h => by simp at h)⟩
          have HSZ2 : Hid (w1.heap.size < w2.heap.size) := (Array.getElem?_eq_some_iff.1 hG2).1
          clear hown2 hg2 hG2 hCs
          go_loopw [58] (fun i wr => ∃ (k : Nat) (rs : List Nat), k ≤ C ∧ i = .int .i64 k ∧ Hid (MatR wr w1.heap.size w1.heap.size B rs (List.replicate k (List.replicate B 0))) ∧ Hid (∃ cur, wr.heap[w1.heap.size]? = some (.cells cur 32 (0, 0)) ∧ cur.size = C) ∧ Hid (Below w1.heap.size w1 wr)) (fun i _ => C - (intOf i).toNat)
          case atStart => exact ⟨0, [], by omega, rfl, HMAT2.out, HCUR2.out, HB2.out⟩
          case round =>
            clear HMAT2 HCUR2 HB2
            obtain ⟨k, rs, hk, rfl, HMAT, HCUR, HB⟩ := hrel
            have hrl : rs.length = k := by rw [HMAT.out.len, List.length_replicate]
            by_cases hkC : k < C
            · obtain ⟨cur, hcur, hcs⟩ := HCUR.out
              obtain ⟨x, hx⟩ : ∃ x, cur[k]? = some x := ⟨cur[k]'(by omega), Array.getElem?_eq_getElem _⟩
              have HX := hid hx
              have HCR := hid hcur
              have HCS := hid hcs
              have HRL := hid hrl
              have HGL := hid HMAT.out.Glt
              clear hx hcur hcs hrl
              have hkCi : (k : Int) < (C : Int) := by omega
              go_wp2_with (at_make; refine wpList_make_full _ rfl _ _ 32 rfl wr.heap.size 3 i9 (.int .i64 0) 1 Tryd.underlying32 hi9 hz90 hz91 .i64 .i64 _ _ B rfl rfl rfl rfl (by rw [hz92]; omega) (by unfold maxLen; omega) (Nat.le_refl _) ?_; intro w3 hown3 hg3; have HOWN3 := hid hown3; have HG3 := hid hg3; have hw3 := (hg3.block _ HGL.out (by simp)).trans HCR.out; have hcc : w3.cell? ⟨w1.heap.size, k, none⟩ = some x := (cell_of_row w3 _ k cur _ _ hw3).trans HX.out; have hfz : w3.frozen? ⟨w1.heap.size, k, none⟩ = false := frozen_of_row w3 _ k cur _ hw3; clear hown3 hg3 hw3)
              have hbw : Below wr.heap.size wr w3 := ⟨HG3.out.os, HG3.out.tape, HG3.out.output, HG3.out.size, fun k hk => HG3.out.block k hk (by simp)⟩
              have HP := hid (MatR.push (row := List.replicate B 0) HMAT.out hbw HB.out.size (by simp) (by have h := (own_full HOWN3.out).1; change _ = some (Obj.cells ((madeCells #[Value.int .i64 0] (B * 1)).toList.toArray) _ (0, 0)) at h; rwa [madeZero] at h) HCR.out (by rw [HRL.out, HCS.out]; exact hkC))
              rw [HRL.out, ← List.replicate_succ'] at HP
              have HCUR4 : Hid (∃ cur', (w3.setCell ⟨w1.heap.size, k, none⟩ (.slice (some ⟨wr.heap.size, 0, none⟩) B B)).heap[w1.heap.size]? = some (.cells cur' 32 (0, 0)) ∧ cur'.size = C) := ⟨_, Go.heap_setCell_same w3 _ k cur _ _ ((hbw.block _ HGL.out).trans HCR.out), by rw [Array.size_setIfInBounds]; exact HCS.out⟩
              have HB4 := hid ((HB.out.trans (hbw.mono HB.out.size)).setCell (p := ⟨w1.heap.size, k, none⟩) (Nat.le_refl _) (.slice (some ⟨wr.heap.size, 0, none⟩) B B))
              clear hbw HOWN3 HG3 hcc hfz
              go_roundw
              case rel => exact ⟨k + 1, rs ++ [wr.heap.size], by omega, by go_num, HP.out, HCUR4.out, HB4.out⟩
              case measure => simp [intOf]; omega
            · have hkC2 : k = C := by omega
              rw [hkC2] at HMAT
              have HZ : Hid (zerM (C : Int) (B : Int) = List.replicate C (List.replicate B 0)) := by unfold zerM; rw [Int.toNat_natCast, Int.toNat_natCast]; rfl
              rw [← HZ.out] at HMAT
              have HOK0 : Hid (MatOk (zerM (C : Int) (B : Int)) C B 0) := by have h := zerM_ok (C : Int) (B : Int); rw [Int.toNat_natCast, Int.toNat_natCast] at h; exact h
              have HNTL := hid (nts_len (l3 := l3) HN2.out HN3.out)
              have hkCi : ¬ (k : Int) < (C : Int) := by omega
              clear HCUR hrl hkC hkC2
              go_wp2
              obtain ⟨wa, rfl⟩ : ∃ wa : World, wa = wr := ⟨_, rfl⟩
              go_loopw [69] (fun i wr => ∃ (k : Nat) (M : List (List Int)), k ≤ l3.length ∧ i = .int .i64 k ∧ Hid (MatR wr w1.heap.size w1.heap.size B rs M) ∧ Hid (MatOk M C B (k * 1073741824)) ∧ Hid (goB st C B ((nts l1 l2 l3).drop k) M = goB st C B (nts l1 l2 l3) (zerM C B)) ∧ Hid (Below w1.heap.size w1 wr)) (fun i _ => l3.length - (intOf i).toNat)
              case atStart => exact ⟨0, _, by omega, rfl, HMAT.out, by have h := HOK0.out; unfold Hid; simpa using h, rfl, HB.out⟩
              case round =>
                clear HMAT HOK0 HB
                obtain ⟨q, M, hq, rfl, HMAT, HOK, HGO, HB⟩ := hrel
                by_cases hql : q < l3.length
                · obtain ⟨x3, b3, o3, hx3, rfl, hc30⟩ := HC3.out q hql
                  obtain ⟨ya, ba, oa, hya, rfl, hca0⟩ := HC1.out q (by have := HN3.out; omega)
                  obtain ⟨yb, bb, ob, hyb, rfl, hcb0⟩ := HC2.out q (by have := HN3.out; have := HN2.out; omega)
                  have hBw := HB1.out.trans (HB.out.mono HB1.out.size)
                  have hc3 := Below.keeps hBw _ _ hc30
                  have hca := Below.keeps hBw _ _ hca0
                  have hcb := Below.keeps hBw _ _ hcb0
                  have HBW := hid hBw
                  have HNX := hid (nts_get hya hyb hx3)
                  have HGS := hid (show goB st C B ((nts l1 l2 l3).drop q) M = _ from by rw [List.drop_eq_getElem_cons (by rw [HNTL.out]; exact hql), (List.getElem?_eq_some_iff.1 HNX.out).2, goB])
                  have hq1 : (q : Int) < (l1.length : Int) := by have := HN3.out; omega
                  have hq2 : (q : Int) < (l2.length : Int) := by have := HN3.out; have := HN2.out; omega
                  have hq3 : (q : Int) < (l3.length : Int) := by omega
                  have HST5 := hid ((HB.out.block w.heap.size HLT1.out).trans HST1.out)
                  clear hx3 hya hyb hc30 hca0 hcb0 hBw
                  rcases badN_cases (C : Int) (B : Int) ⟨ya, yb, x3⟩ with ⟨hbn, g | ⟨g, g2⟩ | ⟨g, g2, g3⟩ | ⟨g, g2, g3, g4⟩⟩ | ⟨hbn, g, g2, g3, g4⟩
                  all_goals dsimp only at *
                  · have HE : Hid (goB st C B (nts l1 l2 l3) (zerM C B) = (2, [])) := by
                      show _ = _
                      rw [← HGO.out, HGS.out, if_pos hbn]
                    have HI2 : Hid (blocksI st C B l1 l2 l3 = 2) := by rw [HI1.out, HE.out]; rfl
                    have HM2 : Hid (blocksM st C B l1 l2 l3 = []) := by rw [HMx.out, HI2.out]; rfl
                    clear HGO HGS HE hbn
                    go_wp2
                    go_ret2
                    exact ⟨_, by rw [HI2.out]; rfl, by rw [HM2.out]; exact RdM.nil _, HBW.out⟩
                  · have HE : Hid (goB st C B (nts l1 l2 l3) (zerM C B) = (2, [])) := by
                      show _ = _
                      rw [← HGO.out, HGS.out, if_pos hbn]
                    have HI2 : Hid (blocksI st C B l1 l2 l3 = 2) := by rw [HI1.out, HE.out]; rfl
                    have HM2 : Hid (blocksM st C B l1 l2 l3 = []) := by rw [HMx.out, HI2.out]; rfl
                    clear HGO HGS HE hbn
                    go_wp2
                    go_ret2
                    exact ⟨_, by rw [HI2.out]; rfl, by rw [HM2.out]; exact RdM.nil _, HBW.out⟩
                  · have HE : Hid (goB st C B (nts l1 l2 l3) (zerM C B) = (2, [])) := by
                      show _ = _
                      rw [← HGO.out, HGS.out, if_pos hbn]
                    have HI2 : Hid (blocksI st C B l1 l2 l3 = 2) := by rw [HI1.out, HE.out]; rfl
                    have HM2 : Hid (blocksM st C B l1 l2 l3 = []) := by rw [HMx.out, HI2.out]; rfl
                    clear HGO HGS HE hbn
                    go_wp2
                    go_ret2
                    exact ⟨_, by rw [HI2.out]; rfl, by rw [HM2.out]; exact RdM.nil _, HBW.out⟩
                  · have HE : Hid (goB st C B (nts l1 l2 l3) (zerM C B) = (2, [])) := by
                      show _ = _
                      rw [← HGO.out, HGS.out, if_pos hbn]
                    have HI2 : Hid (blocksI st C B l1 l2 l3 = 2) := by rw [HI1.out, HE.out]; rfl
                    have HM2 : Hid (blocksM st C B l1 l2 l3 = []) := by rw [HMx.out, HI2.out]; rfl
                    clear HGO HGS HE hbn
                    go_wp2
                    go_ret2
                    exact ⟨_, by rw [HI2.out]; rfl, by rw [HM2.out]; exact RdM.nil _, HBW.out⟩
                  · obtain ⟨ai, rfl⟩ : ∃ n : Nat, ya = (n : Int) := ⟨ya.toNat, by omega⟩
                    obtain ⟨bi, rfl⟩ : ∃ n : Nat, yb = (n : Int) := ⟨yb.toNat, by omega⟩
                    have HG1 : Hid (goB st C B ((nts l1 l2 l3).drop q) M = if heightI st x3 = 0 then goB st C B ((nts l1 l2 l3).drop (q + 1)) (addM M ai bi (heightN st x3)) else (heightI st x3, [])) := by
                      show _ = _
                      rw [HGS.out, if_neg (by rw [hbn]; decide)]; rfl
                    have HH := hid (nheight_any st x3 m wr (Below.keeps HBW.out _ _ HM.out))
                    obtain ⟨f0, f1, f2, f3, f4, f5, f6, f7, f8, f9, f10, f11, f12⟩ := st_factsB HST5.out
                    clear hbn
                    by_cases hh : heightI st x3 = 0
                    · have hbd := heightN_bd hh
                      rw [hh] at HH
                      obtain ⟨row, n0, hrow, hn0, hrl5, hn1, hn2, hadd⟩ := HOK.out.get (i := ai) (j := bi) (by omega) (by omega)
                      have HG2 : Hid (goB st C B ((nts l1 l2 l3).drop (q + 1)) (M.set ai (row.set bi (n0 + heightN st x3))) = goB st C B (nts l1 l2 l3) (zerM C B)) := by
                        show _ = _
                        rw [← HGO.out, HG1.out, if_pos hh, hadd]
                      have HOK2 := hid (HOK.out.add (i := ai) (j := bi) (by omega) (by omega) hbd.1 hbd.2 (by omega))
                      rw [hadd] at HOK2
                      generalize heightN st x3 = hN at *
                      have HRW := hid hrow
                      have HN0 := hid hn0
                      have HHH := hid hh
                      clear hrow hn0 hadd HG1 HGS HGO hh hrl5
                      unfold St.cells at HH
                      go_wp2_with fail
                      refine HH.out.mono ?_
                      rintro e w4 ⟨rfl, hB4⟩
                      have hca4 := Below.keeps hB4 _ _ hca
                      have hcb4 := Below.keeps hB4 _ _ hcb
                      have HB4 := hid (HB.out.trans (hB4.mono HB.out.size))
                      have HMAT4 := hid (HMAT.out.below hB4)
                      obtain ⟨r, hr, ho, hin, hfz, _, hbr⟩ := HMAT4.out.rowCell HRW.out
                      have hin0 := hin bi n0 HN0.out
                      have hfz0 := hfz bi
                      have HMAT5 := hid (HMAT4.out.set (j := bi) hr HRW.out (n0 + hN))
                      have HB5 := hid (HB4.out.setCell (p := ⟨r, bi, none⟩) hbr (.int .i64 (n0 + hN)))
                      have z1 : IntKind.i64.wrap (n0 + hN) = n0 + hN := IntWalk.i64_in _ (by omega)
                      have z2 : (ai : Int) < (C : Int) := by omega
                      have z3 : (bi : Int) < (B : Int) := by omega
                      have HMAT6 : Hid (MatR (w4.setCell ⟨r, bi, none⟩ (.int .i64 (n0 + hN))).drew w1.heap.size w1.heap.size B rs (M.set ai (row.set bi (n0 + hN)))) := HMAT5.out.below (Below.refl _ _).drew
                      have HB6 : Hid (Below w1.heap.size w1 (w4.setCell ⟨r, bi, none⟩ (.int .i64 (n0 + hN))).drew) := HB5.out.drew
                      clear hca hcb hc3 f0 f1 f2 f3 f4 f5 f6 f7 f8 f9 f10 f11 f12 hB4 hr hin hfz hbr HMAT HMAT4 HMAT5 HB HB4 HB5 HH HBW
                      go_wp2_with fail
                      go_region
                      all_goals
                        generalize (w4.setCell ⟨r, bi, none⟩ (.int .i64 (n0 + hN))).drew = w6 at *
                        clear hca4 hcb4 ho hin0 hfz0 z1 z2 z3
                        go_wp2
                        go_roundw
                        case rel => exact ⟨q + 1, _, by omega, by go_num, HMAT6.out, by have h := HOK2.out; unfold Hid; rw [show ((q + 1 : Nat) : Int) * 1073741824 = (q : Int) * 1073741824 + 1073741824 by omega]; exact h, HG2.out, HB6.out⟩
                        case measure => simp [intOf]; omega
                    · have HE : Hid (goB st C B (nts l1 l2 l3) (zerM C B) = (heightI st x3, [])) := by
                        show _ = _
                        rw [← HGO.out, HG1.out, if_neg hh]
                      have HI2 : Hid (blocksI st C B l1 l2 l3 = heightI st x3) := by rw [HI1.out, HE.out, if_pos hh]; rfl
                      have HM2 : Hid (blocksM st C B l1 l2 l3 = []) := by rw [HMx.out, HI2.out, if_neg hh]; rfl
                      have hhb : (heightI st x3 == 0) = false := by simpa using hh
                      generalize heightI st x3 = hI at *
                      clear HGO HG1 HGS HE
                      unfold St.cells at HH
                      go_wp2_with fail
                      refine HH.out.mono ?_
                      rintro e w4 ⟨rfl, hB4⟩
                      have HBE := hid (below_tr HBW.out hB4)
                      clear hB4
                      go_wp2
                      go_ret2
                      exact ⟨_, by rw [HI2.out]; rfl, by rw [HM2.out]; exact RdM.nil _, HBE.out⟩
                · have HE : Hid (goB st C B (nts l1 l2 l3) (zerM C B) = (0, M)) := by
                    show _ = _
                    rw [← HGO.out, List.drop_of_length_le (by rw [HNTL.out]; omega), goB]
                  have HI2 : Hid (blocksI st C B l1 l2 l3 = if anyBig M = true then 4 else 0) := by rw [HI1.out, HE.out]; rfl
                  have HMx2 : Hid (blocksM st C B l1 l2 l3 = if blocksI st C B l1 l2 l3 = 0 then M else []) := by rw [HMx.out, HE.out]; rfl
                  have HBW := hid (HB1.out.trans (HB.out.mono HB1.out.size))
                  have hrows := HOK.out.rows
                  have hrd := HMAT.out.rd (cap := C) (by omega) (by unfold maxLen; omega) (by unfold maxLen; omega)
                  have HRD := hid hrd
                  rw [hrows] at HRD
                  obtain ⟨_, _, e9, _, _, hrc⟩ := hrd.open
                  cases e9
                  have HRC := hid hrc
                  have HRO := hid hrows
                  have hq3 : ¬ (q : Int) < (l3.length : Int) := by omega
                  clear hrd hrc hrows HMAT HGO HE HI1 HMx
                  go_wp2
                  obtain ⟨wb, rfl⟩ : ∃ wb : World, wb = wr := ⟨_, rfl⟩
                  go_loopw [130] (fun i wr => ∃ k : Nat, k ≤ C ∧ i = .int .i64 k ∧ Hid (∀ y ∈ M.take k, y.any big = false) ∧ Hid (Below wb.heap.size wb wr)) (fun i _ => C - (intOf i).toNat)
                  case atStart => exact ⟨0, by omega, rfl, by simp [Hid], Below.refl _ _⟩
                  case round =>
                    obtain ⟨k, hk, rfl, HNB, HBB⟩ := hrel
                    by_cases hkC3 : k < C
                    · obtain ⟨row, bG, oG, u, hrow, eG, hcu0, hru⟩ := HRC.out k (by rw [HRO.out]; exact hkC3)
                      cases eG
                      have hcu := Below.keeps HBB.out _ _ hcu0
                      rw [Nat.zero_add] at hcu
                      have HROW := hid hrow
                      obtain ⟨au, cu, rfl, _, _, _⟩ := hru.open
                      have HCF := hid (containsFuncI0_any 21 (enters_of Tryd.func21 (by kernel_rfl) rfl) big _ row wr (hru.below HBB.out) (fun x W' _ => blocks1_any x W'))
                      have hkCi3 : (k : Int) < (C : Int) := by omega
                      clear hrow hcu0 hru
                      cases hb : row.any big with
                      | true =>
                        rw [hb] at HCF
                        have HAB : Hid (anyBig M = true) := List.any_eq_true.2 ⟨row, List.mem_of_getElem? HROW.out, hb⟩
                        have HI3 : Hid (blocksI st C B l1 l2 l3 = 4) := by rw [HI2.out, if_pos HAB.out]; rfl
                        have HM3 : Hid (blocksM st C B l1 l2 l3 = []) := by rw [HMx2.out, HI3.out]; rfl
                        clear hb HAB
                        go_wp2_with fail
                        refine HCF.out.mono ?_
                        rintro e w5 ⟨rfl, hB5⟩
                        have HBE := hid (below_tr HBW.out (below_tr HBB.out hB5))
                        clear hB5
                        go_wp2
                        go_ret2
                        exact ⟨_, by rw [HI3.out]; rfl, by rw [HM3.out]; exact RdM.nil _, HBE.out⟩
                      | false =>
                        rw [hb] at HCF
                        have HNB2 : Hid (∀ y ∈ M.take (k + 1), y.any big = false) := by
                          intro y hy
                          rw [List.take_add_one, HROW.out] at hy
                          rcases List.mem_append.1 hy with h' | h'
                          · exact HNB.out y h'
                          · have : y = row := by simpa using h'
                            subst this; exact hb
                        clear hb
                        go_wp2_with fail
                        refine HCF.out.mono ?_
                        rintro e w5 ⟨rfl, hB5⟩
                        have HB5 := hid (below_tr HBB.out hB5)
                        clear hB5
                        go_wp2
                        go_roundw
                        case rel => exact ⟨k + 1, by omega, by go_num, HNB2.out, HB5.out⟩
                        case measure => simp [intOf]; omega
                    · have HAB : Hid (anyBig M = false) := by
                        have h := HNB.out
                        rw [List.take_of_length_le (by rw [HRO.out]; omega)] at h
                        exact List.any_eq_false.2 (fun y hy => by simpa using h y hy)
                      have HI3 : Hid (blocksI st C B l1 l2 l3 = 0) := by rw [HI2.out, HAB.out]; rfl
                      have HM3 : Hid (blocksM st C B l1 l2 l3 = M) := by rw [HMx2.out, HI3.out]; rfl
                      have hkCi3 : ¬ (k : Int) < (C : Int) := by omega
                      have HBE := hid (below_tr HBW.out HBB.out)
                      have HRE := hid (HRD.out.below HBB.out)
                      go_wp2
                      go_ret2
                      exact ⟨_, by rw [HI3.out]; rfl, by rw [HM3.out]; exact HRE.out, HBE.out⟩
        · have q2 : ((l1.length : Int) != (l2.length : Int)) = false := by simp [hn2]
          have q3 : ((l1.length : Int) != (l3.length : Int)) = true := by simpa using (fun e => hn3 (Int.ofNat.inj e))
          have HN3 := hid hn3
          have HN2 := hid hn2
          clear hn2 hn3
          have HP : Hid (preI st count blocks l1.length l2.length l3.length = 9) := by unfold preI; rw [if_neg (by omega)]; rw [if_neg (by rw [hb1]; decide), if_pos (.inr HN3.out)]; rfl
          have HI2 : Hid (blocksI st count blocks l1 l2 l3 = 9) := by rw [HI.out, HP.out]; rfl
          have HM2 : Hid (blocksM st count blocks l1 l2 l3 = []) := by rw [HMx.out, HI2.out]; rfl
          rw [h0] at HS
          clear HI HMx hb1
          unfold St.cells at *
          go_enter Tryd.func8, Tryd.ntmps8
          go_wp2_with fail
          refine HS.out.mono ?_
          rintro e w1 ⟨rfl, hB1⟩
          have HBE := hid (below_tr HB0.out hB1)
          clear hB1
          go_wp2
          go_ret2
          exact ⟨_, by rw [HI2.out]; rfl, by rw [HM2.out]; exact RdM.nil _, HBE.out⟩
      · have q2 : ((l1.length : Int) != (l2.length : Int)) = true := by simpa using (fun e => hn2 (Int.ofNat.inj e))
        have HN2 := hid hn2
        clear hn2
        have HP : Hid (preI st count blocks l1.length l2.length l3.length = 9) := by unfold preI; rw [if_neg (by omega)]; rw [if_neg (by rw [hb1]; decide), if_pos (.inl HN2.out)]; rfl
        have HI2 : Hid (blocksI st count blocks l1 l2 l3 = 9) := by rw [HI.out, HP.out]; rfl
        have HM2 : Hid (blocksM st count blocks l1 l2 l3 = []) := by rw [HMx.out, HI2.out]; rfl
        rw [h0] at HS
        clear HI HMx hb1
        unfold St.cells at *
        go_enter Tryd.func8, Tryd.ntmps8
        go_wp2_with fail
        refine HS.out.mono ?_
        rintro e w1 ⟨rfl, hB1⟩
        have HBE := hid (below_tr HB0.out hB1)
        clear hB1
        go_wp2
        go_ret2
        exact ⟨_, by rw [HI2.out]; rfl, by rw [HM2.out]; exact RdM.nil _, HBE.out⟩
  · have HP : Hid (preI st count blocks l1.length l2.length l3.length = styleI st) := by unfold preI; rw [if_pos h0]; rfl
    have HI2 : Hid (blocksI st count blocks l1 l2 l3 = styleI st) := by rw [HI.out, HP.out, if_pos h0]; rfl
    have HM2 : Hid (blocksM st count blocks l1 l2 l3 = []) := by rw [HMx.out, HI2.out, if_neg h0]; rfl
    have hb : (styleI st == 0) = false := by simpa using h0
    clear HI HMx
    generalize styleI st = se at *
    unfold St.cells at *
    go_enter Tryd.func8, Tryd.ntmps8
    go_wp2_with fail
    refine HS.out.mono ?_
    rintro e w1 ⟨rfl, hB1⟩
    have HBE := hid (below_tr HB0.out hB1)
    clear hB1
    go_wp2
    go_ret2
    exact ⟨_, by rw [HI2.out]; rfl, by rw [HM2.out]; exact RdM.nil _, HBE.out⟩
end Go.Proofs.YtlneimjenjpbnaaDoor
