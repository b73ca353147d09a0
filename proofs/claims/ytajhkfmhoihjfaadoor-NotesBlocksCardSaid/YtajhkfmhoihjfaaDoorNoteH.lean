/-
  The reference: Height, Join.
-/
import Derived.Test.YtajhkfmhoihjfaaDoorNoteG
namespace Go.Proofs.YtajhkfmhoihjfaaDoor
open Go.RowKit Go.Shelf

set_option maxRecDepth 100000 in
set_option maxHeartbeats 1000000 in
theorem rheight_any (st : St) (s : ByteArray) (w : World) :
    Calls Tryd.prog 18 #[.agg st.cells, .string s] w fun e w' => e = .returned (.tuple #[.int .i64 (heightN st s), .int .i64 (heightI st s)]) ∧ Below w.heap.size w w' := by
  have hb0 := below_al w (.cells st.cells 25)
  have HS := fun w' => hid (rset_any st s w')
  have hnw := World.alloc_heap_new w (.cells st.cells 25)
  have HI : Hid (heightI st s = if setI st s = 0 then (if 1073741824 < ((setR st s).length : Int) * st.nh then 4 else 0) else setI st s) := rfl
  have HN : Hid (heightN st s = if heightI st s = 0 then ((setR st s).length : Int) * st.nh else 0) := rfl
  by_cases h0 : setI st s = 0
  · have hlen := setR_len h0
    obtain ⟨_, _, _, kn⟩ := style_ok (setI_zero h0).1
    have hmul : 0 ≤ ((setR st s).length : Int) * st.nh ∧ ((setR st s).length : Int) * st.nh ≤ 70369817919488 := by
      refine ⟨Int.mul_nonneg (by omega) kn.1, ?_⟩
      have h1 : ((setR st s).length : Int) * st.nh ≤ 65537 * st.nh := Int.mul_le_mul_of_nonneg_right (by omega) kn.1
      omega
    have HIz := hid h0
    rw [h0] at HS
    clear h0
    have HC := fun (w' : World) (h : w'.heap[w.heap.size]? = some (.cells st.cells 25 (0, 0))) => hid (cell_st h 2 rfl)
    generalize hL : setR st s = L at *
    clear hL
    unfold St.cells at *
    go_enter Tryd.func18, Tryd.ntmps18
    go_wp2_with fail
    refine (HS _).out.mono ?_
    rintro e w1 ⟨v, rfl, hr1, hB1⟩
    obtain ⟨av, capv, rfl, hlv, hcv, _⟩ := hr1.open
    have hst1 := (hB1.block w.heap.size (by simp)).trans hnw
    have hc2 := (HC _ hst1).out
    have HB := hid (below_tr hb0 hB1)
    clear HS hb0 hB1 hnw hst1 HC
    by_cases hg : 1073741824 < (L.length : Int) * st.nh
    · have HI2 : Hid (heightI st s = 4) := by rw [HI.out, if_pos HIz.out, if_pos hg]; rfl
      have HN2 : Hid (heightN st s = 0) := by rw [HN.out, HI2.out]; rfl
      clear HI HN HIz
      go_wp2
      go_ret2
      exact ⟨by rw [HI2.out, HN2.out]; rfl, HB.out⟩
    · have HI2 : Hid (heightI st s = 0) := by rw [HI.out, if_pos HIz.out, if_neg hg]; rfl
      have HN2 : Hid (heightN st s = (L.length : Int) * st.nh) := by rw [HN.out, HI2.out]; rfl
      clear HI HN HIz
      go_wp2
      go_ret2
      exact ⟨by rw [HI2.out, HN2.out]; rfl, HB.out⟩
  · have HI2 : Hid (heightI st s = setI st s) := by rw [HI.out, if_neg h0]; rfl
    have HN2 : Hid (heightN st s = 0) := by rw [HN.out, HI2.out, if_neg h0]; rfl
    have hb : (setI st s == 0) = false := by simpa using h0
    rw [HI2.out, HN2.out]
    clear HI HN HI2 HN2 hnw
    generalize setI st s = si at *
    generalize setR st s = L at *
    unfold St.cells at *
    go_enter Tryd.func18, Tryd.ntmps18
    go_wp2_with fail
    refine (HS _).out.mono ?_
    rintro e w1 ⟨v, rfl, hr1, hB1⟩
    obtain ⟨av, capv, rfl, hlv, hcv, _⟩ := hr1.open
    have HB := hid (below_tr hb0 hB1)
    clear HS hb0 hB1
    go_wp2
    go_ret2
    exact ⟨rfl, HB.out⟩

/-- The length of what was joined, as the reference counts it: it stops at 131072. -/
def satL (n : Nat) (l : List ByteArray) : Nat := min (n + (l.map (·.size)).sum) 131072
theorem satL_step {n : Nat} {l : List ByteArray} {k : Nat} {x : ByteArray} (h : l[k]? = some x) : satL n (l.take (k + 1)) = min (satL n (l.take k) + x.size) 131072 := by
  unfold satL
  rw [List.take_add_one, h, List.map_append, List.sum_append]
  simp only [Option.toList_some, List.map_cons, List.map_nil, List.sum_cons, List.sum_nil, Nat.add_zero]
  omega
theorem joinB_sum {l : List ByteArray} (h : l ≠ []) : (joinB l).size = l.length - 1 + (l.map (·.size)).sum := by
  cases l with
  | nil => exact absurd rfl h
  | cons x r =>
    have h1 : (joinB (x :: r)).size = (Lib.join (x.data.toList :: r.map (·.data.toList)) [32]).length := rfl
    have e : Lib.lens (x.data.toList :: r.map (·.data.toList)) = x.size + (r.map (·.size)).sum := by
      unfold Lib.lens
      rw [List.map_cons, List.sum_cons, List.map_map]
      rfl
    rw [h1, Lib.join_length, e, List.length_map, List.map_cons, List.sum_cons, List.length_cons]
    simp only [List.length_cons, List.length_nil]
    omega

set_option maxRecDepth 100000 in
set_option maxHeartbeats 2000000 in
theorem rjoin_any (v : Value) (l : List ByteArray) (w : World) (hr : RdS w v l) (hlen : l.length ≤ 65537) (hz : Szs l) :
    Calls Tryd.prog 20 #[v] w fun e w' => e = .returned (.tuple #[.string (joinT l), .int .i64 (joinI l)]) ∧ Below w.heap.size w w' := by
  have HI : Hid (joinI l = if l.length = 0 then 5 else if firstI l = 0 then (if 65536 < (joinB l).size then 4 else 0) else firstI l) := rfl
  have HT : Hid (joinT l = if joinI l = 0 then joinB l else ⟨#[]⟩) := rfl
  have HC := fun x w' => hid (rntext_any x w')
  obtain ⟨a, cap, rfl, hlc, hcm, hcell⟩ := hr.open
  have HCell := hid hcell; clear hcell
  have HZ := hid hz; clear hz
  by_cases h0 : l.length = 0
  · have HI2 : Hid (joinI l = 5) := by rw [HI.out, if_pos h0]; rfl
    have HT2 : Hid (joinT l = ⟨#[]⟩) := by rw [HT.out, HI2.out]; rfl
    rw [HI2.out, HT2.out]
    have h0i : (l.length : Int) = 0 := by omega
    go_enter Tryd.func20, Tryd.ntmps20
    go_wp2
    go_ret2
    exact ⟨rfl, Below.refl _ _⟩
  have h0i : ((l.length : Int) == 0) = false := by simp; intro h; exact h0 (by rw [h]; rfl)
  have h0j : ¬ (l.length : Int) = 0 := by omega
  have hne : l ≠ [] := fun h => h0 (by rw [h]; rfl)
  have HI1 : Hid (joinI l = if firstI l = 0 then (if 65536 < (joinB l).size then 4 else 0) else firstI l) := by rw [HI.out, if_neg h0]; rfl
  have HSum := hid (joinB_sum hne)
  have HNE := hid hne
  clear HI hne
  go_enter Tryd.func20, Tryd.ntmps20
  go_wp2
  go_loopw [4, 5] (fun z i wr => ∃ (k : Nat) (Z : Int), k ≤ l.length ∧ i = .int .i64 k ∧ z = .int .i64 Z ∧ Hid (Z = (satL (l.length - 1) (l.take k) : Nat)) ∧ 0 ≤ Z ∧ Z ≤ 131072 ∧ Hid (∀ y ∈ l.take k, noteI y = 0) ∧ Hid (Below w.heap.size w wr)) (fun _ i _ => l.length - (intOf i).toNat)
  case atStart =>
    refine ⟨0, (l.length : Int) - 1, by omega, rfl, rfl, ?_, by omega, by omega, by simp [Hid], Below.refl _ _⟩
    unfold Hid satL
    simp only [List.take_zero, List.map_nil, List.sum_nil, Nat.add_zero]
    omega
  case round =>
    obtain ⟨k, Z, hk, rfl, rfl, HZ2, hz0, hz1, HK, HB⟩ := hrel
    by_cases hlt : k < l.length
    · obtain ⟨x, b, off, hx, rfl, hc0⟩ := HCell.out k hlt
      have hc := Below.keeps HB.out _ _ hc0
      have HX := hid hx
      have HCx := HC x
      have hxs := HZ.out x (List.mem_of_getElem? hx)
      unfold maxLen at hxs
      clear hx hc0
      by_cases hn : noteI x = 0
      · have HK2 := hid (note_take HK.out HX.out hn)
        have hx64 := noteI_size hn
        have HST := hid (satL_step (n := l.length - 1) HX.out)
        rw [hn] at HCx
        clear hn
        go_wp2_with fail
        refine (HCx _).out.mono ?_
        rintro e w1 ⟨v1, rfl, hr1, hB1⟩
        obtain ⟨a1, cap1, rfl, _, _, _⟩ := hr1.open
        have hc1 := Below.keeps hB1 _ _ hc
        have HB1 := hid (below_tr HB.out hB1)
        clear hB1 HB hr1 hc
        go_wp2
        go_roundw
        case rel => exact ⟨k + 1, min (Z + (x.size : Int)) 131072, by omega, by go_num, rfl, by unfold Hid; rw [HST.out]; have := HZ2.out; omega, by omega, by omega, HK2.out, HB1.out⟩
        case measure => simp [intOf]; omega
      · have HF : Hid (firstI l = noteI x) := firstI_hit HK.out HX.out hn
        have HI2 : Hid (joinI l = noteI x) := by rw [HI1.out, if_neg (by rw [HF.out]; exact hn), HF.out]; rfl
        have HT2 : Hid (joinT l = ⟨#[]⟩) := by rw [HT.out, HI2.out, if_neg hn]; rfl
        have hnb : (noteI x == 0) = false := by simpa using hn
        generalize noteI x = nx at *
        go_wp2_with fail
        refine (HCx _).out.mono ?_
        rintro e w1 ⟨v1, rfl, hr1, hB1⟩
        obtain ⟨a1, cap1, rfl, _, _, _⟩ := hr1.open
        have HB1 := hid (below_tr HB.out hB1)
        clear hB1 HB hr1 hc
        go_wp2
        go_ret2
        exact ⟨by rw [HI2.out, HT2.out]; rfl, HB1.out⟩
    · have hke : k = l.length := by omega
      have hF : firstI l = 0 := firstI_zero (by
        have h := HK.out
        rwa [List.take_of_length_le (by omega)] at h)
      have HI2 : Hid (joinI l = if 65536 < (joinB l).size then 4 else 0) := by rw [HI1.out, if_pos hF]; rfl
      have HZE : Hid (Z = min ((joinB l).size : Int) 131072) := by
        have h := HZ2.out
        rw [List.take_of_length_le (by omega)] at h
        show _ = _
        rw [h, HSum.out]
        unfold satL
        omega
      have HBw := HB
      clear HZ2 HI1 HK HB hke
      by_cases hg : 65536 < (joinB l).size
      · have HI3 : Hid (joinI l = 4) := by rw [HI2.out, if_pos hg]; rfl
        have HT2 : Hid (joinT l = ⟨#[]⟩) := by rw [HT.out, HI3.out]; rfl
        have hgi : (65536 : Int) < Z := by have := HZE.out; omega
        go_wp2
        go_ret2
        exact ⟨by rw [HI3.out, HT2.out]; rfl, HBw.out⟩
      · have HI3 : Hid (joinI l = 0) := by rw [HI2.out, if_neg hg]; rfl
        have HT2 : Hid (joinT l = joinB l) := by rw [HT.out, HI3.out]; rfl
        have hgi : ¬ (65536 : Int) < Z := by have := HZE.out; omega
        have hjs : (joinB l).size ≤ 65536 := by omega
        have HJS := hid (fun k (hk : k + 1 ≤ l.length) => show (joinTo l (k + 1)).size ≤ (joinB l).size from by
          unfold joinTo
          rw [joinB_sum (by intro e; have h2 := congrArg List.length e; rw [List.length_take, List.length_nil] at h2; omega), joinB_sum HNE.out]
          have h1 : ((l.take (k + 1)).map (·.size)).sum ≤ (l.map (·.size)).sum := by
            conv => rhs; rw [← List.take_append_drop (k + 1) l, List.map_append, List.sum_append]
            omega
          rw [List.length_take]
          omega)
        obtain ⟨x, b, off, hx, rfl, hc0⟩ := HCell.out 0 (by omega)
        have hc := Below.keeps HBw.out _ _ hc0
        rw [Nat.add_zero] at hc
        have HX0 := hid (joinTo_one l x hx)
        have hl0 : (0 : Int) < (l.length : Int) := by omega
        clear hx hc0 hg
        go_wp2
        go_loopw [8, 9] (fun o i wq => ∃ k : Nat, k + 1 ≤ l.length ∧ i = .int .i64 ((k : Int) + 1) ∧ o = .string (joinTo l (k + 1)) ∧ Hid (Below w.heap.size w wq)) (fun _ i _ => l.length - (intOf i).toNat)
        case atStart => exact ⟨0, by omega, rfl, by rw [HX0.out], HBw.out⟩
        case round =>
          obtain ⟨q, hq, rfl, rfl, HB2⟩ := hrel
          by_cases hlt2 : q + 1 < l.length
          · obtain ⟨xq, bq, oq, hxq, eq, hcq0⟩ := HCell.out (q + 1) hlt2
            cases eq
            have hcq := Below.keeps HB2.out _ _ hcq0
            have HXQ := hid (joinTo_succ l q xq hxq)
            have hs1 := HJS.out q hq
            have hs2 := HJS.out (q + 1) hlt2
            have hs3 : (joinTo l (q + 1)).size + 1 + xq.size ≤ 65536 := by
              rw [HXQ.out, ByteArray.size_append, ByteArray.size_append] at hs2
              have : (ByteArray.mk #[32]).size = 1 := rfl
              omega
            have z1 : ¬ 9223372036854775807 < (joinTo l (q + 1)).size + 1 := by omega
            have z2 : ¬ 9223372036854775807 < (joinTo l (q + 1)).size + 1 + xq.size := by omega
            have hqi : (q : Int) + 1 < (l.length : Int) := by omega
            clear hxq hcq0 hc
            go_wp2
            go_roundw
            case rel => exact ⟨q + 1, by omega, by go_num, by rw [HXQ.out], HB2.out⟩
            case measure => simp [intOf]; omega
          · have HE : Hid (joinTo l (q + 1) = joinB l) := by
              unfold joinTo
              rw [List.take_of_length_le (by omega)]; rfl
            have hqi : ¬ (q : Int) + 1 < (l.length : Int) := by omega
            clear hc
            go_wp2
            go_ret2
            exact ⟨by rw [HI3.out, HT2.out, HE.out]; rfl, HB2.out⟩
end Go.Proofs.YtajhkfmhoihjfaaDoor
