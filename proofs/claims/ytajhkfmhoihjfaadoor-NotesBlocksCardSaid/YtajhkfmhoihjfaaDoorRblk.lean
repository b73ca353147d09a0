/-
  The reference's Blocks.
-/
import Derived.Test.YtajhkfmhoihjfaaDoorBlk
import Derived.Test.YtajhkfmhoihjfaaDoorNoteH
namespace Go.Proofs.YtajhkfmhoihjfaaDoor
open Go.RowKit Go.Shelf

def satM (M : List (List Int)) : List (List Int) := M.map fun r => r.map fun n => min n 1073741825
theorem satM_get {M : List (List Int)} {i : Nat} {row : List Int} (h : M[i]? = some row) : (satM M)[i]? = some (row.map fun n => min n 1073741825) := by
  unfold satM; rw [List.getElem?_map, h]; rfl
theorem satM_set (M : List (List Int)) (i j : Nat) (row : List Int) (n : Int) : satM (M.set i (row.set j n)) = (satM M).set i ((row.map fun n => min n 1073741825).set j (min n 1073741825)) := by
  unfold satM; rw [List.map_set, List.map_set]
theorem satM_zer (c b : Nat) : satM (List.replicate c (List.replicate b 0)) = List.replicate c (List.replicate b 0) := by
  unfold satM; rw [List.map_replicate, List.map_replicate]; rfl
theorem satM_small {M : List (List Int)} (h : anyBig M = false) : satM M = M := by
  unfold satM
  have h1 : ∀ r ∈ M, (r.map fun n => min n 1073741825) = r := fun r hr => by
    have h2 : r.any big = false := by
      have := List.any_eq_false.1 h r hr
      simpa using this
    have h3 : ∀ n ∈ r, min n 1073741825 = n := fun n hn => by
      have := List.any_eq_false.1 h2 n hn
      unfold big at this
      simp at this
      omega
    calc r.map (fun n => min n 1073741825) = r.map id := List.map_congr_left h3
      _ = r := List.map_id r
  calc M.map (fun r => r.map fun n => min n 1073741825) = M.map id := List.map_congr_left h1
    _ = M := List.map_id M
/-- A number that grew is big, or none is new. -/
theorem anyBig_set {M : List (List Int)} {i j : Nat} {row : List Int} {n d : Int} (h1 : M[i]? = some row) (h2 : row[j]? = some n) (hd : 0 ≤ d) : anyBig (M.set i (row.set j (n + d))) = (anyBig M || big (n + d)) := by
  have e : ∀ {α : Type} (p : α → Bool) (l : List α) (k : Nat) (x y : α), l[k]? = some x → (p x = true → p y = true) → (l.set k y).any p = (l.any p || p y) := by
    intro α p l
    induction l with
    | nil => intro k x y h; simp at h
    | cons z r ih =>
      intro k x y h hp
      cases k with
      | zero =>
        have : z = x := by simpa using h
        subst this
        rw [List.set_cons_zero, List.any_cons, List.any_cons]
        cases hz : p z <;> cases hy : p y <;> simp_all
      | succ k =>
        rw [List.set_cons_succ, List.any_cons, List.any_cons, ih k x y (by simpa using h) hp, Bool.or_assoc]
  have hb : big n = true → big (n + d) = true := fun h => by unfold big at *; simp at *; omega
  have h3 := e big row j n (n + d) h2 hb
  unfold anyBig
  rw [e (fun r => r.any big) M i row (row.set j (n + d)) h1 (fun h => by rw [h3, h]; rfl), h3]
  have h4 : row.any big = true → M.any (fun r => r.any big) = true := fun h => List.any_eq_true.2 ⟨row, List.mem_of_getElem? h1, h⟩
  cases hr : row.any big with
  | true => rw [h4 hr]; rfl
  | false => rfl

set_option maxHeartbeats 8000000 in
set_option maxRecDepth 100000 in
theorem rblocks_any (st : St) (count blocks : Int) (v1 v2 v3 : Value) (l1 l2 : List Int) (l3 : List ByteArray) (m : Int) (w : World) (hr1 : RdI w v1 l1) (hr2 : RdI w v2 l2) (hr3 : RdS w v3 l3) (hl3 : l3.length ≤ 1000) (hm : w.cell? ⟨0, 0, none⟩ = some (.int .i64 m)) :
    Calls Tryd.prog 32 #[.agg st.cells, .int .i64 count, v1, v2, v3, .int .i64 blocks] w fun e w' => ∃ v, e = .returned (.tuple #[v, .int .i64 (blocksI st count blocks l1 l2 l3)]) ∧ RdM w' v (blocksM st count blocks l1 l2 l3) ∧ Below w.heap.size w w' := by
  have HS := hid (rstyle_any st (w.alloc (.cells st.cells 25)))
  have HST0 : Hid ((w.alloc (.cells st.cells 25)).heap[w.heap.size]? = some (.cells st.cells 25 (0, 0))) := World.alloc_heap_new w _
  have HLT0 : Hid (w.heap.size < (w.alloc (.cells st.cells 25)).heap.size) := by simp [Hid]
  have HB0 := hid (below_al w (.cells st.cells 25))
  obtain ⟨a1, cap1, rfl, hc1, hm1, hcell1⟩ := hr1.open
  obtain ⟨a2, cap2, rfl, hc2, hm2, hcell2⟩ := hr2.open
  obtain ⟨a3, cap3, rfl, hc3, hm3, hcell3⟩ := hr3.open
  have HC1 := hid hcell1
  have HC2 := hid hcell2
  have HC3 := hid hcell3
  have HM := hid hm
  clear hcell1 hcell2 hcell3 hr1 hr2 hr3 hm
  have HI : Hid (blocksI st count blocks l1 l2 l3 = if preI st count blocks l1.length l2.length l3.length ≠ 0 then preI st count blocks l1.length l2.length l3.length
    else if (goB st count blocks (nts l1 l2 l3) (zerM count blocks)).1 ≠ 0 then (goB st count blocks (nts l1 l2 l3) (zerM count blocks)).1
    else if anyBig (goB st count blocks (nts l1 l2 l3) (zerM count blocks)).2 = true then 4 else 0) := rfl
  have HMx : Hid (blocksM st count blocks l1 l2 l3 = if blocksI st count blocks l1 l2 l3 = 0 then (goB st count blocks (nts l1 l2 l3) (zerM count blocks)).2 else []) := rfl
  by_cases h0 : styleI st = 0
  · rcases badCC_cases count blocks with ⟨hb1, h | ⟨h, h2⟩ | ⟨h, h2, h3⟩ | ⟨h, h2, h3, h4⟩⟩ | ⟨hb1, h, h2, h3, h4⟩
    · have _t := h
      have HP : Hid (preI st count blocks l1.length l2.length l3.length = 2) := by unfold preI; rw [if_neg (by omega)]; rw [if_pos hb1]; rfl
      have HI2 : Hid (blocksI st count blocks l1 l2 l3 = 2) := by rw [HI.out, HP.out]; rfl
      have HM2 : Hid (blocksM st count blocks l1 l2 l3 = []) := by rw [HMx.out, HI2.out]; rfl
      rw [h0] at HS
      clear HI HMx hb1
      unfold St.cells at *
      go_enter Tryd.func32, Tryd.ntmps32
      go_wp2_with fail
      refine HS.out.mono ?_
      rintro e w1 ⟨rfl, hB1⟩
      have HBE := hid (below_tr HB0.out hB1)
      clear hB1
      go_wp2
      go_ret2
      exact ⟨_, by rw [HI2.out]; rfl, by rw [HM2.out]; exact RdM.nil _, HBE.out⟩
    · have _t := h
      have HP : Hid (preI st count blocks l1.length l2.length l3.length = 2) := by unfold preI; rw [if_neg (by omega)]; rw [if_pos hb1]; rfl
      have HI2 : Hid (blocksI st count blocks l1 l2 l3 = 2) := by rw [HI.out, HP.out]; rfl
      have HM2 : Hid (blocksM st count blocks l1 l2 l3 = []) := by rw [HMx.out, HI2.out]; rfl
      rw [h0] at HS
      clear HI HMx hb1
      unfold St.cells at *
      go_enter Tryd.func32, Tryd.ntmps32
      go_wp2_with fail
      refine HS.out.mono ?_
      rintro e w1 ⟨rfl, hB1⟩
      have HBE := hid (below_tr HB0.out hB1)
      clear hB1
      go_wp2
      go_ret2
      exact ⟨_, by rw [HI2.out]; rfl, by rw [HM2.out]; exact RdM.nil _, HBE.out⟩
    · have _t := h
      have HP : Hid (preI st count blocks l1.length l2.length l3.length = 2) := by unfold preI; rw [if_neg (by omega)]; rw [if_pos hb1]; rfl
      have HI2 : Hid (blocksI st count blocks l1 l2 l3 = 2) := by rw [HI.out, HP.out]; rfl
      have HM2 : Hid (blocksM st count blocks l1 l2 l3 = []) := by rw [HMx.out, HI2.out]; rfl
      rw [h0] at HS
      clear HI HMx hb1
      unfold St.cells at *
      go_enter Tryd.func32, Tryd.ntmps32
      go_wp2_with fail
      refine HS.out.mono ?_
      rintro e w1 ⟨rfl, hB1⟩
      have HBE := hid (below_tr HB0.out hB1)
      clear hB1
      go_wp2
      go_ret2
      exact ⟨_, by rw [HI2.out]; rfl, by rw [HM2.out]; exact RdM.nil _, HBE.out⟩
    · have _t := h
      have HP : Hid (preI st count blocks l1.length l2.length l3.length = 2) := by unfold preI; rw [if_neg (by omega)]; rw [if_pos hb1]; rfl
      have HI2 : Hid (blocksI st count blocks l1 l2 l3 = 2) := by rw [HI.out, HP.out]; rfl
      have HM2 : Hid (blocksM st count blocks l1 l2 l3 = []) := by rw [HMx.out, HI2.out]; rfl
      rw [h0] at HS
      clear HI HMx hb1
      unfold St.cells at *
      go_enter Tryd.func32, Tryd.ntmps32
      go_wp2_with fail
      refine HS.out.mono ?_
      rintro e w1 ⟨rfl, hB1⟩
      have HBE := hid (below_tr HB0.out hB1)
      clear hB1
      go_wp2
      go_ret2
      exact ⟨_, by rw [HI2.out]; rfl, by rw [HM2.out]; exact RdM.nil _, HBE.out⟩
    · by_cases hn2 : l1.length = l2.length
      · by_cases hn3 : l1.length = l3.length
        · have HP : Hid (preI st count blocks l1.length l2.length l3.length = 0) := by unfold preI; rw [if_neg (by omega), if_neg (by rw [hb1]; decide), if_neg (by omega)]; rfl
          have HI1 : Hid (blocksI st count blocks l1 l2 l3 = if (goB st count blocks (nts l1 l2 l3) (zerM count blocks)).1 ≠ 0 then (goB st count blocks (nts l1 l2 l3) (zerM count blocks)).1
            else if anyBig (goB st count blocks (nts l1 l2 l3) (zerM count blocks)).2 = true then 4 else 0) := by rw [HI.out, HP.out]; rfl
          obtain ⟨C, hC⟩ : ∃ C : Nat, count = (C : Int) := ⟨count.toNat, by omega⟩
          obtain ⟨B, hB⟩ : ∃ B : Nat, blocks = (B : Int) := ⟨blocks.toNat, by omega⟩
          subst hC hB
          have hC4 : C ≤ 4096 := by omega
          have hB16 : B ≤ 16 := by omega
          have q2 : ((l1.length : Int) != (l2.length : Int)) = false := by simp [hn2]
          have q3 : ((l1.length : Int) != (l3.length : Int)) = false := by simp [hn3]
          have q4 : ((l2.length : Int) != (l3.length : Int)) = false := by simp [hn3, ← hn2]
          have HN3 := hid hn3
          have HN2 := hid hn2
          rw [h0] at HS
          clear HI hn2 hn3 hb1 h h2 h3 h4
          obtain ⟨i8, hi8, hz80, hz81, hz82⟩ := info_parts infoSl
          obtain ⟨i9, hi9, hz90, hz91, hz92⟩ := info_parts infoIn
          unfold St.cells at HS
          unfold St.cells
          go_enter Tryd.func32, Tryd.ntmps32
          go_wp2_with fail
          refine HS.out.mono ?_
          rintro e w1 ⟨rfl, hB1⟩
          have HST1 := hid ((hB1.block w.heap.size HLT0.out).trans HST0.out)
          have HLT1 : Hid (w.heap.size < w1.heap.size) := Nat.lt_of_lt_of_le HLT0.out hB1.size
          have HB1 := hid (below_tr HB0.out hB1)
          clear hB1 HST0 HLT0 HB0 HS
          go_wp2
          obtain ⟨W2, hW2⟩ : ∃ W2, W2 = w1.alloc (.cells #[] 50) := ⟨_, rfl⟩
          have HB2 : Hid (Below w1.heap.size w1 W2) := by rw [hW2]; exact below_al _ _
          have HOWN0 : Hid (W2.ownsRow w1.heap.size 50 1 (.slice (some ⟨w1.heap.size, 0, none⟩) 0 0) 0 []) := by rw [hW2]; exact World.ownsRow_made w1 #[] 0 (Nat.le_refl _) (by unfold maxLen; omega) rfl
          go_loopw [15, 16] (fun ov i wr => ∃ (k g cap : Nat) (rs : List Nat), k ≤ C ∧ i = .int .i64 k ∧ ov = .slice (some ⟨g, 0, none⟩) k cap ∧ rs.length = k ∧ wr.ownsRow w1.heap.size 50 1 (.slice (some ⟨g, 0, none⟩) k cap) k (rs.map fun r => Value.slice (some ⟨r, 0, none⟩) B B) ∧
              Hid (rs.Nodup ∧ ∀ r ∈ rs, w1.heap.size ≤ r ∧ wr.heap[r]? = some (.cells ((List.replicate B (0 : Int)).map (Value.int .i64)).toArray 3 (0, 0))) ∧ Hid (Below w1.heap.size w1 wr)) (fun _ i _ => C - (intOf i).toNat)
          case atStart => exact ⟨0, w1.heap.size, 0, [], by omega, rfl, rfl, rfl, by rw [← hW2]; exact HOWN0.out, ⟨List.nodup_nil, fun r h => by cases h⟩, by rw [← hW2]; exact HB2.out⟩
          case round =>
            clear HOWN0 HB2 hW2
            obtain ⟨k, g, cap, rs, hk, rfl, rfl, hrl, hown, HIN, HB⟩ := hrel
            by_cases hkC : k < C
            · have hkCi : (k : Int) < (C : Int) := by omega
              have HRL := hid hrl
              have HSB := hid HB.out.size
              clear hrl
              go_wp2_with (first | (at_make; refine wpList_make_full _ rfl _ _ 50 rfl wr.heap.size 3 i9 (.int .i64 0) 1 Tryd.underlying50 hi9 hz90 hz91 .i64 .i64 _ _ B rfl rfl rfl rfl (by rw [hz92]; omega) (by unfold maxLen; omega) (Nat.le_refl _) ?_; intro w3 hown3 hg3; have HOWN3 := hid hown3; have HBW3 := hid (show Below wr.heap.size wr w3 from ⟨hg3.os, hg3.tape, hg3.output, hg3.size, fun k hk => hg3.block k hk (by simp)⟩); have hownk := own_below hown HBW3.out; have HSZ3 := hid (Nat.le_trans HSB.out HBW3.out.size); clear hown3 hg3 hown) | (at_builtin; refine wpList_ap2 rfl _ _ 58 rfl w1.heap.size 50 Tryd.underlying58 infoSl rfl (by decide) (by decide) _ _ _ rfl hownk [.slice (some ⟨wr.heap.size, 0, none⟩) B B] rfl (by simp [Value.oneCell']) rfl (by simp) (by omega) HSZ3.out ?_; intro g9 cap9 w9 hown9 hb9 hg9 _ _))
              have hz := (own_full HOWN3.out).1
              change _ = some (Obj.cells ((madeCells #[Value.int .i64 0] (B * 1)).toList.toArray) _ (0, 0)) at hz
              rw [madeZero] at hz
              have hgo : (Value.slice (some ⟨g, 0, none⟩) k cap).ownBlock = some g := rfl
              have hne : ∀ r : Nat, w3.heap[r]? = some (.cells ((List.replicate B (0 : Int)).map (Value.int .i64)).toArray 3 (0, 0)) → r < w3.heap.size ∧ some r ≠ some g := fun r h => by
                refine ⟨(Array.getElem?_eq_some_iff.1 h).1, fun e => ?_⟩
                cases e
                rcases hownk.2 with ⟨h1, _⟩ | ⟨g', cap', cur, h1, _, hh, _⟩
                · cases h1
                · simp only [Value.slice.injEq, Option.some.injEq, Addr.mk.injEq, and_true, true_and] at h1
                  obtain ⟨rfl, _⟩ := h1
                  rw [h] at hh
                  have := Option.some.inj hh
                  simp at this
              have HIN2 : Hid ((rs ++ [wr.heap.size]).Nodup ∧ ∀ r ∈ rs ++ [wr.heap.size], w1.heap.size ≤ r ∧ w9.heap[r]? = some (.cells ((List.replicate B (0 : Int)).map (Value.int .i64)).toArray 3 (0, 0))) := by
                obtain ⟨hnd, hin⟩ := HIN.out
                have hlt : ∀ r ∈ rs, r < wr.heap.size := fun r hr => (Array.getElem?_eq_some_iff.1 (hin r hr).2).1
                refine ⟨List.nodup_append.2 ⟨hnd, by simp, fun a ha b hb' => ?_⟩, fun r hr => ?_⟩
                · have : b = wr.heap.size := by simpa using hb'
                  have := hlt a ha
                  omega
                · have h3 : w1.heap.size ≤ r ∧ w3.heap[r]? = some (.cells ((List.replicate B (0 : Int)).map (Value.int .i64)).toArray 3 (0, 0)) := by
                    rcases List.mem_append.1 hr with h1 | h1
                    · exact ⟨(hin r h1).1, (HBW3.out.block r (hlt r h1)).trans (hin r h1).2⟩
                    · have : r = wr.heap.size := by simpa using h1
                      subst this
                      exact ⟨HSB.out, hz⟩
                  obtain ⟨h4, h5⟩ := hne r h3.2
                  exact ⟨h3.1, (hg9.block r h4 h5).trans h3.2⟩
              have HB9 := hid (HB.out.trans ((HBW3.out.mono HSB.out).trans hb9))
              have HOWN9 : Hid (w9.ownsRow w1.heap.size 50 1 (.slice (some ⟨g9, 0, none⟩) (k + 1) cap9) (k + 1) ((rs ++ [wr.heap.size]).map fun r => Value.slice (some ⟨r, 0, none⟩) B B)) := by rw [List.map_append]; exact hown9
              have HL9 := hid (show (rs ++ [wr.heap.size]).length = k + 1 by rw [List.length_append, List.length_singleton, HRL.out])
              clear hown9 hb9 hg9 hz hne hgo hownk HIN HBW3 HOWN3 HSZ3
              go_roundw
              case rel => exact ⟨k + 1, g9, cap9, rs ++ [wr.heap.size], by omega, by go_num, rfl, HL9.out, HOWN9.out, HIN2.out, HB9.out⟩
              case measure => simp [intOf]; omega
            · have hkC2 : k = C := by omega
              have hkCi : ¬ (k : Int) < (C : Int) := by omega
              have HZ : Hid (zerM (C : Int) (B : Int) = List.replicate C (List.replicate B 0)) := by unfold zerM; rw [Int.toNat_natCast, Int.toNat_natCast]; rfl
              have HCAP : Hid (C ≤ cap ∧ cap ≤ maxLen) := by
                rcases hown.2 with ⟨h1, _⟩ | ⟨g', cap', cur, h1, hb, hh, hc, hm, hs, ht⟩
                · cases h1
                · simp only [Value.slice.injEq, Option.some.injEq, Addr.mk.injEq, and_true, true_and] at h1
                  obtain ⟨rfl, rfl⟩ := h1
                  exact ⟨by omega, hm⟩
              have HMAT : Hid (MatR wr w1.heap.size g B rs (satM (zerM C B))) := by
                rw [HZ.out, satM_zer]
                obtain ⟨hnd, hin⟩ := HIN.out
                rcases hown.2 with ⟨h1, _⟩ | ⟨g', cap', cur, h1, hb, hh, hc, hm, hs, ht⟩
                · cases h1
                · simp only [Value.slice.injEq, Option.some.injEq, Addr.mk.injEq, and_true, true_and] at h1
                  obtain ⟨rfl, rfl⟩ := h1
                  refine ⟨by rw [hrl, hkC2, List.length_replicate], hnd, hb, fun r hr => ⟨(hin r hr).1, fun e => ?_⟩, ⟨cur, hh, fun i r hi => ?_⟩, fun i r row hi hrow => ?_⟩
                  · have h := (hin r hr).2
                    rw [e, hh] at h
                    have := Option.some.inj h
                    simp at this
                  · have hlt := (List.getElem?_eq_some_iff.1 hi).1
                    have h2 : (rs.map fun r => Value.slice (some ⟨r, 0, none⟩) B B)[i]? = some (Value.slice (some ⟨r, 0, none⟩) B B) := by rw [List.getElem?_map, hi]; rfl
                    rw [← ht, List.getElem?_take, if_pos (by omega)] at h2
                    simpa using h2
                  · obtain ⟨_, he⟩ := List.getElem?_eq_some_iff.1 hrow
                    rw [List.getElem_replicate] at he
                    subst he
                    exact ⟨List.length_replicate, (hin r (List.mem_of_getElem? hi)).2⟩
              have HOK0 : Hid (MatOk (zerM (C : Int) (B : Int)) C B 0) := by have h := zerM_ok (C : Int) (B : Int); rw [Int.toNat_natCast, Int.toNat_natCast] at h; exact h
              have HNB0 : Hid (false = anyBig (zerM (C : Int) (B : Int))) := by
                show _ = _
                rw [HZ.out]
                unfold anyBig
                symm
                rw [List.any_eq_false]
                intro r hr
                rw [(List.mem_replicate.1 hr).2, Bool.not_eq_true, List.any_eq_false]
                intro n hn
                rw [(List.mem_replicate.1 hn).2]
                decide
              have HNTL := hid (nts_len (l3 := l3) HN2.out HN3.out)
              clear hown HIN hrl
              have HKC := hid hkC2
              clear hkC2 hkC
              go_wp2
              obtain ⟨wa, rfl⟩ : ∃ wa : World, wa = wr := ⟨_, rfl⟩
              go_loopw [17, 18] (fun fl i wr => ∃ (q : Nat) (M : List (List Int)) (f : Bool), q ≤ l3.length ∧ i = .int .i64 q ∧ fl = .bool f ∧ Hid (f = anyBig M) ∧ Hid (MatR wr w1.heap.size g B rs (satM M)) ∧ Hid (MatOk M C B (q * 1073741824)) ∧ Hid (goB st C B ((nts l1 l2 l3).drop q) M = goB st C B (nts l1 l2 l3) (zerM C B)) ∧ Hid (Below w1.heap.size w1 wr)) (fun _ i _ => l3.length - (intOf i).toNat)
              case atStart => exact ⟨0, _, false, by omega, rfl, rfl, HNB0.out, HMAT.out, by have h := HOK0.out; unfold Hid; simpa using h, rfl, HB.out⟩
              case round =>
                clear HMAT HOK0 HB HNB0
                obtain ⟨q, M, f, hq, rfl, rfl, HF, HMAT, HOK, HGO, HB⟩ := hrel
                by_cases hql : q < l3.length
                · obtain ⟨x3, b3, o3, hx3, rfl, hc30⟩ := HC3.out q hql
                  obtain ⟨ya, ba, oa, hya, rfl, hca0⟩ := HC1.out q (by have := HN3.out; omega)
                  obtain ⟨yb, bb, ob, hyb, rfl, hcb0⟩ := HC2.out q (by have := HN3.out; have := HN2.out; omega)
                  have hBw := HB1.out.trans (HB.out.mono HB1.out.size)
                  have hc3 := Below.keeps hBw _ _ hc30
                  have hca := Below.keeps hBw _ _ hca0
                  have hcb := Below.keeps hBw _ _ hcb0
                  have HBW := hid hBw
                  have HNX := hid (nts_get hya hyb hx3)
                  have HGS := hid (show goB st C B ((nts l1 l2 l3).drop q) M = _ from by rw [List.drop_eq_getElem_cons (by rw [HNTL.out]; exact hql), (List.getElem?_eq_some_iff.1 HNX.out).2, goB])
                  have hq1 : (q : Int) < (l1.length : Int) := by have := HN3.out; omega
                  have hq2 : (q : Int) < (l2.length : Int) := by have := HN3.out; have := HN2.out; omega
                  have hq3 : (q : Int) < (l3.length : Int) := by omega
                  have HST5 := hid ((HB.out.block w.heap.size HLT1.out).trans HST1.out)
                  clear hx3 hya hyb hc30 hca0 hcb0 hBw
                  rcases badN_cases (C : Int) (B : Int) ⟨ya, yb, x3⟩ with ⟨hbn, k1 | ⟨k1, k2⟩ | ⟨k1, k2, k3⟩ | ⟨k1, k2, k3, k4⟩⟩ | ⟨hbn, k1, k2, k3, k4⟩
                  all_goals dsimp only at *
                  · have HE : Hid (goB st C B (nts l1 l2 l3) (zerM C B) = (2, [])) := by
                      show _ = _
                      rw [← HGO.out, HGS.out, if_pos hbn]
                    have HI2 : Hid (blocksI st C B l1 l2 l3 = 2) := by rw [HI1.out, HE.out]; rfl
                    have HM2 : Hid (blocksM st C B l1 l2 l3 = []) := by rw [HMx.out, HI2.out]; rfl
                    clear HGO HGS HE hbn
                    go_wp2
                    go_ret2
                    exact ⟨_, by rw [HI2.out]; rfl, by rw [HM2.out]; exact RdM.nil _, HBW.out⟩
                  · have HE : Hid (goB st C B (nts l1 l2 l3) (zerM C B) = (2, [])) := by
                      show _ = _
                      rw [← HGO.out, HGS.out, if_pos hbn]
                    have HI2 : Hid (blocksI st C B l1 l2 l3 = 2) := by rw [HI1.out, HE.out]; rfl
                    have HM2 : Hid (blocksM st C B l1 l2 l3 = []) := by rw [HMx.out, HI2.out]; rfl
                    clear HGO HGS HE hbn
                    go_wp2
                    go_ret2
                    exact ⟨_, by rw [HI2.out]; rfl, by rw [HM2.out]; exact RdM.nil _, HBW.out⟩
                  · have HE : Hid (goB st C B (nts l1 l2 l3) (zerM C B) = (2, [])) := by
                      show _ = _
                      rw [← HGO.out, HGS.out, if_pos hbn]
                    have HI2 : Hid (blocksI st C B l1 l2 l3 = 2) := by rw [HI1.out, HE.out]; rfl
                    have HM2 : Hid (blocksM st C B l1 l2 l3 = []) := by rw [HMx.out, HI2.out]; rfl
                    clear HGO HGS HE hbn
                    go_wp2
                    go_ret2
                    exact ⟨_, by rw [HI2.out]; rfl, by rw [HM2.out]; exact RdM.nil _, HBW.out⟩
                  · have HE : Hid (goB st C B (nts l1 l2 l3) (zerM C B) = (2, [])) := by
                      show _ = _
                      rw [← HGO.out, HGS.out, if_pos hbn]
                    have HI2 : Hid (blocksI st C B l1 l2 l3 = 2) := by rw [HI1.out, HE.out]; rfl
                    have HM2 : Hid (blocksM st C B l1 l2 l3 = []) := by rw [HMx.out, HI2.out]; rfl
                    clear HGO HGS HE hbn
                    go_wp2
                    go_ret2
                    exact ⟨_, by rw [HI2.out]; rfl, by rw [HM2.out]; exact RdM.nil _, HBW.out⟩
                  · obtain ⟨ai, rfl⟩ : ∃ n : Nat, ya = (n : Int) := ⟨ya.toNat, by omega⟩
                    obtain ⟨bi, rfl⟩ : ∃ n : Nat, yb = (n : Int) := ⟨yb.toNat, by omega⟩
                    have HG1 : Hid (goB st C B ((nts l1 l2 l3).drop q) M = if heightI st x3 = 0 then goB st C B ((nts l1 l2 l3).drop (q + 1)) (addM M ai bi (heightN st x3)) else (heightI st x3, [])) := by
                      show _ = _
                      rw [HGS.out, if_neg (by rw [hbn]; decide)]; rfl
                    have HH := fun w' => hid (rheight_any st x3 w')
                    obtain ⟨f0, f1, f2, f3, f4, f5, f6, f7, f8, f9, f10, f11, f12⟩ := st_facts' HST5.out
                    clear hbn
                    by_cases hh : heightI st x3 = 0
                    · have hbd := heightN_bd hh
                      rw [hh] at HH
                      obtain ⟨row, n0, hrow, hn0, hrl5, hn1, hn2, hadd⟩ := HOK.out.get (i := ai) (j := bi) (by omega) (by omega)
                      have HG2 : Hid (goB st C B ((nts l1 l2 l3).drop (q + 1)) (M.set ai (row.set bi (n0 + heightN st x3))) = goB st C B (nts l1 l2 l3) (zerM C B)) := by
                        show _ = _
                        rw [← HGO.out, HG1.out, if_pos hh, hadd]
                      have HOK2 := hid (HOK.out.add (i := ai) (j := bi) (by omega) (by omega) hbd.1 hbd.2 (by omega))
                      rw [hadd] at HOK2
                      have HAB := hid (anyBig_set hrow hn0 hbd.1)
                      have HSMALL := hid (fun (h : anyBig M = false) => show n0 ≤ 1073741824 from by
                        have h1 := List.any_eq_false.1 h row (List.mem_of_getElem? hrow)
                        have h2 := List.any_eq_false.1 (by simpa using h1) n0 (List.mem_of_getElem? hn0)
                        unfold big at h2
                        simp at h2
                        omega)
                      generalize heightN st x3 = hN at *
                      obtain ⟨X0, hX0⟩ : ∃ X0, X0 = min n0 1073741825 := ⟨_, rfl⟩
                      have hXb : 0 ≤ X0 ∧ X0 ≤ 1073741825 := by omega
                      have HX0 : Hid ((row.map fun n => min n 1073741825)[bi]? = some X0) := by show _ = _; rw [List.getElem?_map, hn0, hX0]; rfl
                      have HXE := hid hX0
                      have HSAT : Hid (satM (M.set ai (row.set bi (n0 + hN))) = (satM M).set ai ((row.map fun n => min n 1073741825).set bi (min (X0 + hN) 1073741825))) := by
                        show _ = _
                        rw [satM_set, show min (n0 + hN) 1073741825 = min (X0 + hN) 1073741825 by omega]
                      have HRW := hid hrow
                      have HN0 := hid hn0
                      clear hrow hn0 hadd HG1 HGS HGO hh hrl5 hX0
                      unfold St.cells at HH
                      cases f with
                      | true =>
                        have HF2 : Hid (true = anyBig (M.set ai (row.set bi (n0 + hN)))) := by show _ = _; rw [HAB.out, ← HF.out]; rfl
                        go_wp2_with fail
                        go_region_held3 (fun w' => w'.cell? ⟨w.heap.size, 0, none⟩ = some (.int .i64 st.width) ∧ w'.cell? ⟨w.heap.size, 1, none⟩ = some (.int .i64 st.lh) ∧ w'.cell? ⟨w.heap.size, 2, none⟩ = some (.int .i64 st.nh) ∧ w'.cell? ⟨w.heap.size, 3, none⟩ = some (.int .i64 st.ph) ∧ w'.cell? ⟨w.heap.size, 4, none⟩ = some (.int .i64 st.gap) ∧ w'.cell? ⟨w.heap.size, 5, none⟩ = some (.int .i64 st.sp) ∧ w'.cell? ⟨w.heap.size, 6, none⟩ = some (.int .i64 st.stretch) ∧ w'.cell? ⟨w.heap.size, 7, none⟩ = some (.int .i64 st.shrink) ∧ w'.cell? ⟨w.heap.size, 8, none⟩ = some (.int .i64 st.letter) ∧ w'.cell? ⟨w.heap.size, 9, none⟩ = some (.int .i64 st.hyphen) ∧ w'.cell? ⟨w.heap.size, 10, none⟩ = some (.int .i64 st.every) ∧ w'.cell? ⟨w.heap.size, 11, none⟩ = some (.slice st.pos.1 st.pos.2.1 st.pos.2.2) ∧ w'.cell? ⟨w.heap.size, 12, none⟩ = some (.slice st.lay.1 st.lay.2.1 st.lay.2.2) ∧ w'.cell? ⟨b3, o3 + q, none⟩ = some (.string x3) ∧ Below wr.heap.size wr w')
                          ((refine ⟨?_, ?_, ?_, ?_, ?_, ?_, ?_, ?_, ?_, ?_, ?_, ?_, ?_, ?_, ?_⟩ <;> first | assumption | (exact Below.refl _ _) | (exact Below.drew (by assumption)) | (exact (Below.refl _ _).drew) | go_keep))
                          (first
                            | (go_at_call 18; go_split_ands; refine (HH _).out.mono ?_; rintro e w4 ⟨rfl, hB'⟩; have u0 := Below.keeps hB' _ _ (by assumption : World.cell? _ ⟨w.heap.size, 0, none⟩ = some _); have u1 := Below.keeps hB' _ _ (by assumption : World.cell? _ ⟨w.heap.size, 1, none⟩ = some _); have u2 := Below.keeps hB' _ _ (by assumption : World.cell? _ ⟨w.heap.size, 2, none⟩ = some _); have u3 := Below.keeps hB' _ _ (by assumption : World.cell? _ ⟨w.heap.size, 3, none⟩ = some _); have u4 := Below.keeps hB' _ _ (by assumption : World.cell? _ ⟨w.heap.size, 4, none⟩ = some _); have u5 := Below.keeps hB' _ _ (by assumption : World.cell? _ ⟨w.heap.size, 5, none⟩ = some _); have u6 := Below.keeps hB' _ _ (by assumption : World.cell? _ ⟨w.heap.size, 6, none⟩ = some _); have u7 := Below.keeps hB' _ _ (by assumption : World.cell? _ ⟨w.heap.size, 7, none⟩ = some _); have u8 := Below.keeps hB' _ _ (by assumption : World.cell? _ ⟨w.heap.size, 8, none⟩ = some _); have u9 := Below.keeps hB' _ _ (by assumption : World.cell? _ ⟨w.heap.size, 9, none⟩ = some _); have u10 := Below.keeps hB' _ _ (by assumption : World.cell? _ ⟨w.heap.size, 10, none⟩ = some _); have u11 := Below.keeps hB' _ _ (by assumption : World.cell? _ ⟨w.heap.size, 11, none⟩ = some _); have u12 := Below.keeps hB' _ _ (by assumption : World.cell? _ ⟨w.heap.size, 12, none⟩ = some _); have u13 := Below.keeps hB' _ _ (by assumption : World.cell? _ ⟨b3, o3 + q, none⟩ = some _); have hB4 : Below wr.heap.size wr w4 := below_tr (by assumption) hB'))
                        all_goals go_split_ands
                        have hca4 := Below.keeps hB4 _ _ hca
                        have hcb4 := Below.keeps hB4 _ _ hcb
                        have HB4 := hid (HB.out.trans (hB4.mono HB.out.size))
                        have HMAT4 := hid (HMAT.out.below hB4)
                        obtain ⟨r, hr, ho, hin, hfz, _, hbr⟩ := HMAT4.out.rowCell (satM_get HRW.out)
                        have hin0 := hin bi X0 HX0.out
                        have hfz0 := hfz bi
                        have HMAT5 := hid (HMAT4.out.set (j := bi) hr (satM_get HRW.out) (min (X0 + hN) 1073741825))
                        rw [← HSAT.out] at HMAT5
                        have HB5 := hid (HB4.out.setCell (p := ⟨r, bi, none⟩) hbr (.int .i64 (min (X0 + hN) 1073741825)))
                        have z1 : IntKind.i64.wrap (X0 + hN) = X0 + hN := IntWalk.i64_in _ (by omega)
                        have z2 : (ai : Int) < (C : Int) := by omega
                        have z3 : (bi : Int) < (B : Int) := by omega
                        clear hca hcb hc3 f0 f1 f2 f3 f4 f5 f6 f7 f8 f9 f10 f11 f12 u0 u1 u2 u3 u4 u5 u6 u7 u8 u9 u10 u11 u12 u13 hB4 hr hin hfz hbr HMAT HMAT4 HB HB4 HH HBW
                        go_wp2_with fail
                        go_quiet (fail)
                        have hcA : (w4.drewN nq).cell? _ = _ := hca4
                        have hcB : (w4.drewN nq).cell? _ = _ := hcb4
                        have hoA : (w4.drewN nq).cell? _ = _ := ho
                        have hiA : (w4.drewN nq).cell? _ = _ := hin0
                        have hfA : (w4.drewN nq).frozen? _ = _ := hfz0
                        have HMAT6 : Hid (MatR ((w4.drewN nq).setCell ⟨r, bi, none⟩ (.int .i64 (min (X0 + hN) 1073741825))).drew w1.heap.size g B rs (satM (M.set ai (row.set bi (n0 + hN))))) := HMAT5.out.below (W' := ((w4.drewN nq).setCell ⟨r, bi, none⟩ (.int .i64 (min (X0 + hN) 1073741825))).drew) ⟨rfl, rfl, rfl, Nat.le_refl _, fun _ _ => rfl⟩
                        have HB6 : Hid (Below w1.heap.size w1 ((w4.drewN nq).setCell ⟨r, bi, none⟩ (.int .i64 (min (X0 + hN) 1073741825))).drew) := HB5.out.trans (b := w4.setCell ⟨r, bi, none⟩ (.int .i64 (min (X0 + hN) 1073741825))) ⟨rfl, rfl, rfl, Nat.le_refl _, fun _ _ => rfl⟩
                        clear hca4 hcb4 ho hin0 hfz0 HMAT5 HB5 z1
                        generalize w4.drewN nq = w5 at *
                        go_wp2_with fail
                        go_region
                        all_goals
                          generalize (w5.setCell ⟨r, bi, none⟩ (.int .i64 (min (X0 + hN) 1073741825))).drew = w6 at *
                          clear hcA hcB hoA hiA hfA z2 z3
                          go_wp2
                          go_roundw
                          case rel => exact ⟨q + 1, _, true, by omega, by go_num, rfl, HF2.out, HMAT6.out, by have h := HOK2.out; unfold Hid; rw [show ((q + 1 : Nat) : Int) * 1073741824 = (q : Int) * 1073741824 + 1073741824 by omega]; exact h, HG2.out, HB6.out⟩
                          case measure => simp [intOf]; omega
                      | false =>
                        have hsm := HSMALL.out HF.out.symm
                        by_cases hbg : 1073741824 < X0 + hN
                        · have HF2 : Hid (true = anyBig (M.set ai (row.set bi (n0 + hN)))) := by
                            show _ = _
                            rw [HAB.out, ← HF.out]
                            unfold big
                            have := HXE.out
                            symm
                            simp
                            omega
                          have hbg2 : 1073741824 < min (X0 + hN) 1073741825 := by omega
                          go_wp2_with fail
                          go_region_held3 (fun w' => w'.cell? ⟨w.heap.size, 0, none⟩ = some (.int .i64 st.width) ∧ w'.cell? ⟨w.heap.size, 1, none⟩ = some (.int .i64 st.lh) ∧ w'.cell? ⟨w.heap.size, 2, none⟩ = some (.int .i64 st.nh) ∧ w'.cell? ⟨w.heap.size, 3, none⟩ = some (.int .i64 st.ph) ∧ w'.cell? ⟨w.heap.size, 4, none⟩ = some (.int .i64 st.gap) ∧ w'.cell? ⟨w.heap.size, 5, none⟩ = some (.int .i64 st.sp) ∧ w'.cell? ⟨w.heap.size, 6, none⟩ = some (.int .i64 st.stretch) ∧ w'.cell? ⟨w.heap.size, 7, none⟩ = some (.int .i64 st.shrink) ∧ w'.cell? ⟨w.heap.size, 8, none⟩ = some (.int .i64 st.letter) ∧ w'.cell? ⟨w.heap.size, 9, none⟩ = some (.int .i64 st.hyphen) ∧ w'.cell? ⟨w.heap.size, 10, none⟩ = some (.int .i64 st.every) ∧ w'.cell? ⟨w.heap.size, 11, none⟩ = some (.slice st.pos.1 st.pos.2.1 st.pos.2.2) ∧ w'.cell? ⟨w.heap.size, 12, none⟩ = some (.slice st.lay.1 st.lay.2.1 st.lay.2.2) ∧ w'.cell? ⟨b3, o3 + q, none⟩ = some (.string x3) ∧ Below wr.heap.size wr w')
                            ((refine ⟨?_, ?_, ?_, ?_, ?_, ?_, ?_, ?_, ?_, ?_, ?_, ?_, ?_, ?_, ?_⟩ <;> first | assumption | (exact Below.refl _ _) | (exact Below.drew (by assumption)) | (exact (Below.refl _ _).drew) | go_keep))
                            (first
                              | (go_at_call 18; go_split_ands; refine (HH _).out.mono ?_; rintro e w4 ⟨rfl, hB'⟩; have u0 := Below.keeps hB' _ _ (by assumption : World.cell? _ ⟨w.heap.size, 0, none⟩ = some _); have u1 := Below.keeps hB' _ _ (by assumption : World.cell? _ ⟨w.heap.size, 1, none⟩ = some _); have u2 := Below.keeps hB' _ _ (by assumption : World.cell? _ ⟨w.heap.size, 2, none⟩ = some _); have u3 := Below.keeps hB' _ _ (by assumption : World.cell? _ ⟨w.heap.size, 3, none⟩ = some _); have u4 := Below.keeps hB' _ _ (by assumption : World.cell? _ ⟨w.heap.size, 4, none⟩ = some _); have u5 := Below.keeps hB' _ _ (by assumption : World.cell? _ ⟨w.heap.size, 5, none⟩ = some _); have u6 := Below.keeps hB' _ _ (by assumption : World.cell? _ ⟨w.heap.size, 6, none⟩ = some _); have u7 := Below.keeps hB' _ _ (by assumption : World.cell? _ ⟨w.heap.size, 7, none⟩ = some _); have u8 := Below.keeps hB' _ _ (by assumption : World.cell? _ ⟨w.heap.size, 8, none⟩ = some _); have u9 := Below.keeps hB' _ _ (by assumption : World.cell? _ ⟨w.heap.size, 9, none⟩ = some _); have u10 := Below.keeps hB' _ _ (by assumption : World.cell? _ ⟨w.heap.size, 10, none⟩ = some _); have u11 := Below.keeps hB' _ _ (by assumption : World.cell? _ ⟨w.heap.size, 11, none⟩ = some _); have u12 := Below.keeps hB' _ _ (by assumption : World.cell? _ ⟨w.heap.size, 12, none⟩ = some _); have u13 := Below.keeps hB' _ _ (by assumption : World.cell? _ ⟨b3, o3 + q, none⟩ = some _); have hB4 : Below wr.heap.size wr w4 := below_tr (by assumption) hB'))
                          all_goals go_split_ands
                          have hca4 := Below.keeps hB4 _ _ hca
                          have hcb4 := Below.keeps hB4 _ _ hcb
                          have HB4 := hid (HB.out.trans (hB4.mono HB.out.size))
                          have HMAT4 := hid (HMAT.out.below hB4)
                          obtain ⟨r, hr, ho, hin, hfz, _, hbr⟩ := HMAT4.out.rowCell (satM_get HRW.out)
                          have hin0 := hin bi X0 HX0.out
                          have hfz0 := hfz bi
                          have HMAT5 := hid (HMAT4.out.set (j := bi) hr (satM_get HRW.out) (min (X0 + hN) 1073741825))
                          rw [← HSAT.out] at HMAT5
                          have HB5 := hid (HB4.out.setCell (p := ⟨r, bi, none⟩) hbr (.int .i64 (min (X0 + hN) 1073741825)))
                          have z1 : IntKind.i64.wrap (X0 + hN) = X0 + hN := IntWalk.i64_in _ (by omega)
                          have z2 : (ai : Int) < (C : Int) := by omega
                          have z3 : (bi : Int) < (B : Int) := by omega
                          clear hca hcb hc3 f0 f1 f2 f3 f4 f5 f6 f7 f8 f9 f10 f11 f12 u0 u1 u2 u3 u4 u5 u6 u7 u8 u9 u10 u11 u12 u13 hB4 hr hin hfz hbr HMAT HMAT4 HB HB4 HH HBW
                          go_wp2_with fail
                          go_quiet (fail)
                          have hcA : (w4.drewN nq).cell? _ = _ := hca4
                          have hcB : (w4.drewN nq).cell? _ = _ := hcb4
                          have hoA : (w4.drewN nq).cell? _ = _ := ho
                          have hiA : (w4.drewN nq).cell? _ = _ := hin0
                          have hfA : (w4.drewN nq).frozen? _ = _ := hfz0
                          have HMAT6 : Hid (MatR ((w4.drewN nq).setCell ⟨r, bi, none⟩ (.int .i64 (min (X0 + hN) 1073741825))).drew w1.heap.size g B rs (satM (M.set ai (row.set bi (n0 + hN))))) := HMAT5.out.below (W' := ((w4.drewN nq).setCell ⟨r, bi, none⟩ (.int .i64 (min (X0 + hN) 1073741825))).drew) ⟨rfl, rfl, rfl, Nat.le_refl _, fun _ _ => rfl⟩
                          have HB6 : Hid (Below w1.heap.size w1 ((w4.drewN nq).setCell ⟨r, bi, none⟩ (.int .i64 (min (X0 + hN) 1073741825))).drew) := HB5.out.trans (b := w4.setCell ⟨r, bi, none⟩ (.int .i64 (min (X0 + hN) 1073741825))) ⟨rfl, rfl, rfl, Nat.le_refl _, fun _ _ => rfl⟩
                          clear hca4 hcb4 ho hin0 hfz0 HMAT5 HB5 z1
                          generalize w4.drewN nq = w5 at *
                          go_wp2_with fail
                          go_region
                          all_goals
                            generalize (w5.setCell ⟨r, bi, none⟩ (.int .i64 (min (X0 + hN) 1073741825))).drew = w6 at *
                            clear hcA hcB hoA hiA hfA z2 z3
                            go_wp2
                            go_roundw
                            case rel => exact ⟨q + 1, _, true, by omega, by go_num, rfl, HF2.out, HMAT6.out, by have h := HOK2.out; unfold Hid; rw [show ((q + 1 : Nat) : Int) * 1073741824 = (q : Int) * 1073741824 + 1073741824 by omega]; exact h, HG2.out, HB6.out⟩
                            case measure => simp [intOf]; omega
                        · have HF2 : Hid (false = anyBig (M.set ai (row.set bi (n0 + hN)))) := by
                            show _ = _
                            rw [HAB.out, ← HF.out]
                            unfold big
                            have := HXE.out
                            symm
                            simp
                            omega
                          have hbg3 : ¬ 1073741824 < min (X0 + hN) 1073741825 := by omega
                          have hbg2 : decide (1073741824 < min (X0 + hN) 1073741825) = false := decide_eq_false hbg3
                          go_wp2_with fail
                          go_region_held3 (fun w' => w'.cell? ⟨w.heap.size, 0, none⟩ = some (.int .i64 st.width) ∧ w'.cell? ⟨w.heap.size, 1, none⟩ = some (.int .i64 st.lh) ∧ w'.cell? ⟨w.heap.size, 2, none⟩ = some (.int .i64 st.nh) ∧ w'.cell? ⟨w.heap.size, 3, none⟩ = some (.int .i64 st.ph) ∧ w'.cell? ⟨w.heap.size, 4, none⟩ = some (.int .i64 st.gap) ∧ w'.cell? ⟨w.heap.size, 5, none⟩ = some (.int .i64 st.sp) ∧ w'.cell? ⟨w.heap.size, 6, none⟩ = some (.int .i64 st.stretch) ∧ w'.cell? ⟨w.heap.size, 7, none⟩ = some (.int .i64 st.shrink) ∧ w'.cell? ⟨w.heap.size, 8, none⟩ = some (.int .i64 st.letter) ∧ w'.cell? ⟨w.heap.size, 9, none⟩ = some (.int .i64 st.hyphen) ∧ w'.cell? ⟨w.heap.size, 10, none⟩ = some (.int .i64 st.every) ∧ w'.cell? ⟨w.heap.size, 11, none⟩ = some (.slice st.pos.1 st.pos.2.1 st.pos.2.2) ∧ w'.cell? ⟨w.heap.size, 12, none⟩ = some (.slice st.lay.1 st.lay.2.1 st.lay.2.2) ∧ w'.cell? ⟨b3, o3 + q, none⟩ = some (.string x3) ∧ Below wr.heap.size wr w')
                            ((refine ⟨?_, ?_, ?_, ?_, ?_, ?_, ?_, ?_, ?_, ?_, ?_, ?_, ?_, ?_, ?_⟩ <;> first | assumption | (exact Below.refl _ _) | (exact Below.drew (by assumption)) | (exact (Below.refl _ _).drew) | go_keep))
                            (first
                              | (go_at_call 18; go_split_ands; refine (HH _).out.mono ?_; rintro e w4 ⟨rfl, hB'⟩; have u0 := Below.keeps hB' _ _ (by assumption : World.cell? _ ⟨w.heap.size, 0, none⟩ = some _); have u1 := Below.keeps hB' _ _ (by assumption : World.cell? _ ⟨w.heap.size, 1, none⟩ = some _); have u2 := Below.keeps hB' _ _ (by assumption : World.cell? _ ⟨w.heap.size, 2, none⟩ = some _); have u3 := Below.keeps hB' _ _ (by assumption : World.cell? _ ⟨w.heap.size, 3, none⟩ = some _); have u4 := Below.keeps hB' _ _ (by assumption : World.cell? _ ⟨w.heap.size, 4, none⟩ = some _); have u5 := Below.keeps hB' _ _ (by assumption : World.cell? _ ⟨w.heap.size, 5, none⟩ = some _); have u6 := Below.keeps hB' _ _ (by assumption : World.cell? _ ⟨w.heap.size, 6, none⟩ = some _); have u7 := Below.keeps hB' _ _ (by assumption : World.cell? _ ⟨w.heap.size, 7, none⟩ = some _); have u8 := Below.keeps hB' _ _ (by assumption : World.cell? _ ⟨w.heap.size, 8, none⟩ = some _); have u9 := Below.keeps hB' _ _ (by assumption : World.cell? _ ⟨w.heap.size, 9, none⟩ = some _); have u10 := Below.keeps hB' _ _ (by assumption : World.cell? _ ⟨w.heap.size, 10, none⟩ = some _); have u11 := Below.keeps hB' _ _ (by assumption : World.cell? _ ⟨w.heap.size, 11, none⟩ = some _); have u12 := Below.keeps hB' _ _ (by assumption : World.cell? _ ⟨w.heap.size, 12, none⟩ = some _); have u13 := Below.keeps hB' _ _ (by assumption : World.cell? _ ⟨b3, o3 + q, none⟩ = some _); have hB4 : Below wr.heap.size wr w4 := below_tr (by assumption) hB'))
                          all_goals go_split_ands
                          have hca4 := Below.keeps hB4 _ _ hca
                          have hcb4 := Below.keeps hB4 _ _ hcb
                          have HB4 := hid (HB.out.trans (hB4.mono HB.out.size))
                          have HMAT4 := hid (HMAT.out.below hB4)
                          obtain ⟨r, hr, ho, hin, hfz, _, hbr⟩ := HMAT4.out.rowCell (satM_get HRW.out)
                          have hin0 := hin bi X0 HX0.out
                          have hfz0 := hfz bi
                          have HMAT5 := hid (HMAT4.out.set (j := bi) hr (satM_get HRW.out) (min (X0 + hN) 1073741825))
                          rw [← HSAT.out] at HMAT5
                          have HB5 := hid (HB4.out.setCell (p := ⟨r, bi, none⟩) hbr (.int .i64 (min (X0 + hN) 1073741825)))
                          have z1 : IntKind.i64.wrap (X0 + hN) = X0 + hN := IntWalk.i64_in _ (by omega)
                          have z2 : (ai : Int) < (C : Int) := by omega
                          have z3 : (bi : Int) < (B : Int) := by omega
                          clear hca hcb hc3 f0 f1 f2 f3 f4 f5 f6 f7 f8 f9 f10 f11 f12 u0 u1 u2 u3 u4 u5 u6 u7 u8 u9 u10 u11 u12 u13 hB4 hr hin hfz hbr HMAT HMAT4 HB HB4 HH HBW
                          go_wp2_with fail
                          go_quiet (fail)
                          have hcA : (w4.drewN nq).cell? _ = _ := hca4
                          have hcB : (w4.drewN nq).cell? _ = _ := hcb4
                          have hoA : (w4.drewN nq).cell? _ = _ := ho
                          have hiA : (w4.drewN nq).cell? _ = _ := hin0
                          have hfA : (w4.drewN nq).frozen? _ = _ := hfz0
                          have HMAT6 : Hid (MatR ((w4.drewN nq).setCell ⟨r, bi, none⟩ (.int .i64 (min (X0 + hN) 1073741825))).drew w1.heap.size g B rs (satM (M.set ai (row.set bi (n0 + hN))))) := HMAT5.out.below (W' := ((w4.drewN nq).setCell ⟨r, bi, none⟩ (.int .i64 (min (X0 + hN) 1073741825))).drew) ⟨rfl, rfl, rfl, Nat.le_refl _, fun _ _ => rfl⟩
                          have HB6 : Hid (Below w1.heap.size w1 ((w4.drewN nq).setCell ⟨r, bi, none⟩ (.int .i64 (min (X0 + hN) 1073741825))).drew) := HB5.out.trans (b := w4.setCell ⟨r, bi, none⟩ (.int .i64 (min (X0 + hN) 1073741825))) ⟨rfl, rfl, rfl, Nat.le_refl _, fun _ _ => rfl⟩
                          clear hca4 hcb4 ho hin0 hfz0 HMAT5 HB5 z1
                          generalize w4.drewN nq = w5 at *
                          go_wp2_with fail
                          go_region
                          all_goals
                            generalize (w5.setCell ⟨r, bi, none⟩ (.int .i64 (min (X0 + hN) 1073741825))).drew = w6 at *
                            clear hcA hcB hoA hiA hfA z2 z3
                            go_wp2
                            go_roundw
                            case rel => exact ⟨q + 1, _, false, by omega, by go_num, rfl, HF2.out, HMAT6.out, by have h := HOK2.out; unfold Hid; rw [show ((q + 1 : Nat) : Int) * 1073741824 = (q : Int) * 1073741824 + 1073741824 by omega]; exact h, HG2.out, HB6.out⟩
                            case measure => simp [intOf]; omega
                    · have HE : Hid (goB st C B (nts l1 l2 l3) (zerM C B) = (heightI st x3, [])) := by
                        show _ = _
                        rw [← HGO.out, HG1.out, if_neg hh]
                      have HI2 : Hid (blocksI st C B l1 l2 l3 = heightI st x3) := by rw [HI1.out, HE.out, if_pos hh]; rfl
                      have HM2 : Hid (blocksM st C B l1 l2 l3 = []) := by rw [HMx.out, HI2.out, if_neg hh]; rfl
                      have hhb : (heightI st x3 == 0) = false := by simpa using hh
                      generalize heightI st x3 = hI at *
                      clear HGO HG1 HGS HE
                      unfold St.cells at HH
                      go_wp2_with fail
                      go_region_held3 (fun w' => w'.cell? ⟨w.heap.size, 0, none⟩ = some (.int .i64 st.width) ∧ w'.cell? ⟨w.heap.size, 1, none⟩ = some (.int .i64 st.lh) ∧ w'.cell? ⟨w.heap.size, 2, none⟩ = some (.int .i64 st.nh) ∧ w'.cell? ⟨w.heap.size, 3, none⟩ = some (.int .i64 st.ph) ∧ w'.cell? ⟨w.heap.size, 4, none⟩ = some (.int .i64 st.gap) ∧ w'.cell? ⟨w.heap.size, 5, none⟩ = some (.int .i64 st.sp) ∧ w'.cell? ⟨w.heap.size, 6, none⟩ = some (.int .i64 st.stretch) ∧ w'.cell? ⟨w.heap.size, 7, none⟩ = some (.int .i64 st.shrink) ∧ w'.cell? ⟨w.heap.size, 8, none⟩ = some (.int .i64 st.letter) ∧ w'.cell? ⟨w.heap.size, 9, none⟩ = some (.int .i64 st.hyphen) ∧ w'.cell? ⟨w.heap.size, 10, none⟩ = some (.int .i64 st.every) ∧ w'.cell? ⟨w.heap.size, 11, none⟩ = some (.slice st.pos.1 st.pos.2.1 st.pos.2.2) ∧ w'.cell? ⟨w.heap.size, 12, none⟩ = some (.slice st.lay.1 st.lay.2.1 st.lay.2.2) ∧ w'.cell? ⟨b3, o3 + q, none⟩ = some (.string x3) ∧ Below wr.heap.size wr w')
                        ((refine ⟨?_, ?_, ?_, ?_, ?_, ?_, ?_, ?_, ?_, ?_, ?_, ?_, ?_, ?_, ?_⟩ <;> first | assumption | (exact Below.refl _ _) | (exact Below.drew (by assumption)) | (exact (Below.refl _ _).drew) | go_keep))
                        (first
                          | (go_at_call 18; go_split_ands; refine (HH _).out.mono ?_; rintro e w4 ⟨rfl, hB'⟩; have u0 := Below.keeps hB' _ _ (by assumption : World.cell? _ ⟨w.heap.size, 0, none⟩ = some _); have u1 := Below.keeps hB' _ _ (by assumption : World.cell? _ ⟨w.heap.size, 1, none⟩ = some _); have u2 := Below.keeps hB' _ _ (by assumption : World.cell? _ ⟨w.heap.size, 2, none⟩ = some _); have u3 := Below.keeps hB' _ _ (by assumption : World.cell? _ ⟨w.heap.size, 3, none⟩ = some _); have u4 := Below.keeps hB' _ _ (by assumption : World.cell? _ ⟨w.heap.size, 4, none⟩ = some _); have u5 := Below.keeps hB' _ _ (by assumption : World.cell? _ ⟨w.heap.size, 5, none⟩ = some _); have u6 := Below.keeps hB' _ _ (by assumption : World.cell? _ ⟨w.heap.size, 6, none⟩ = some _); have u7 := Below.keeps hB' _ _ (by assumption : World.cell? _ ⟨w.heap.size, 7, none⟩ = some _); have u8 := Below.keeps hB' _ _ (by assumption : World.cell? _ ⟨w.heap.size, 8, none⟩ = some _); have u9 := Below.keeps hB' _ _ (by assumption : World.cell? _ ⟨w.heap.size, 9, none⟩ = some _); have u10 := Below.keeps hB' _ _ (by assumption : World.cell? _ ⟨w.heap.size, 10, none⟩ = some _); have u11 := Below.keeps hB' _ _ (by assumption : World.cell? _ ⟨w.heap.size, 11, none⟩ = some _); have u12 := Below.keeps hB' _ _ (by assumption : World.cell? _ ⟨w.heap.size, 12, none⟩ = some _); have u13 := Below.keeps hB' _ _ (by assumption : World.cell? _ ⟨b3, o3 + q, none⟩ = some _); have hB4 : Below wr.heap.size wr w4 := below_tr (by assumption) hB'))
                      all_goals go_split_ands
                      have HBE := hid (below_tr HBW.out hB4)
                      clear hB4
                      go_wp2
                      go_ret2
                      exact ⟨_, by rw [HI2.out]; rfl, by rw [HM2.out]; exact RdM.nil _, HBE.out⟩
                · have HE : Hid (goB st C B (nts l1 l2 l3) (zerM C B) = (0, M)) := by
                    show _ = _
                    rw [← HGO.out, List.drop_of_length_le (by rw [HNTL.out]; omega), goB]
                  have HI2 : Hid (blocksI st C B l1 l2 l3 = if anyBig M = true then 4 else 0) := by rw [HI1.out, HE.out]; rfl
                  have HMx2 : Hid (blocksM st C B l1 l2 l3 = if blocksI st C B l1 l2 l3 = 0 then M else []) := by rw [HMx.out, HE.out]; rfl
                  have HBW := hid (HB1.out.trans (HB.out.mono HB1.out.size))
                  have hq3 : ¬ (q : Int) < (l3.length : Int) := by omega
                  cases f with
                  | true =>
                    have HI3 : Hid (blocksI st C B l1 l2 l3 = 4) := by rw [HI2.out, ← HF.out]; rfl
                    have HM3 : Hid (blocksM st C B l1 l2 l3 = []) := by rw [HMx2.out, HI3.out]; rfl
                    clear HMAT HGO HE HI1 HMx
                    go_wp2
                    go_ret2
                    exact ⟨_, by rw [HI3.out]; rfl, by rw [HM3.out]; exact RdM.nil _, HBW.out⟩
                  | false =>
                    have HI3 : Hid (blocksI st C B l1 l2 l3 = 0) := by rw [HI2.out, ← HF.out]; rfl
                    have HM3 : Hid (blocksM st C B l1 l2 l3 = M) := by rw [HMx2.out, HI3.out]; rfl
                    have hmat := HMAT.out
                    rw [satM_small HF.out.symm] at hmat
                    have hrows := HOK.out.rows
                    have hrd := hmat.rd (cap := cap) (by rw [hrows]; exact HCAP.out.1) HCAP.out.2 (by unfold maxLen; omega)
                    rw [hrows] at hrd
                    have HKC2 := HKC.out
                    rw [← HKC2] at hrd
                    have HRD := hid hrd
                    clear hmat hrows hrd HMAT HGO HE HI1 HMx HKC2
                    go_wp2
                    go_ret2
                    exact ⟨_, by rw [HI3.out]; rfl, by rw [HM3.out]; exact HRD.out, HBW.out⟩
        · have q2 : ((l1.length : Int) != (l2.length : Int)) = false := by simp [hn2]
          have q3 : ((l1.length : Int) != (l3.length : Int)) = true := by simpa using (fun e => hn3 (Int.ofNat.inj e))
          have HN3 := hid hn3
          have HN2 := hid hn2
          clear hn2 hn3
          have HP : Hid (preI st count blocks l1.length l2.length l3.length = 9) := by unfold preI; rw [if_neg (by omega)]; rw [if_neg (by rw [hb1]; decide), if_pos (.inr HN3.out)]; rfl
          have HI2 : Hid (blocksI st count blocks l1 l2 l3 = 9) := by rw [HI.out, HP.out]; rfl
          have HM2 : Hid (blocksM st count blocks l1 l2 l3 = []) := by rw [HMx.out, HI2.out]; rfl
          rw [h0] at HS
          clear HI HMx hb1
          unfold St.cells at *
          go_enter Tryd.func32, Tryd.ntmps32
          go_wp2_with fail
          refine HS.out.mono ?_
          rintro e w1 ⟨rfl, hB1⟩
          have HBE := hid (below_tr HB0.out hB1)
          clear hB1
          go_wp2
          go_ret2
          exact ⟨_, by rw [HI2.out]; rfl, by rw [HM2.out]; exact RdM.nil _, HBE.out⟩
      · by_cases hq : l1.length = l3.length
        · have q2 : ((l1.length : Int) != (l3.length : Int)) = false := by simp [hq]
          have q3 : ((l2.length : Int) != (l3.length : Int)) = true := by simpa using (fun e => hn2 (by rw [hq]; exact (Int.ofNat.inj e).symm))
          have HN2 := hid hn2
          clear hn2 hq
          have HP : Hid (preI st count blocks l1.length l2.length l3.length = 9) := by unfold preI; rw [if_neg (by omega)]; rw [if_neg (by rw [hb1]; decide), if_pos (.inl HN2.out)]; rfl
          have HI2 : Hid (blocksI st count blocks l1 l2 l3 = 9) := by rw [HI.out, HP.out]; rfl
          have HM2 : Hid (blocksM st count blocks l1 l2 l3 = []) := by rw [HMx.out, HI2.out]; rfl
          rw [h0] at HS
          clear HI HMx hb1
          unfold St.cells at *
          go_enter Tryd.func32, Tryd.ntmps32
          go_wp2_with fail
          refine HS.out.mono ?_
          rintro e w1 ⟨rfl, hB1⟩
          have HBE := hid (below_tr HB0.out hB1)
          clear hB1
          go_wp2
          go_ret2
          exact ⟨_, by rw [HI2.out]; rfl, by rw [HM2.out]; exact RdM.nil _, HBE.out⟩
        · have q2 : ((l1.length : Int) != (l3.length : Int)) = true := by simpa using (fun e => hq (Int.ofNat.inj e))
          have HN2 := hid hn2
          clear hn2 hq
          have HP : Hid (preI st count blocks l1.length l2.length l3.length = 9) := by unfold preI; rw [if_neg (by omega)]; rw [if_neg (by rw [hb1]; decide), if_pos (.inl HN2.out)]; rfl
          have HI2 : Hid (blocksI st count blocks l1 l2 l3 = 9) := by rw [HI.out, HP.out]; rfl
          have HM2 : Hid (blocksM st count blocks l1 l2 l3 = []) := by rw [HMx.out, HI2.out]; rfl
          rw [h0] at HS
          clear HI HMx hb1
          unfold St.cells at *
          go_enter Tryd.func32, Tryd.ntmps32
          go_wp2_with fail
          refine HS.out.mono ?_
          rintro e w1 ⟨rfl, hB1⟩
          have HBE := hid (below_tr HB0.out hB1)
          clear hB1
          go_wp2
          go_ret2
          exact ⟨_, by rw [HI2.out]; rfl, by rw [HM2.out]; exact RdM.nil _, HBE.out⟩
  · have HP : Hid (preI st count blocks l1.length l2.length l3.length = styleI st) := by unfold preI; rw [if_pos h0]; rfl
    have HI2 : Hid (blocksI st count blocks l1 l2 l3 = styleI st) := by rw [HI.out, HP.out, if_pos h0]; rfl
    have HM2 : Hid (blocksM st count blocks l1 l2 l3 = []) := by rw [HMx.out, HI2.out, if_neg h0]; rfl
    have hb : (styleI st == 0) = false := by simpa using h0
    clear HI HMx
    generalize styleI st = se at *
    unfold St.cells at *
    go_enter Tryd.func32, Tryd.ntmps32
    go_wp2_with fail
    refine HS.out.mono ?_
    rintro e w1 ⟨rfl, hB1⟩
    have HBE := hid (below_tr HB0.out hB1)
    clear hB1
    go_wp2
    go_ret2
    exact ⟨_, by rw [HI2.out]; rfl, by rw [HM2.out]; exact RdM.nil _, HBE.out⟩
end Go.Proofs.YtajhkfmhoihjfaaDoor
