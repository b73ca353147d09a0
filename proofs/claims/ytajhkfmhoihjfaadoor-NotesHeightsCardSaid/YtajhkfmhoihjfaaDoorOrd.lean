/-
  notes.Order.
-/
import Derived.Test.YtajhkfmhoihjfaaDoorIns
namespace Go.Proofs.YtajhkfmhoihjfaaDoor
open Go.RowKit

def ordI (l1 l2 : List Int) : Int := if l1.length = l2.length then 0 else 9
def ordL (l1 l2 : List Int) : List Nat := if l1.length = l2.length then srtL (ltN l2 l1) (List.range l1.length) else []
/-- Places as numbers. -/
def natI (l : List Nat) : List Int := l.map fun (n : Nat) => (n : Int)

theorem by_any (v : Value) (l : List Int) (w : World) (hr : RdI w v l) :
    Calls Tryd.prog 51 #[v] w fun e w' => e = .returned (.func (.func 70) #[] #[.pointer (some ⟨w.heap.size, 0, none⟩)]) ∧ w.alloc (.cells #[v] 50) = w' := by
  obtain ⟨a, cap, rfl, _, _, _⟩ := hr.open
  go_enter Tryd.func51, Tryd.ntmps51
  go_wp2
  go_ret
  exact ⟨rfl, rfl⟩
theorem then_any (b1 b2 : Nat) (w : World) :
    Calls Tryd.prog 50 #[.func (.func 70) #[] #[.pointer (some ⟨b1, 0, none⟩)], .func (.func 70) #[] #[.pointer (some ⟨b2, 0, none⟩)]] w fun e w' =>
      e = .returned (.func (.func 68) #[] #[.pointer (some ⟨w.heap.size, 0, none⟩), .pointer (some ⟨w.heap.size + 1, 0, none⟩)]) ∧
      (w.alloc (.cells #[.func (.func 70) #[] #[.pointer (some ⟨b1, 0, none⟩)]] 83)).alloc (.cells #[.func (.func 70) #[] #[.pointer (some ⟨b2, 0, none⟩)]] 83) = w' := by
  go_enter Tryd.func50, Tryd.ntmps50
  go_wp2
  go_ret
  exact ⟨rfl, rfl⟩
theorem sortNil_any (p2 p3 : Nat) (w : World) :
    Calls Tryd.prog 49 #[.slice none 0 0, .func (.func 68) #[] #[.pointer (some ⟨p2, 0, none⟩), .pointer (some ⟨p3, 0, none⟩)]] w fun e w' => e = .returned (.tuple #[]) ∧ w = w' := by
  have H1 : Hid (∀ w', Calls Tryd.prog 86 #[.slice none 0 0, .int .i64 0, .int .i64 0, .func (.func 68) #[] #[.pointer (some ⟨p2, 0, none⟩), .pointer (some ⟨p3, 0, none⟩)]] w' fun e w'' => e = .returned (.tuple #[]) ∧ w' = w'') := by
    intro w'
    go_enter Tryd.func86, Tryd.ntmps86
    go_wp2
    refine wp_loop_rounds 1 ?_
    rw [rounds_succ]
    go_wp2
    go_end0
    exact ⟨rfl, rfl⟩
  have H2 : Hid (∀ w', Calls Tryd.prog 67 #[.slice none 0 0, .int .i64 0, .func (.func 68) #[] #[.pointer (some ⟨p2, 0, none⟩), .pointer (some ⟨p3, 0, none⟩)]] w' fun e w'' => e = .returned (.tuple #[]) ∧ w' = w'') := by
    intro w'
    go_enter Tryd.func67, Tryd.ntmps67
    go_wp2
    refine wp_loop_rounds 1 ?_
    rw [rounds_succ]
    go_wp2_with fail
    refine (H1.out _).mono ?_
    rintro e w1 ⟨rfl, rfl⟩
    go_wp2
    refine wp_loop_rounds 1 ?_
    rw [rounds_succ]
    go_wp2
    go_end0
    exact ⟨rfl, rfl⟩
  go_enter Tryd.func49, Tryd.ntmps49
  go_wp2_with fail
  refine (H2.out _).mono ?_
  rintro e w1 ⟨rfl, rfl⟩
  go_wp2
  go_end0
  exact ⟨rfl, rfl⟩

def encN (n : Nat) : Value := .int .i64 (n : Int)
theorem infoIntO : (Tryd.prog.info? 3).map (fun i => (i.zero, i.size, i.bytes)) = some (some (.int .i64 0), 1, 8) := by kernel_rfl

theorem RowN.rd {W : World} {B cap : Nat} {L : List Nat} (h : RowN W B L) (hc : L.length ≤ cap) (hm : cap ≤ maxLen) : RdI W (.slice (some ⟨B, 0, none⟩) L.length cap) (natI L) := by
  unfold natI
  refine ⟨some ⟨B, 0, none⟩, cap, by rw [List.length_map], by rw [List.length_map]; exact hc, hm, fun i x hx => ?_⟩
  rw [List.getElem?_map] at hx
  cases hy : L[i]? with
  | none => rw [hy] at hx; cases hx
  | some y =>
    rw [hy] at hx
    cases hx
    exact ⟨B, 0, rfl, by rw [Nat.zero_add]; exact h.cell hy⟩
theorem CmpW.grown {W W' : World} {p2 p3 b1 b2 g n : Nat} {l1 l2 : List Int} (h : CmpW W p2 p3 b1 b2 l1 l2) (hg : W.grownBy W' (some g)) (h1 : p2 ≠ g) (h2 : p3 ≠ g) (h3 : b1 ≠ g) (h4 : b2 ≠ g) (hn : n ≤ g)
    (k1 : ∀ v, W.cell? ⟨b1, 0, none⟩ = some v → RdI W v l1 → l1 ≠ [] → ∀ k, v.ownBlock = some k → k < n) (k2 : ∀ v, W.cell? ⟨b2, 0, none⟩ = some v → RdI W v l2 → l2 ≠ [] → ∀ k, v.ownBlock = some k → k < n) : CmpW W' p2 p3 b1 b2 l1 l2 := by
  obtain ⟨c2, c3, ⟨u1, d1, r1⟩, ⟨u2, d2, r2⟩⟩ := h
  refine ⟨hg.cell c2 (fun e => h1 (by simpa using e)), hg.cell c3 (fun e => h2 (by simpa using e)), ⟨u1, hg.cell d1 (fun e => h3 (by simpa using e)), ?_⟩, ⟨u2, hg.cell d2 (fun e => h4 (by simpa using e)), ?_⟩⟩
  · exact r1.grown2 hg (fun hne k hk e => by have := k1 u1 d1 r1 hne k hk; have : g = k := by simpa using e
                                             omega)
  · exact r2.grown2 hg (fun hne k hk e => by have := k2 u2 d2 r2 hne k hk; have : g = k := by simpa using e
                                             omega)
set_option maxHeartbeats 2000000 in
set_option maxRecDepth 100000 in
theorem order_any (v1 v2 : Value) (l1 l2 : List Int) (w : World) (hr1 : RdI w v1 l1) (hr2 : RdI w v2 l2) (h1 : l1.length ≤ 12) (h2 : l2.length ≤ 12) :
    Calls Tryd.prog 28 #[v1, v2] w fun e w' => ∃ v, e = .returned (.tuple #[v, .int .i64 (ordI l1 l2)]) ∧ RdI w' v (natI (ordL l1 l2)) ∧ Below w.heap.size w w' := by
  have HI : Hid (ordI l1 l2 = if l1.length = l2.length then 0 else 9) := rfl
  have HL : Hid (ordL l1 l2 = if l1.length = l2.length then srtL (ltN l2 l1) (List.range l1.length) else []) := rfl
  obtain ⟨a1, cap1, rfl, hc1, hm1, _⟩ := hr1.open
  obtain ⟨a2, cap2, rfl, hc2, hm2, _⟩ := hr2.open
  have q1 : ¬ (4096 : Int) < (l1.length : Int) := by omega
  have q2 : ¬ (4096 : Int) < (l2.length : Int) := by omega
  by_cases heq : l1.length = l2.length
  · have HI2 : Hid (ordI l1 l2 = 0) := by rw [HI.out, if_pos heq]; rfl
    have HL2 : Hid (ordL l1 l2 = srtL (ltN l2 l1) (List.range l1.length)) := by rw [HL.out, if_pos heq]; rfl
    have HEQ := hid heq
    have q3 : ((l1.length : Int) != (l2.length : Int)) = false := by simp [heq]
    clear HI HL heq
    go_enter Tryd.func28, Tryd.ntmps28
    go_wp2
    go_loopw [6, 23] (fun o i wr => ∃ k : Nat, k ≤ l1.length ∧ i = .int .i64 k ∧ wr.ownsRow w.heap.size 3 1 o k ((List.range k).map encN) ∧ Below w.heap.size w wr) (fun _ i _ => l1.length - (intOf i).toNat)
    case atStart => exact ⟨0, by omega, rfl, World.ownsRow_nil _ _ _ _, Below.refl _ _⟩
    case round =>
      obtain ⟨k, hk, rfl, hown, hB⟩ := hrel
      by_cases hlt : k < l1.length
      · have HPush := hid (fun (w3 : World) (v' : Value) (h : w3.ownsRow w.heap.size 3 1 v' (k + 1) (((List.range k).map encN) ++ [Value.int .i64 (k : Int)])) => show w3.ownsRow w.heap.size 3 1 v' (k + 1) ((List.range (k + 1)).map encN) by rw [List.range_succ, List.map_append]; exact h)
        go_wp2_with (at_builtin; refine wpList_ap rfl _ _ 50 rfl w.heap.size 3 Tryd.underlying50 infoIntO rfl (by decide) (by decide) _ _ _ rfl hown [.int .i64 (k : Int)] rfl (by simp [Value.oneCell']) rfl (by simp) (by omega) hB.size ?_; intro v' w1 hown' hb1 _)
        go_roundw
        case rel => exact ⟨k + 1, by omega, by go_num, HPush.out _ _ hown', hB.trans hb1⟩
        case measure => simp [intOf]; omega
      · obtain rfl : k = l1.length := by omega
        have HL3 : Hid ((List.range l1.length).length = l1.length) := List.length_range
        have hr1w := hr1.below hB
        have hr2w := hr2.below hB
        have HB := hid hB
        have HLT1 : Hid (l1 ≠ [] → ∀ k, (Value.slice a1 l1.length cap1).ownBlock = some k → k < w.heap.size) := hr1.blk_lt
        have HLT2 : Hid (l2 ≠ [] → ∀ k, (Value.slice a2 l2.length cap2).ownBlock = some k → k < w.heap.size) := hr2.blk_lt
        have HBY1 := fun w' h => hid (by_any (.slice a1 l1.length cap1) l1 w' h)
        have HBY2 := fun w' h => hid (by_any (.slice a2 l2.length cap2) l2 w' h)
        rcases hown.2 with ⟨rfl, hn⟩ | ⟨g, cap, cur, rfl, hb, hh, hc, hm, hs, ht⟩
        · have hlen0 : l1.length = 0 := by simpa using hn
          have HL4 : Hid (ordL l1 l2 = []) := by rw [HL2.out, hlen0]; rfl
          clear hown hB hr1 hr2 hlen0 hn
          go_wp2_with fail
          refine (HBY2 _ hr2w).out.mono ?_
          rintro e w1 ⟨rfl, hw1⟩
          have hb1 : Below wr.heap.size wr w1 := by rw [← hw1]; exact below_al _ _
          have hr1w1 := hr1w.below hb1
          clear hw1 hr2w hr1w
          go_wp2_with fail
          refine (HBY1 _ hr1w1).out.mono ?_
          rintro e w2 ⟨rfl, hw2⟩
          have hb2 : Below w1.heap.size w1 w2 := by rw [← hw2]; exact below_al _ _
          clear hw2 hr1w1
          go_wp2_with fail
          refine (then_any _ _ _).mono ?_
          rintro e w3 ⟨rfl, hw3⟩
          have hb3 : Below w2.heap.size w2 w3 := by rw [← hw3]; exact below_tr (below_al _ _) (below_al _ _)
          have HBE := hid (below_tr (below_tr (below_tr HB.out hb1) hb2) hb3)
          clear hw3 hb1 hb2 hb3
          go_wp2_with fail
          refine (sortNil_any _ _ _).mono ?_
          rintro e w4 ⟨rfl, rfl⟩
          go_wp2
          go_ret2
          exact ⟨_, by rw [HI2.out]; rfl, by rw [HL4.out]; exact Rd.nil _, HBE.out⟩
        · have hrow : RowN wr g (List.range l1.length) := by
            refine ⟨cur, hh, fun i x hx => ?_⟩
            have hi := (List.getElem?_eq_some_iff.1 hx).1
            have : ((List.range l1.length).map encN)[i]? = some (Value.int .i64 (x : Int)) := by rw [List.getElem?_map, hx]; rfl
            rw [← ht, List.getElem?_take, if_pos (by simpa using hi)] at this
            simpa using this
          have hgl := hrow.lt
          have HROW := hid hrow
          clear hown hB hr1 hr2 hrow hh ht hs
          go_wp2_with fail
          refine (HBY2 _ hr2w).out.mono ?_
          rintro e w1 ⟨rfl, hw1⟩
          have hs1 : w1.heap.size = wr.heap.size + 1 := by rw [← hw1]; simp
          have hb1 : Below wr.heap.size wr w1 := by rw [← hw1]; exact below_al _ _
          have hc1 : w1.cell? ⟨wr.heap.size, 0, none⟩ = some (.slice a2 l2.length cap2) := by rw [← hw1]; exact cell_nw _ _ _ 0 rfl
          have hr1w1 := hr1w.below hb1
          have hr2w1 := hr2w.below hb1
          clear hw1 hr2w hr1w
          have HS1 := hid hs1; clear hs1
          have HC1 := hid hc1; clear hc1
          go_wp2_with fail
          refine (HBY1 _ hr1w1).out.mono ?_
          rintro e w2 ⟨rfl, hw2⟩
          have hs2 : w2.heap.size = w1.heap.size + 1 := by rw [← hw2]; simp
          have hb2 : Below w1.heap.size w1 w2 := by rw [← hw2]; exact below_al _ _
          have hc2 : w2.cell? ⟨w1.heap.size, 0, none⟩ = some (.slice a1 l1.length cap1) := by rw [← hw2]; exact cell_nw _ _ _ 0 rfl
          have hc1 := Below.keeps hb2 _ _ HC1.out
          have hr1w2 := hr1w1.below hb2
          have hr2w2 := hr2w1.below hb2
          clear hw2 hr2w1 hr1w1 HC1
          have HS2 := hid hs2; clear hs2
          have HC2 := hid hc2; clear hc2
          have HC1 := hid hc1; clear hc1
          go_wp2_with fail
          refine (then_any _ _ _).mono ?_
          rintro e w3 ⟨rfl, hw3⟩
          have hs3 : w3.heap.size = w2.heap.size + 2 := by rw [← hw3]; simp
          have hb3 : Below w2.heap.size w2 w3 := by rw [← hw3]; exact below_tr (below_al _ _) (below_al _ _)
          have HCW : Hid (CmpW w3 w2.heap.size (w2.heap.size + 1) wr.heap.size w1.heap.size l2 l1) := by
            refine ⟨?_, ?_, ⟨_, Below.keeps hb3 _ _ HC1.out, hr2w2.below hb3⟩, ⟨_, Below.keeps hb3 _ _ HC2.out, hr1w2.below hb3⟩⟩
            · rw [← hw3]; exact cell_al (cell_nw _ _ _ 0 rfl) _
            · rw [← hw3]
              have h := cell_nw (w2.alloc (.cells #[.func (.func 70) #[] #[.pointer (some ⟨wr.heap.size, 0, none⟩)]] 83)) #[.func (.func 70) #[] #[.pointer (some ⟨w1.heap.size, 0, none⟩)]] 83 0 (x := .func (.func 70) #[] #[.pointer (some ⟨w1.heap.size, 0, none⟩)]) rfl
              rwa [World.size_alloc] at h
          have hcv1 := Below.keeps hb3 _ _ HC1.out
          have hcv2 := Below.keeps hb3 _ _ HC2.out
          have HBE := hid (below_tr (below_tr (below_tr HB.out hb1) hb2) hb3)
          have hrow3 : RowN w3 g (List.range l1.length) := HROW.out.below (below_tr (below_tr hb1 hb2) hb3)
          have HSRT := hid (sortStable_any w2.heap.size (w2.heap.size + 1) l2 l1 g cap (List.range l1.length) w3 (by rw [List.length_range]; exact h1) (by rw [List.length_range]; exact hc) hm hrow3
            (fun W' hW' x y hx hy => then1_any w2.heap.size (w2.heap.size + 1) wr.heap.size w1.heap.size l2 l1 x y W'
              (CmpW.grown (n := w.heap.size) HCW.out hW' (by have := HS1.out; have := HS2.out; omega) (by have := HS1.out; have := HS2.out; omega) (by omega) (by have := HS1.out; omega) hb
                (fun v hv _ hne k hk => by rw [hcv1] at hv; cases hv; exact HLT2.out hne k hk)
                (fun v hv _ hne k hk => by rw [hcv2] at hv; cases hv; exact HLT1.out hne k hk))
              (by have := List.mem_range.1 hx; have := HEQ.out; omega) (by have := List.mem_range.1 hy; have := HEQ.out; omega) (List.mem_range.1 hx) (List.mem_range.1 hy)))
          rw [HL3.out] at HSRT
          clear hw3 hb1 hb2 hb3 hs3 hr1w2 hr2w2 hcv1 hcv2 hrow3 HC1 HC2 HCW
          go_wp2_with fail
          refine HSRT.out.mono ?_
          rintro e w4 ⟨rfl, hrow4, hg4⟩
          have HRD := hid (hrow4.rd (cap := cap) (by rw [(srtL_perm _ _).length_eq, List.length_range]; exact hc) hm)
          rw [(srtL_perm _ _).length_eq, List.length_range] at HRD
          have HBF := hid (HBE.out.grown hg4 HBE.out.size (fun k e => by cases e; exact hb))
          clear hrow4 hg4 HSRT HBE
          go_wp2
          go_ret2
          exact ⟨_, by rw [HI2.out]; rfl, by rw [HL2.out]; exact HRD.out, HBF.out⟩
  · have HI2 : Hid (ordI l1 l2 = 9) := by rw [HI.out, if_neg heq]; rfl
    have HL2 : Hid (ordL l1 l2 = []) := by rw [HL.out, if_neg heq]; rfl
    have q3 : ((l1.length : Int) != (l2.length : Int)) = true := by simpa using (fun e => heq (Int.ofNat.inj e))
    go_enter Tryd.func28, Tryd.ntmps28
    go_wp2
    go_ret2
    exact ⟨_, by rw [HI2.out]; rfl, by rw [HL2.out]; exact Rd.nil _, Below.refl _ _⟩
end Go.Proofs.YtajhkfmhoihjfaaDoor
