/-
  pagedesc.boxes and the function that it hands back.
-/
import Derived.Test.YtkjapeafhcdnkaaDoorBox
import Derived.Test.YtkjapeafhcdnkaaDoorPgI
import Derived.Test.YtkjapeafhcdnkaaDoorMov
namespace Go.Proofs.YtkjapeafhcdnkaaDoor
open Go.RowKit

/-- All boxes, with the numbers of their pages. -/
def bxFrom : Nat → List Pg → List (Nat × Bx)
  | _, [] => []
  | k, p :: r => p.bx.map (fun b => (k, b)) ++ bxFrom (k + 1) r
theorem bxFrom_at {l : List Pg} {k : Nat} {p : Pg} (h : l[k]? = some p) : bxFrom k (l.drop k) = p.bx.map (fun b => (k, b)) ++ bxFrom (k + 1) (l.drop (k + 1)) := by
  obtain ⟨hk, hx⟩ := List.getElem?_eq_some_iff.1 h
  rw [List.drop_eq_getElem_cons hk, hx, bxFrom]
theorem bxFrom_app : ∀ (k : Nat) (l : List Pg), (bxFrom k l).map (·.2) = l.flatMap Pg.bx
  | _, [] => rfl
  | k, p :: r => by
    have e : (p.bx.map (fun b => (k, b))).map (fun x => x.2) = p.bx := by rw [List.map_map]; exact List.map_id _
    rw [bxFrom, List.map_append, bxFrom_app (k + 1) r, List.flatMap_cons, e]
/-- All that lay in w lies in W as it was. -/
def OldK (w W : World) : Prop := w.heap.size ≤ W.heap.size ∧ ∀ k, k < w.heap.size → W.heap[k]? = w.heap[k]?
theorem OldK.of {w W : World} (h : Below w.heap.size w W) : OldK w W := ⟨h.size, fun k hk => h.block k hk⟩
theorem OldK.tr {w A B : World} (h : OldK w A) (k : Below A.heap.size A B) : OldK w B := ⟨Nat.le_trans h.1 k.size, fun i hi => (k.block i (Nat.lt_of_lt_of_le hi h.1)).trans (h.2 i hi)⟩
theorem OldK.kp {w A B : World} {n b1 b2 : Nat} (h : OldK w A) (k : KpX n b1 b2 A B) (hn : w.heap.size ≤ n) (h1 : w.heap.size ≤ b1) (h2 : w.heap.size ≤ b2) : OldK w B :=
  ⟨Nat.le_trans h.1 k.1, fun i hi => (k.2 i (by omega) (by omega) (by omega)).trans (h.2 i hi)⟩
theorem OldK.cell {w W : World} (h : OldK w W) {p : Addr} {x : Value} (hx : w.cell? p = some x) : W.cell? p = some x :=
  (World.cell?_of_block (h.2 p.block (World.block_lt_of_cell? w p hx))).trans hx
theorem RdB.old {w W : World} {v : Value} {l : List Bx} (h : RdB w v l) (hb : OldK w W) : RdB W v l := by
  obtain ⟨a, cap, h1, h2, h3, h4⟩ := h
  refine ⟨a, cap, h1, h2, h3, fun i x hx => ?_⟩
  obtain ⟨b, off, e, c0, c1, c2, c3, c4, c5⟩ := h4 i x hx
  exact ⟨b, off, e, hb.cell c0, hb.cell c1, hb.cell c2, hb.cell c3, hb.cell c4, hb.cell c5⟩
theorem RdPg.old {w W : World} {v : Value} {l : List Pg} (h : RdPg w v l) (hb : OldK w W) : RdPg W v l := by
  obtain ⟨a, cap, h1, h2, h3, h4⟩ := h
  refine ⟨a, cap, h1, h2, h3, fun i p hp => ?_⟩
  obtain ⟨b, off, u, e, c0, c1, hr⟩ := h4 i p hp
  exact ⟨b, off, u, e, hb.cell c0, hb.cell c1, hr.old hb⟩

/-- What the iterator reads. -/
structure BoxM (Bs : Nat) (v : Value) (w W : World) : Prop where
  cs : W.cell? ⟨Bs, 0, none⟩ = some v
  old : OldK w W
theorem BoxM.tr {Bs : Nat} {v : Value} {w A B : World} (h : BoxM Bs v w A) (k : Below A.heap.size A B) : BoxM Bs v w B := ⟨Below.keeps k _ _ h.cs, h.old.tr k⟩

set_option maxHeartbeats 1000000 in
theorem boxes_any (a : Option Addr) (n cap : Nat) (w : World) :
    Calls Tryd.prog 57 #[.slice a n cap] w fun e w' => e = .returned (.func (.func 81) #[] #[.pointer (some ⟨w.heap.size, 0, none⟩)]) ∧ w.alloc (.cells #[.slice a n cap] 22) = w' := by
  go_enter Tryd.func57, Tryd.ntmps57
  go_wp2
  go_ret
  exact ⟨rfl, rfl⟩

set_option maxRecDepth 100000 in
set_option maxHeartbeats 4000000 in
theorem boxes1_in (n : Nat) (hn : 1 ≤ n) (l : List Pg) (v : Value) (Bs N : Nat) (w : World) (hr : RdPg w v l) (hN : (bxFrom 0 l).length ≤ N)
    (Kp : World → World → Prop) (hK1 : ∀ A B, Kp A B → BoxM Bs v w A → BoxM Bs v w B)
    (yl : Nat) (J Jx : List (Nat × Bx) → World → Prop)
    (hY : ∀ pre x W, J pre W → pre.length < N → YieldAt Fence.wide (n - 1) Tryd.prog yl #[.int .i64 (x.1 : Int), .agg x.2.cells] W fun e W' =>
      (e = .returned (.bool true) ∧ J (pre ++ [x]) W' ∧ Kp W W') ∨ (e = .returned (.bool false) ∧ Jx (pre ++ [x]) W'))
    (W : World) (hJA : AbidesFrom W.heap.size J) (hM : BoxM Bs v w W) (h0 : J [] W) :
    CallsIn Fence.wide n Tryd.prog 81 #[.func (.yield yl) #[] #[], .pointer (some ⟨Bs, 0, none⟩)] W fun e W' => (∃ v, e = .returned v) ∧
      (J (bxFrom 0 l) W' ∨ (∃ pre : List (Nat × Bx), (∃ r, pre ++ r = bxFrom 0 l) ∧ Jx pre W')) := by
  have HK1 := hid hK1; clear hK1
  have HY := hid hY; clear hY
  have HJA : Hid (∀ pre W1 o, J pre W1 → J pre (W1.alloc o)) := fun pre W1 o hj => hJA _ _ _ none hj (World.grownBy_alloc W1 o none) (fun r e => by cases e)
  clear hJA
  have HR := hid hr
  obtain ⟨a, cap, rfl, hlc, hcm, _⟩ := hr.open
  have hcs := hM.cs
  clear hr
  refine callsIn_of_wp Tryd.func81 rfl trivial ?_ rfl
  simp only [Tryd.ntmps81, List.size_toArray, List.length_cons, List.length_nil, Nat.reduceAdd, Nat.reduceSub, Array.replicate_succ, Array.replicate_zero, List.push_toArray, List.append_toArray, List.nil_append, List.cons_append]
  gi_wp2
  gi_loopw [9] (fun i wr => ∃ (k : Nat) (pre : List (Nat × Bx)), k ≤ l.length ∧ i = .int .i64 k ∧ Hid (pre ++ bxFrom k (l.drop k) = bxFrom 0 l) ∧ J pre wr ∧ Hid (BoxM Bs (.slice a l.length cap) w wr)) (fun i _ => l.length - (intOf i).toNat)
  case atStart => exact ⟨0, [], by omega, rfl, by simp [Hid], h0, hM⟩
  case round =>
    rename_i wr
    obtain ⟨k, pre, hk, rfl, HP, hJ, HM⟩ := hrel
    clear hcs
    by_cases hlt : k < l.length
    · obtain ⟨_, _, he, _, _, hcell⟩ := HR.out.open
      cases he
      obtain ⟨p, b, off, u, hp, rfl, c0', c1', hu⟩ := hcell k hlt
      have c0 := HM.out.old.cell c0'
      have c1 := HM.out.old.cell c1'
      have hcs := HM.out.cs
      obtain ⟨au, cu, rfl, hul, hum, _⟩ := hu.open
      have hki : (k : Int) < (l.length : Int) := by omega
      have HA := hid (bxFrom_at hp)
      have HPi : Hid (pre ++ ((p.bx.drop 0).map (fun b => (k, b)) ++ bxFrom (k + 1) (l.drop (k + 1))) = bxFrom 0 l) := by
        show _ = _
        rw [List.drop_zero, ← HA.out]; exact HP.out
      have HM2 := hid (HM.out.tr (below_al wr (.cells #[.int .i64 p.num, .slice au p.bx.length cu] 34)))
      have HJ2 := hid (HJA.out _ _ (.cells #[.int .i64 p.num, .slice au p.bx.length cu] 34) hJ)
      have HU : Hid (∀ W', OldK w W' → RdB W' (.slice au p.bx.length cu) p.bx) := fun W' ho => hu.old ho
      clear hcell hp hu HA HP hJ c0' c1'
      gi_wp2
      generalize wr.alloc (.cells #[.int .i64 p.num, .slice au p.bx.length cu] 34) = w2 at *
      gi_loopw [17] (fun q wi => ∃ (j : Nat) (pre2 : List (Nat × Bx)), j ≤ p.bx.length ∧ q = .int .i64 j ∧ Hid (pre2 ++ ((p.bx.drop j).map (fun b => (k, b)) ++ bxFrom (k + 1) (l.drop (k + 1))) = bxFrom 0 l) ∧ J pre2 wi ∧ Hid (BoxM Bs (.slice (some ⟨b, off, none⟩) l.length cap) w wi)) (fun q _ => p.bx.length - (intOf q).toNat)
      case atStart => exact ⟨0, pre, by omega, rfl, HPi.out, HJ2.out, HM2.out⟩
      case round =>
        obtain ⟨j, pre2, hj, rfl, HQ, hJi, HMi⟩ := hrel
        by_cases hjt : j < p.bx.length
        · obtain ⟨_, _, he, _, _, hcell⟩ := (HU.out wr HMi.out.old).open
          cases he
          obtain ⟨x, b2, o2, hx, rfl, d0, d1, d2, d3, d4, d5⟩ := hcell j hjt
          have hji : (j : Int) < (p.bx.length : Int) := by omega
          have HQ2 : Hid ((pre2 ++ [(k, x)]) ++ ((p.bx.drop (j + 1)).map (fun b => (k, b)) ++ bxFrom (k + 1) (l.drop (k + 1))) = bxFrom 0 l) := by
            show _ = _
            obtain ⟨hj2, hx2⟩ := List.getElem?_eq_some_iff.1 hx
            rw [← HQ.out, List.drop_eq_getElem_cons hj2, hx2]; simp
          have hpl : pre2.length < N := by
            have h := congrArg List.length HQ2.out
            simp only [List.length_append, List.length_singleton] at h
            omega
          have HJ3 := hid (HJA.out _ _ (.cells x.cells 42) hJi)
          have HM3 := hid (HMi.out.tr (below_al wr (.cells x.cells 42)))
          have q0 := hid (row_nw wr x.cells 42 rfl)
          have HYk := hid (HY.out pre2 (k, x) _ HJ3.out hpl)
          unfold Bx.cells at HJ3 HM3 q0 HYk
          clear hcell hx HQ hJi HMi
          obtain ⟨fn, tmps, assign, body, hy, hR⟩ := HYk.out
          try dsimp only at hy
          have z0 := q0.out.cell 0 rfl
          gi_wp2_with fail
          refine hR.mono ?_
          rintro e W3 (⟨rfl, hJ4, hk4⟩ | ⟨rfl, hJx4⟩)
          · have HM4 := hid (HK1.out _ _ hk4 HM3.out)
            gi_wp2
            go_roundw
            case rel => exact ⟨j + 1, _, by omega, by go_num, HQ2.out, hJ4, HM4.out⟩
            case measure => simp [intOf]; omega
          · gi_wp2
            refine bodyPost_ret (results_none rfl _ _ _) rfl ?_
            exact ⟨⟨_, rfl⟩, .inr ⟨_, ⟨_, HQ2.out⟩, hJx4⟩⟩
        · have hji : ¬ (j : Int) < (p.bx.length : Int) := by omega
          have hje : j = p.bx.length := by omega
          have HQ3 : Hid (pre2 ++ bxFrom (k + 1) (l.drop (k + 1)) = bxFrom 0 l) := by
            have h := HQ.out
            rw [hje, List.drop_length] at h
            exact h
          clear hje HQ
          gi_wp2
          go_roundw
          case rel => exact ⟨k + 1, _, by omega, by go_num, HQ3.out, hJi, HMi.out⟩
          case measure => simp [intOf]; omega
    · obtain rfl : k = l.length := by omega
      have HD : Hid (pre = bxFrom 0 l) := by
        have h := HP.out
        rw [List.drop_length, bxFrom, List.append_nil] at h
        exact h
      gi_wp2
      go_end0
      exact ⟨⟨_, rfl⟩, .inl (by rw [← HD.out]; exact hJ)⟩
end Go.Proofs.YtkjapeafhcdnkaaDoor
