/-
  pagebreak.Penalties of one paragraph.
-/
import Derived.Test.YtlneimjenjpbnaaDoorPot
import Derived.Test.YtlneimjenjpbnaaDoorNsw
namespace Go.Proofs.YtlneimjenjpbnaaDoor
open Go.RowKit

theorem pen1_any (w : World) : Calls Tryd.prog 22 #[.int .i64 100] w fun e w' => e = .returned (.bool true) ∧ Below w.heap.size w w' := by
  go_enter Tryd.func22, Tryd.ntmps22
  go_wp2
  go_ret
  exact ⟨rfl, Below.refl _ _⟩
set_option maxRecDepth 100000 in
theorem clone0_any (w : World) : Calls Tryd.prog 23 #[.slice none 0 0] w fun e w' => e = .returned (.slice none 0 0) ∧ Below w.heap.size w w' := by
  have hrun : (binOp BinOp.eql 32 (.slice none 0 0) (.slice none 0 0)).run Tryd.prog w = .ok (.bool true) w := rfl
  go_enter Tryd.func23, Tryd.ntmps23
  go_wp2
  go_ret
  exact ⟨rfl, Below.refl _ _⟩
/-- Block G holds n small numbers. -/
structure PnI (W : World) (G n : Nat) (hi : Int) (L : List Int) : Prop where
  row : Row W G (L.map (Value.int .i64)).toArray 3
  len : L.length = n
  bd : ∀ x ∈ L, 0 ≤ x ∧ x ≤ hi
theorem PnI.below {W W' : World} {G n : Nat} {hi : Int} {L : List Int} (h : PnI W G n hi L) (hb : Below W.heap.size W W') : PnI W' G n hi L := ⟨h.row.below hb, h.len, h.bd⟩
theorem PnI.weak {W : World} {G n : Nat} {hi hj : Int} {L : List Int} (h : PnI W G n hi L) (hij : hi ≤ hj) : PnI W G n hj L := ⟨h.row, h.len, fun x hx => ⟨(h.bd x hx).1, Int.le_trans (h.bd x hx).2 hij⟩⟩
theorem PnI.at {W : World} {G n : Nat} {hi : Int} {L : List Int} (h : PnI W G n hi L) {i : Nat} (hi1 : i < n) : ∃ x, L[i]? = some x ∧ 0 ≤ x ∧ x ≤ hi ∧ W.cell? ⟨G, i, none⟩ = some (.int .i64 x) ∧ W.frozen? ⟨G, i, none⟩ = false := by
  have h1 : i < L.length := by rw [h.len]; exact hi1
  have hb := h.bd _ (List.getElem_mem h1)
  exact ⟨L[i], List.getElem?_eq_getElem h1, hb.1, hb.2, h.row.cell i (by simp [h1]), h.row.frozen i⟩
theorem PnI.set {W : World} {G n : Nat} {hi : Int} {L : List Int} (h : PnI W G n hi L) (i : Nat) (y d : Int) (h0 : 0 ≤ y) (h1 : y ≤ hi + d) (hd : 0 ≤ d) : PnI (W.setCell ⟨G, i, none⟩ (.int .i64 y)) G n (hi + d) (L.set i y) := by
  refine ⟨?_, by rw [List.length_set]; exact h.len, fun x hx => ?_⟩
  · have e := h.row.set i (.int .i64 y)
    have e2 : ((L.map (Value.int .i64)).toArray).setIfInBounds i (.int .i64 y) = ((L.set i y).map (Value.int .i64)).toArray := by rw [List.setIfInBounds_toArray, List.map_set]
    rw [e2] at e
    exact e
  · rcases List.mem_or_eq_of_mem_set hx with h2 | rfl
    · have := h.bd x h2; omega
    · exact ⟨h0, h1⟩
theorem PnI.rd {W : World} {G n : Nat} {hi : Int} {L : List Int} (h : PnI W G n hi L) (hn : n ≤ 1000) : RdI W (.slice (some ⟨G, 0, none⟩) n n) L := by
  refine ⟨some ⟨G, 0, none⟩, n, by rw [h.len], by rw [h.len]; exact Nat.le_refl _, by unfold maxLen; omega, fun i x hx => ⟨G, 0, rfl, ?_⟩⟩
  rw [Nat.zero_add]
  exact h.row.cell i (by simp [hx])

def PenR (n : Nat) (w : World) (e : Ending) (w' : World) : Prop := ∃ G L, e = .returned (.tuple #[.slice (some ⟨G, 0, none⟩) n n, .int .i64 0]) ∧ w.heap.size ≤ G ∧ RdI w' (.slice (some ⟨G, 0, none⟩) n n) L ∧ L.length = n ∧ Below w.heap.size w w'
theorem PenR.mk {n G : Nat} {w w' : World} {L : List Int} (h0 : w.heap.size ≤ G) (h1 : RdI w' (.slice (some ⟨G, 0, none⟩) n n) L) (h2 : L.length = n) (h3 : Below w.heap.size w w') : PenR n w (.returned (.tuple #[.slice (some ⟨G, 0, none⟩) n n, .int .i64 0])) w' := ⟨G, L, rfl, h0, h1, h2, h3⟩

set_option maxRecDepth 100000 in
set_option maxHeartbeats 4000000 in
theorem pens_any (n : Nat) (h1 : 1 ≤ n) (h8 : n ≤ 8) (w : World) :
    Calls Tryd.prog 9 #[.int .i64 n, .slice none 0 0, .int .i64 100, .int .i64 100] w (PenR n w) := by
  have n0 : ¬ (n : Int) < 0 := by omega
  have n1 : ¬ 4096 < (n : Int) := by omega
  have HP1 := hid pen1_any
  have HC0 := hid clone0_any
  obtain ⟨iI, hiI, hzI0, hzI1, hzI2⟩ := info_parts infoIntP
  go_enter Tryd.func9, Tryd.ntmps9
  go_wp2_with fail
  (with_reducible refine (HP1.out _).mono ?_)
  rintro e w1 ⟨rfl, hb1⟩
  go_wp2_with fail
  (with_reducible refine (HP1.out _).mono ?_)
  rintro e w2 ⟨rfl, hb2⟩
  have HB2 := hid (below_tr hb1 hb2)
  clear hb1 hb2
  go_wp2_with fail
  go_loopw [38] (fun i wr => i = .int .i64 0 ∧ wr = w2) (fun _ _ => 0)
  case atStart => exact ⟨rfl, rfl⟩
  case round =>
    go_wp2_with (at_make; refine wpList_make_full _ rfl _ _ 32 rfl w.heap.size 3 iI (.int .i64 0) 1 Tryd.underlying32 hiI hzI0 hzI1 .i64 .i64 _ _ n rfl rfl (by simp) (by simp) (by rw [hzI2]; omega) (by unfold maxLen; omega) HB2.out.size ?_; intro w4 hown4 hg4)
    have hb4 : Below w2.heap.size w2 w4 := ⟨hg4.os, hg4.tape, hg4.output, hg4.size, fun k hk => hg4.block k hk (by simp)⟩
    have HB4 := hid (below_tr HB2.out hb4)
    have HG4 : Hid (w.heap.size ≤ w2.heap.size) := HB2.out.size
    obtain ⟨hG2, _⟩ := own_full hown4
    have HI4 : Hid (PnI w4 w2.heap.size n 0 (List.replicate n 0)) := by
      have h : w4.heap[w2.heap.size]? = some (.cells (madeCells #[Value.int .i64 0] (n * 1)).toList.toArray 3 (0, 0)) := hG2
      rw [madeZero] at h
      exact ⟨h, List.length_replicate, fun x hx => by have := (List.mem_replicate.1 hx).2; omega⟩
    clear hown4 hg4 hG2 hb4 HB2
    generalize w2.heap.size = G at *
    (with_reducible refine (HC0.out _).mono ?_)
    rintro e w5 ⟨rfl, hb5⟩
    have HB5 := hid (below_tr HB4.out hb5)
    have HI5 := hid (HI4.out.below hb5)
    clear hb5 HB4 HI4
    go_wp2_with (at_builtin; refine wpList_ap2 rfl _ _ 32 rfl w5.heap.size 3 Tryd.underlying32 infoIntP rfl (by decide) (by decide) _ 0 [] rfl (World.ownsRow_nil _ _ _ _) [.int .i64 n] rfl (by simp [Value.oneCell']) rfl (by simp) (by omega) (Nat.le_refl _) ?_; intro g cap w6 hown6 hb6 hg6 hat6 hlt6)
    have HC6 : Hid (w6.cell? ⟨g, 0, none⟩ = some (.int .i64 n)) := by
      have hrd : RdI w6 (.slice (some ⟨g, 0, none⟩) (0 + 1) cap) [(n : Int)] := Rd.of_own (enc := Value.int .i64) (l := [(n : Int)]) hown6
      obtain ⟨a', c', e1, _, _, e4⟩ := hrd
      obtain ⟨b', off', e5, e6⟩ := e4 0 _ rfl
      cases e1
      cases e5
      exact e6
    have HB6 := hid (below_tr HB5.out hb6)
    have HI6 := hid (HI5.out.below hb6)
    have HGg : Hid (g ≠ G) := by
      have h5 := HI5.out.row.lt
      rcases hat6 with h | h
      · cases h
      · show g ≠ G; omega
    clear hown6 hb6 hg6 hat6 hlt6 HB5 HI5
    go_loopw [14, 70] (fun fr i wr => ∃ (k : Nat) (z : Int) (L : List Int), k ≤ 1 ∧ i = .int .i64 k ∧ fr = .int .i64 z ∧ Hid (k = 0 → z = 0) ∧ Hid (PnI wr G n ((k : Int) * 200) L) ∧ Hid (wr.cell? ⟨g, 0, none⟩ = some (.int .i64 n)) ∧ Hid (Below w.heap.size w wr)) (fun _ i _ => 1 - (intOf i).toNat)
    case atStart => exact ⟨0, 0, _, Nat.zero_le _, rfl, rfl, fun _ => rfl, hid (by simpa using HI6.out), HC6.out, HB6.out⟩
    case round =>
      clear HI6 HC6 HB6
      obtain ⟨k, z, L, hk1, rfl, rfl, hz, HI, HC, HB⟩ := hrel
      by_cases hk : k = 0
      case pos =>
        subst hk
        obtain rfl : z = 0 := hz.out rfl
        have HI0 : Hid (PnI wr G n 0 L) := hid (by simpa using HI.out)
        have cg := HC.out
        clear hz HI HC
        by_cases hn2 : 2 ≤ n
        case pos =>
          have t1 : (2 : Int) ≤ (n : Int) := by omega
          obtain ⟨x0, hx0, b0, b1, c0, f0⟩ := HI0.out.at (i := 0) (by omega)
          have HI2 := hid (HI0.out.set 0 (x0 + 100) 100 (by omega) (by omega) (by omega))
          have HB2 := hid (HB.out.setCell (p := ⟨G, 0, none⟩) HG4.out (.int .i64 (x0 + 100)))
          have HC2 : Hid ((wr.setCell ⟨G, 0, none⟩ (.int .i64 (x0 + 100))).cell? ⟨g, 0, none⟩ = some (.int .i64 n)) := (World.cell?_of_block (Below.heap_setCell _ _ _ _ HGg.out)).trans cg
          have q1 : (0 : Int) < (n : Int) := by omega
          have q2 : 0 < n := by omega
          go_upto_region 19 with fail
          clear HI0 HB cg c0 f0
          generalize wr.setCell ⟨G, 0, none⟩ (.int .i64 (x0 + 100)) = w8 at *
          obtain ⟨x1, hx1, d0, d1, c1, f1⟩ := HI2.out.at (i := n - 2) (by omega)
          have HI3 := hid (HI2.out.set (n - 2) (x1 + 100) 100 (by omega) (by omega) (by omega))
          have HB3 := hid (HB2.out.setCell (p := ⟨G, n - 2, none⟩) HG4.out (.int .i64 (x1 + 100)))
          have HC3 : Hid ((w8.setCell ⟨G, n - 2, none⟩ (.int .i64 (x1 + 100))).cell? ⟨g, 0, none⟩ = some (.int .i64 n)) := (World.cell?_of_block (Below.heap_setCell _ _ _ _ HGg.out)).trans HC2.out
          have r1 : (n : Int) - 2 = ((n - 2 : Nat) : Int) := by omega
          have r2 : IntKind.i64.wrap ((n : Int) - 2) = ((n - 2 : Nat) : Int) := by rw [r1]; exact IntWalk.i64_in _ (by omega)
          have r3 : ((n - 2 : Nat) : Int) < (n : Int) := by omega
          have r4 : (0 : Int) ≤ ((n - 2 : Nat) : Int) := by omega
          have r5 : n - 2 < n := by omega
          go_wp2_with fail
          go_roundw
          case rel => exact ⟨1, n, _, Nat.le_refl _, rfl, rfl, fun h => by omega, hid (by simpa using HI3.out), HC3.out, HB3.out⟩
          case measure => simp [intOf]
        case neg =>
          have t1 : ¬ (2 : Int) ≤ (n : Int) := by omega
          go_wp2_with fail
          go_roundw
          case rel => exact ⟨1, n, _, Nat.le_refl _, rfl, rfl, fun h => by omega, hid (HI0.out.weak (by omega)), cg, HB.out⟩
          case measure => simp [intOf]
      case neg =>
        obtain rfl : k = 1 := by omega
        have HI1 : Hid (PnI wr G n 10000 L) := hid (HI.out.weak (by omega))
        clear hz HI HC hk
        go_wp2_with fail
        go_loopw [97] (fun i wr => ∃ (k : Nat) (L : List Int), k ≤ n ∧ i = .int .i64 k ∧ Hid (PnI wr G n 10000 L) ∧ Hid (Below w.heap.size w wr)) (fun i _ => n - (intOf i).toNat)
        case atStart => exact ⟨0, _, Nat.zero_le _, rfl, HI1.out, HB.out⟩
        case round =>
          clear HI1 HB
          obtain ⟨k, L2, hk, rfl, HI, HB⟩ := hrel
          by_cases hlt : k < n
          case pos =>
            have hti : (k : Int) < (n : Int) := by omega
            obtain ⟨x0, hx0, b0, b1, c0, f0⟩ := HI.out.at hlt
            have HI2 := hid (HI.out.set k x0 0 (by omega) (by omega) (by omega))
            have HB2 := hid (HB.out.setCell (p := ⟨G, k, none⟩) HG4.out (.int .i64 x0))
            have q1 : (0 : Int) ≤ (k : Int) := by omega
            have q2 : min x0 10000 = x0 := by omega
            clear HI HB hx0
            go_wp2_with fail
            go_roundw
            case rel => exact ⟨k + 1, _, by omega, by go_num, hid (by simpa [q2] using HI2.out), hid (by simpa [q2] using HB2.out)⟩
            case measure => simp [intOf]; omega
          case neg =>
            obtain rfl : k = n := by omega
            have hti : ¬ (k : Int) < (k : Int) := by omega
            go_wp2_with fail
            have hrd := HI.out.rd (by omega)
            refine bodyPost_ret (results_tmp2 rfl _ _ _) rfl ?_
            exact PenR.mk HG4.out hrd HI.out.len HB.out
end Go.Proofs.YtlneimjenjpbnaaDoor
