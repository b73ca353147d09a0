/-
  A case of the statements, by value.
-/
import Derived.Test.YtajhkfmhoihjfaaDoorNoteF
namespace Go.Proofs.YtajhkfmhoihjfaaDoor
open Go.RowKit Go.Shelf

/-- A case, by value. -/
structure Cs where
  st : St
  count : Int
  blocks : Int
  ats : Option Addr × Nat × Nat
  lays : Option Addr × Nat × Nat
  nots : Option Addr × Nat × Nat
def Cs.cells (x : Cs) : Array Value := #[.int .i64 x.st.width, .int .i64 x.st.lh, .int .i64 x.st.nh, .int .i64 x.st.ph, .int .i64 x.st.gap, .int .i64 x.st.sp, .int .i64 x.st.stretch, .int .i64 x.st.shrink, .int .i64 x.st.letter, .int .i64 x.st.hyphen, .int .i64 x.st.every, .slice x.st.pos.1 x.st.pos.2.1 x.st.pos.2.2, .slice x.st.lay.1 x.st.lay.2.1 x.st.lay.2.2, .int .i64 x.count, .int .i64 x.blocks, .slice x.ats.1 x.ats.2.1 x.ats.2.2, .slice x.lays.1 x.lays.2.1 x.lays.2.2, .slice x.nots.1 x.nots.2.1 x.nots.2.2]
theorem cs_facts {x : Cs} {W : World} {B : Nat} (h : W.heap[B]? = some (.cells x.cells 56 (0, 0))) :
    W.cell? ⟨B, 0, none⟩ = some (.int .i64 x.st.width) ∧ W.cell? ⟨B, 1, none⟩ = some (.int .i64 x.st.lh) ∧ W.cell? ⟨B, 2, none⟩ = some (.int .i64 x.st.nh) ∧ W.cell? ⟨B, 3, none⟩ = some (.int .i64 x.st.ph) ∧ W.cell? ⟨B, 4, none⟩ = some (.int .i64 x.st.gap) ∧ W.cell? ⟨B, 5, none⟩ = some (.int .i64 x.st.sp) ∧ W.cell? ⟨B, 6, none⟩ = some (.int .i64 x.st.stretch) ∧ W.cell? ⟨B, 7, none⟩ = some (.int .i64 x.st.shrink) ∧ W.cell? ⟨B, 8, none⟩ = some (.int .i64 x.st.letter) ∧ W.cell? ⟨B, 9, none⟩ = some (.int .i64 x.st.hyphen) ∧ W.cell? ⟨B, 10, none⟩ = some (.int .i64 x.st.every) ∧ W.cell? ⟨B, 11, none⟩ = some (.slice x.st.pos.1 x.st.pos.2.1 x.st.pos.2.2) ∧ W.cell? ⟨B, 12, none⟩ = some (.slice x.st.lay.1 x.st.lay.2.1 x.st.lay.2.2) ∧ W.cell? ⟨B, 13, none⟩ = some (.int .i64 x.count) ∧ W.cell? ⟨B, 14, none⟩ = some (.int .i64 x.blocks) ∧ W.cell? ⟨B, 15, none⟩ = some (.slice x.ats.1 x.ats.2.1 x.ats.2.2) ∧ W.cell? ⟨B, 16, none⟩ = some (.slice x.lays.1 x.lays.2.1 x.lays.2.2) ∧ W.cell? ⟨B, 17, none⟩ = some (.slice x.nots.1 x.nots.2.1 x.nots.2.2) :=
  ⟨by rw [cell_of_row W B 0 _ _ _ h]; rfl, by rw [cell_of_row W B 1 _ _ _ h]; rfl, by rw [cell_of_row W B 2 _ _ _ h]; rfl, by rw [cell_of_row W B 3 _ _ _ h]; rfl, by rw [cell_of_row W B 4 _ _ _ h]; rfl, by rw [cell_of_row W B 5 _ _ _ h]; rfl, by rw [cell_of_row W B 6 _ _ _ h]; rfl, by rw [cell_of_row W B 7 _ _ _ h]; rfl, by rw [cell_of_row W B 8 _ _ _ h]; rfl, by rw [cell_of_row W B 9 _ _ _ h]; rfl, by rw [cell_of_row W B 10 _ _ _ h]; rfl, by rw [cell_of_row W B 11 _ _ _ h]; rfl, by rw [cell_of_row W B 12 _ _ _ h]; rfl, by rw [cell_of_row W B 13 _ _ _ h]; rfl, by rw [cell_of_row W B 14 _ _ _ h]; rfl, by rw [cell_of_row W B 15 _ _ _ h]; rfl, by rw [cell_of_row W B 16 _ _ _ h]; rfl, by rw [cell_of_row W B 17 _ _ _ h]; rfl⟩
/-- What it reads as. -/
structure CsR (W : World) (x : Cs) (l1 l2 : List Int) (l3 : List ByteArray) : Prop where
  r1 : RdI W (.slice x.ats.1 x.ats.2.1 x.ats.2.2) l1
  r2 : RdI W (.slice x.lays.1 x.lays.2.1 x.lays.2.2) l2
  r3 : RdS W (.slice x.nots.1 x.nots.2.1 x.nots.2.2) l3
theorem CsR.below {W W' : World} {x : Cs} {l1 l2 : List Int} {l3 : List ByteArray} (h : CsR W x l1 l2 l3) (hb : Below W.heap.size W W') : CsR W' x l1 l2 l3 := ⟨h.r1.below hb, h.r2.below hb, h.r3.below hb⟩
theorem rd_len {α : Type} {enc : α → Value} {W : World} {a : Option Addr} {n c : Nat} {l : List α} (h : Rd enc W (.slice a n c) l) : n = l.length := by
  obtain ⟨a', c', e, _⟩ := h
  simp only [Value.slice.injEq] at e
  exact e.2.1
def greatC (x : Cs) (l1 l2 : List Int) (l3 : List ByteArray) : Bool := great50 l3 || decide (12 < l1.length) || decide (12 < l2.length) || (decide (20 < x.count) && decide (x.count ≤ 4096))

set_option maxHeartbeats 2000000 in
set_option maxRecDepth 100000 in
theorem lgreat_any (x : Cs) (l1 l2 : List Int) (l3 : List ByteArray) (w : World) (hr : CsR w x l1 l2 l3) (hz : Szs l3) :
    Calls Tryd.prog 30 #[.agg x.cells] w fun e w' => e = .returned (.bool (greatC x l1 l2 l3)) ∧ Below w.heap.size w w' := by
  have hb0 := below_al w (.cells x.cells 56)
  have hst := World.alloc_heap_new w (.cells x.cells 56)
  have HG := hid (great50_any _ l3 _ (hr.r3.below hb0) hz)
  have e1 := rd_len hr.r1
  have e2 := rd_len hr.r2
  obtain ⟨f0, f1, f2, f3, f4, f5, f6, f7, f8, f9, f10, f11, f12, f13, f14, f15, f16, f17⟩ := cs_facts hst
  have HC : Hid (greatC x l1 l2 l3 = (great50 l3 || decide (12 < l1.length) || decide (12 < l2.length) || (decide (20 < x.count) && decide (x.count ≤ 4096)))) := rfl
  have HB := hid hb0
  clear hb0 hst hr hz
  have q1 : (x.ats.2.1 : Int) = (l1.length : Int) := by omega
  have q2 : (x.lays.2.1 : Int) = (l2.length : Int) := by omega
  clear e1 e2
  have HQ1 := hid q1
  have HQ2 := hid q2
  clear q1 q2
  unfold Cs.cells at *
  cases hg : great50 l3 with
  | true =>
    have HR : Hid (greatC x l1 l2 l3 = true) := by rw [HC.out, hg]; rfl
    rw [hg] at HG
    clear hg HC
    go_enter Tryd.func30, Tryd.ntmps30
    go_wp2_with fail
    refine HG.out.mono ?_
    rintro e w1 ⟨rfl, rfl⟩
    go_wp2
    go_ret
    exact ⟨ret_bool HR.out.symm, HB.out⟩
  | false =>
    rw [hg] at HG
    by_cases h1 : 12 < l1.length
    · have HR : Hid (greatC x l1 l2 l3 = true) := by rw [HC.out, decide_eq_true h1]; simp [Hid]
      have q3 : (12 : Int) < (x.ats.2.1 : Int) := by have := HQ1.out; omega
      clear hg HC
      go_enter Tryd.func30, Tryd.ntmps30
      go_wp2_with fail
      refine HG.out.mono ?_
      rintro e w1 ⟨rfl, rfl⟩
      go_wp2
      go_ret
      exact ⟨ret_bool HR.out.symm, HB.out⟩
    · have q3 : ¬ (12 : Int) < (x.ats.2.1 : Int) := by have := HQ1.out; omega
      by_cases h2 : 12 < l2.length
      · have HR : Hid (greatC x l1 l2 l3 = true) := by rw [HC.out, decide_eq_true h2]; simp [Hid]
        have q4 : (12 : Int) < (x.lays.2.1 : Int) := by have := HQ2.out; omega
        clear hg HC
        go_enter Tryd.func30, Tryd.ntmps30
        go_wp2_with fail
        refine HG.out.mono ?_
        rintro e w1 ⟨rfl, rfl⟩
        go_wp2
        go_ret
        exact ⟨ret_bool HR.out.symm, HB.out⟩
      · have q4 : ¬ (12 : Int) < (x.lays.2.1 : Int) := by have := HQ2.out; omega
        by_cases h3 : 20 < x.count
        · by_cases h4 : x.count ≤ 4096
          · have HR : Hid (greatC x l1 l2 l3 = true) := by rw [HC.out, decide_eq_true h3, decide_eq_true h4]; simp [Hid]
            clear hg HC
            go_enter Tryd.func30, Tryd.ntmps30
            go_wp2_with fail
            refine HG.out.mono ?_
            rintro e w1 ⟨rfl, rfl⟩
            go_wp2
            go_ret
            exact ⟨ret_bool HR.out.symm, HB.out⟩
          · have HR : Hid (greatC x l1 l2 l3 = false) := by rw [HC.out, hg, decide_eq_false h1, decide_eq_false h2, decide_eq_false h4]; simp [Hid]
            clear hg HC
            go_enter Tryd.func30, Tryd.ntmps30
            go_wp2_with fail
            refine HG.out.mono ?_
            rintro e w1 ⟨rfl, rfl⟩
            go_wp2
            go_ret
            exact ⟨ret_bool (by rw [HR.out, decide_eq_false (show ¬ (12 : Int) < (x.ats.2.1 : Int) by omega), decide_eq_false (show ¬ (12 : Int) < (x.lays.2.1 : Int) by omega), decide_eq_false (show ¬ x.count ≤ 4096 by omega)]; rfl), HB.out⟩
        · have HR : Hid (greatC x l1 l2 l3 = false) := by rw [HC.out, hg, decide_eq_false h1, decide_eq_false h2, decide_eq_false h3]; simp [Hid]
          clear hg HC
          go_enter Tryd.func30, Tryd.ntmps30
          go_wp2_with fail
          refine HG.out.mono ?_
          rintro e w1 ⟨rfl, rfl⟩
          go_wp2
          go_ret
          exact ⟨ret_bool (by rw [HR.out, decide_eq_false (show ¬ (12 : Int) < (x.ats.2.1 : Int) by omega), decide_eq_false (show ¬ (12 : Int) < (x.lays.2.1 : Int) by omega)]; rfl), HB.out⟩
theorem greatC_no {x : Cs} {l1 l2 : List Int} {l3 : List ByteArray} (h : greatC x l1 l2 l3 = false) : l1.length ≤ 12 ∧ l2.length ≤ 12 ∧ l3.length ≤ 10 ∧ great50 l3 = false := by
  unfold greatC at h
  simp only [Bool.or_eq_false_iff, decide_eq_false_iff_not] at h
  obtain ⟨⟨⟨h1, h2⟩, h3⟩, _⟩ := h
  refine ⟨by omega, by omega, ?_, h1⟩
  unfold great50 at h1
  simp only [Bool.or_eq_false_iff, decide_eq_false_iff_not] at h1
  omega

end Go.Proofs.YtajhkfmhoihjfaaDoor
