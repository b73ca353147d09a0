/-
  pagedesc.readers: the map of the functions that read a line.
-/
import Derived.Test.YtkjapeafhcdnkaaDoorPrt
import Derived.Test.YtkjapeafhcdnkaaDoorMapK
import Derived.Carry
namespace Go.Proofs.YtkjapeafhcdnkaaDoor
open Go.RowKit

def pageW : ByteArray := ⟨#[112, 97, 103, 101]⟩
def pageF : Value := .func (.func 71) #[] #[]
def boxF (c : Nat) : Value := .func (.func 73) #[] #[.pointer (some ⟨c, 0, none⟩)]

theorem kwB_inj {i j : Nat} (h1 : 1 ≤ i) (h2 : i ≤ 6) (h3 : 1 ≤ j) (h4 : j ≤ 6) (h : kwB i = kwB j) : i = j := by
  have hi : i = 1 ∨ i = 2 ∨ i = 3 ∨ i = 4 ∨ i = 5 ∨ i = 6 := by omega
  have hj : j = 1 ∨ j = 2 ∨ j = 3 ∨ j = 4 ∨ j = 5 ∨ j = 6 := by omega
  rcases hi with rfl | rfl | rfl | rfl | rfl | rfl <;> rcases hj with rfl | rfl | rfl | rfl | rfl | rfl <;> first | rfl | exact absurd h (by decide +kernel)
theorem kwB_page {i : Nat} (h1 : 1 ≤ i) (h2 : i ≤ 6) : kwB i ≠ pageW := by
  have hi : i = 1 ∨ i = 2 ∨ i = 3 ∨ i = 4 ∨ i = 5 ∨ i = 6 := by omega
  rcases hi with rfl | rfl | rfl | rfl | rfl | rfl <;> decide +kernel

/-- What an entry of the map is good for. -/
def MEnt (W : World) (k : Nat) (e : MapEntry) : Prop :=
  (e.key = .string pageW ∧ e.val = pageF) ∨ ∃ i c : Nat, 1 ≤ i ∧ i ≤ k ∧ e.key = .string (kwB i) ∧ e.val = boxF c ∧ Row W c #[.int .i64 i] 3
/-- Block r is the map with the reader of pages, and those of the first k kinds of boxes. -/
structure MI (W : World) (r k : Nat) : Prop where
  ex : ∃ es clock, W.heap[r]? = some (.map es clock) ∧ (∀ e ∈ es.toList, MEnt W k e) ∧ (∃ e ∈ es.toList, e.key = .string pageW) ∧ ∀ i : Nat, 1 ≤ i → i ≤ k → ∃ e ∈ es.toList, e.key = .string (kwB i)
theorem MEnt.key {W : World} {k : Nat} {e : MapEntry} (h : MEnt W k e) : ∃ s, e.key = .string s := by
  rcases h with ⟨h, _⟩ | ⟨i, c, _, _, h, _⟩
  · exact ⟨_, h⟩
  · exact ⟨_, h⟩
theorem MEnt.keep {W W' : World} {k k' : Nat} {e : MapEntry} (h : MEnt W k e) (hk : k ≤ k') (hr : ∀ B cs t, Row W B cs t → Row W' B cs t) : MEnt W' k' e := by
  rcases h with h | ⟨i, c, h1, h2, h3, h4, h5⟩
  · exact .inl h
  · exact .inr ⟨i, c, h1, by omega, h3, h4, hr _ _ _ h5⟩
theorem MI.below {W W' : World} {r k : Nat} (h : MI W r k) (hb : Below W.heap.size W W') : MI W' r k := by
  obtain ⟨es, clock, h1, h2, h3, h4⟩ := h.ex
  exact ⟨es, clock, (hb.block r (Array.getElem?_eq_some_iff.1 h1).1).trans h1, fun e he => (h2 e he).keep (Nat.le_refl _) (fun B cs t hr => hr.below hb), h3, h4⟩
theorem MI.lt {W : World} {r k : Nat} (h : MI W r k) : r < W.heap.size := by
  obtain ⟨es, clock, h1, _⟩ := h.ex
  exact (Array.getElem?_eq_some_iff.1 h1).1
theorem row_ne_map {W : World} {B r : Nat} {cs : Array Value} {t : TypeId} {es : Array MapEntry} {c : Nat} (h : Row W B cs t) (hm : W.heap[r]? = some (.map es c)) : B ≠ r := by
  intro e; subst e
  unfold Row at h; rw [h] at hm; cases hm
theorem mi_new (W : World) : ∃ W', (Instr.mapUpdate 82 (.map (some W.heap.size)) (.string pageW) pageF).run Tryd.prog (W.alloc (.map #[] 0)) = .ok () W' ∧ MI W' W.heap.size 0 ∧ Below W.heap.size W W' ∧ W.heap.size < W'.heap.size := by
  have hb : (W.alloc (.map #[] 0)).heap[W.heap.size]? = some (.map #[] 0) := heap_alloc_new W _
  refine ⟨_, run_put_fresh Tryd.underlying82 Tryd.underlying9 hb (fun x hx => by simp at hx) (fun x hx => by simp at hx), ?_, below_setIf (below_al W _) (Nat.le_refl _), by simp⟩
  refine ⟨_, _, (Go.MapKept.heap_set hb).1, fun e he => ?_, ?_, fun i h1 h2 => by omega⟩
  · have : e = { key := .string pageW, val := pageF, born := 0 } := by simpa using he
    subst this
    exact .inl ⟨rfl, rfl⟩
  · exact ⟨{ key := .string pageW, val := pageF, born := 0 }, by simp, rfl⟩
theorem MI.put {W : World} {r k c : Nat} (h : MI W r k) (hk : k + 1 ≤ 6) (hc : Row W c #[.int .i64 ((k + 1 : Nat) : Int)] 3) :
    ∃ W', (Instr.mapUpdate 82 (.map (some r)) (.string (kwB ((k + 1 : Nat) : Int))) (boxF c)).run Tryd.prog W = .ok () W' ∧ MI W' r (k + 1) ∧ (∀ B cs t, Row W B cs t → Row W' B cs t) ∧ (∀ Bb w0, Below Bb w0 W → Bb ≤ r → Below Bb w0 W') := by
  obtain ⟨es, clock, h1, h2, h3, h4⟩ := h.ex
  have hrows : ∀ B cs t, Row W B cs t → Row { W with heap := W.heap.setIfInBounds r (.map (es.push { key := .string (kwB ((k + 1 : Nat) : Int)), val := boxF c, born := clock }) (clock + 1)) } B cs t := fun B cs t hr => row_setIf hr (row_ne_map hr h1)
  refine ⟨_, run_put_fresh Tryd.underlying82 Tryd.underlying9 h1 (fun x hx => (h2 x hx).key) (fun x hx he => ?_), ?_, hrows, fun Bb w0 hb hle => below_setIf hb hle⟩
  · rcases h2 x hx with ⟨e1, _⟩ | ⟨i, c', i1, i2, e1, _⟩
    · rw [e1] at he
      exact kwB_page (i := k + 1) (by omega) hk (Value.string.inj he).symm
    · rw [e1] at he
      have := kwB_inj i1 (by omega) (j := k + 1) (by omega) hk (Value.string.inj he)
      omega
  · refine ⟨_, _, (Go.MapKept.heap_set h1).1, fun e he => ?_, ?_, fun i i1 i2 => ?_⟩
    · simp only [Array.toList_push, List.mem_append, List.mem_singleton] at he
      rcases he with he | rfl
      · exact (h2 e he).keep (by omega) hrows
      · exact .inr ⟨k + 1, c, by omega, Nat.le_refl _, rfl, rfl, hrows _ _ _ hc⟩
    · obtain ⟨e, he, e1⟩ := h3
      exact ⟨e, by simp only [Array.toList_push, List.mem_append]; exact .inl he, e1⟩
    · by_cases hi : i ≤ k
      · obtain ⟨e, he, e1⟩ := h4 i i1 hi
        exact ⟨e, by simp only [Array.toList_push, List.mem_append]; exact .inl he, e1⟩
      · have : i = k + 1 := by omega
        subst this
        exact ⟨_, by simp only [Array.toList_push, List.mem_append, List.mem_singleton]; exact .inr rfl, rfl⟩
theorem MI.look {W : World} {r : Nat} (h : MI W r 6) (s : ByteArray) :
    ∃ v, (Instr.lookup 82 (.map (some r)) (.string s) false).run Tryd.prog W = .ok v W ∧
      ((s = pageW ∧ v = pageF) ∨ (∃ i c : Nat, 1 ≤ i ∧ i ≤ 6 ∧ s = kwB i ∧ v = boxF c ∧ Row W c #[.int .i64 i] 3) ∨ (s ≠ pageW ∧ (∀ i : Nat, 1 ≤ i → i ≤ 6 → s ≠ kwB i) ∧ v = .nilFunc)) := by
  obtain ⟨es, clock, h1, h2, h3, h4⟩ := h.ex
  rcases run_look (s := s) Tryd.underlying82 Tryd.underlying9 h1 (fun x hx => (h2 x hx).key) (z := .nilFunc) (by kernel_rfl) with ⟨e, he, hk, hrun⟩ | ⟨hno, hrun⟩
  · refine ⟨_, hrun, ?_⟩
    rcases h2 e he with ⟨e1, e2⟩ | ⟨i, c, i1, i2, e1, e2, hr⟩
    · rw [hk] at e1
      exact .inl ⟨Value.string.inj e1, e2⟩
    · rw [hk] at e1
      exact .inr (.inl ⟨i, c, i1, i2, Value.string.inj e1, e2, hr⟩)
  · refine ⟨_, hrun, .inr (.inr ⟨?_, ?_, rfl⟩)⟩
    · rintro rfl
      obtain ⟨e, he, e1⟩ := h3
      exact hno e he e1
    · rintro i i1 i2 rfl
      obtain ⟨e, he, e1⟩ := h4 i i1 i2
      exact hno e he e1

set_option maxRecDepth 100000 in
set_option maxHeartbeats 2000000 in
theorem readers_any (w : World) : Calls Tryd.prog 48 #[] w fun e w' => ∃ r, e = .returned (.map (some r)) ∧ MI w' r 6 ∧ Below w.heap.size w w' ∧ w.heap.size ≤ r := by
  have hmm := @run_makeMap Tryd.prog
  obtain ⟨W1, hrun, HMI1, hB1, hlt1⟩ := mi_new w
  have HMI := hid HMI1
  have HB := hid hB1
  unfold pageF pageW at hrun
  clear HMI1 hB1
  go_enter Tryd.func48, Tryd.ntmps48
  go_wp2_with fail
  refine (kinds_any _).mono ?_
  rintro e w2 ⟨rfl, hw2⟩
  have HMI2 := hid (HMI.out.below (below_al W1 (.cells kwA 9)))
  have HB2 := hid (below_tr HB.out (below_al W1 (.cells kwA 9)))
  have HK2 := hid (row_nw W1 kwA 9 rfl)
  rw [hw2] at HMI2 HB2 HK2
  generalize W1.heap.size = kb at *
  clear hw2 hrun HMI HB hmm
  go_wp2_with fail
  go_loopw [8] (fun i wr => ∃ k : Nat, k ≤ 7 ∧ i = .int .i64 k ∧ Hid (MI wr w.heap.size (k - 1)) ∧ Hid (Row wr kb kwA 9) ∧ Hid (Below w.heap.size w wr)) (fun i _ => 7 - (intOf i).toNat)
  case atStart => exact ⟨0, by omega, rfl, HMI2.out, HK2.out, HB2.out⟩
  case round =>
    clear HMI2 HK2 HB2
    obtain ⟨k, hk, rfl, HMI, HK, HB⟩ := hrel
    by_cases hlt : k < 7
    · have hki : (k : Int) < 7 := by omega
      by_cases hk0 : k = 0
      · subst hk0
        have c0 : wr.cell? ⟨kb, 0, none⟩ = some (.string ⟨#[]⟩) := HK.out.cell 0 rfl
        have HMI2 := hid (HMI.out.below (below_al wr (.cells #[.int .i64 0] 3)))
        have HK2 := hid (HK.out.al (.cells #[.int .i64 0] 3))
        have HB2 := hid (below_tr HB.out (below_al wr (.cells #[.int .i64 0] 3)))
        clear HMI HK HB
        go_wp2_with fail
        go_roundw
        case rel => exact ⟨1, by omega, by go_num, HMI2.out, HK2.out, HB2.out⟩
        case measure => first | (simp [intOf]; omega) | simp [intOf]
      · have hm0 : ¬ (k : Int) = 0 := by omega
        have c0 := HK.out.cell k (kw_at (k := k) (by omega) (by omega))
        have HMI2 := hid (HMI.out.below (below_al wr (.cells #[.int .i64 (k : Int)] 3)))
        have HK2 := hid (HK.out.al (.cells #[.int .i64 (k : Int)] 3))
        have HB2 := hid (below_tr HB.out (below_al wr (.cells #[.int .i64 (k : Int)] 3)))
        have hrc := row_nw wr #[.int .i64 (k : Int)] 3 rfl
        have hput := fun h => MI.put (k := k - 1) (c := wr.heap.size) HMI2.out (by omega) h
        rw [show k - 1 + 1 = k by omega] at hput
        obtain ⟨W3, hrun3, hmi3, hrows, hbel⟩ := hput hrc
        have HMI3 := hid hmi3
        have HK3 := hid (hrows _ _ _ HK2.out)
        have HB3 := hid (hbel _ _ HB2.out (Nat.le_refl _))
        unfold boxF at hrun3
        clear HMI HK HB HMI2 HK2 HB2 hmi3 hrows hbel hrc hput
        go_wp2_with fail
        go_roundw
        case rel => exact ⟨k + 1, by omega, by go_num, HMI3.out, HK3.out, HB3.out⟩
        case measure => simp [intOf]; omega
    · have hki : ¬ (k : Int) < 7 := by omega
      obtain rfl : k = 7 := by omega
      go_wp2_with fail
      go_ret
      exact ⟨_, rfl, HMI.out, HB.out, Nat.le_refl _⟩
end Go.Proofs.YtkjapeafhcdnkaaDoor
