/-
  Words and patterns: ContainsFunc over them.
-/
import Derived.Test.YtalpgilncohkbaaItm
namespace Go.Proofs.Ytalpgilncohkbaa
open Go.RowKit

structure Wd where
  t : ByteArray
  c1 : Int
  c2 : Int
  c3 : Int
  jo : Bool
  ve : Bool
  nm : ByteArray
def encWd (x : Wd) : List Value := [.string x.t, .int .i64 x.c1, .int .i64 x.c2, .int .i64 x.c3, .bool x.jo, .bool x.ve, .string x.nm]
abbrev RdWd (W : World) (v : Value) (l : List Wd) : Prop := RdC 7 encWd W v l
def SzW (l : List Wd) : Prop := ∀ x ∈ l, x.t.size ≤ maxLen

set_option maxRecDepth 100000 in
set_option maxHeartbeats 1000000 in
theorem indexFnW_any (K : Nat) (eK : ∀ args w, (callFunc K args).run Try.prog w = .ok (.enter K args) w) (p : Wd → Bool) (v : Value) (l : List Wd) (w : World) (hr : RdWd w v l)
    (hC : ∀ (x : Wd) (W' : World), x ∈ l → Below w.heap.size w W' → Calls Try.prog K #[.agg #[.string x.t, .int .i64 x.c1, .int .i64 x.c2, .int .i64 x.c3, .bool x.jo, .bool x.ve, .string x.nm]] W' fun e W'' => e = .returned (.bool (p x)) ∧ Below W'.heap.size W' W'') :
    Calls Try.prog 16 #[v, .func (.func K) #[] #[]] w fun e w' => e = .returned (.int .i64 (fIdx p l)) ∧ Below w.heap.size w w' := by
  obtain ⟨a, cap, rfl, hlc, hcm, hcell⟩ := hr.open
  have HCell := hid hcell; clear hcell
  have HC := hid hC; clear hC
  go_enter Try.func16, Try.ntmps16
  go_wp2
  go_loopw [8] (fun i wr => ∃ k : Nat, k ≤ l.length ∧ i = .int .i64 k ∧ Hid (∀ y ∈ l.take k, p y = false) ∧ Hid (Below w.heap.size w wr)) (fun i _ => l.length - (intOf i).toNat)
  case atStart => exact ⟨0, Nat.zero_le _, rfl, by simp [Hid], Below.refl _ _⟩
  case round =>
    obtain ⟨k, hk, rfl, HK, HB⟩ := hrel
    by_cases hlt : k < l.length
    · have hti : (k : Int) < (l.length : Int) := by omega
      have hk0 : (0 : Int) ≤ (k : Int) := by omega
      obtain ⟨x, hx⟩ : ∃ x, l[k]? = some x := ⟨_, List.getElem?_eq_getElem hlt⟩
      obtain ⟨b, off, rfl, hc⟩ := HCell.out k x hx
      have HX := hid hx
      have HM := hid (List.mem_of_getElem? hx)
      clear hx
      have c0 := Below.keeps HB.out _ _ (hc 0 _ rfl)
      have c1 := Below.keeps HB.out _ _ (hc 1 _ rfl)
      have c2 := Below.keeps HB.out _ _ (hc 2 _ rfl)
      have c3 := Below.keeps HB.out _ _ (hc 3 _ rfl)
      have c4 := Below.keeps HB.out _ _ (hc 4 _ rfl)
      have c5 := Below.keeps HB.out _ _ (hc 5 _ rfl)
      have c6 := Below.keeps HB.out _ _ (hc 6 _ rfl)
      rw [Nat.add_zero] at c0
      have HCC := hid (HC.out x wr HM.out HB.out)
      clear hc
      by_cases hp : p x = true
      · have HP := hid hp
        rw [hp] at HCC
        clear hp
        go_wp2_with fail
        refine HCC.out.mono ?_
        rintro e w2 ⟨rfl, hb2⟩
        go_wp2
        go_ret
        exact ⟨ret_int (fIdx_hit _ l k x HK.out HX.out HP.out).symm, below_tr HB.out hb2⟩
      · have hp' : p x = false := by simpa using hp
        have HP := hid hp'
        rw [hp'] at HCC
        clear hp hp'
        go_wp2_with fail
        refine HCC.out.mono ?_
        rintro e w2 ⟨rfl, hb2⟩
        go_wp2_with fail
        go_roundw
        case rel => exact ⟨k + 1, by omega, by go_num, take_none HK.out HX.out HP.out, below_tr HB.out hb2⟩
        case measure => simp [intOf]; omega
    · have hti : ¬ (k : Int) < (l.length : Int) := by omega
      go_wp2
      go_ret
      refine ⟨ret_int ?_, HB.out⟩
      have h := HK.out
      rw [List.take_of_length_le (by omega)] at h
      exact (fIdx_none _ l h).symm
theorem containsFnW_any (K : Nat) (eK : ∀ args w, (callFunc K args).run Try.prog w = .ok (.enter K args) w) (p : Wd → Bool) (v : Value) (l : List Wd) (w : World) (hr : RdWd w v l)
    (hC : ∀ (x : Wd) (W' : World), x ∈ l → Below w.heap.size w W' → Calls Try.prog K #[.agg #[.string x.t, .int .i64 x.c1, .int .i64 x.c2, .int .i64 x.c3, .bool x.jo, .bool x.ve, .string x.nm]] W' fun e W'' => e = .returned (.bool (p x)) ∧ Below W'.heap.size W' W'') :
    Calls Try.prog 5 #[v, .func (.func K) #[] #[]] w fun e w' => e = .returned (.bool (l.any p)) ∧ Below w.heap.size w w' := by
  have HI := indexFnW_any K eK p v l w hr hC
  obtain ⟨a, cap, rfl, _, _, _⟩ := hr.open
  have HF := hid (fIdx_pos p l)
  generalize fIdx p l = r at *
  have H2 := hid HI; clear HI hC hr
  go_enter Try.func5, Try.ntmps5
  go_wp2_with fail
  refine H2.out.mono ?_
  rintro e w' ⟨rfl, hB'⟩
  go_wp2
  go_ret
  exact ⟨ret_bool HF.out, hB'⟩


set_option maxRecDepth 100000 in
set_option maxHeartbeats 1000000 in
theorem indexFnP_any (K : Nat) (eK : ∀ args w, (callFunc K args).run Try.prog w = .ok (.enter K args) w) (p : Grp → Bool) (v : Value) (l : List Grp) (w : World) (hr : RdG w v l)
    (hC : ∀ (x : Grp) (a : Option Addr) (n c : Nat) (W' : World), x ∈ l → Below w.heap.size w W' → Calls Try.prog K #[.agg #[.string x.name, .slice a n c]] W' fun e W'' => e = .returned (.bool (p x)) ∧ Below W'.heap.size W' W'') :
    Calls Try.prog 25 #[v, .func (.func K) #[] #[]] w fun e w' => e = .returned (.int .i64 (fIdx p l)) ∧ Below w.heap.size w w' := by
  obtain ⟨a, cap, rfl, hlc, hcm, hcell⟩ := hr.open
  have HCell := hid hcell; clear hcell
  have HC := hid hC; clear hC
  go_enter Try.func25, Try.ntmps25
  go_wp2
  go_loopw [8] (fun i wr => ∃ k : Nat, k ≤ l.length ∧ i = .int .i64 k ∧ Hid (∀ y ∈ l.take k, p y = false) ∧ Hid (Below w.heap.size w wr)) (fun i _ => l.length - (intOf i).toNat)
  case atStart => exact ⟨0, Nat.zero_le _, rfl, by simp [Hid], Below.refl _ _⟩
  case round =>
    obtain ⟨k, hk, rfl, HK, HB⟩ := hrel
    by_cases hlt : k < l.length
    · have hti : (k : Int) < (l.length : Int) := by omega
      have hk0 : (0 : Int) ≤ (k : Int) := by omega
      obtain ⟨x, b, off, m, hx, rfl, hc0, hc1, hm⟩ := HCell.out k hlt
      obtain ⟨am, cm, rfl, _, _, _⟩ := hm.open
      have HX := hid hx
      have HM := hid (List.mem_of_getElem? hx)
      clear hx
      have c0 := Below.keeps HB.out _ _ hc0
      have c1 := Below.keeps HB.out _ _ hc1
      have HCC := hid (HC.out x am x.mem.length cm wr HM.out HB.out)
      clear hc0 hc1 hm
      by_cases hp : p x = true
      · have HP := hid hp
        rw [hp] at HCC
        clear hp
        go_wp2_with fail
        refine HCC.out.mono ?_
        rintro e w2 ⟨rfl, hb2⟩
        go_wp2
        go_ret
        exact ⟨ret_int (fIdx_hit _ l k x HK.out HX.out HP.out).symm, below_tr HB.out hb2⟩
      · have hp' : p x = false := by simpa using hp
        have HP := hid hp'
        rw [hp'] at HCC
        clear hp hp'
        go_wp2_with fail
        refine HCC.out.mono ?_
        rintro e w2 ⟨rfl, hb2⟩
        go_wp2_with fail
        go_roundw
        case rel => exact ⟨k + 1, by omega, by go_num, take_none HK.out HX.out HP.out, below_tr HB.out hb2⟩
        case measure => simp [intOf]; omega
    · have hti : ¬ (k : Int) < (l.length : Int) := by omega
      go_wp2
      go_ret
      refine ⟨ret_int ?_, HB.out⟩
      have h := HK.out
      rw [List.take_of_length_le (by omega)] at h
      exact (fIdx_none _ l h).symm
theorem containsFnP_any (K : Nat) (eK : ∀ args w, (callFunc K args).run Try.prog w = .ok (.enter K args) w) (p : Grp → Bool) (v : Value) (l : List Grp) (w : World) (hr : RdG w v l)
    (hC : ∀ (x : Grp) (a : Option Addr) (n c : Nat) (W' : World), x ∈ l → Below w.heap.size w W' → Calls Try.prog K #[.agg #[.string x.name, .slice a n c]] W' fun e W'' => e = .returned (.bool (p x)) ∧ Below W'.heap.size W' W'') :
    Calls Try.prog 12 #[v, .func (.func K) #[] #[]] w fun e w' => e = .returned (.bool (l.any p)) ∧ Below w.heap.size w w' := by
  have HI := indexFnP_any K eK p v l w hr hC
  obtain ⟨a, cap, rfl, _, _, _⟩ := hr.open
  have HF := hid (fIdx_pos p l)
  generalize fIdx p l = r at *
  have H2 := hid HI; clear HI hC hr
  go_enter Try.func12, Try.ntmps12
  go_wp2_with fail
  refine H2.out.mono ?_
  rintro e w' ⟨rfl, hB'⟩
  go_wp2
  go_ret
  exact ⟨ret_bool HF.out, hB'⟩


set_option maxHeartbeats 1000000 in
theorem tph1_any (x : Wd) (w : World) : Calls Try.prog 6 #[.agg #[.string x.t, .int .i64 x.c1, .int .i64 x.c2, .int .i64 x.c3, .bool x.jo, .bool x.ve, .string x.nm]] w fun e w' => e = .returned (.bool (decide (x.t.size = 0))) ∧ Below w.heap.size w w' := by
  have hE := ba_isE x.t
  have HB := hid (below_al w (.cells #[.string x.t, .int .i64 x.c1, .int .i64 x.c2, .int .i64 x.c3, .bool x.jo, .bool x.ve, .string x.nm] 35))
  have c0 := cell_nw w #[.string x.t, .int .i64 x.c1, .int .i64 x.c2, .int .i64 x.c3, .bool x.jo, .bool x.ve, .string x.nm] 35 0 (x := .string x.t) rfl
  obtain ⟨t, c1, c2, c3, jo, ve, nm⟩ := x
  simp only at hE HB c0 ⊢
  generalize t.size = n at *
  have HE := hid hE
  by_cases h : n = 0
  · rw [decide_eq_true h] at hE ⊢
    go_enter Try.func6, Try.ntmps6
    go_wp2
    go_ret
    exact ⟨rfl, HB.out⟩
  · rw [decide_eq_false h] at hE ⊢
    go_enter Try.func6, Try.ntmps6
    go_wp2
    go_ret
    exact ⟨rfl, HB.out⟩
set_option maxHeartbeats 1000000 in
theorem tpi1_any (x : Wd) (w : World) : Calls Try.prog 11 #[.agg #[.string x.t, .int .i64 x.c1, .int .i64 x.c2, .int .i64 x.c3, .bool x.jo, .bool x.ve, .string x.nm]] w fun e w' => e = .returned (.bool (decide (10 < x.t.size))) ∧ Below w.heap.size w w' := by
  have HB := hid (below_al w (.cells #[.string x.t, .int .i64 x.c1, .int .i64 x.c2, .int .i64 x.c3, .bool x.jo, .bool x.ve, .string x.nm] 35))
  have c0 := cell_nw w #[.string x.t, .int .i64 x.c1, .int .i64 x.c2, .int .i64 x.c3, .bool x.jo, .bool x.ve, .string x.nm] 35 0 (x := .string x.t) rfl
  obtain ⟨t, c1, c2, c3, jo, ve, nm⟩ := x
  simp only at HB c0 ⊢
  by_cases h : 10 < t.size
  · have g : (10 : Int) < (t.size : Int) := by omega
    rw [decide_eq_true h]
    go_enter Try.func11, Try.ntmps11
    go_wp2
    go_ret
    exact ⟨rfl, HB.out⟩
  · have g : ¬ (10 : Int) < (t.size : Int) := by omega
    rw [decide_eq_false h]
    go_enter Try.func11, Try.ntmps11
    go_wp2
    go_ret
    exact ⟨rfl, HB.out⟩
set_option maxHeartbeats 1000000 in
theorem tpi2_any (L : ByteArray) (a : Option Addr) (n c : Nat) (w : World) : Calls Try.prog 13 #[.agg #[.string L, .slice a n c]] w fun e w' => e = .returned (.bool (decide (12 < L.size))) ∧ Below w.heap.size w w' := by
  have HB := hid (below_al w (.cells #[.string L, .slice a n c] 50))
  have c0 := cell_nw w #[.string L, .slice a n c] 50 0 (x := .string L) rfl
  by_cases h : 12 < L.size
  · have g : (12 : Int) < (L.size : Int) := by omega
    rw [decide_eq_true h]
    go_enter Try.func13, Try.ntmps13
    go_wp2
    go_ret
    exact ⟨rfl, HB.out⟩
  · have g : ¬ (12 : Int) < (L.size : Int) := by omega
    rw [decide_eq_false h]
    go_enter Try.func13, Try.ntmps13
    go_wp2
    go_ret
    exact ⟨rfl, HB.out⟩
set_option maxHeartbeats 1000000 in
theorem pit1_any (x : Wd) (w : World) : Calls Try.prog 28 #[.agg #[.string x.t, .int .i64 x.c1, .int .i64 x.c2, .int .i64 x.c3, .bool x.jo, .bool x.ve, .string x.nm]] w fun e w' => e = .returned (.bool (decide (x.t.size = 0) || decide (64 < x.t.size))) ∧ Below w.heap.size w w' := by
  have hE := ba_isE x.t
  have HB := hid (below_al w (.cells #[.string x.t, .int .i64 x.c1, .int .i64 x.c2, .int .i64 x.c3, .bool x.jo, .bool x.ve, .string x.nm] 35))
  have c0 := cell_nw w #[.string x.t, .int .i64 x.c1, .int .i64 x.c2, .int .i64 x.c3, .bool x.jo, .bool x.ve, .string x.nm] 35 0 (x := .string x.t) rfl
  obtain ⟨t, c1, c2, c3, jo, ve, nm⟩ := x
  simp only at hE HB c0 ⊢
  by_cases h : t.size = 0
  · rw [decide_eq_true h] at hE ⊢
    clear h
    go_enter Try.func28, Try.ntmps28
    go_wp2
    go_ret
    exact ⟨rfl, HB.out⟩
  · rw [decide_eq_false h] at hE ⊢
    rw [Bool.false_or]
    by_cases h2 : 64 < t.size
    · have g : (64 : Int) < (t.size : Int) := by omega
      rw [decide_eq_true h2]
      go_enter Try.func28, Try.ntmps28
      go_wp2
      go_ret
      exact ⟨rfl, HB.out⟩
    · have g : ¬ (64 : Int) < (t.size : Int) := by omega
      rw [decide_eq_false h2]
      go_enter Try.func28, Try.ntmps28
      go_wp2
      go_ret
      exact ⟨rfl, HB.out⟩

end Go.Proofs.Ytalpgilncohkbaa
