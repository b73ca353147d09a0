/-
  Joined, what is needed of: Rsn Prt45 Ofe.
-/
import Derived.Test.YtjhdeoniafahbaaGreatDoorY09
import Derived.Test.YtjhdeoniafahbaaGreatDoorY10
import Derived.Deep.RegionHeld3
import Derived.Deep.CutBlock
import Derived.Deep.DeepCutAuto
import Derived.Test.YtjhdeoniafahbaaGreatDoorY01
import Derived.Test.YtjhdeoniafahbaaGreatDoorY06
import Derived.Test.YtjhdeoniafahbaaGreatDoorY08
namespace Go.Proofs.YtjhdeoniafahbaaGreatDoor
open Go.RowKit
theorem rsamew_bel (v u : Value) (l m : List ByteArray) (w : World) (hr : RdS w v l) (hs : RdS w u m) :
    Calls Tryz.prog 47 #[v, u] w fun e w' => e = .returned (.bool (decide (l = m))) ∧ Below w.heap.size w w' :=
  (rsamew_any v u l m w hr hs).mono fun _ _ ⟨h1, _, h2⟩ => ⟨h1, h2 ▸ below_drewN (Below.refl _ _) _⟩
def enB (a b : En) : Bool := decide (a.ly = b.ly) && (decide (a.fr = b.fr) && (decide (a.to_ = b.to_) && (decide (a.pos = b.pos) && (decide (a.sup = b.sup) && vsEq a.vs b.vs))))
theorem enB_iff {a b : En} : enB a b = true ↔ a = b := by
  unfold enB
  simp only [Bool.and_eq_true, decide_eq_true_eq, vsEq_iff]
  constructor
  · rintro ⟨h1, h2, h3, h4, h5, h6⟩
    cases a; cases b
    simp_all
  · rintro rfl; exact ⟨rfl, rfl, rfl, rfl, rfl, rfl⟩
set_option maxRecDepth 100000 in
set_option maxHeartbeats 4000000 in
theorem rsame45_any (x y : Nt) (u s u' s' : Value) (w : World) (hx : RdN w u s x) (hy : RdN w u' s' y) :
    Calls Tryz.prog 19 #[.agg (x.cells u s), .agg (y.cells u' s')] w fun e w' => e = .returned (.bool (ntB x y)) ∧ Below w.heap.size w w' := by
  have HB := hid (below_tr (below_al w (.cells (x.cells u s) 30)) (below_al _ (.cells (y.cells u' s') 30)))
  have hra := (row_nw w (x.cells u s) 30 rfl).al (.cells (y.cells u' s') 30)
  have hrb := row_nw (w.alloc (.cells (x.cells u s) 30)) (y.cells u' s') 30 rfl
  rw [show (w.alloc (.cells (x.cells u s) 30)).heap.size = w.heap.size + 1 by simp] at hrb
  have HRA := hid hra
  have HRB := hid hrb
  have E1 := fun w' (h : Below w.heap.size w w') => hid (rsamew_bel u u' x.sup y.sup w' (hx.rs.below h) (hy.rs.below h))
  have E2 := fun w' (h : Below w.heap.size w w') => hid (rsamev_any s s' x.vs y.vs w' (hx.rv.below h) (hy.rv.below h))
  have HNE : Hid (x ≠ y → ntB x y = false) := ntB_ne
  have HD : Hid (ntB x y = (decide (x.fr = y.fr) && (decide (x.to_ = y.to_) && (decide (x.pl = y.pl) && ((decide (x.lf = y.lf) && (decide (x.ll = y.ll) && decide (x.ln = y.ln))) && (decide (x.pos = y.pos) && (decide (x.sup = y.sup) && vsEq x.vs y.vs))))))) := rfl
  obtain ⟨x1, y1, rfl, _⟩ := hx.rs.open
  obtain ⟨x2, y2, rfl, _⟩ := hx.rv.open
  obtain ⟨x3, y3, rfl, _⟩ := hy.rs.open
  obtain ⟨x4, y4, rfl, _⟩ := hy.rv.open
  clear hx hy hra hrb
  generalize hr : ntB x y = r at *
  clear hr
  obtain ⟨a0, a1, a2, a3, a4, a5, a6, a7, a8⟩ := x
  obtain ⟨b0, b1, b2, b3, b4, b5, b6, b7, b8⟩ := y
  unfold Nt.cells at *
  simp only at HD E1 E2

  by_cases k : a0 = b0
  case neg =>
    have HV : Hid (r = false) := by show _ = _; rw [HD.out]; simp [k]
    have q : (a0 == b0) = false := beq_eq_false_iff_ne.2 k
    clear k
    clear HD
    go_enter Tryz.func19, Tryz.ntmps19
    go_wp2
    go_ret
    exact ⟨ret_bool HV.out.symm, HB.out⟩
  subst k
  by_cases k : a1 = b1
  case neg =>
    have HV : Hid (r = false) := by show _ = _; rw [HD.out]; simp [k]
    have q : (a1 == b1) = false := beq_eq_false_iff_ne.2 k
    clear k
    clear HD
    go_enter Tryz.func19, Tryz.ntmps19
    go_wp2
    go_ret
    exact ⟨ret_bool HV.out.symm, HB.out⟩
  subst k
  by_cases k : a2 = b2
  case neg =>
    have HV : Hid (r = false) := by show _ = _; rw [HD.out]; simp [k]
    have q : (a2 == b2) = false := beq_eq_false_iff_ne.2 k
    clear k
    clear HD
    go_enter Tryz.func19, Tryz.ntmps19
    go_wp2
    go_ret
    exact ⟨ret_bool HV.out.symm, HB.out⟩
  subst k
  by_cases k : a3 = b3
  case neg =>
    have HV : Hid (r = false) := by show _ = _; rw [HD.out]; simp [k]
    have q : ¬ a3.toList = b3.toList := toL_ne2 k
    have q2 : (a3.toList == b3.toList) = false := beq_eq_false_iff_ne.2 q
    clear k
    clear HD
    go_enter Tryz.func19, Tryz.ntmps19
    go_wp2
    go_ret
    exact ⟨ret_bool HV.out.symm, HB.out⟩
  subst k
  by_cases k : a4 = b4
  case neg =>
    have HV : Hid (r = false) := by show _ = _; rw [HD.out]; simp [k]
    have q : ¬ a4.toList = b4.toList := toL_ne2 k
    have q2 : (a4.toList == b4.toList) = false := beq_eq_false_iff_ne.2 q
    clear k
    clear HD
    go_enter Tryz.func19, Tryz.ntmps19
    go_wp2
    go_ret
    exact ⟨ret_bool HV.out.symm, HB.out⟩
  subst k
  by_cases k : a5 = b5
  case neg =>
    have HV : Hid (r = false) := by show _ = _; rw [HD.out]; simp [k]
    have q : (a5 == b5) = false := beq_eq_false_iff_ne.2 k
    have q2 := k
    clear k
    clear HD
    go_enter Tryz.func19, Tryz.ntmps19
    go_wp2
    go_ret
    exact ⟨ret_bool HV.out.symm, HB.out⟩
  subst k
  by_cases k : a6 = b6
  case neg =>
    have HV : Hid (r = false) := by show _ = _; rw [HD.out]; simp [k]
    have q : (a6 == b6) = false := beq_eq_false_iff_ne.2 k
    clear k
    clear HD
    go_enter Tryz.func19, Tryz.ntmps19
    go_wp2
    go_ret
    exact ⟨ret_bool HV.out.symm, HB.out⟩
  subst k
  have HD2 : Hid (r = (decide (a7 = b7) && vsEq a8 b8)) := by show _ = _; rw [HD.out]; simp
  clear HD
  generalize decide (a7 = b7) = d1 at *
  generalize vsEq a8 b8 = d2 at *
  cases d1 with
  | false =>
    have HV : Hid (r = false) := HD2.out
    clear HD2
    go_enter Tryz.func19, Tryz.ntmps19
    go_wp2_with fail
    (with_reducible refine (E1 _ HB.out).out.mono ?_)
    rintro e w3 ⟨rfl, hB3⟩
    go_wp2
    go_ret
    exact ⟨ret_bool HV.out.symm, below_tr HB.out hB3⟩
  | true =>
    have HV : Hid (r = d2) := HD2.out
    clear HD2
    go_enter Tryz.func19, Tryz.ntmps19
    go_wp2_with fail
    (with_reducible refine (E1 _ HB.out).out.mono ?_)
    rintro e w3 ⟨rfl, hB3⟩
    have HB3 := hid (below_tr HB.out hB3)
    have c1 := (HRA.out.below hB3).cell 8 (x := .slice x2 a8.length y2) rfl
    have c2 := (HRB.out.below hB3).cell 8 (x := .slice x4 b8.length y4) rfl
    go_wp2_with fail
    (with_reducible refine (E2 _ HB3.out).out.mono ?_)
    rintro e w4 ⟨rfl, hB4⟩
    go_wp2
    go_ret
    exact ⟨ret_bool HV.out.symm, below_tr HB3.out hB4⟩
set_option maxRecDepth 100000 in
set_option maxHeartbeats 4000000 in
theorem rsameE_any (x y : En) (u s u' s' : Value) (w : World) (hx : RdE w u s x) (hy : RdE w u' s' y) :
    Calls Tryz.prog 20 #[.agg (x.cells u s), .agg (y.cells u' s')] w fun e w' => e = .returned (.bool (enB x y)) ∧ Below w.heap.size w w' := by
  have HB := hid (below_tr (below_al w (.cells (x.cells u s) 26)) (below_al _ (.cells (y.cells u' s') 26)))
  have hra := (row_nw w (x.cells u s) 26 rfl).al (.cells (y.cells u' s') 26)
  have hrb := row_nw (w.alloc (.cells (x.cells u s) 26)) (y.cells u' s') 26 rfl
  rw [show (w.alloc (.cells (x.cells u s) 26)).heap.size = w.heap.size + 1 by simp] at hrb
  have HRA := hid hra
  have HRB := hid hrb
  have E1 := fun w' (h : Below w.heap.size w w') => hid (rsamew_bel u u' x.sup y.sup w' (hx.rs.below h) (hy.rs.below h))
  have E2 := fun w' (h : Below w.heap.size w w') => hid (rsamev_any s s' x.vs y.vs w' (hx.rv.below h) (hy.rv.below h))
  have HD : Hid (enB x y = (decide (x.ly = y.ly) && (decide (x.fr = y.fr) && (decide (x.to_ = y.to_) && (decide (x.pos = y.pos) && (decide (x.sup = y.sup) && vsEq x.vs y.vs)))))) := rfl
  obtain ⟨x1, y1, rfl, _⟩ := hx.rs.open
  obtain ⟨x2, y2, rfl, _⟩ := hx.rv.open
  obtain ⟨x3, y3, rfl, _⟩ := hy.rs.open
  obtain ⟨x4, y4, rfl, _⟩ := hy.rv.open
  clear hx hy hra hrb
  generalize hr : enB x y = r at *
  clear hr
  obtain ⟨a0, a1, a2, a3, a4, a5⟩ := x
  obtain ⟨b0, b1, b2, b3, b4, b5⟩ := y
  unfold En.cells at *
  simp only at HD E1 E2
  by_cases k : a0 = b0
  case neg =>
    have HV : Hid (r = false) := by show _ = _; rw [HD.out]; simp [k]
    have q : (a0 == b0) = false := beq_eq_false_iff_ne.2 k
    clear k
    clear HD
    go_enter Tryz.func20, Tryz.ntmps20
    go_wp2
    go_ret
    exact ⟨ret_bool HV.out.symm, HB.out⟩
  subst k
  by_cases k : a1 = b1
  case neg =>
    have HV : Hid (r = false) := by show _ = _; rw [HD.out]; simp [k]
    have q : (a1 == b1) = false := beq_eq_false_iff_ne.2 k
    clear k
    clear HD
    go_enter Tryz.func20, Tryz.ntmps20
    go_wp2
    go_ret
    exact ⟨ret_bool HV.out.symm, HB.out⟩
  subst k
  by_cases k : a2 = b2
  case neg =>
    have HV : Hid (r = false) := by show _ = _; rw [HD.out]; simp [k]
    have q : (a2 == b2) = false := beq_eq_false_iff_ne.2 k
    clear k
    clear HD
    go_enter Tryz.func20, Tryz.ntmps20
    go_wp2
    go_ret
    exact ⟨ret_bool HV.out.symm, HB.out⟩
  subst k
  by_cases k : a3 = b3
  case neg =>
    have HV : Hid (r = false) := by show _ = _; rw [HD.out]; simp [k]
    have q : (a3 == b3) = false := beq_eq_false_iff_ne.2 k
    clear k
    clear HD
    go_enter Tryz.func20, Tryz.ntmps20
    go_wp2
    go_ret
    exact ⟨ret_bool HV.out.symm, HB.out⟩
  subst k
  have HD2 : Hid (r = (decide (a4 = b4) && vsEq a5 b5)) := by show _ = _; rw [HD.out]; simp
  clear HD
  generalize decide (a4 = b4) = d1 at *
  generalize vsEq a5 b5 = d2 at *
  cases d1 with
  | false =>
    have HV : Hid (r = false) := HD2.out
    clear HD2
    go_enter Tryz.func20, Tryz.ntmps20
    go_wp2_with fail
    (with_reducible refine (E1 _ HB.out).out.mono ?_)
    rintro e w3 ⟨rfl, hB3⟩
    go_wp2
    go_ret
    exact ⟨ret_bool HV.out.symm, below_tr HB.out hB3⟩
  | true =>
    have HV : Hid (r = d2) := HD2.out
    clear HD2
    go_enter Tryz.func20, Tryz.ntmps20
    go_wp2_with fail
    (with_reducible refine (E1 _ HB.out).out.mono ?_)
    rintro e w3 ⟨rfl, hB3⟩
    have HB3 := hid (below_tr HB.out hB3)
    have c1 := (HRA.out.below hB3).cell 5 (x := .slice x2 a5.length y2) rfl
    have c2 := (HRB.out.below hB3).cell 5 (x := .slice x4 b5.length y4) rfl
    go_wp2_with fail
    (with_reducible refine (E2 _ HB3.out).out.mono ?_)
    rintro e w4 ⟨rfl, hB4⟩
    go_wp2
    go_ret
    exact ⟨ret_bool HV.out.symm, below_tr HB3.out hB4⟩
end Go.Proofs.YtjhdeoniafahbaaGreatDoor
namespace Go.Proofs.YtjhdeoniafahbaaGreatDoor
open Go.RowKit
/-- Sizes. -/
theorem wordB_66 {s : ByteArray} (h : wordB s = true) : s.size ≤ 66 := by
  unfold wordB at h
  rw [Bool.or_eq_true] at h
  rcases h with h | h
  · unfold isWordB at h
    simp only [Bool.and_eq_true, decide_eq_true_eq] at h
    omega
  · split at h
    · omega
    · obtain ⟨h1, h2⟩ := gap_data h
      obtain ⟨_, _, h3⟩ := dec_back h2
      have h4 := ba_len s
      have h5 := ba_len (innB s)
      rw [h1, List.length_cons, List.length_append, h5] at h4
      simp only [List.length_singleton] at h4
      omega
/-- Print while its parts are gathered. -/
structure PrI (x : Nt) (u s : Value) (w : World) (v : Value) (l : List ByteArray) (W : World) : Prop where
  note : Row W w.heap.size (x.cells u s) 30
  own : W.ownsRow (w.heap.size + 1) 9 1 v l.length (l.map Value.string)
  bel : Below w.heap.size w W
  siz : w.heap.size + 1 ≤ W.heap.size
theorem PrI.push {x : Nt} {u s : Value} {w W w' : World} {v v' : Value} {l : List ByteArray} (h : PrI x u s w v l W) (ts : List ByteArray) (ho : w'.ownsRow (w.heap.size + 1) 9 1 v' (l.length + ts.length) (l.map Value.string ++ ts.map Value.string)) (hb : Below (w.heap.size + 1) W w') : PrI x u s w v' (l ++ ts) w' :=
  ⟨(hb.block _ (by omega)).trans h.note, by rw [List.length_append, List.map_append]; exact ho, h.bel.trans (hb.mono (by omega)), Nat.le_trans h.siz hb.size⟩
theorem PrI.below {x : Nt} {u s : Value} {w W w' : World} {v : Value} {l : List ByteArray} (h : PrI x u s w v l W) (hb : Below W.heap.size W w') : PrI x u s w v l w' :=
  ⟨h.note.below hb, own_below h.own hb, below_tr h.bel hb, Nat.le_trans h.siz hb.size⟩
theorem PrI.al {x : Nt} {u s : Value} {w W : World} {v : Value} {l : List ByteArray} (h : PrI x u s w v l W) (o : Obj) : PrI x u s w v l (W.alloc o) := h.below (below_al W o)
theorem PrI.drew {x : Nt} {u s : Value} {w W : World} {v : Value} {l : List ByteArray} (h : PrI x u s w v l W) : PrI x u s w v l W.drew := h.below (Below.refl _ _).drew
theorem own_new1 (W : World) (s : ByteArray) (base : Nat) (hb : base ≤ W.heap.size) : (W.alloc (.cells #[.string s] 9)).ownsRow base 9 1 (.slice (some ⟨W.heap.size, 0, none⟩) 1 1) 1 [.string s] := by
  refine ⟨rfl, .inr ⟨W.heap.size, 1, #[.string s], rfl, hb, heap_alloc_new W _, Nat.le_refl _, by unfold maxLen; omega, rfl, rfl⟩⟩
theorem prE_bounds {x : Nt} (h : NtOk x) : -9223372036854775808 ≤ x.fr ∧ x.fr ≤ 9223372036854775807 ∧ -9223372036854775808 ≤ x.to_ ∧ x.to_ ≤ 9223372036854775807 := by
  have := h.f1; have := h.f2; have := h.f3
  exact ⟨by omega, by omega, by omega, by omega⟩
theorem signs_of {p : Int} {b : Bool} {s : ByteArray} (hb : b = decide (p ≠ 1)) (hs : s = sgS p) (h1 : 1 ≤ p) (h4 : p ≤ 4) : (b = false → signsB p = []) ∧ (b = true → signsB p = [s]) := by
  have hp : p = 1 ∨ p = 2 ∨ p = 3 ∨ p = 4 := by omega
  rcases hp with rfl | rfl | rfl | rfl <;> subst hb <;> subst hs <;> exact ⟨by decide +kernel, by decide +kernel⟩
theorem signs_len (p : Int) : (signsB p).length ≤ 1 := by
  unfold signsB
  split
  · simp
  · split
    · simp
    · split <;> simp
theorem varsV_len (l : List Vr) : (varsV l).length ≤ 3 * l.length := by
  cases l with
  | nil => simp [varsV]
  | cons v r =>
    have : ∀ r : List Vr, (r.flatMap fun u => barB :: oneV u).length = 3 * r.length := by
      intro r
      induction r with
      | nil => rfl
      | cons a r ih => rw [List.flatMap_cons, List.length_append, ih]; simp [oneV]; omega
    unfold varsV
    rw [List.length_append, this]
    simp [oneV]; omega
theorem parts_len {x : Nt} (h : NtOk x) : (partsN x).length ≤ 12400 := by
  have h1 := varsV_len x.vs
  have h2 := h.vl
  have h3 := signs_len x.pl
  unfold partsN frontL
  simp only [List.length_append, List.length_singleton]
  split <;> split <;> simp only [List.length_nil, List.length_singleton] <;> omega
theorem row_own_ne {W : World} {k base size n : Nat} {cs : Array Value} {t e : TypeId} {v : Value} {xs : List Value} (h : Row W k cs t) (ho : W.ownsRow base e size v n xs) (hte : t ≠ e) : v.ownBlock ≠ some k := by
  rcases ho.2 with ⟨rfl, _⟩ | ⟨g, cap, cur, rfl, _, hh, _⟩
  · simp [Value.ownBlock]
  · intro he
    have : g = k := by simpa [Value.ownBlock] using he
    subst this
    unfold Row at h
    rw [hh] at h
    injection h with h
    injection h with _ h2
    exact hte h2.symm
theorem printT_300 {f l : ByteArray} {n : Int} (h : lemCk f l n = 0) : (printT f l n).size ≤ 300 := by
  obtain ⟨hf, hl, h0, h1⟩ := lck_parts h
  have e1 := wordB_66 hf
  have e2 : l.size ≤ 66 := by
    rcases hl with h | h
    · omega
    · exact wordB_66 h
  have e3 := itoaB_21 (n := n) (by omega) (by omega)
  rw [← ba_len, printT_data]
  have d1 := ba_len f
  have d2 := ba_len l
  have d3 := ba_len (itoaB n)
  rw [List.length_append, List.length_append]
  split <;> split <;> simp only [List.length_nil, List.length_append, List.length_cons] <;> omega
theorem sigs_size {l : List ByteArray} (h : ∀ s ∈ l, sigB s = true) (hl : l.length ≤ 4096) : (bracesB l).size ≤ 300000 := by
  have h1 := joinB_len (fun s hs => (sig_brc (h s hs)).2.1)
  have h2 : l.length * (16 + 1) ≤ 4096 * (16 + 1) := Nat.mul_le_mul hl (Nat.le_refl _)
  rw [← ba_len, braces_data, List.length_cons, List.length_append, ba_len]
  simp only [List.length_singleton]
  omega
theorem quote_size {l : List ByteArray} (h : ∀ s ∈ l, wordB s = true) (hl : l.length ≤ 4096) : (quoteB l).size ≤ 300000 := by
  have h1 := joinB_len (fun s hs => wordB_66 (h s hs))
  have h2 : l.length * (66 + 1) ≤ 4096 * (66 + 1) := Nat.mul_le_mul hl (Nat.le_refl _)
  unfold quoteB
  split
  · decide
  · omega
theorem parts_size {x : Nt} (h : NtOk x) : ∀ p ∈ partsN x, p.size ≤ 300000 := by
  intro p hp
  unfold partsN frontL at hp
  have hb := prE_bounds h
  simp only [List.mem_append, List.mem_singleton] at hp
  rcases hp with (rfl | hp | hp | hp) | rfl | hp
  · have h1 := itoaB_21 hb.1 hb.2.1
    have h2 := itoaB_21 hb.2.2.1 hb.2.2.2
    unfold spanB
    split
    · omega
    · rw [ByteArray.size_append, ByteArray.size_append]
      show _ + 1 + _ ≤ _
      omega
  · split at hp
    · cases hp
    · rename_i h4
      rw [List.mem_singleton.1 hp]
      have := printT_300 (h.lm h4); omega
  · have : signsB x.pl ⊆ [plusB, minB, starB] := by
      unfold signsB
      split
      · simp
      · split
        · simp
        · split <;> simp
    have hm := this hp
    simp only [List.mem_cons, List.not_mem_nil, or_false] at hm
    rcases hm with rfl | rfl | rfl <;> decide
  · split at hp
    · rw [List.mem_singleton.1 hp]; exact sigs_size h.sp h.sl
    · cases hp
  · decide
  · have hone : ∀ (v : Vr), v ∈ x.vs → ∀ q ∈ oneV v, q.size ≤ 300000 := by
      intro v hv q hq
      have hk := h.vs v hv
      unfold oneV at hq
      simp only [List.mem_cons, List.not_mem_nil, or_false] at hq
      rcases hq with rfl | rfl
      · exact quote_size hk.ws hk.wl
      · exact sigs_size hk.sg hk.sl
    cases hvs : x.vs with
    | nil => rw [hvs] at hp; cases hp
    | cons v r =>
      rw [hvs] at hp hone
      unfold varsV at hp
      rcases List.mem_append.1 hp with hp | hp
      · exact hone v (by simp) p hp
      · obtain ⟨u, hu, hp⟩ := List.mem_flatMap.1 hp
        rcases List.mem_cons.1 hp with rfl | hp
        · decide
        · exact hone u (by simp [hu]) p hp
theorem SgM.drewN {W : World} {r : Nat} (h : SgM W r) (n : Nat) : SgM (W.drewN n) r := h.below (below_drewN (Below.refl _ _) n)
set_option maxRecDepth 100000 in
set_option maxHeartbeats 4000000 in
theorem pprt_any (x : Nt) (u s : Value) (w : World) (he : Env w) (hr : RdN w u s x) (hz : SzN x) :
    Calls Tryz.prog 21 #[.agg (x.cells u s)] w fun e w' => e = .returned (.tuple #[.string (prS x), .int .i64 (prE x)]) ∧ Below w.heap.size w w' := by
  have HB0 := hid (below_al w (.cells (x.cells u s) 30))
  have HR0 := hid (row_nw w (x.cells u s) 30 rfl)
  have HC := hid (pchk_any x u s _ (he.below HB0.out) (hr.below HB0.out) hz)
  by_cases h0 : nteI x = 0
  · have hN := note_ok h0
    have HN := hid hN
    have hbd := prE_bounds hN
    have HSP := fun w' (h : Below w.heap.size w w') => hid (span_any x.fr x.to_ w' (he.below h) hbd.1 hbd.2.1 hbd.2.2.1 hbd.2.2.2)
    have HLM := fun (hp : x.pl ≠ 4) w' (h : Below w.heap.size w w') => hid (print_any x.lf x.ll x.ln w' (he.below h) hz.lf hz.ll (hN.lm hp))
    have HRD := fun w' (h : Below w.heap.size w w') => hid (hr.below h)
    have HFL : Hid (frontL x = [spanB x.fr x.to_] ++ ((if x.pl = 4 then [] else [printT x.lf x.ll x.ln]) ++ (signsB x.pl ++ (if x.pos = true then [bracesB x.sup] else [])))) := rfl
    have HPS : Hid ((joinB (partsN x)).size ≤ 140737488355328) := by
      show _ ≤ _
      have h1 := joinB_len (parts_size hN)
      have h2 := parts_len hN
      have h3 : (partsN x).length * (300000 + 1) ≤ 12400 * (300000 + 1) := Nat.mul_le_mul h2 (Nat.le_refl _)
      omega
    have HPL : Hid ((partsN x).length ≤ 12400) := parts_len hN
    rw [h0] at HC
    clear hN he hr
    obtain ⟨au, cu, rfl, hlu, hmu, _⟩ := (HRD w (Below.refl _ _)).out.rs.open
    obtain ⟨av, cv, rfl, hlv, hmv, _⟩ := (HRD w (Below.refl _ _)).out.rv.open
    unfold Nt.cells at HC
    go_enter Tryz.func21, Tryz.ntmps21
    unfold Nt.cells
    go_wp2_with fail
    (with_reducible refine HC.out.mono ?_)
    rintro e w1 ⟨rfl, hB1⟩
    have HR1 := hid (HR0.out.below hB1)
    have HB1 := hid (below_tr HB0.out hB1)
    unfold Nt.cells at HR1
    have c0 := HR1.out.cell 0 (x := .int .i64 x.fr) rfl
    have c1 := HR1.out.cell 1 (x := .int .i64 x.to_) rfl
    go_wp2_with fail
    (with_reducible refine (HSP _ HB1.out).out.mono ?_)
    rintro e w2 ⟨rfl, hB2⟩
    go_upto_region 5 with fail
    have HI3 : Hid (PrI x (.slice au x.sup.length cu) (.slice av x.vs.length cv) w (.slice (some ⟨w2.heap.size, 0, none⟩) 1 1) [spanB x.fr x.to_] (w2.alloc (.cells #[.string (spanB x.fr x.to_)] 9))) := by
      have hb := below_tr HB1.out hB2
      have hsz : w.heap.size + 1 ≤ w2.heap.size := by have h1 := HR1.out.lt; have h2 := hB2.size; omega
      exact ⟨((HR1.out.below hB2).al _), own_new1 w2 _ _ hsz, below_tr hb (below_al w2 _), by simp; omega⟩
    generalize w2.alloc (.cells #[.string (spanB x.fr x.to_)] 9) = W3 at *
    generalize w2.heap.size = n2 at *
    clear HB1 HR1 hB1 hB2 c0 c1 HSP HB0 HR0 HC
    have c2 := HI3.out.note.cell 2 (x := .int .i64 x.pl) rfl
    -- the lemma
    go_upto_if 26 with fail
    go_cut [5] from 24 to 39 (fun v wx => PrI x (.slice au x.sup.length cu) (.slice av x.vs.length cv) w v ([spanB x.fr x.to_] ++ (if x.pl = 4 then [] else [printT x.lf x.ll x.ln])) wx)
    case first =>
      by_cases hp : x.pl = 4
      · have hpb : (x.pl != 4) = false := by rw [hp]; rfl
        have hpc : (x.pl == 4) = true := by rw [hp]; rfl
        have HX : Hid ((if x.pl = 4 then [] else [printT x.lf x.ll x.ln]) = []) := by show _ = _; rw [if_pos hp]
        clear hp
        go_wp2_with fail
        go_meet
        rw [HX.out]
        exact HI3.out
      · have hpb : (x.pl != 4) = true := bne_iff_ne.2 hp
        have hpc : (x.pl == 4) = false := beq_eq_false_iff_ne.2 hp
        have HX : Hid ((if x.pl = 4 then [] else [printT x.lf x.ll x.ln]) = [printT x.lf x.ll x.ln]) := by show _ = _; rw [if_neg hp]
        have HLM2 := fun w' h => HLM hp w' h
        have c3 := HI3.out.note.cell 3 (x := .string x.lf) rfl
        have c4 := HI3.out.note.cell 4 (x := .string x.ll) rfl
        have c5 := HI3.out.note.cell 5 (x := .int .i64 x.ln) rfl
        clear HLM hp
        go_wp2_with fail
        (with_reducible refine (HLM2 _ HI3.out.bel).out.mono ?_)
        rintro e w4 ⟨rfl, hB4⟩
        clear c3 c4 c5
        have HI4 := hid (HI3.out.below hB4)
        clear hB4 HLM2 HI3
        have hown := HI4.out.own
        go_wp2_with (at_builtin; refine wpList_ap rfl _ _ 23 rfl (w.heap.size + 1) 9 Tryz.underlying23 infoStr rfl (by decide) (by decide) _ _ _ rfl hown [.string (printT x.lf x.ll x.ln)] rfl (by simp [Value.oneCell']) rfl (by simp) (by first | omega | (simp; done) | (simp; omega)) HI4.out.siz ?_; intro v5 w5 hown5 hb5 _)
        have HI5 := hid (HI4.out.push [(printT x.lf x.ll x.ln)] hown5 hb5)
        clear hown hown5 hb5
        go_meet
        rw [HX.out]
        exact HI5.out
    case rest =>
      obtain ⟨va, hI⟩ : ∃ va, va = va := ⟨0, rfl⟩
      clear hI va
      obtain ⟨lA, hlA⟩ : ∃ l, l = [spanB x.fr x.to_] ++ (if x.pl = 4 then [] else [printT x.lf x.ll x.ln]) := ⟨_, rfl⟩
      have hlAn : lA.length ≤ 2 := by rw [hlA]; split <;> simp
      rw [← hlA] at hcut
      have HLA := hid hlA
      clear hlA
      have HI6 := hid hcut
      obtain ⟨bq, hbq⟩ : ∃ b, b = decide (x.pl ≠ 1) := ⟨_, rfl⟩
      obtain ⟨sg, hsg⟩ : ∃ b, b = sgS x.pl := ⟨_, rfl⟩
      have HLK := fun (W : World) (r : Nat) (h : SgM W r) => hid (sg_look h x.pl HN.out.p1 HN.out.p4)
      rw [← hbq, ← hsg] at HLK
      have HSG := hid (And.intro hbq hsg)
      clear hbq hsg
      have c2 := hcut.note.cell 2 (x := .int .i64 x.pl) rfl
      have hI := hcut
      clear hcut HI3 HLM
      go_upto_region 10 with fail
      go_cut [8, 9] from 40 to 46 (fun sv bv wx => sv = .string sg ∧ bv = .bool bq ∧ PrI x (.slice au x.sup.length cu) (.slice av x.vs.length cv) w u5 lA wx)
      case first =>
        go_region_held3 (fun w' => w'.cell? ⟨w.heap.size, 2, none⟩ = some (.int .i64 x.pl) ∧ PrI x (.slice au x.sup.length cu) (.slice av x.vs.length cv) w u5 lA w')
          ((refine ⟨?_, ?_⟩ <;> first | assumption | (exact PrI.drew (by assumption)) | go_keep))
          (first
            | (go_at_call 51; go_split_ands; refine (signs_any _).mono ?_; rintro e w6 ⟨r, rfl, hsm, hB6, _⟩; have z0 := Below.keeps hB6 _ _ (by assumption : World.cell? _ ⟨w.heap.size, 2, none⟩ = some _); have z1 := PrI.below (by assumption) hB6; have hlk := (HLK _ _ hsm).out; have hlk2 := (HLK _ _ (SgM.drewN hsm 1)).out))
        all_goals go_split_ands
        all_goals (go_wp2_with fail; go_meet; exact ⟨rfl, rfl, by assumption⟩)
      case rest =>
        obtain ⟨rfl, rfl, hI7⟩ := hcut
        clear hI c2 HI6 HLK
        have HI7 := hid hI7
        clear hI7
        -- the sign
        go_upto_if 47 with fail
        go_cut [5] from 47 to 51 (fun v wx => PrI x (.slice au x.sup.length cu) (.slice av x.vs.length cv) w v (lA ++ signsB x.pl) wx)
        case first =>
          have HX := hid (signs_of HSG.out.1 HSG.out.2 HN.out.p1 HN.out.p4)
          cases bq with
          | false =>
            have HX1 := hid (HX.out.1 rfl)
            clear HX
            go_wp2_with fail
            go_meet
            rw [HX1.out, List.append_nil]
            exact HI7.out
          | true =>
            have HX1 := hid (HX.out.2 rfl)
            clear HSG HX
            have hown := HI7.out.own
            go_wp2_with (at_builtin; refine wpList_ap rfl _ _ 23 rfl (w.heap.size + 1) 9 Tryz.underlying23 infoStr rfl (by decide) (by decide) _ _ _ rfl hown [.string sg] rfl (by simp [Value.oneCell']) rfl (by simp) (by first | omega | (simp; done) | (simp; omega)) HI7.out.siz ?_; intro v8 w8 hown8 hb8 _)
            have HI8 := hid (HI7.out.push [sg] hown8 hb8)
            clear hown hown8 hb8
            go_meet
            rw [HX1.out]
            exact HI8.out
        case rest =>
          obtain ⟨lC, hlC⟩ : ∃ l, l = lA ++ signsB x.pl := ⟨_, rfl⟩
          have hlCn : lC.length ≤ 3 := by
            have := signs_len x.pl
            rw [hlC, List.length_append]; omega
          rw [← hlC] at hcut
          have HLC := hid hlC
          clear hlC
          have HI8 := hid hcut
          obtain ⟨ps, hps⟩ : ∃ b, b = x.pos := ⟨_, rfl⟩
          have c6 : wc.cell? ⟨w.heap.size, 6, none⟩ = some (.bool ps) := by rw [hps]; exact hcut.note.cell 6 (x := .bool x.pos) rfl
          have HPS := hid hps
          clear hps
          have c7 := hcut.note.cell 7 (x := .slice au x.sup.length cu) rfl
          clear hcut HI7 HSG
          -- the support
          go_upto_if 53 with fail
          go_cut [5] from 52 to 59 (fun v wx => PrI x (.slice au x.sup.length cu) (.slice av x.vs.length cv) w v (lC ++ (if x.pos = true then [bracesB x.sup] else [])) wx)
          case first =>
            cases ps with
            | false =>
              have HX1 : Hid ((if x.pos = true then [bracesB x.sup] else []) = []) := by show _ = _; rw [← HPS.out]; rfl
              clear HPS
              go_wp2_with fail
              go_meet
              rw [HX1.out, List.append_nil]
              exact HI8.out
            | true =>
              have HX1 : Hid ((if x.pos = true then [bracesB x.sup] else []) = [bracesB x.sup]) := by show _ = _; rw [← HPS.out]; rfl
              clear HPS
              have hjz := joinB_len (fun s hs => (sig_brc (HN.out.sp s hs)).2.1)
              have hsl := HN.out.sl
              have h2 : x.sup.length * (16 + 1) ≤ 4096 * (16 + 1) := Nat.mul_le_mul hsl (Nat.le_refl _)
              have HBR := fun w' h => hid (braces_any (.slice au x.sup.length cu) x.sup w' h (by omega) (by omega))
              clear hjz h2
              go_wp2_with fail
              (with_reducible refine (HBR _ (HRD _ HI8.out.bel).out.rs).out.mono ?_)
              rintro e w9 ⟨rfl, hB9⟩
              have HI9 := hid (HI8.out.below hB9)
              clear hB9 HBR c6 c7
              have hown := HI9.out.own
              go_wp2_with (at_builtin; refine wpList_ap rfl _ _ 23 rfl (w.heap.size + 1) 9 Tryz.underlying23 infoStr rfl (by decide) (by decide) _ _ _ rfl hown [.string (bracesB x.sup)] rfl (by simp [Value.oneCell']) rfl (by simp) (by first | omega | (simp; done) | (simp; omega)) HI9.out.siz ?_; intro v10 w10 hown10 hb10 _)
              have HI10 := hid (HI9.out.push [(bracesB x.sup)] hown10 hb10)
              clear hown hown10 hb10
              go_meet
              rw [HX1.out]
              exact HI10.out
          case rest =>
            obtain ⟨lD, hlD⟩ : ∃ l, l = lC ++ (if x.pos = true then [bracesB x.sup] else []) := ⟨_, rfl⟩
            have hlDn : lD.length ≤ 4 := by rw [hlD, List.length_append]; split <;> simp <;> omega
            rw [← hlD] at hcut
            have HLD := hid hlD
            have HI11 := hid hcut
            clear hcut HI8 c6 c7 HPS hlD
            -- the ]
            go_upto_region 15 with fail
            have hown := HI11.out.own
            go_wp2_with (at_builtin; refine wpList_ap rfl _ _ 23 rfl (w.heap.size + 1) 9 Tryz.underlying23 infoStr rfl (by decide) (by decide) _ _ _ rfl hown [.string ⟨#[93]⟩] rfl (by simp [Value.oneCell']) rfl (by simp) (by first | omega | (simp; done) | (simp; omega)) HI11.out.siz ?_; intro v12 w12 hown12 hb12 _; have HI12 := hid (HI11.out.push [behB] hown12 hb12); have c8 := HI12.out.note.cell 8 (x := .slice av x.vs.length cv) rfl)
            clear hown hown12 hb12
            obtain ⟨lE, hlE⟩ : ∃ l, l = lD ++ [behB] := ⟨_, rfl⟩
            have hlEn : lE.length ≤ 5 := by rw [hlE, List.length_append, List.length_singleton]; omega
            have HI13 : Hid (PrI x (.slice au x.sup.length cu) (.slice av x.vs.length cv) w v12 lE w12) := by show PrI _ _ _ _ _ _ _; rw [hlE]; exact HI12.out
            have HLE := hid hlE
            clear HI11 HI12 hlE c8
            have HVS := fun w' (h : Below w.heap.size w w') => hid ((HRD w' h).out.rv)
            obtain ⟨_, _, he8, _, _, hcell⟩ := (HRD w (Below.refl _ _)).out.rv.open
            simp only [Value.slice.injEq] at he8
            obtain ⟨rfl, _, rfl⟩ := he8
            have HC := hid hcell
            have HVL : Hid (x.vs.length ≤ 4096) := HN.out.vl
            have HNV : Hid (∀ v ∈ x.vs, VrOk x.pl v) := HN.out.vs
            clear hcell HRD HVS
            generalize hvsl : x.vs = vs at *
            go_loopw [5, 66] (fun v i wr => ∃ k : Nat, k ≤ vs.length ∧ i = .int .i64 k ∧ Hid (PrI x (.slice au x.sup.length cu) (.slice av vs.length cv) w v (lE ++ varsV (vs.take k)) wr)) (fun _ i _ => vs.length - (intOf i).toNat)
            case atStart => exact ⟨0, Nat.zero_le _, rfl, by show PrI _ _ _ _ _ _ _; rw [List.take_zero, varsV, List.append_nil]; exact HI13.out⟩
            case round =>
              obtain ⟨k, hk, rfl, HI⟩ := hrel
              by_cases hlt : k < vs.length
              · obtain ⟨y, b, o, vw, vg, hx, rfl, d0, d1, rw0, rs0⟩ := HC.out k hlt
                have hki : (k : Int) < (vs.length : Int) := by omega
                have e0 := Below.keeps HI.out.bel _ _ d0
                have e1 := Below.keeps HI.out.bel _ _ d1
                have hok := HNV.out y (List.mem_of_getElem? hx)
                have j1 := joinB_len (fun s hs => wordB_66 (hok.ws s hs))
                have j2 := joinB_len (fun s hs => (sig_brc (hok.sg s hs)).2.1)
                have j3 : y.ws.length * (66 + 1) ≤ 4096 * (66 + 1) := Nat.mul_le_mul hok.wl (Nat.le_refl _)
                have j4 : y.sg.length * (16 + 1) ≤ 4096 * (16 + 1) := Nat.mul_le_mul hok.sl (Nat.le_refl _)
                have j5 := hok.wl
                have j6 := hok.sl
                have HQ := fun w' h => hid (quote_any vw y.ws w' (rw0.below h) (by omega) (by omega))
                have HBR := fun w' h => hid (braces_any vg y.sg w' (rs0.below h) (by omega) (by omega))
                have EQ := enters_of Tryz.func53 (by kernel_rfl) rfl
                have EB := enters_of Tryz.func52 (by kernel_rfl) rfl
                have HOV : Hid (oneV y = [quoteB y.ws, bracesB y.sg]) := rfl
                clear j1 j2 j3 j4 j5 j6 hok d0 d1
                obtain ⟨aw, cw, rfl, hlw, hmw, _⟩ := rw0.open
                obtain ⟨ag, cg, rfl, hlg, hmg, _⟩ := rs0.open
                clear rw0 rs0
                have HV1 := hid (varsV_snoc (vs.take k) y)
                have HV2 : Hid (vs.take (k + 1) = vs.take k ++ [y]) := by show _ = _; rw [List.take_add_one, hx]; rfl
                have HV3 : Hid ((vs.take k).length = k) := by show _ = _; rw [List.length_take]; omega
                have hvl := varsV_len (vs.take k)
                have hVL := HVL.out
                rw [HV3.out] at hvl
                obtain ⟨lK, hlK⟩ : ∃ l, l = lE ++ varsV (vs.take k) := ⟨_, rfl⟩
                have hlKn : lK.length ≤ 12400 := by rw [hlK, List.length_append]; omega
                rw [← hlK] at HI
                have HLK := hid hlK
                clear hlK hvl hVL hx
                generalize quoteB y.ws = qv at *
                generalize bracesB y.sg = bv at *
                generalize y.ws.length = nw at *
                generalize y.sg.length = ng at *
                have HI1 := hid (HI.out.al (.cells #[.slice aw nw cw, .slice ag ng cg] 63))
                have HRv := hid (row_nw wr #[.slice aw nw cw, .slice ag ng cg] 63 rfl)
                have hsz := HI.out.siz
                by_cases hk0 : k = 0
                · have hk0i : ¬ (0 : Int) < (k : Int) := by omega
                  have HF : Hid (lK ++ [qv, bv] = lE ++ varsV (vs.take (k + 1))) := by
                    show _ = _
                    rw [HLK.out, HV2.out, HV1.out, if_pos (by rw [HV3.out]; exact hk0), List.append_assoc, HOV.out]
                  clear HI hk0 HV1 HV2 HV3
                  go_upto_region 21 with fail
                  generalize wr.alloc (.cells #[.slice aw nw cw, .slice ag ng cg] 63) = W1 at *
                  generalize wr.heap.size = nv at *
                  generalize u5 = v5 at *
                  have r0 := HRv.out.cell 0 (x := .slice aw nw cw) rfl
                  have r1 := HRv.out.cell 1 (x := .slice ag ng cg) rfl
                  have hI := HI1.out
                  clear HI1
                  go_region_law (first
                    | (refine step_callB rfl 53 EQ (.tmp 78) #[23] rfl (.slice aw nw cw) (by simp [Act.eval]) (.string qv) (HQ _ (PrI.bel (by first | exact hI | exact PrI.drew hI))).out ?_; intro w6 hB6; have z1 := Below.keeps hB6 _ _ r1; have z2 := PrI.below (by first | exact hI | exact PrI.drew hI) hB6)
                    | (refine step_callB rfl 52 EB (.tmp 81) #[23] rfl (.slice ag ng cg) (by simp [Act.eval]) (.string bv) (HBR _ (PrI.bel (by first | with_reducible assumption | (with_reducible refine PrI.drew ?_; with_reducible assumption)))).out ?_; intro w7 hB7; have z3 := PrI.below (by first | with_reducible assumption | (with_reducible refine PrI.drew ?_; with_reducible assumption)) hB7)
                    | (refine step_ap rfl (.tmp 76) (.tmp 83) 23 rfl (w.heap.size + 1) 9 Tryz.underlying23 infoStr rfl (by decide) (by decide) v5 lK.length (lK.map Value.string) ?_ ?_ 2 (by decide) [.string qv, .string bv] rfl ?_ w7.heap.size ?_ ?_ ?_ ?_ ?_; (focus (simp [Act.eval]; done)); (focus (refine PrI.own (x := x) (u := .slice au x.sup.length cu) (s := .slice (some ⟨b, o, none⟩) vs.length cv) ?_; (repeat (first | with_reducible assumption | with_reducible refine PrI.drew ?_ | with_reducible refine PrI.al ?_ _)); done)); (focus (simp [Value.oneCell']; done)); (focus (simp [Act.eval]; done)); (focus (intro j u hj; exact cell_nw w7 #[.string qv, .string bv] _ j (by simpa using hj))); (focus (first | omega | (simp; omega))); (focus (refine PrI.siz (x := x) (u := .slice au x.sup.length cu) (s := .slice (some ⟨b, o, none⟩) vs.length cv) (v := v5) (l := lK) ?_; (repeat (first | with_reducible assumption | with_reducible refine PrI.drew ?_ | with_reducible refine PrI.al ?_ _)); done)); intro g9 c9 w9 ho9 hb9 _ _; have HI9 := hid (PrI.push z3 [qv, bv] ho9 (Below.trans ((below_al w7 _).mono (by have := z3.siz; omega)) hb9))))
                  all_goals (go_wp2_with fail; go_roundw)
                  all_goals (first | (simp [intOf]; omega; done) | (refine ⟨k + 1, by omega, by go_num, ?_⟩; show PrI _ _ _ _ _ _ _; rw [← HF.out]; exact HI9.out))
                  -- END
                · have hk0i : (0 : Int) < (k : Int) := by omega
                  have HF : Hid ((lK ++ [barB]) ++ [qv, bv] = lE ++ varsV (vs.take (k + 1))) := by
                    show _ = _
                    rw [HLK.out, HV2.out, HV1.out, if_neg (by rw [HV3.out]; exact hk0), List.append_assoc, List.append_assoc, List.append_assoc, HOV.out]
                  have hown := HI1.out.own
                  have HNE := hid (row_own_ne HRv.out hown (by decide))
                  clear HI hk0 HV1 HV2 HV3
                  go_upto_region 21 with (at_builtin; refine wpList_ap rfl _ _ 23 rfl (w.heap.size + 1) 9 Tryz.underlying23 infoStr rfl (by decide) (by decide) _ _ _ rfl hown [.string ⟨#[124]⟩] rfl (by simp [Value.oneCell']) rfl (by simp) (by omega) HI1.out.siz ?_; intro v5 w5 hown5 hb5 hg5)
                  have HI5 := hid (HI1.out.push [barB] hown5 hb5)
                  have HRv5 : Hid (Row w5 wr.heap.size #[.slice aw nw cw, .slice ag ng cg] 63) := (hg5.block _ HRv.out.lt (Ne.symm HNE.out)).trans HRv.out
                  clear HI1 HRv hown hown5 hb5 hg5 HNE
                  generalize wr.heap.size = nv at *
                  obtain ⟨lJ, hlJ⟩ : ∃ l, l = lK ++ [barB] := ⟨_, rfl⟩
                  have hlJn : lJ.length ≤ 12401 := by rw [hlJ, List.length_append, List.length_singleton]; omega
                  have hlJe : lK.length + 1 = lJ.length := by rw [hlJ, List.length_append, List.length_singleton]
                  rw [← hlJ] at HI5 HF
                  clear hlJ
                  have r0 := HRv5.out.cell 0 (x := .slice aw nw cw) rfl
                  have r1 := HRv5.out.cell 1 (x := .slice ag ng cg) rfl
                  have hI := HI5.out
                  clear HI5
                  go_region_law (first
                    | (refine step_callB rfl 53 EQ (.tmp 78) #[23] rfl (.slice aw nw cw) (by simp [Act.eval]) (.string qv) (HQ _ (PrI.bel (by first | exact hI | exact PrI.drew hI))).out ?_; intro w6 hB6; have z1 := Below.keeps hB6 _ _ r1; have z2 := PrI.below (by first | exact hI | exact PrI.drew hI) hB6)
                    | (refine step_callB rfl 52 EB (.tmp 81) #[23] rfl (.slice ag ng cg) (by simp [Act.eval]) (.string bv) (HBR _ (PrI.bel (by first | with_reducible assumption | (with_reducible refine PrI.drew ?_; with_reducible assumption)))).out ?_; intro w7 hB7; have z3 := PrI.below (by first | with_reducible assumption | (with_reducible refine PrI.drew ?_; with_reducible assumption)) hB7)
                    | (refine step_ap rfl (.tmp 76) (.tmp 83) 23 rfl (w.heap.size + 1) 9 Tryz.underlying23 infoStr rfl (by decide) (by decide) v5 lJ.length (lJ.map Value.string) ?_ ?_ 2 (by decide) [.string qv, .string bv] rfl ?_ w7.heap.size ?_ ?_ ?_ ?_ ?_; (focus (simp [Act.eval]; done)); (focus (refine PrI.own (x := x) (u := .slice au x.sup.length cu) (s := .slice (some ⟨b, o, none⟩) vs.length cv) ?_; (repeat (first | with_reducible assumption | with_reducible refine PrI.drew ?_ | with_reducible refine PrI.al ?_ _)); done)); (focus (simp [Value.oneCell']; done)); (focus (simp [Act.eval]; done)); (focus (intro j u hj; exact cell_nw w7 #[.string qv, .string bv] _ j (by simpa using hj))); (focus (first | omega | (simp; omega))); (focus (refine PrI.siz (x := x) (u := .slice au x.sup.length cu) (s := .slice (some ⟨b, o, none⟩) vs.length cv) (v := v5) (l := lJ) ?_; (repeat (first | with_reducible assumption | with_reducible refine PrI.drew ?_ | with_reducible refine PrI.al ?_ _)); done)); intro g9 c9 w9 ho9 hb9 _ _; have HI9 := hid (PrI.push z3 [qv, bv] ho9 (Below.trans ((below_al w7 _).mono (by have := z3.siz; omega)) hb9))))
                  all_goals (go_wp2_with fail; go_roundw)
                  all_goals (first | (simp [intOf]; omega; done) | (refine ⟨k + 1, by omega, by go_num, ?_⟩; show PrI _ _ _ _ _ _ _; rw [← HF.out]; exact HI9.out))
                  -- END
              · have hki : ¬ (k : Int) < (vs.length : Int) := by omega
                have HX : Hid (lE ++ varsV vs = partsN x) := by
                  show _ = _
                  rw [HLE.out, HLD.out, HLC.out, HLA.out]
                  unfold partsN frontL
                  rw [hvsl]
                  simp only [List.append_assoc]
                rw [List.take_of_length_le (by omega), HX.out] at HI
                have hbig := HPS.out
                have hpl := HPL.out
                have HJ := hid (joinX_any _ (partsN x) wr (Rd.of_own HI.out.own) (by omega) (by omega))
                have HB := hid HI.out.bel
                have HI2 : Hid (prE x = if 65536 < (joinB (partsN x)).size then 4 else 0) := by show _ = _; unfold prE; rw [if_pos h0]; rfl
                have HS2 : Hid (prS x = if prE x = 0 then joinB (partsN x) else ⟨#[]⟩) := rfl
                clear HI HLE HLD HLC HLA HX hpl HPL HPS HFL HN HNV HC HVL
                generalize joinB (partsN x) = j at *
                by_cases hj : 65536 < j.size
                · have hji : (65536 : Int) < (j.size : Int) := by omega
                  have HV : Hid (prE x = 4) := by show _ = _; rw [HI2.out, if_pos hj]
                  have HV2 : Hid (prS x = ⟨#[]⟩) := by show _ = _; rw [HS2.out, HV.out]; rfl
                  go_wp2_with fail
                  (with_reducible refine HJ.out.mono ?_)
                  rintro e w9 ⟨rfl, hB9⟩
                  go_wp2
                  go_ret2
                  exact ⟨by rw [HV.out, HV2.out]; rfl, below_tr HB.out hB9⟩
                · have hji : ¬ (65536 : Int) < (j.size : Int) := by omega
                  have HV : Hid (prE x = 0) := by show _ = _; rw [HI2.out, if_neg hj]
                  have HV2 : Hid (prS x = j) := by show _ = _; rw [HS2.out, HV.out]; rfl
                  go_wp2_with fail
                  (with_reducible refine HJ.out.mono ?_)
                  rintro e w9 ⟨rfl, hB9⟩
                  go_wp2
                  go_ret2
                  exact ⟨by rw [HV.out, HV2.out]; rfl, below_tr HB.out hB9⟩
  · have hb : (nteI x == 0) = false := beq_eq_false_iff_ne.2 h0
    have HV : Hid (prE x = nteI x) := by show _ = _; unfold prE; rw [if_neg h0]
    have HV2 : Hid (prS x = ⟨#[]⟩) := by show _ = _; unfold prS; rw [HV.out, if_neg h0]
    clear h0 he
    obtain ⟨au, cu, rfl, hlu, hmu, _⟩ := hr.rs.open
    obtain ⟨av, cv, rfl, hlv, hmv, _⟩ := hr.rv.open
    clear hr
    generalize prE x = pe at *
    generalize prS x = ps at *
    generalize nteI x = ne at *
    unfold Nt.cells at *
    go_enter Tryz.func21, Tryz.ntmps21
    go_wp2_with fail
    (with_reducible refine HC.out.mono ?_)
    rintro e w1 ⟨rfl, hB1⟩
    go_wp2
    go_ret2
    exact ⟨by rw [HV.out, HV2.out]; rfl, below_tr HB0.out hB1⟩
end Go.Proofs.YtjhdeoniafahbaaGreatDoor
namespace Go.Proofs.YtjhdeoniafahbaaGreatDoor
open Go.RowKit
set_option maxRecDepth 100000 in
set_option maxHeartbeats 16000000 in
theorem pof_any (ls la : List Int) (ws : List ByteArray) (x : En) (v1 v2 v3 u s : Value) (w : World) (he : Env w) (h1 : RdI w v1 ls) (h2 : RdI w v2 la) (h3 : RdS w v3 ws) (hE : RdE w u s x)
    (hz : Sz16 ws) (hzE : SzE x) (hl1 : ls.length = ws.length) (hl2 : la.length = ws.length) (hlen : ws.length ≤ 13) :
    Calls Tryz.prog 38 #[v1, v2, v3, .agg (x.cells u s)] w fun r w' => OfR (ofN ls la ws x) (ofI ls la ws x) w r w' := by
  have HE := fun w' (h : Below w.heap.size w w') => hid (he.below h)
  have H1 := fun w' (h : Below w.heap.size w w') => hid (h1.below h)
  have H2 := fun w' (h : Below w.heap.size w w') => hid (h2.below h)
  have H3 := fun w' (h : Below w.heap.size w w') => hid (h3.below h)
  have HR := fun w' (h : Below w.heap.size w w') => hid (hE.below h)
  have HB0 := hid (below_tr (below_al w (.cells (x.cells u s) 26)) (below_al _ (.cells zeroN 30)))
  have HOS : Hid (OfS x u s w ((w.alloc (.cells (x.cells u s) 26)).alloc (.cells zeroN 30))) :=
    ⟨(row_nw w (x.cells u s) 26 rfl).al _, by
      have := row_nw (w.alloc (.cells (x.cells u s) 26)) zeroN 30 rfl
      rw [show (w.alloc (.cells (x.cells u s) 26)).heap.size = w.heap.size + 1 by simp] at this
      exact this, HB0.out⟩
  have HI : Hid (ofI ls la ws x = if x.fr < 0 ∨ x.to_ < x.fr ∨ (ws.length : Int) < x.to_ then 2
    else if (ofPl x.fr x.to_ ws.length).1 ≠ 4 ∧ (ofLm ls la ws (ofPl x.fr x.to_ ws.length).2.1 (ofPl x.fr x.to_ ws.length).2.2).2.2.2 ≠ 0 then (ofLm ls la ws (ofPl x.fr x.to_ ws.length).2.1 (ofPl x.fr x.to_ ws.length).2.2).2.2.2
    else nteI (ofN ls la ws x)) := rfl
  obtain ⟨a1, c1, rfl, hq1, hm1, hC1⟩ := h1.open
  obtain ⟨a2, c2, rfl, hq2, hm2, hC2⟩ := h2.open
  obtain ⟨a3, c3, rfl, hq3, hm3, _⟩ := h3.open
  have HC1 := hid hC1
  have HC2 := hid hC2
  have HL1 := hid hl1
  have HL2b := hid hl2
  obtain ⟨au, cu, rfl, hqu, hmu, _⟩ := hE.rs.open
  obtain ⟨av, cv, rfl, hqv, hmv, _⟩ := hE.rv.open
  clear he h1 h2 h3 hE hC1 hC2 hl1 hl2
  unfold En.cells
  by_cases k0 : x.fr < 0 ∨ x.to_ < x.fr ∨ (ws.length : Int) < x.to_
  · have HV : Hid (ofI ls la ws x = 2) := by show _ = _; rw [HI.out, if_pos k0]
    clear HI
    have done : ∀ w', Below w.heap.size w w' → OfR (ofN ls la ws x) (ofI ls la ws x) w (.returned (.tuple #[.agg zeroN, .int .i64 2])) w' := fun w' hb => ⟨nt0, none, 0, 0, none, 0, 0, by rw [HV.out]; rfl, (fun h => (by rw [HV.out] at h; cases h)), hb⟩
    have HDn := hid done
    clear done
    unfold En.cells zeroN at HB0
    by_cases k1 : x.fr < 0
    · clear k0
      go_enter Tryz.func38, Tryz.ntmps38
      go_wp2
      exact bodyPost_ret (v := .tuple #[.agg zeroN, .int .i64 2]) (by simp [results, Tryz.f38, go_sem, zeroN]) rfl (HDn.out _ HB0.out)
    · by_cases k2 : x.to_ < x.fr
      · clear k0
        go_enter Tryz.func38, Tryz.ntmps38
        go_wp2
        exact bodyPost_ret (v := .tuple #[.agg zeroN, .int .i64 2]) (by simp [results, Tryz.f38, go_sem, zeroN]) rfl (HDn.out _ HB0.out)
      · have k3 : (ws.length : Int) < x.to_ := by omega
        clear k0
        go_enter Tryz.func38, Tryz.ntmps38
        go_wp2
        exact bodyPost_ret (v := .tuple #[.agg zeroN, .int .i64 2]) (by simp [results, Tryz.f38, go_sem, zeroN]) rfl (HDn.out _ HB0.out)
  · have k1 : ¬ x.fr < 0 := by omega
    have k2 : ¬ x.to_ < x.fr := by omega
    have k3 : ¬ (ws.length : Int) < x.to_ := by omega
    clear k0
    go_enter Tryz.func38, Tryz.ntmps38
    go_upto_region 3 with fail
    unfold En.cells zeroN at HOS
    generalize (w.alloc (.cells #[.int .i64 x.ly, .int .i64 x.fr, .int .i64 x.to_, .bool x.pos, .slice au x.sup.length cu, .slice av x.vs.length cv] 26)).alloc (.cells #[.int .i64 0, .int .i64 0, .int .i64 0, .string ⟨#[]⟩, .string ⟨#[]⟩, .int .i64 0, .bool false, .slice none 0 0, .slice none 0 0] 30) = W0 at *
    have hI := HOS.out
    have EC := enters_of Tryz.func42 (by kernel_rfl) rfl
    have e3 := hI.ent.cell 3 (x := .bool x.pos) rfl
    have e4 := hI.ent.cell 4 (x := .slice au x.sup.length cu) rfl
    have e3a := cell_al e3 (.cells #[.int .i64 0, .int .i64 0, .int .i64 0, .string ⟨#[]⟩, .string ⟨#[]⟩, .int .i64 0, .bool false, .slice none 0 0, .slice none 0 0] 30)
    have e4a := cell_al e4 (.cells #[.int .i64 0, .int .i64 0, .int .i64 0, .string ⟨#[]⟩, .string ⟨#[]⟩, .int .i64 0, .bool false, .slice none 0 0, .slice none 0 0] 30)
    have hWs : w.heap.size + 2 ≤ W0.heap.size := hI.res.lt
    have HCL := fun w' (h : Below w.heap.size w w') => hid (cloneF_any (.slice au x.sup.length cu) x.sup w' (HR w' h).out.rs (by have := hzE.sl; omega))
    go_cut [10] from 37 to 42 (fun p wx => OfC x (.slice au x.sup.length cu) (.slice av x.vs.length cv) w p wx)
    case first =>
      go_region_law (first
        | (refine step_callC rfl 42 EC (.tmp 40) #[23] rfl (.slice au x.sup.length cu) (by simp [Act.eval]) x.sup (HCL W0.drew hI.drew.bel).out ?_; intro ad c w6 hr6 hB6; have z3 := Below.keeps hB6 _ _ e3; have z3a := cell_al z3 (.cells #[.int .i64 0, .int .i64 0, .int .i64 0, .string ⟨#[]⟩, .string ⟨#[]⟩, .int .i64 0, .bool false, .slice none 0 0, .slice none 0 0] 30); have z1 := hI.drew.below hB6)
        | (refine step_callC rfl 42 EC (.tmp 40) #[23] rfl (.slice au x.sup.length cu) (by simp [Act.eval]) x.sup (HCL (W0.alloc (.cells zeroN 30)).drew (hI.al _).drew.bel).out ?_; intro ad c w6 hr6 hB6; have z3 := Below.keeps hB6 _ _ (cell_al e3 (.cells zeroN 30)); have z1 := (hI.al (.cells zeroN 30)).drew.below hB6; have zr := Row.below (Row.drew (row_nw W0 zeroN 30 rfl)) hB6; have q0 := zr.cell 0 (x := .int .i64 0) rfl; have q1 := zr.cell 1 (x := .int .i64 0) rfl; have q2 := zr.cell 2 (x := .int .i64 0) rfl; have q3 := zr.cell 3 (x := .string ⟨#[]⟩) rfl; have q4 := zr.cell 4 (x := .string ⟨#[]⟩) rfl; have q5 := zr.cell 5 (x := .int .i64 0) rfl; have q6 := zr.cell 6 (x := .bool false) rfl; have q7 := zr.cell 7 (x := .slice none 0 0) rfl; have q8 := zr.cell 8 (x := .slice none 0 0) rfl; have g0 := zr.frozen 0; have g1 := zr.frozen 1; have g2 := zr.frozen 2; have g3 := zr.frozen 3; have g4 := zr.frozen 4; have g5 := zr.frozen 5; have g6 := zr.frozen 6; have g7 := zr.frozen 7; have g8 := zr.frozen 8))
      all_goals (go_wp2_with fail; go_meet)
      all_goals first
        | with_reducible exact OfC.fold hr6 z1
        | with_reducible exact OfC.sets zr hWs hr6 z1
    case rest =>
      obtain ⟨B, ab, cb, rfl, hBlo, hRB, hSB, hOS⟩ := hcut
      have e5 := hOS.ent.cell 5 (x := .slice av x.vs.length cv) rfl
      have HLP : Hid (OfL x (.slice au x.sup.length cu) (.slice av x.vs.length cv) w B (.slice ab x.sup.length cb) (.slice none 0 0) [] wc) := ⟨hOS, hRB, hSB, World.ownsRow_nil _ _ _ _, fun p hp => by cases hp⟩
      have EC := enters_of Tryz.func42 (by kernel_rfl) rfl
      have HVC := hid (HR w (Below.refl _ _)).out.rv
      have HZE := hid hzE
      clear hRB hSB hOS e3 e4 e3a e4a hWs HCL hI HOS HB0 hzE
      go_wp2_with fail
      obtain ⟨_, _, he8, _, _, hcell⟩ := HVC.out.open
      simp only [Value.slice.injEq] at he8
      obtain ⟨rfl, _, rfl⟩ := he8
      have HC := hid hcell
      clear hcell HVC e5
      obtain ⟨n, hn⟩ : ∃ n, n = x.vs.length := ⟨_, rfl⟩
      have HN := hid hn
      go_loopw [46] (fun i wr => ∃ (k : Nat) (sv : Value) (phs : List VrV), k ≤ x.vs.length ∧ i = .int .i64 k ∧ Hid (OfL x (.slice au x.sup.length cu) (.slice av x.vs.length cv) w B (.slice ab x.sup.length cb) sv phs wr) ∧ Hid (phs.map (·.1) = x.vs.take k)) (fun i _ => x.vs.length - (intOf i).toNat)
      case atStart => exact ⟨0, _, [], Nat.zero_le _, rfl, HLP.out, rfl⟩
      case round =>
        clear HLP
        obtain ⟨k, sv, phs, hk, rfl, HL, HPH⟩ := hrel
        by_cases hlt : k < x.vs.length
        · obtain ⟨y, b, o, vw, vg, hx, rfl, d0, d1, rw0, rs0⟩ := HC.out k hlt
          have hki : (k : Int) < (x.vs.length : Int) := by omega
          have hbel := HL.out.os.bel
          have e0 := Below.keeps hbel _ _ d0
          have e1 := Below.keeps hbel _ _ d1
          have hel := HZE.out.el y (List.mem_of_getElem? hx)
          have HQ1 := fun w' (h : Below w.heap.size w w') => hid (cloneF_any vw y.ws w' (rw0.below h) (by omega))
          have HQ2 := fun w' (h : Below w.heap.size w w') => hid (cloneF_any vg y.sg w' (rs0.below h) (by omega))
          obtain ⟨aw, cw, rfl, hlw, hmw, _⟩ := rw0.open
          obtain ⟨ag, cg, rfl, hlg, hmg, _⟩ := rs0.open
          have hpl : phs.length ≤ 65536 := by
            have := congrArg List.length HPH.out
            rw [List.length_map, List.length_take] at this
            have := HZE.out.vl; omega
          have HPH2 : Hid ((phs.map (·.1)) ++ [y] = x.vs.take (k + 1)) := by show _ = _; rw [HPH.out, List.take_add_one, hx]; rfl
          have HL1 := hid (HL.out.al (.cells #[.slice aw y.ws.length cw, .slice ag y.sg.length cg] 63))
          have HRv := hid (row_nw wr #[.slice aw y.ws.length cw, .slice ag y.sg.length cg] 63 rfl)
          obtain ⟨asv, csv, hsv⟩ : ∃ a c, sv = .slice a phs.length c := by
            rcases HL.out.own.2 with ⟨rfl, hn⟩ | ⟨g, cap, cur, rfl, _⟩
            · exact ⟨none, 0, by rw [hn]⟩
            · exact ⟨_, cap, rfl⟩
          subst hsv
          clear d0 d1 rw0 rs0 hel hx hbel HL HPH
          go_upto_region 7 with fail
          generalize wr.alloc (.cells #[.slice aw y.ws.length cw, .slice ag y.sg.length cg] 63) = W1 at *
          generalize wr.heap.size = nv at *
          have hL := HL1.out
          have hrv := HRv.out
          have r0 := hrv.cell 0 (x := .slice aw y.ws.length cw) rfl
          have r1 := hrv.cell 1 (x := .slice ag y.sg.length cg) rfl
          have r8 := hL.row.cell 8 (x := .slice asv phs.length csv) rfl
          clear HL1 HRv e0 e1
          go_region_law (first
            | (refine step_callC rfl 42 EC (.tmp 53) #[23] rfl (.slice aw y.ws.length cw) (by simp [Act.eval]) y.ws (HQ1 W1.drew hL.drew.os.bel).out ?_; intro ad1 cc1 w6 hr6 hB6; have z1 := hL.drew.below hB6; have zv := hrv.drew.below hB6; have zr1 := zv.cell 1 (x := .slice ag y.sg.length cg) rfl; have z8 := z1.row.cell 8 (x := .slice asv phs.length csv) rfl)
            | (refine step_callC rfl 42 EC (.tmp 56) #[23] rfl (.slice ag y.sg.length cg) (by simp [Act.eval]) y.sg (HQ2 w6 z1.os.bel).out ?_; intro ad2 cc2 w7 hr7 hB7; have z2 := z1.below hB7; have zv2 := hr6.below hB7; have z28 := z2.row.cell 8 (x := .slice asv phs.length csv) rfl; have z28a := cell_al z28 (.cells #[.slice ad1 y.ws.length cc1, .slice ad2 y.sg.length cc2] 63))
            | (refine step_ap rfl (.tmp 51) (.tmp 59) 24 rfl (w.heap.size + 2) 63 Tryz.underlying24 infoVar rfl (by decide) (by decide) (.slice asv phs.length csv) phs.length (vrCs phs) ?_ (z2.al (.cells #[.slice ad1 y.ws.length cc1, .slice ad2 y.sg.length cc2] 63)).own 1 (by decide) [.slice ad1 y.ws.length cc1, .slice ad2 y.sg.length cc2] rfl ?_ w7.heap.size ?_ ?_ ?_ ?_ ?_; (focus (simp [Act.eval]; done)); (focus (simp [Value.oneCell']; done)); (focus (simp [Act.eval]; done)); (focus (intro j q hj; exact cell_nw w7 #[.slice ad1 y.ws.length cc1, .slice ad2 y.sg.length cc2] _ j (by simpa using hj))); (focus omega); (focus (have := z2.os.res.lt; simp; omega)); intro g9 c9 w9 ho9 hb9 hg9 _; have zp := OfL.push (z2.al (.cells #[.slice ad1 y.ws.length cc1, .slice ad2 y.sg.length cc2] 63)) hBlo (y, .slice ad1 y.ws.length cc1, .slice ad2 y.sg.length cc2) (zv2.below (below_al _ _)) (hr7.below (below_al _ _)) ho9 hb9 hg9; have zq := (hg9.block _ (z2.al (.cells #[.slice ad1 y.ws.length cc1, .slice ad2 y.sg.length cc2] 63)).row.lt (Ne.symm (row_own_ne2 (z2.al (.cells #[.slice ad1 y.ws.length cc1, .slice ad2 y.sg.length cc2] 63)).row (z2.al (.cells #[.slice ad1 y.ws.length cc1, .slice ad2 y.sg.length cc2] 63)).own (by decide)))).trans (z2.al (.cells #[.slice ad1 y.ws.length cc1, .slice ad2 y.sg.length cc2] 63)).row; have z98 := Row.cell zq 8 (x := .slice asv phs.length csv) rfl; have f98 := Row.frozen zq 8))
          all_goals (go_wp2_with fail; go_roundw)
          all_goals (first | (simp [intOf]; omega; done) | (refine ⟨k + 1, _, _, by omega, by go_num, zp, ?_⟩; show _ = _; rw [List.map_append]; exact HPH2.out))
        · have hki : ¬ (k : Int) < (x.vs.length : Int) := by omega
          have HX : Hid (phs.map (·.1) = x.vs) := by show _ = _; rw [HPH.out, List.take_of_length_le (by omega)]
          clear HPH HC
          obtain ⟨asv, csv, hsv⟩ : ∃ a c, sv = .slice a phs.length c := by
            rcases HL.out.own.2 with ⟨rfl, hn⟩ | ⟨g, cap, cur, rfl, _⟩
            · exact ⟨none, 0, by rw [hn]⟩
            · exact ⟨_, cap, rfl⟩
          subst hsv
          have e1 := HL.out.os.ent.cell 1 (x := .int .i64 x.fr) rfl
          have e2 := HL.out.os.ent.cell 2 (x := .int .i64 x.to_) rfl
          go_wp2_with fail
          go_quiet (fail)
          have HL2 := hid (HL.out.below (below_drewN (Below.refl _ _) nq))
          generalize wr.drewN nq = W2 at *
          clear HL e1 e2
          go_upto_block 2 with fail
          have HNPL : Hid (ofPl x.fr x.to_ ws.length = if x.fr < x.to_ then (1, x.fr, x.to_) else if 0 < x.fr then (2, x.fr - 1, x.to_) else if 0 < ws.length then (3, x.fr, 1) else (4, x.fr, x.to_)) := rfl
          go_cut [13, 14] from 67 to 86 (fun fv tv wx => ∃ (p : Int) (f t : Nat), fv = .int .i64 (f : Int) ∧ tv = .int .i64 (t : Int) ∧ Hid (ofPl x.fr x.to_ ws.length = (p, (f : Int), (t : Int)) ∧ p ≠ 4) ∧ Hid (f < ws.length ∧ 1 ≤ t ∧ t ≤ ws.length) ∧ OfM x (.slice au x.sup.length cu) (.slice av x.vs.length cv) w B (.slice ab x.sup.length cb) (.slice asv phs.length csv) phs ⟨1, 1, p, ⟨#[]⟩, ⟨#[]⟩, 0, x.pos, x.sup, x.vs⟩ wx)
          case first =>
            have hm0 := HL2.out.toM
            by_cases m1 : x.fr < x.to_
            · have HP : Hid (ofPl x.fr x.to_ ws.length = (1, x.fr, x.to_)) := by show _ = _; rw [HNPL.out, if_pos m1]
              go_wp2_with fail
              go_meet
              exact ⟨1, x.fr.toNat, x.to_.toNat, by rw [Int.toNat_of_nonneg (by omega)], by rw [Int.toNat_of_nonneg (by omega)], ⟨by rw [HP.out, Int.toNat_of_nonneg (by omega), Int.toNat_of_nonneg (by omega)], by decide⟩, ⟨by omega, by omega, by omega⟩, hm0⟩
            by_cases m2 : 0 < x.fr
            · have HP : Hid (ofPl x.fr x.to_ ws.length = (2, x.fr - 1, x.to_)) := by show _ = _; rw [HNPL.out, if_neg m1, if_pos m2]
              have hw : IntKind.i64.wrap (x.fr - 1) = x.fr - 1 := IntWalk.i64_in _ (by omega)
              have d2 := hm0.row.cell 2 (x := .int .i64 1) rfl
              have f2 := hm0.row.frozen 2
              have hm2 := hm0.put hBlo 2 (.int .i64 2) ⟨1, 1, 2, ⟨#[]⟩, ⟨#[]⟩, 0, x.pos, x.sup, x.vs⟩ rfl
              go_wp2_with fail
              go_meet
              exact ⟨2, (x.fr - 1).toNat, x.to_.toNat, by rw [Int.toNat_of_nonneg (by omega)], by rw [Int.toNat_of_nonneg (by omega)], ⟨by rw [HP.out, Int.toNat_of_nonneg (by omega), Int.toNat_of_nonneg (by omega)], by decide⟩, ⟨by omega, by omega, by omega⟩, hm2⟩
            by_cases m3 : 0 < ws.length
            · have HP : Hid (ofPl x.fr x.to_ ws.length = (3, x.fr, 1)) := by show _ = _; rw [HNPL.out, if_neg m1, if_neg m2, if_pos m3]
              have m3i : (0 : Int) < (ws.length : Int) := by omega
              have d2 := hm0.row.cell 2 (x := .int .i64 1) rfl
              have f2 := hm0.row.frozen 2
              have hm2 := hm0.put hBlo 2 (.int .i64 3) ⟨1, 1, 3, ⟨#[]⟩, ⟨#[]⟩, 0, x.pos, x.sup, x.vs⟩ rfl
              go_wp2_with fail
              go_meet
              exact ⟨3, x.fr.toNat, 1, by rw [Int.toNat_of_nonneg (by omega)], rfl, ⟨by rw [HP.out, Int.toNat_of_nonneg (by omega)]; rfl, by decide⟩, ⟨by omega, by omega, by omega⟩, hm2⟩
            · have HP : Hid (ofPl x.fr x.to_ ws.length = (4, x.fr, x.to_)) := by show _ = _; rw [HNPL.out, if_neg m1, if_neg m2, if_neg m3]
              have m3i : ¬ (0 : Int) < (ws.length : Int) := by omega
              have d2 := hm0.row.cell 2 (x := .int .i64 1) rfl
              have f2 := hm0.row.frozen 2
              obtain ⟨nf, hnf⟩ : ∃ n : Int, n = 1 := ⟨_, rfl⟩
              obtain ⟨nt, hnt⟩ : ∃ n : Int, n = 1 := ⟨_, rfl⟩
              obtain ⟨np, hnp⟩ : ∃ n : Int, n = 4 := ⟨_, rfl⟩
              obtain ⟨lf, hlf⟩ : ∃ n : ByteArray, n = ⟨#[]⟩ := ⟨_, rfl⟩
              obtain ⟨ll, hll⟩ : ∃ n : ByteArray, n = ⟨#[]⟩ := ⟨_, rfl⟩
              obtain ⟨ln, hln⟩ : ∃ n : Int, n = 0 := ⟨_, rfl⟩
              have HM : Hid (OfM x (.slice au x.sup.length cu) (.slice av x.vs.length cv) w B (.slice ab x.sup.length cb) (.slice asv phs.length csv) phs ⟨nf, nt, np, lf, ll, ln, x.pos, x.sup, x.vs⟩ (W2.setCell ⟨B, 2, none⟩ (.int .i64 4))) := by
                show OfM _ _ _ _ _ _ _ _ _ _
                rw [hnf, hnt, hnp, hlf, hll, hln]
                exact hm0.put hBlo 2 (.int .i64 4) ⟨1, 1, 4, ⟨#[]⟩, ⟨#[]⟩, 0, x.pos, x.sup, x.vs⟩ rfl
              have HE2 : Hid (ofI ls la ws x = nteI ⟨nf, nt, np, lf, ll, ln, x.pos, x.sup, x.vs⟩ ∧ ofN ls la ws x = ⟨nf, nt, np, lf, ll, ln, x.pos, x.sup, x.vs⟩) := by
                show _ ∧ _
                have e1 : ofN ls la ws x = ⟨nf, nt, np, lf, ll, ln, x.pos, x.sup, x.vs⟩ := by
                  unfold ofN
                  rw [HP.out, if_pos rfl, hnf, hnt, hnp, hlf, hll, hln]
                refine ⟨?_, e1⟩
                rw [HI.out, if_neg (by omega), HP.out, if_neg (by simp), e1]
              have HSZ : Hid (SzN ⟨nf, nt, np, lf, ll, ln, x.pos, x.sup, x.vs⟩) := ⟨by rw [hlf]; exact Nat.zero_le _, by rw [hll]; exact Nat.zero_le _, HZE.out.sup, HZE.out.vs⟩
              have HDone : Hid (∀ W, OfF x w (.slice ab x.sup.length cb) (.slice asv phs.length csv) phs W → OfR (ofN ls la ws x) (ofI ls la ws x) w (.returned (.tuple #[.agg #[.int .i64 nf, .int .i64 nt, .int .i64 np, .string lf, .string ll, .int .i64 ln, .bool x.pos, .slice ab x.sup.length cb, .slice asv phs.length csv], .int .i64 (nteI ⟨nf, nt, np, lf, ll, ln, x.pos, x.sup, x.vs⟩)])) W) := fun W hf => ⟨⟨nf, nt, np, lf, ll, ln, x.pos, x.sup, x.vs⟩, ab, x.sup.length, cb, asv, phs.length, csv, by rw [HE2.out.1]; rfl, (fun _ => ⟨HE2.out.2.symm, by rw [HE2.out.2]; exact OfF.own2 hf rfl HX.out⟩), hf.bel⟩
              clear HL2 hm0 HNPL HP hnf hnt hnp hlf hll hln
              go_upto_region 11 with fail
              generalize W2.setCell ⟨B, 2, none⟩ (.int .i64 4) = W6 at *
              have hm := HM.out
              have b0 := hm.row.cell 0 (x := .int .i64 nf) rfl
              have b1 := hm.row.cell 1 (x := .int .i64 nt) rfl
              have b2 := hm.row.cell 2 (x := .int .i64 np) rfl
              have b3 := hm.row.cell 3 (x := .string lf) rfl
              have b4 := hm.row.cell 4 (x := .string ll) rfl
              have b5 := hm.row.cell 5 (x := .int .i64 ln) rfl
              have b6 := hm.row.cell 6 (x := .bool x.pos) rfl
              have b7 := hm.row.cell 7 (x := .slice ab x.sup.length cb) rfl
              have b8 := hm.row.cell 8 (x := .slice asv phs.length csv) rfl
              have HCK := fun w' (h : OfM x (.slice au x.sup.length cu) (.slice av x.vs.length cv) w B (.slice ab x.sup.length cb) (.slice asv phs.length csv) phs ⟨nf, nt, np, lf, ll, ln, x.pos, x.sup, x.vs⟩ w') => hid (pchk_any ⟨nf, nt, np, lf, ll, ln, x.pos, x.sup, x.vs⟩ (.slice ab x.sup.length cb) (.slice asv phs.length csv) w' (HE w' (OfM.os h).bel).out (OfM.rd h rfl HX.out) HSZ.out)
              have EK := enters_of Tryz.func22 (by kernel_rfl) rfl
              generalize hne : nteI ⟨nf, nt, np, lf, ll, ln, x.pos, x.sup, x.vs⟩ = ne at *
              go_region_law (first
                | (refine step_callB rfl 22 EK (.tmp 69) #[30] rfl (.agg #[.int .i64 nf, .int .i64 nt, .int .i64 np, .string lf, .string ll, .int .i64 ln, .bool x.pos, .slice ab x.sup.length cb, .slice asv phs.length csv]) (by simp [Act.eval]) (.int .i64 ne) (HCK W6.drew hm.drew).out ?_; intro w7 hB7; have y := hm.drew.below hB7; have y0 := y.row.cell 0 (x := .int .i64 nf) rfl; have y1 := y.row.cell 1 (x := .int .i64 nt) rfl; have y2 := y.row.cell 2 (x := .int .i64 np) rfl; have y3 := y.row.cell 3 (x := .string lf) rfl; have y4 := y.row.cell 4 (x := .string ll) rfl; have y5 := y.row.cell 5 (x := .int .i64 ln) rfl; have y6 := y.row.cell 6 (x := .bool x.pos) rfl; have y7 := y.row.cell 7 (x := .slice ab x.sup.length cb) rfl; have y8 := y.row.cell 8 (x := .slice asv phs.length csv) rfl; have r0 := y.os.res.cell 0 (x := .int .i64 0) rfl; have r1 := y.os.res.cell 1 (x := .int .i64 0) rfl; have r2 := y.os.res.cell 2 (x := .int .i64 0) rfl; have r3 := y.os.res.cell 3 (x := .string ⟨#[]⟩) rfl; have r4 := y.os.res.cell 4 (x := .string ⟨#[]⟩) rfl; have r5 := y.os.res.cell 5 (x := .int .i64 0) rfl; have r6 := y.os.res.cell 6 (x := .bool false) rfl; have r7 := y.os.res.cell 7 (x := .slice none 0 0) rfl; have r8 := y.os.res.cell 8 (x := .slice none 0 0) rfl; have g0 := y.os.res.frozen 0; have g1 := y.os.res.frozen 1; have g2 := y.os.res.frozen 2; have g3 := y.os.res.frozen 3; have g4 := y.os.res.frozen 4; have g5 := y.os.res.frozen 5; have g6 := y.os.res.frozen 6; have g7 := y.os.res.frozen 7; have g8 := y.os.res.frozen 8))
              all_goals (
                have HY := hid y.fin
                have q := HY.out.1
                have z0 := q.cell 0 (x := .int .i64 nf) rfl
                have z1 := q.cell 1 (x := .int .i64 nt) rfl
                have z2 := q.cell 2 (x := .int .i64 np) rfl
                have z3 := q.cell 3 (x := .string lf) rfl
                have z4 := q.cell 4 (x := .string ll) rfl
                have z5 := q.cell 5 (x := .int .i64 ln) rfl
                have z6 := q.cell 6 (x := .bool x.pos) rfl
                have z7 := q.cell 7 (x := .slice ab x.sup.length cb) rfl
                have z8 := q.cell 8 (x := .slice asv phs.length csv) rfl
                clear q
                go_wp2_with fail
                exact bodyPost_ret (v := .tuple #[.agg #[.int .i64 nf, .int .i64 nt, .int .i64 np, .string lf, .string ll, .int .i64 ln, .bool x.pos, .slice ab x.sup.length cb, .slice asv phs.length csv], .int .i64 ne]) (by simp [results, Tryz.f38, go_sem, z0, z1, z2, z3, z4, z5, z6, z7, z8]) rfl (HDone.out _ HY.out.2))
          case rest =>
            obtain ⟨p, f, t, rfl, rfl, HP, HFT, hM⟩ := hcut
            have HM1 := hid hM
            clear hM HL2 HNPL
            obtain ⟨a, b1, o1, ha, ea1, d1⟩ := HC1.out f (by have := HL1.out; have := HFT.out; omega)
            subst ea1
            obtain ⟨b, b2, o2, hb, ea2, d2⟩ := HC2.out (t - 1) (by have := HL2b.out; have := HFT.out; omega)
            subst ea2
            have hbel := HM1.out.os.bel
            have e1 := Below.keeps hbel _ _ d1
            have e2 := Below.keeps hbel _ _ d2
            have u1 : (0 : Int) ≤ (f : Int) := by omega
            have u2 : (f : Int) < (ls.length : Int) := by have := HL1.out; have := HFT.out; omega
            have u3 : IntKind.i64.wrap ((t : Int) - 1) = ((t - 1 : Nat) : Int) := by
              have := HFT.out
              rw [IntWalk.i64_in _ (by omega)]; omega
            have u4 : (0 : Int) ≤ ((t - 1 : Nat) : Int) := by omega
            have u5 : ((t - 1 : Nat) : Int) < (la.length : Int) := by have := HL2b.out; have := HFT.out; omega
            have HA : Hid (lnAt ls (f : Int) = a ∧ lnAt la ((t : Int) - 1) = b) := by
              have h0 := HFT.out
              refine ⟨?_, ?_⟩
              · unfold lnAt
                rw [Int.toNat_natCast, List.getD_eq_getElem?_getD, ha]; rfl
              · unfold lnAt
                rw [show ((t : Int) - 1).toNat = t - 1 by omega, List.getD_eq_getElem?_getD, hb]; rfl
            have k0 := HM1.out.row.cell 0 (x := .int .i64 1) rfl
            have k1' := HM1.out.row.cell 1 (x := .int .i64 1) rfl
            have g0 := HM1.out.row.frozen 0
            have g1 := HM1.out.row.frozen 1
            have hma := HM1.out.put hBlo 0 (.int .i64 a) ⟨a, 1, p, ⟨#[]⟩, ⟨#[]⟩, 0, x.pos, x.sup, x.vs⟩ rfl
            have HM2 := hid (hma.put hBlo 1 (.int .i64 b) ⟨a, b, p, ⟨#[]⟩, ⟨#[]⟩, 0, x.pos, x.sup, x.vs⟩ rfl)
            have nb1 : b1 < w.heap.size := World.block_lt_of_cell? _ _ d1
            have nb2 : b2 < w.heap.size := World.block_lt_of_cell? _ _ d2
            have e2s : (wc.setCell ⟨B, 0, none⟩ (.int .i64 a)).cell? ⟨b2, o2 + (t - 1), none⟩ = some (.int .i64 b) := by
              rw [World.cell?_setCell_other]
              · exact e2
              · intro e; have := (Addr.mk.inj e).1; omega
            have e1s : (wc.setCell ⟨B, 1, none⟩ (.int .i64 b)).cell? ⟨b1, o1 + f, none⟩ = some (.int .i64 a) := by
              rw [World.cell?_setCell_other]
              · exact e1
              · intro e; have := (Addr.mk.inj e).1; omega
            clear hma hbel d1 d2 ha hb nb1 nb2
            generalize ht1 : t - 1 = t1 at *
            clear ht1
            go_upto_region 17 with fail
            go_cut [89] from 86 to 96 (fun _ wx => OfM x (.slice au x.sup.length cu) (.slice av x.vs.length cv) w B (.slice ab x.sup.length cb) (.slice asv phs.length csv) phs ⟨a, b, p, ⟨#[]⟩, ⟨#[]⟩, 0, x.pos, x.sup, x.vs⟩ wx)
            case first =>
              go_region
              all_goals (go_wp2_with fail; go_meet)
              all_goals (first | exact HM2.out | exact HM2.out.drew | trace_state)
            case rest =>
              have HM3 := hid hcut
              clear hcut HM2 HM1 k0 k1' g0 g1 e1 e2 e1s e2s
              have q0 := HM3.out.row.cell 0 (x := .int .i64 a) rfl
              have q1 := HM3.out.row.cell 1 (x := .int .i64 b) rfl
              have HWI := fun w' (h : Below w.heap.size w w') => hid (within_any _ _ ls ws a b w' (H1 w' h).out (H3 w' h).out HL1.out (by have := HL1.out; omega))
              go_wp2_with fail
              (with_reducible refine (HWI _ HM3.out.os.bel).out.mono ?_)
              rintro e w5 ⟨r, rfl, hr5, hB5⟩
              have HM5 := hid (HM3.out.below hB5)
              have HOW := hid hr5
              have HWZ : Hid (Sz16 (wWs ls ws a b)) := fun s hs => hz s (wWs_mem hs)
              have HWL : Hid ((wWs ls ws a b).length ≤ 13) := Nat.le_trans (wWs_len ls ws a b) hlen
              have HAB := hid (wAt_bound ls a b)
              have hu := HFT.out
              have hll := HL1.out
              have w1 : IntKind.i64.wrap ((f : Int) - wAt ls a b) = (f : Int) - wAt ls a b := IntWalk.i64_in _ (by have := HAB.out; omega)
              have w2 : IntKind.i64.wrap ((t : Int) - wAt ls a b) = (t : Int) - wAt ls a b := IntWalk.i64_in _ (by have := HAB.out; omega)
              clear hB5 hr5 q0 q1 HM3 HWI hu hll
              have HOFL : Hid (ofLm ls la ws (f : Int) (t : Int) = ofRes (wWs ls ws a b) ((f : Int) - wAt ls a b) ((t : Int) - wAt ls a b)) := by
                show _ = _
                unfold ofLm
                rw [HA.out.1, HA.out.2]
              have HOA := hid (ofAll_any (wWs ls ws a b) ((f : Int) - wAt ls a b) ((t : Int) - wAt ls a b) r w5 (HE _ HM5.out.os.bel).out HOW.out HWZ.out (fun _ => HWL.out) (by have := HWL.out; omega))
              have HOZ := hid (ofRes_size (x := (f : Int) - wAt ls a b) (y := (t : Int) - wAt ls a b) HWZ.out)
              generalize hor : ofRes (wWs ls ws a b) ((f : Int) - wAt ls a b) ((t : Int) - wAt ls a b) = orr at *
              clear hor
              obtain ⟨lf, ll, ln, le⟩ := orr
              unfold ofVal at HOA
              simp only at HOA HOZ
              generalize wAt ls a b = A at *
              generalize wWs ls ws a b = wo at *
              obtain ⟨ar, cr, rfl, hlr, hmr, _⟩ := HOW.out.open
              have hHI : Hid (ofI ls la ws x = if le ≠ 0 then le else nteI (ofN ls la ws x)) := by
                show _ = _
                rw [HI.out, if_neg (by omega), HP.out.1, HOFL.out]
                by_cases h : le = 0
                · rw [if_neg (by simp [h]), if_neg (by simp [h])]
                · rw [if_pos ⟨HP.out.2, h⟩, if_pos h]
              have HNN : Hid (ofN ls la ws x = ⟨a, b, p, lf, ll, ln, x.pos, x.sup, x.vs⟩) := by
                show _ = _
                unfold ofN
                rw [HP.out.1, if_neg HP.out.2, HOFL.out, HA.out.1, HA.out.2]
              clear HI HP HOFL HA HAB HWZ HWL HOW
              by_cases hle : le = 0
              · subst hle
                have HIN : Hid (ofI ls la ws x = nteI (ofN ls la ws x)) := by show _ = _; rw [hHI.out, if_neg (by simp)]
                go_wp2_with fail
                (with_reducible refine HOA.out.mono ?_)
                rintro e w6 ⟨rfl, hB6⟩
                have HM6 := hid (HM5.out.below hB6)
                have HM7 := hid (HM6.out.al (.cells #[.string lf, .string ll, .int .i64 ln] 28))
                have HRL := hid (row_nw w6 #[.string lf, .string ll, .int .i64 ln] 28 rfl)
                clear hB6 HM5 HOA HM6
                have t0 := HRL.out.cell 0 (x := .string lf) rfl
                have t1' := HRL.out.cell 1 (x := .string ll) rfl
                have t2 := HRL.out.cell 2 (x := .int .i64 ln) rfl
                have s3 := HM7.out.row.cell 3 (x := .string ⟨#[]⟩) rfl
                have s4 := HM7.out.row.cell 4 (x := .string ⟨#[]⟩) rfl
                have s5 := HM7.out.row.cell 5 (x := .int .i64 0) rfl
                have g3 := HM7.out.row.frozen 3
                have g4 := HM7.out.row.frozen 4
                have g5 := HM7.out.row.frozen 5
                have hma := HM7.out.put hBlo 3 (.string lf) ⟨a, b, p, lf, ⟨#[]⟩, 0, x.pos, x.sup, x.vs⟩ rfl
                have hmb := hma.put hBlo 4 (.string ll) ⟨a, b, p, lf, ll, 0, x.pos, x.sup, x.vs⟩ rfl
                have HM := hid (hmb.put hBlo 5 (.int .i64 ln) ⟨a, b, p, lf, ll, ln, x.pos, x.sup, x.vs⟩ rfl)
                have HSZ : Hid (SzN ⟨a, b, p, lf, ll, ln, x.pos, x.sup, x.vs⟩) := ⟨HOZ.out.1, HOZ.out.2, HZE.out.sup, HZE.out.vs⟩
                have HE2 : Hid (ofI ls la ws x = nteI ⟨a, b, p, lf, ll, ln, x.pos, x.sup, x.vs⟩ ∧ ofN ls la ws x = ⟨a, b, p, lf, ll, ln, x.pos, x.sup, x.vs⟩) := ⟨by rw [HIN.out, HNN.out], HNN.out⟩
                clear hma hmb HM7 HRL HIN HNN hHI HOZ
                generalize hnf : a = nf at *
                generalize hnt : b = nt at *
                generalize hnp : p = np at *
                clear hnf hnt hnp
                have HDone : Hid (∀ W, OfF x w (.slice ab x.sup.length cb) (.slice asv phs.length csv) phs W → OfR (ofN ls la ws x) (ofI ls la ws x) w (.returned (.tuple #[.agg #[.int .i64 nf, .int .i64 nt, .int .i64 np, .string lf, .string ll, .int .i64 ln, .bool x.pos, .slice ab x.sup.length cb, .slice asv phs.length csv], .int .i64 (nteI ⟨nf, nt, np, lf, ll, ln, x.pos, x.sup, x.vs⟩)])) W) := fun W hf => ⟨⟨nf, nt, np, lf, ll, ln, x.pos, x.sup, x.vs⟩, ab, x.sup.length, cb, asv, phs.length, csv, by rw [HE2.out.1]; rfl, (fun _ => ⟨HE2.out.2.symm, by rw [HE2.out.2]; exact OfF.own2 hf rfl HX.out⟩), hf.bel⟩
                go_upto_region 23 with fail
                generalize (((w6.alloc (.cells #[.string lf, .string ll, .int .i64 ln] 28)).setCell ⟨B, 3, none⟩ (.string lf)).setCell ⟨B, 4, none⟩ (.string ll)).setCell ⟨B, 5, none⟩ (.int .i64 ln) = W6 at *
                clear t0 t1' t2 s3 s4 s5 g3 g4 g5
                have hm := HM.out
                have b0 := hm.row.cell 0 (x := .int .i64 nf) rfl
                have b1 := hm.row.cell 1 (x := .int .i64 nt) rfl
                have b2 := hm.row.cell 2 (x := .int .i64 np) rfl
                have b3 := hm.row.cell 3 (x := .string lf) rfl
                have b4 := hm.row.cell 4 (x := .string ll) rfl
                have b5 := hm.row.cell 5 (x := .int .i64 ln) rfl
                have b6 := hm.row.cell 6 (x := .bool x.pos) rfl
                have b7 := hm.row.cell 7 (x := .slice ab x.sup.length cb) rfl
                have b8 := hm.row.cell 8 (x := .slice asv phs.length csv) rfl
                have HCK := fun w' (h : OfM x (.slice au x.sup.length cu) (.slice av x.vs.length cv) w B (.slice ab x.sup.length cb) (.slice asv phs.length csv) phs ⟨nf, nt, np, lf, ll, ln, x.pos, x.sup, x.vs⟩ w') => hid (pchk_any ⟨nf, nt, np, lf, ll, ln, x.pos, x.sup, x.vs⟩ (.slice ab x.sup.length cb) (.slice asv phs.length csv) w' (HE w' (OfM.os h).bel).out (OfM.rd h rfl HX.out) HSZ.out)
                have EK := enters_of Tryz.func22 (by kernel_rfl) rfl
                generalize hne : nteI ⟨nf, nt, np, lf, ll, ln, x.pos, x.sup, x.vs⟩ = ne at *
                go_region_law (first
                  | (refine step_callB rfl 22 EK (.tmp 125) #[30] rfl (.agg #[.int .i64 nf, .int .i64 nt, .int .i64 np, .string lf, .string ll, .int .i64 ln, .bool x.pos, .slice ab x.sup.length cb, .slice asv phs.length csv]) (by simp [Act.eval]) (.int .i64 ne) (HCK W6.drew hm.drew).out ?_; intro w7 hB7; have y := hm.drew.below hB7; have y0 := y.row.cell 0 (x := .int .i64 nf) rfl; have y1 := y.row.cell 1 (x := .int .i64 nt) rfl; have y2 := y.row.cell 2 (x := .int .i64 np) rfl; have y3 := y.row.cell 3 (x := .string lf) rfl; have y4 := y.row.cell 4 (x := .string ll) rfl; have y5 := y.row.cell 5 (x := .int .i64 ln) rfl; have y6 := y.row.cell 6 (x := .bool x.pos) rfl; have y7 := y.row.cell 7 (x := .slice ab x.sup.length cb) rfl; have y8 := y.row.cell 8 (x := .slice asv phs.length csv) rfl; have r0 := y.os.res.cell 0 (x := .int .i64 0) rfl; have r1 := y.os.res.cell 1 (x := .int .i64 0) rfl; have r2 := y.os.res.cell 2 (x := .int .i64 0) rfl; have r3 := y.os.res.cell 3 (x := .string ⟨#[]⟩) rfl; have r4 := y.os.res.cell 4 (x := .string ⟨#[]⟩) rfl; have r5 := y.os.res.cell 5 (x := .int .i64 0) rfl; have r6 := y.os.res.cell 6 (x := .bool false) rfl; have r7 := y.os.res.cell 7 (x := .slice none 0 0) rfl; have r8 := y.os.res.cell 8 (x := .slice none 0 0) rfl; have g0 := y.os.res.frozen 0; have g1 := y.os.res.frozen 1; have g2 := y.os.res.frozen 2; have g3 := y.os.res.frozen 3; have g4 := y.os.res.frozen 4; have g5 := y.os.res.frozen 5; have g6 := y.os.res.frozen 6; have g7 := y.os.res.frozen 7; have g8 := y.os.res.frozen 8))
                all_goals (
                  have HY := hid y.fin
                  have q := HY.out.1
                  have z0 := q.cell 0 (x := .int .i64 nf) rfl
                  have z1 := q.cell 1 (x := .int .i64 nt) rfl
                  have z2 := q.cell 2 (x := .int .i64 np) rfl
                  have z3 := q.cell 3 (x := .string lf) rfl
                  have z4 := q.cell 4 (x := .string ll) rfl
                  have z5 := q.cell 5 (x := .int .i64 ln) rfl
                  have z6 := q.cell 6 (x := .bool x.pos) rfl
                  have z7 := q.cell 7 (x := .slice ab x.sup.length cb) rfl
                  have z8 := q.cell 8 (x := .slice asv phs.length csv) rfl
                  clear q
                  go_wp2_with fail
                  exact bodyPost_ret (v := .tuple #[.agg #[.int .i64 nf, .int .i64 nt, .int .i64 np, .string lf, .string ll, .int .i64 ln, .bool x.pos, .slice ab x.sup.length cb, .slice asv phs.length csv], .int .i64 ne]) (by simp [results, Tryz.f38, go_sem, z0, z1, z2, z3, z4, z5, z6, z7, z8]) rfl (HDone.out _ HY.out.2))
              · have hlb : (le == 0) = false := beq_eq_false_iff_ne.2 hle
                have HIN : Hid (ofI ls la ws x = le) := by show _ = _; rw [hHI.out, if_pos hle]
                have HDn : Hid (∀ W, Below w.heap.size w W → OfR (ofN ls la ws x) (ofI ls la ws x) w (.returned (.tuple #[.agg zeroN, .int .i64 le])) W) := fun W hb => ⟨nt0, none, 0, 0, none, 0, 0, by rw [HIN.out]; rfl, (fun h => (by rw [HIN.out] at h; exact absurd h hle)), hb⟩
                clear hHI HNN
                go_wp2_with fail
                (with_reducible refine HOA.out.mono ?_)
                rintro e w6 ⟨rfl, hB6⟩
                have HM7 := hid ((HM5.out.below hB6).al (.cells #[.string lf, .string ll, .int .i64 ln] 28))
                clear hB6 HM5 HOA
                have r0 := HM7.out.os.res.cell 0 (x := .int .i64 0) rfl
                have g0 := HM7.out.os.res.frozen 0
                have r1 := HM7.out.os.res.cell 1 (x := .int .i64 0) rfl
                have g1 := HM7.out.os.res.frozen 1
                have r2 := HM7.out.os.res.cell 2 (x := .int .i64 0) rfl
                have g2 := HM7.out.os.res.frozen 2
                have r3 := HM7.out.os.res.cell 3 (x := .string ⟨#[]⟩) rfl
                have g3 := HM7.out.os.res.frozen 3
                have r4 := HM7.out.os.res.cell 4 (x := .string ⟨#[]⟩) rfl
                have g4 := HM7.out.os.res.frozen 4
                have r5 := HM7.out.os.res.cell 5 (x := .int .i64 0) rfl
                have g5 := HM7.out.os.res.frozen 5
                have r6 := HM7.out.os.res.cell 6 (x := .bool false) rfl
                have g6 := HM7.out.os.res.frozen 6
                have r7 := HM7.out.os.res.cell 7 (x := .slice none 0 0) rfl
                have g7 := HM7.out.os.res.frozen 7
                have r8 := HM7.out.os.res.cell 8 (x := .slice none 0 0) rfl
                have g8 := HM7.out.os.res.frozen 8
                have HBf := hid HM7.out.os.bel
                clear hle
                go_wp2_with fail
                have q := row9 HM7.out.os.res (.int .i64 0) (.int .i64 0) (.int .i64 0) (.string ⟨#[]⟩) (.string ⟨#[]⟩) (.int .i64 0) (.bool false) (.slice none 0 0) (.slice none 0 0)
                have z0 := q.cell 0 (x := .int .i64 0) rfl
                have z1 := q.cell 1 (x := .int .i64 0) rfl
                have z2 := q.cell 2 (x := .int .i64 0) rfl
                have z3 := q.cell 3 (x := .string ⟨#[]⟩) rfl
                have z4 := q.cell 4 (x := .string ⟨#[]⟩) rfl
                have z5 := q.cell 5 (x := .int .i64 0) rfl
                have z6 := q.cell 6 (x := .bool false) rfl
                have z7 := q.cell 7 (x := .slice none 0 0) rfl
                have z8 := q.cell 8 (x := .slice none 0 0) rfl
                exact bodyPost_ret (v := .tuple #[.agg zeroN, .int .i64 le]) (by simp [results, Tryz.f38, go_sem, zeroN, z0, z1, z2, z3, z4, z5, z6, z7, z8]) rfl (HDn.out _ (zsets_bel HBf.out))
end Go.Proofs.YtjhdeoniafahbaaGreatDoor
