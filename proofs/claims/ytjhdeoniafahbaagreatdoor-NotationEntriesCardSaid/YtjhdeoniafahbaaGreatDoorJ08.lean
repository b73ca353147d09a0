/-
  Joined: Grt45 PlQ OfA ArgNt PlV.
-/
import Derived.Test.YtjhdeoniafahbaaGreatDoorRsn
import Derived.Test.YtjhdeoniafahbaaGreatDoorPlNp
import Derived.Test.YtjhdeoniafahbaaGreatDoorJ06
import Derived.Test.YtjhdeoniafahbaaGreatDoorPrt45
import Derived.Test.YtjhdeoniafahbaaGreatDoorOfe
import Derived.Test.YtjhdeoniafahbaaGreatDoorJ01
import Derived.Lib.SmallJoins
import Derived.Lib.IndexLaws
/-
  The reference's GreatWords, great, Great, GreatEntry.
-/
namespace Go.Proofs.YtjhdeoniafahbaaGreatDoor
open Go.RowKit

/-- Sizes of what comes in. -/
structure SzN0 (x : Nt) : Prop where
  lf : x.lf.size ≤ maxLen
  ll : x.ll.size ≤ maxLen
  sup : Szs x.sup
  vs : ∀ v ∈ x.vs, Szs v.ws ∧ Szs v.sg
structure SzE0 (x : En) : Prop where
  sup : Szs x.sup
  vs : ∀ v ∈ x.vs, Szs v.ws ∧ Szs v.sg
def gwB (l : List ByteArray) (n : Int) : Bool := l.any (fun s => decide (20 < s.size)) || decide (n < (l.length : Int))
theorem any_at {α : Type} {l : List α} {k : Nat} {a : α} (p : α → Bool) (h : l[k]? = some a) : (l.drop k).any p = (p a || (l.drop (k + 1)).any p) := by
  obtain ⟨h1, h2⟩ := List.getElem?_eq_some_iff.1 h
  rw [List.drop_eq_getElem_cons h1, h2, List.any_cons]
set_option maxRecDepth 100000 in
set_option maxHeartbeats 1000000 in
theorem greatw_any (v : Value) (l : List ByteArray) (n : Int) (w : World) (hr : RdS w v l) (hz : Szs l) :
    Calls Tryz.prog 11 #[v, .int .i64 n] w fun e w' => e = .returned (.bool (gwB l n)) ∧ w = w' := by
  obtain ⟨a, cap, rfl, hlc, hcm, hcell⟩ := hr.open
  have HCell := hid hcell; clear hcell
  have HZ := hid hz; clear hz
  have HG : Hid (gwB l n = (l.any (fun s => decide (20 < s.size)) || decide (n < (l.length : Int)))) := rfl
  generalize gwB l n = r at *
  go_enter Tryz.func11, Tryz.ntmps11
  go_wp2
  go_loop [5] (fun i => ∃ k : Nat, k ≤ l.length ∧ i = .int .i64 k ∧ Hid (l.any (fun s => decide (20 < s.size)) = (l.drop k).any (fun s => decide (20 < s.size)))) (fun i => l.length - (intOf i).toNat)
  case atStart => exact ⟨0, Nat.zero_le _, rfl, rfl⟩
  case round =>
    obtain ⟨k, hk, rfl, HK⟩ := hrel
    by_cases hlt : k < l.length
    · obtain ⟨x, b, off, hx, rfl, hc⟩ := HCell.out k hlt
      have hz1 := HZ.out x (List.mem_of_getElem? hx)
      have HX := hid (any_at (fun s => decide (20 < s.size)) hx)
      have hki : (k : Int) < (l.length : Int) := by omega
      clear hx
      by_cases hb : 20 < x.size
      · have HR : Hid (r = true) := by show _ = _; rw [HG.out, HK.out, HX.out]; simp [hb]
        have hb2 : (20 : Int) < (x.size : Int) := by omega
        clear HG HK HX
        go_wp2
        go_ret
        exact ⟨ret_bool HR.out.symm, rfl⟩
      · have HK2 : Hid (l.any (fun s => decide (20 < s.size)) = (l.drop (k + 1)).any (fun s => decide (20 < s.size))) := by show _ = _; rw [HK.out, HX.out]; simp [hb]
        have hb2 : ¬ (20 : Int) < (x.size : Int) := by omega
        clear HK HX
        go_wp2
        go_round
        case rel => exact ⟨k + 1, by omega, by go_num, HK2.out⟩
        case measure => simp [intOf]; omega
    · have HN : Hid (r = decide (n < (l.length : Int))) := by
        show _ = _; rw [HG.out, HK.out, List.drop_of_length_le (by omega)]; rfl
      have hki : ¬ (k : Int) < (l.length : Int) := by omega
      clear HK HG
      go_wp2
      go_ret
      exact ⟨ret_bool HN.out.symm, rfl⟩

def gvB (v : Vr) : Bool := gwB v.ws 6 || gwB v.sg 6
def grB (sup : List ByteArray) (vs : List Vr) : Bool := vs.any gvB || (decide (4 < (vs.length : Int)) || gwB sup 6)
set_option maxRecDepth 100000 in
set_option maxHeartbeats 2000000 in
theorem great45_any (u v : Value) (sup : List ByteArray) (l : List Vr) (w : World) (hs : RdS w u sup) (hr : RdV w v l) (hz : Szs sup) (hzv : ∀ v ∈ l, Szs v.ws ∧ Szs v.sg) :
    Calls Tryz.prog 36 #[u, v] w fun e w' => e = .returned (.bool (grB sup l)) ∧ w = w' := by
  have HS := hid (greatw_any u sup 6 w hs hz)
  obtain ⟨a0, cap0, rfl, _⟩ := hs.open
  obtain ⟨a, cap, rfl, hlc, hcm, hcell⟩ := hr.open
  have HCell := hid hcell; clear hcell
  have HZ := hid hzv; clear hzv hz hs hr
  have HG : Hid (grB sup l = (l.any gvB || (decide (4 < (l.length : Int)) || gwB sup 6))) := rfl
  generalize grB sup l = r at *
  generalize gwB sup 6 = q0 at *
  go_enter Tryz.func36, Tryz.ntmps36
  go_wp2
  go_loop [5] (fun i => ∃ k : Nat, k ≤ l.length ∧ i = .int .i64 k ∧ Hid (l.any gvB = (l.drop k).any gvB)) (fun i => l.length - (intOf i).toNat)
  case atStart => exact ⟨0, Nat.zero_le _, rfl, rfl⟩
  case round =>
    obtain ⟨k, hk, rfl, HK⟩ := hrel
    by_cases hlt : k < l.length
    · obtain ⟨x, b, off, uu, ss, hx, rfl, d0, d1, r0, r1⟩ := HCell.out k hlt
      have hz1 := HZ.out x (List.mem_of_getElem? hx)
      have HX := hid (any_at gvB hx)
      have HV : Hid (gvB x = (gwB x.ws 6 || gwB x.sg 6)) := rfl
      have H1 := hid (greatw_any uu x.ws 6 w r0 hz1.1)
      have H2 := hid (greatw_any ss x.sg 6 w r1 hz1.2)
      have hki : (k : Int) < (l.length : Int) := by omega
      obtain ⟨x1, y1, rfl, _⟩ := r0.open
      obtain ⟨x2, y2, rfl, _⟩ := r1.open
      clear hx r0 r1 hz1
      generalize gwB x.ws 6 = q1 at *
      generalize gwB x.sg 6 = q2 at *
      cases q1 with
      | true =>
        have HR : Hid (r = true) := by show _ = _; rw [HG.out, HK.out, HX.out, HV.out]; simp
        clear HG HK HX HV
        go_wp2_with fail
        (with_reducible refine H1.out.mono ?_)
        rintro e w' ⟨rfl, rfl⟩
        go_wp2_with fail
        go_ret
        exact ⟨ret_bool HR.out.symm, rfl⟩
      | false => cases q2 with
        | true =>
          have HR : Hid (r = true) := by show _ = _; rw [HG.out, HK.out, HX.out, HV.out]; simp
          clear HG HK HX HV
          go_wp2_with fail
          (with_reducible refine H1.out.mono ?_)
          rintro e w' ⟨rfl, rfl⟩
          go_wp2_with fail
          (with_reducible refine H2.out.mono ?_)
          rintro e w' ⟨rfl, rfl⟩
          go_wp2_with fail
          go_ret
          exact ⟨ret_bool HR.out.symm, rfl⟩
        | false =>
          have HK2 : Hid (l.any gvB = (l.drop (k + 1)).any gvB) := by show _ = _; rw [HK.out, HX.out, HV.out]; simp
          clear HK HX HV
          go_wp2_with fail
          (with_reducible refine H1.out.mono ?_)
          rintro e w' ⟨rfl, rfl⟩
          go_wp2_with fail
          (with_reducible refine H2.out.mono ?_)
          rintro e w' ⟨rfl, rfl⟩
          go_wp2_with fail
          go_round
          case rel => exact ⟨k + 1, by omega, by go_num, HK2.out⟩
          case measure => simp [intOf]; omega
    · have HN : Hid (r = (decide (4 < (l.length : Int)) || q0)) := by
        show _ = _; rw [HG.out, HK.out, List.drop_of_length_le (by omega)]; rfl
      have hki : ¬ (k : Int) < (l.length : Int) := by omega
      clear HK HG
      by_cases h4 : 4 < (l.length : Int)
      · have HR : Hid (r = true) := by show _ = _; rw [HN.out, decide_eq_true h4]; rfl
        clear HN
        go_wp2_with fail
        go_ret
        exact ⟨ret_bool HR.out.symm, rfl⟩
      · have HR : Hid (r = q0) := by show _ = _; rw [HN.out, decide_eq_false h4]; rfl
        clear HN
        go_wp2_with fail
        (with_reducible refine HS.out.mono ?_)
        rintro e w' ⟨rfl, rfl⟩
        go_wp2_with fail
        go_ret
        exact ⟨ret_bool HR.out.symm, rfl⟩

/-- The reference's Great and GreatEntry. -/
def gnB (x : Nt) : Bool := grB x.sup x.vs || (decide (20 < (x.lf.size : Int)) || decide (20 < (x.ll.size : Int)))
set_option maxRecDepth 100000 in
set_option maxHeartbeats 2000000 in
theorem greatE_any (x : En) (u s : Value) (w : World) (hE : RdE w u s x) (hz : SzE0 x) :
    Calls Tryz.prog 12 #[.agg (x.cells u s)] w fun e w' => e = .returned (.bool (grB x.sup x.vs)) ∧ Below w.heap.size w w' := by
  have HB := hid (below_al w (.cells (x.cells u s) 26))
  have HGR := hid (great45_any u s x.sup x.vs (w.alloc (.cells (x.cells u s) 26)) (hE.rs.below HB.out) (hE.rv.below HB.out) hz.sup hz.vs)
  obtain ⟨x1, y1, rfl, _⟩ := hE.rs.open
  obtain ⟨x2, y2, rfl, _⟩ := hE.rv.open
  clear hE hz
  generalize grB x.sup x.vs = r at *
  unfold En.cells at *
  go_enter Tryz.func12, Tryz.ntmps12
  go_wp2_with fail
  (with_reducible refine HGR.out.mono ?_)
  rintro e w' ⟨rfl, rfl⟩
  go_wp2_with fail
  go_ret
  exact ⟨rfl, HB.out⟩
set_option maxRecDepth 100000 in
set_option maxHeartbeats 2000000 in
theorem greatN_any (x : Nt) (u s : Value) (w : World) (hN : RdN w u s x) (hz : SzN0 x) :
    Calls Tryz.prog 13 #[.agg (x.cells u s)] w fun e w' => e = .returned (.bool (gnB x)) ∧ Below w.heap.size w w' := by
  have HB := hid (below_al w (.cells (x.cells u s) 30))
  have HGR := hid (great45_any u s x.sup x.vs (w.alloc (.cells (x.cells u s) 30)) (hN.rs.below HB.out) (hN.rv.below HB.out) hz.sup hz.vs)
  have HD : Hid (gnB x = (grB x.sup x.vs || (decide (20 < (x.lf.size : Int)) || decide (20 < (x.ll.size : Int))))) := rfl
  have z1 := hz.lf
  have z2 := hz.ll
  obtain ⟨x1, y1, rfl, _⟩ := hN.rs.open
  obtain ⟨x2, y2, rfl, _⟩ := hN.rv.open
  clear hN hz
  generalize gnB x = g at *
  generalize grB x.sup x.vs = r at *
  unfold Nt.cells at *
  cases r with
  | true =>
    have HR : Hid (g = true) := HD.out
    clear HD
    go_enter Tryz.func13, Tryz.ntmps13
    go_wp2_with fail
    (with_reducible refine HGR.out.mono ?_)
    rintro e w' ⟨rfl, rfl⟩
    go_wp2_with fail
    go_ret
    exact ⟨ret_bool HR.out.symm, HB.out⟩
  | false =>
    by_cases k1 : 20 < (x.lf.size : Int)
    · have HR : Hid (g = true) := by show _ = _; rw [HD.out, decide_eq_true k1]; rfl
      clear HD
      go_enter Tryz.func13, Tryz.ntmps13
      go_wp2_with fail
      (with_reducible refine HGR.out.mono ?_)
      rintro e w' ⟨rfl, rfl⟩
      go_wp2_with fail
      go_ret
      exact ⟨ret_bool HR.out.symm, HB.out⟩
    · have HR : Hid (g = decide (20 < (x.ll.size : Int))) := by show _ = _; rw [HD.out, decide_eq_false k1]; rfl
      clear HD
      go_enter Tryz.func13, Tryz.ntmps13
      go_wp2_with fail
      (with_reducible refine HGR.out.mono ?_)
      rintro e w' ⟨rfl, rfl⟩
      go_wp2_with fail
      go_ret
      exact ⟨ret_bool (by rw [HR.out, show decide (20 < (x.lf.size : Int)) = false from decide_eq_false (by omega)]; rfl), HB.out⟩
end Go.Proofs.YtjhdeoniafahbaaGreatDoor

/-
  Plain: the laws of quotes, of the sizes of a small note, of its signs. No step of a program is in sight here.
-/
namespace Go.Proofs.YtjhdeoniafahbaaGreatDoor

theorem gw_ok {l : List ByteArray} {n : Int} (h : gwB l n = false) : (l.length : Int) ≤ n ∧ ∀ s ∈ l, s.size ≤ 20 := by
  unfold gwB at h
  rw [Bool.or_eq_false_iff] at h
  refine ⟨by simpa using h.2, fun s hs => ?_⟩
  have := List.any_eq_false.1 h.1 s hs
  simpa using this
theorem quote_len {l : List ByteArray} {n : Nat} (hn : l.length ≤ n) (h : ∀ s ∈ l, s.size ≤ 20) : (quoteB l).size ≤ n * 21 + 2 := by
  have h1 := joinB_len h
  have h2 : l.length * (20 + 1) ≤ n * 21 := Nat.mul_le_mul hn (Nat.le_refl _)
  unfold quoteB
  split
  · show 2 ≤ _; omega
  · omega
theorem lcheck_cases {l : List ByteArray} (h : l.length ≤ 4096) : lcheckI l = 0 ∨ lcheckI l = 11 := by
  unfold lcheckI
  rw [if_neg (by omega)]
  split
  · exact .inr rfl
  · exact .inl rfl
/-- P45.4, the first half. -/
theorem quotes_one {ws : List ByteArray} (hg : gwB ws 10 = false) : (quotI ws = 0 ∧ unqI (quotS ws) = 0 ∧ unqL (quotS ws) = ws) ∨ (quotI ws = 11 ∧ quotS ws = ⟨#[]⟩) := by
  obtain ⟨h1, h2⟩ := gw_ok hg
  have hq := quote_len (n := 10) (by omega) h2
  rcases lcheck_cases (l := ws) (by omega) with h | h
  · have hI : quotI ws = 0 := by unfold quotI; rw [if_pos h, if_neg (by omega)]
    have hS : quotS ws = quoteB ws := by unfold quotS; rw [if_pos hI]
    rw [hS]
    exact .inl ⟨hI, quote_back (lcheck_ok h).2 (lcheck_ok h).1 (by omega)⟩
  · have hI : quotI ws = 11 := by unfold quotI; rw [if_neg (by omega), h]
    exact .inr ⟨hI, by unfold quotS; rw [if_neg (by omega)]⟩
/-- P45.4, the second half. -/
theorem quotes_two {s : ByteArray} (hs : s.size ≤ 65536) : (unqI s = 0 ∧ quotI (unqL s) = 0 ∧ quotS (unqL s) = s) ∨ (unqI s = 3 ∧ unqL s = []) := by
  by_cases h : s = noneB
  · subst h
    refine .inl ⟨by decide +kernel, by decide +kernel, by decide +kernel⟩
  · by_cases hl : lcheckI (splitS s) = 0
    · have hI : unqI s = 0 := by unfold unqI; rw [if_neg (by omega), if_neg h, if_pos hl]
      have hL : unqL s = splitS s := by unfold unqL; rw [if_neg (by omega), if_neg h, if_pos hl]
      have hne : (splitS s).length ≠ 0 := fun e => by
        have h1 := splitS_data s
        rw [List.eq_nil_of_length_eq_zero e] at h1
        exact cutL_ne 32 s.data.toList h1.symm
      have hq : quoteB (splitS s) = s := by unfold quoteB; rw [if_neg hne]; exact ba_ext (by simp [joinB, splitS_join])
      have hQ : quotI (splitS s) = 0 := by unfold quotI; rw [if_pos hl, hq, if_neg (by omega)]
      rw [hL]
      exact .inl ⟨hI, hQ, by unfold quotS; rw [if_pos hQ, hq]⟩
    · exact .inr ⟨by unfold unqI; rw [if_neg (by omega), if_neg h, if_neg hl], by unfold unqL; rw [if_neg (by omega), if_neg h, if_neg hl]⟩

/-- A note of the sizes that the statements examine. -/
structure NtSm (x : Nt) : Prop where
  sup : x.sup.length ≤ 6 ∧ ∀ s ∈ x.sup, s.size ≤ 20
  vl : x.vs.length ≤ 4
  vs : ∀ v ∈ x.vs, (v.ws.length ≤ 6 ∧ ∀ s ∈ v.ws, s.size ≤ 20) ∧ v.sg.length ≤ 6 ∧ ∀ s ∈ v.sg, s.size ≤ 20
  lf : x.lf.size ≤ 20
  ll : x.ll.size ≤ 20
theorem nt_small {x : Nt} (h : gnB x = false) : NtSm x := by
  unfold gnB grB at h
  simp only [Bool.or_eq_false_iff, decide_eq_false_iff_not] at h
  obtain ⟨⟨h1, h2, h3⟩, h4, h5⟩ := h
  have hs := gw_ok h3
  refine ⟨⟨by omega, hs.2⟩, by omega, fun v hv => ?_, by omega, by omega⟩
  have hg := List.any_eq_false.1 h1 v hv
  unfold gvB at hg
  simp only [Bool.or_eq_true, not_or, Bool.not_eq_true] at hg
  have ha := gw_ok hg.1
  have hb := gw_ok hg.2
  exact ⟨⟨by omega, ha.2⟩, by omega, hb.2⟩
theorem brace_len {l : List ByteArray} (hn : l.length ≤ 6) (h : ∀ s ∈ l, s.size ≤ 20) : (bracesB l).size ≤ 300 := by
  have h1 := joinB_len h
  have h2 : l.length * (20 + 1) ≤ 6 * 21 := Nat.mul_le_mul hn (Nat.le_refl _)
  rw [← ba_len, braces_data, List.length_cons, List.length_append, ba_len]
  simp only [List.length_singleton]
  omega
theorem parts_small {x : Nt} (h : NtOk x) (hs : NtSm x) : ∀ p ∈ partsN x, p.size ≤ 300 := by
  intro p hp
  unfold partsN frontL at hp
  have hb := prE_bounds h
  simp only [List.mem_append, List.mem_singleton] at hp
  rcases hp with (rfl | hp | hp | hp) | rfl | hp
  · have h1 := itoaB_21 hb.1 hb.2.1
    have h2 := itoaB_21 hb.2.2.1 hb.2.2.2
    unfold spanB
    split
    · omega
    · rw [ByteArray.size_append, ByteArray.size_append]
      show _ + 1 + _ ≤ _
      omega
  · split at hp
    · cases hp
    · rename_i h4
      rw [List.mem_singleton.1 hp]
      exact printT_300 (h.lm h4)
  · have : signsB x.pl ⊆ [plusB, minB, starB] := by
      unfold signsB
      split
      · simp
      · split
        · simp
        · split <;> simp
    have hm := this hp
    simp only [List.mem_cons, List.not_mem_nil, or_false] at hm
    rcases hm with rfl | rfl | rfl <;> decide
  · split at hp
    · rw [List.mem_singleton.1 hp]; exact brace_len hs.sup.1 hs.sup.2
    · cases hp
  · decide
  · have hone : ∀ (v : Vr), v ∈ x.vs → ∀ q ∈ oneV v, q.size ≤ 300 := by
      intro v hv q hq
      have hk := hs.vs v hv
      unfold oneV at hq
      simp only [List.mem_cons, List.not_mem_nil, or_false] at hq
      rcases hq with rfl | rfl
      · have := quote_len hk.1.1 hk.1.2; omega
      · exact brace_len hk.2.1 hk.2.2
    cases hvs : x.vs with
    | nil => rw [hvs] at hp; cases hp
    | cons v r =>
      rw [hvs] at hp hone
      unfold varsV at hp
      rcases List.mem_append.1 hp with hp | hp
      · exact hone v (by simp) p hp
      · obtain ⟨u, hu, hp⟩ := List.mem_flatMap.1 hp
        rcases List.mem_cons.1 hp with rfl | hp
        · decide
        · exact hone u (by simp [hu]) p hp
theorem prN_small {x : Nt} (h : NtOk x) (hs : NtSm x) : (prN x).size ≤ 65536 := by
  have h1 := joinB_len (parts_small h hs)
  have h2 : (partsN x).length ≤ 17 := by
    have h3 := varsV_len x.vs
    have h4 := signs_len x.pl
    have h5 := hs.vl
    unfold partsN frontL
    simp only [List.length_append, List.length_singleton]
    have : ∀ (c : Prop) [Decidable c] (b : List ByteArray), (if c then ([] : List ByteArray) else [printT x.lf x.ll x.ln]).length ≤ 1 := fun c _ _ => by split <;> simp
    have h6 := this (x.pl = 4) []
    have h7 : (if x.pos = true then [bracesB x.sup] else []).length ≤ 1 := by split <;> simp
    omega
  have h3 : (partsN x).length * (300 + 1) ≤ 17 * 301 := Nat.mul_le_mul h2 (Nat.le_refl _)
  have e : (joinB (partsN x)).size = (prN x).size := rfl
  omega
theorem prE_small {x : Nt} (hs : NtSm x) : prE x = nteI x := by
  unfold prE
  split
  · rename_i h
    rw [if_neg (by have := prN_small (note_ok h) hs; omega), h]
  · rfl

theorem sum_zero : ∀ {l : List Nat}, (∀ n ∈ l, n = 0) → l.sum = 0
  | [], _ => rfl
  | a :: r, h => by rw [List.sum_cons, h a (by simp), sum_zero fun n hn => h n (by simp [hn])]
/-- How many of its bytes are c. -/
def cB (c : UInt8) (s : ByteArray) : Nat := List.count c s.data.toList
theorem count_joinB {c : UInt8} (hc : c ≠ 32) (l : List ByteArray) : cB c (joinB l) = (l.map (cB c)).sum := by
  have e : cB c (joinB l) = List.count c (Lib.join (l.map (·.data.toList)) [32]) := by simp [cB, joinB]
  rw [e]
  cases l with
  | nil => simp [Lib.join]
  | cons x r =>
    rw [List.map_cons, Lib.join_cons, List.count_append, List.map_cons, List.sum_cons]
    show _ = List.count c x.data.toList + _
    congr 1
    unfold Lib.joinTail
    rw [List.count_flatten, List.map_map, List.map_map]
    congr 1
    refine List.map_congr_left fun s _ => ?_
    show List.count c ([32] ++ s.data.toList) = List.count c s.data.toList
    rw [List.count_append, List.count_eq_zero.2 (by simpa using hc), Nat.zero_add]
theorem cB_zero {c : UInt8} {s : ByteArray} (h : c ∉ s.data.toList) : cB c s = 0 := List.count_eq_zero.2 h
theorem cB_braces {c : UInt8} {l : List ByteArray} (h : ∀ s ∈ l, sigB s = true) (hc : brc c = true) (h32 : c ≠ 32) : cB c (bracesB l) = (if c = 123 then 1 else 0) + (if c = 125 then 1 else 0) := by
  unfold cB
  rw [braces_data, List.count_cons, List.count_append]
  have h0 : cB c (joinB l) = 0 := by
    rw [count_joinB h32, sum_zero]
    intro n hn
    obtain ⟨s, hs, rfl⟩ := List.mem_map.1 hn
    exact cB_zero fun hm => by have := (sig_brc (h s hs)).2.2 _ hm; rw [hc] at this; cases this
  have h1 : List.count c (joinB l).data.toList = 0 := h0
  rw [h1]
  by_cases e1 : c = 123
  · subst e1; decide
  · by_cases e2 : c = 125
    · subst e2; decide
    · rw [if_neg e1, if_neg e2, List.count_singleton]
      simp [Ne.symm e1, Ne.symm e2]
theorem cB_words {c : UInt8} {l : List ByteArray} (h : ∀ s ∈ l, wordB s = true) (hc : brc c = true) (h32 : c ≠ 32) (hn : c ∉ noneB.data.toList) : cB c (quoteB l) = 0 := by
  unfold quoteB
  split
  · exact cB_zero hn
  · rw [count_joinB h32, sum_zero]
    intro n hn
    obtain ⟨s, hs, rfl⟩ := List.mem_map.1 hn
    exact cB_zero fun hm => by have := word_brc (h s hs) _ hm; rw [hc] at this; cases this
end Go.Proofs.YtjhdeoniafahbaaGreatDoor

/-
  notation.Of.
-/
namespace Go.Proofs.YtjhdeoniafahbaaGreatDoor
open Go.RowKit

theorem lists_len {ls la : List Int} {n : Nat} (h : listsI ls la n = 0) : ls.length = n ∧ la.length = n ∧ lnGo none ls la = 0 := by
  unfold listsI at h
  split at h
  · cases h
  · split at h
    · cases h
    · exact ⟨by omega, by omega, h⟩
def nt00 : Nt := ⟨0, 0, 0, ⟨#[]⟩, ⟨#[]⟩, 0, false, [], []⟩
def ofAI (ls la : List Int) (ws : List ByteArray) (e : En) : Int := if listsI ls la ws.length = 0 then ofI ls la ws e else listsI ls la ws.length
def ofAN (ls la : List Int) (ws : List ByteArray) (e : En) : Nt := if ofAI ls la ws e = 0 then ofN ls la ws e else nt00
/-- What is returned: the note, or an empty one and why. -/
def OfQ (y : Nt) (err : Int) (w : World) (r : Ending) (w' : World) : Prop :=
  ∃ (au : Option Addr) (nu cu : Nat) (av : Option Addr) (nv cv : Nat), r = .returned (.tuple #[.agg (y.cells (.slice au nu cu) (.slice av nv cv)), .int .i64 err]) ∧ RdN w' (.slice au nu cu) (.slice av nv cv) y ∧ Below w.heap.size w w'
theorem rdN_zero (w : World) : RdN w (.slice none 0 0) (.slice none 0 0) nt00 := ⟨Rd.nil _, RdV.nil _⟩

set_option maxRecDepth 100000 in
set_option maxHeartbeats 4000000 in
theorem pOf_any (ls la : List Int) (ws : List ByteArray) (x : En) (v1 v2 v3 u s : Value) (w : World) (he : Env w) (h1 : RdI w v1 ls) (h2 : RdI w v2 la) (h3 : RdS w v3 ws) (hE : RdE w u s x)
    (hz : Sz16 ws) (hzE : SzE x) (hlen : ws.length ≤ 13) :
    Calls Tryz.prog 15 #[v1, v2, v3, .agg (x.cells u s)] w fun r w' => OfQ (ofAN ls la ws x) (ofAI ls la ws x) w r w' := by
  have HB0 := hid (below_tr (below_al w (.cells (x.cells u s) 26)) (below_al _ (.cells zeroN 30)))
  have HRe := hid ((row_nw w (x.cells u s) 26 rfl).al (.cells zeroN 30))
  have hrr := row_nw (w.alloc (.cells (x.cells u s) 26)) zeroN 30 rfl
  rw [show (w.alloc (.cells (x.cells u s) 26)).heap.size = w.heap.size + 1 by simp] at hrr
  have HRr := hid hrr
  have HLI := hid (lists_any v1 v2 v3 ls la ws _ (h1.below HB0.out) (h2.below HB0.out) (h3.below HB0.out))
  have HIA : Hid (ofAI ls la ws x = if listsI ls la ws.length = 0 then ofI ls la ws x else listsI ls la ws.length) := rfl
  have HNA : Hid (ofAN ls la ws x = if ofAI ls la ws x = 0 then ofN ls la ws x else nt00) := rfl
  obtain ⟨a1, c1, rfl, _⟩ := h1.open
  obtain ⟨a2, c2, rfl, _⟩ := h2.open
  obtain ⟨a3, c3, rfl, _⟩ := h3.open
  obtain ⟨au, cu, rfl, _⟩ := hE.rs.open
  obtain ⟨av, cv, rfl, _⟩ := hE.rv.open
  clear hrr
  by_cases k0 : listsI ls la ws.length = 0
  · obtain ⟨hl1, hl2, _⟩ := lists_len k0
    have HF := fun w' (h : Below w.heap.size w w') => hid (pof_any ls la ws x _ _ _ _ _ w' (he.below h) (h1.below h) (h2.below h) (h3.below h) (hE.below h) hz hzE hl1 hl2 hlen)
    have HIB : Hid (ofAI ls la ws x = ofI ls la ws x) := by show _ = _; rw [HIA.out, if_pos k0]
    rw [k0] at HLI
    clear he h1 h2 h3 hE hzE hl1 hl2 HIA
    generalize hi : ofI ls la ws x = oi at *
    unfold En.cells zeroN at *
    go_enter Tryz.func15, Tryz.ntmps15
    go_wp2_with fail
    (with_reducible refine HLI.out.mono ?_)
    rintro e w3 ⟨rfl, hB3⟩
    have HB3 := hid (below_tr HB0.out hB3)
    have HRe3 := hid (HRe.out.below hB3)
    have HRr3 := hid (HRr.out.below hB3)
    have e0 := HRe3.out.cell 0 (x := .int .i64 x.ly) rfl
    have e1 := HRe3.out.cell 1 (x := .int .i64 x.fr) rfl
    have e2 := HRe3.out.cell 2 (x := .int .i64 x.to_) rfl
    have e3 := HRe3.out.cell 3 (x := .bool x.pos) rfl
    have e4 := HRe3.out.cell 4 (x := .slice au x.sup.length cu) rfl
    have e5 := HRe3.out.cell 5 (x := .slice av x.vs.length cv) rfl
    clear HB0 HRe HRr HLI hB3
    go_wp2_with fail
    (with_reducible refine (HF _ HB3.out).out.mono ?_)
    rintro e w4 ⟨y, bu, nu, du, bv, nv, dv, rfl, hy, hB4⟩
    unfold Nt.cells
    have HB4 := hid (below_tr HB3.out hB4)
    have HRr4 := hid (HRr3.out.below hB4)
    have HY := hid hy
    clear e0 e1 e2 e3 e4 e5 HRe3 HRr3 HF hB4 hy HB3
    have HB5 := hid (below_tr HB4.out (below_al w4 (.cells (y.cells (.slice bu nu du) (.slice bv nv dv)) 30)))
    have HRr5 := hid (HRr4.out.al (.cells (y.cells (.slice bu nu du) (.slice bv nv dv)) 30))
    unfold Nt.cells at HB5 HRr5
    have r0 := HRr5.out.cell 0 (x := .int .i64 0) rfl
    have r1 := HRr5.out.cell 1 (x := .int .i64 0) rfl
    have r2 := HRr5.out.cell 2 (x := .int .i64 0) rfl
    have r3 := HRr5.out.cell 3 (x := .string ⟨#[]⟩) rfl
    have r4 := HRr5.out.cell 4 (x := .string ⟨#[]⟩) rfl
    have r5 := HRr5.out.cell 5 (x := .int .i64 0) rfl
    have r6 := HRr5.out.cell 6 (x := .bool false) rfl
    have r7 := HRr5.out.cell 7 (x := .slice none 0 0) rfl
    have r8 := HRr5.out.cell 8 (x := .slice none 0 0) rfl
    have g0 := HRr5.out.frozen 0
    have g1 := HRr5.out.frozen 1
    have g2 := HRr5.out.frozen 2
    have g3 := HRr5.out.frozen 3
    have g4 := HRr5.out.frozen 4
    have g5 := HRr5.out.frozen 5
    have g6 := HRr5.out.frozen 6
    have g7 := HRr5.out.frozen 7
    have g8 := HRr5.out.frozen 8
    by_cases k1 : oi = 0
    · subst k1
      have HNB : Hid (ofAN ls la ws x = y) := by show _ = _; rw [HNA.out, HIB.out, if_pos rfl]; exact (HY.out rfl).1.symm
      have HRY : Hid (OwN w4 (.slice bu nu du) (.slice bv nv dv) y) := by have h := HY.out rfl; show OwN _ _ _ _; rw [h.1]; exact h.2
      clear HY HNA
      go_wp2_with fail
      have q := row9 HRr5.out (.int .i64 y.fr) (.int .i64 y.to_) (.int .i64 y.pl) (.string y.lf) (.string y.ll) (.int .i64 y.ln) (.bool y.pos) (.slice bu nu du) (.slice bv nv dv)
      have hq := (HRY.out.below (below_al w4 (.cells (y.cells (.slice bu nu du) (.slice bv nv dv)) 30))).set9 HRr5.out y
      have hb := bel_set9 HB5.out (B := w.heap.size + 1) (Nat.le_succ _) y (.slice bu nu du) (.slice bv nv dv)
      have z0 := q.cell 0 (x := .int .i64 y.fr) rfl
      have z1 := q.cell 1 (x := .int .i64 y.to_) rfl
      have z2 := q.cell 2 (x := .int .i64 y.pl) rfl
      have z3 := q.cell 3 (x := .string y.lf) rfl
      have z4 := q.cell 4 (x := .string y.ll) rfl
      have z5 := q.cell 5 (x := .int .i64 y.ln) rfl
      have z6 := q.cell 6 (x := .bool y.pos) rfl
      have z7 := q.cell 7 (x := .slice bu nu du) rfl
      have z8 := q.cell 8 (x := .slice bv nv dv) rfl
      exact bodyPost_ret (v := .tuple #[.agg (y.cells (.slice bu nu du) (.slice bv nv dv)), .int .i64 0]) (by simp [results, Tryz.f15, go_sem, Nt.cells, z0, z1, z2, z3, z4, z5, z6, z7, z8]) rfl ⟨bu, nu, du, bv, nv, dv, by rw [HNB.out, HIB.out], by rw [HNB.out]; exact hq.rd, hb⟩
    · have k1b : (oi == 0) = false := beq_eq_false_iff_ne.2 k1
      have HNB : Hid (ofAN ls la ws x = nt00) := by show _ = _; rw [HNA.out, HIB.out, if_neg k1]
      clear HY HNA
      go_wp2_with fail
      have q := row9 HRr5.out (.int .i64 0) (.int .i64 0) (.int .i64 0) (.string ⟨#[]⟩) (.string ⟨#[]⟩) (.int .i64 0) (.bool false) (.slice none 0 0) (.slice none 0 0)
      have hb := zsets_bel HB5.out
      have z0 := q.cell 0 (x := .int .i64 0) rfl
      have z1 := q.cell 1 (x := .int .i64 0) rfl
      have z2 := q.cell 2 (x := .int .i64 0) rfl
      have z3 := q.cell 3 (x := .string ⟨#[]⟩) rfl
      have z4 := q.cell 4 (x := .string ⟨#[]⟩) rfl
      have z5 := q.cell 5 (x := .int .i64 0) rfl
      have z6 := q.cell 6 (x := .bool false) rfl
      have z7 := q.cell 7 (x := .slice none 0 0) rfl
      have z8 := q.cell 8 (x := .slice none 0 0) rfl
      exact bodyPost_ret (v := .tuple #[.agg (nt00.cells (.slice none 0 0) (.slice none 0 0)), .int .i64 oi]) (by simp [results, Tryz.f15, go_sem, Nt.cells, nt00, z0, z1, z2, z3, z4, z5, z6, z7, z8]) rfl ⟨none, 0, 0, none, 0, 0, by rw [HNB.out, HIB.out], by rw [HNB.out]; exact rdN_zero _, hb⟩
  · have k0b : (listsI ls la ws.length == 0) = false := beq_eq_false_iff_ne.2 k0
    have HIB : Hid (ofAI ls la ws x = listsI ls la ws.length) := by show _ = _; rw [HIA.out, if_neg k0]
    have HNB : Hid (ofAN ls la ws x = nt00) := by show _ = _; rw [HNA.out, HIB.out, if_neg k0]
    clear he h1 h2 h3 hE HIA HNA k0
    generalize listsI ls la ws.length = li at *
    unfold En.cells zeroN at *
    go_enter Tryz.func15, Tryz.ntmps15
    go_wp2_with fail
    (with_reducible refine HLI.out.mono ?_)
    rintro e w3 ⟨rfl, hB3⟩
    have HB3 := hid (below_tr HB0.out hB3)
    have HRr3 := hid (HRr.out.below hB3)
    have r0 := HRr3.out.cell 0 (x := .int .i64 0) rfl
    have g0 := HRr3.out.frozen 0
    have r1 := HRr3.out.cell 1 (x := .int .i64 0) rfl
    have g1 := HRr3.out.frozen 1
    have r2 := HRr3.out.cell 2 (x := .int .i64 0) rfl
    have g2 := HRr3.out.frozen 2
    have r3 := HRr3.out.cell 3 (x := .string ⟨#[]⟩) rfl
    have g3 := HRr3.out.frozen 3
    have r4 := HRr3.out.cell 4 (x := .string ⟨#[]⟩) rfl
    have g4 := HRr3.out.frozen 4
    have r5 := HRr3.out.cell 5 (x := .int .i64 0) rfl
    have g5 := HRr3.out.frozen 5
    have r6 := HRr3.out.cell 6 (x := .bool false) rfl
    have g6 := HRr3.out.frozen 6
    have r7 := HRr3.out.cell 7 (x := .slice none 0 0) rfl
    have g7 := HRr3.out.frozen 7
    have r8 := HRr3.out.cell 8 (x := .slice none 0 0) rfl
    have g8 := HRr3.out.frozen 8
    go_wp2_with fail
    have q := row9 HRr3.out (.int .i64 0) (.int .i64 0) (.int .i64 0) (.string ⟨#[]⟩) (.string ⟨#[]⟩) (.int .i64 0) (.bool false) (.slice none 0 0) (.slice none 0 0)
    have hb := zsets_bel HB3.out
    have z0 := q.cell 0 (x := .int .i64 0) rfl
    have z1 := q.cell 1 (x := .int .i64 0) rfl
    have z2 := q.cell 2 (x := .int .i64 0) rfl
    have z3 := q.cell 3 (x := .string ⟨#[]⟩) rfl
    have z4 := q.cell 4 (x := .string ⟨#[]⟩) rfl
    have z5 := q.cell 5 (x := .int .i64 0) rfl
    have z6 := q.cell 6 (x := .bool false) rfl
    have z7 := q.cell 7 (x := .slice none 0 0) rfl
    have z8 := q.cell 8 (x := .slice none 0 0) rfl
    exact bodyPost_ret (v := .tuple #[.agg (nt00.cells (.slice none 0 0) (.slice none 0 0)), .int .i64 li]) (by simp [results, Tryz.f15, go_sem, Nt.cells, nt00, z0, z1, z2, z3, z4, z5, z6, z7, z8]) rfl ⟨none, 0, 0, none, 0, 0, by rw [HNB.out, HIB.out], by rw [HNB.out]; exact rdN_zero _, hb⟩
end Go.Proofs.YtjhdeoniafahbaaGreatDoor

/-
  Notes and entries that came in by value.
-/
namespace Go.Proofs.YtjhdeoniafahbaaGreatDoor
open Go.ChangeShapes Go.WideShapes Go.ChangeAt Go.RowKit Go.Deep

theorem nt_cellsInt : (Tryz.prog).cellsOf 3 = 1 := by kernel_rfl
theorem nt_cellsStr : (Tryz.prog).cellsOf 9 = 1 := by kernel_rfl
theorem nt_cellsBool : (Tryz.prog).cellsOf 4 = 1 := by kernel_rfl
theorem nt_cellsSs : (Tryz.prog).cellsOf 23 = 1 := by kernel_rfl
theorem nt_cellsVs : (Tryz.prog).cellsOf 24 = 1 := by kernel_rfl
theorem nt_cellsV : (Tryz.prog).cellsOf 63 = 2 := by kernel_rfl
theorem nt_cellsLm : (Tryz.prog).cellsOf 28 = 3 := by kernel_rfl
theorem nt_cellsN : (Tryz.prog).cellsOf 30 = 9 := by kernel_rfl
theorem nt_cellsE : (Tryz.prog).cellsOf 26 = 6 := by kernel_rfl
theorem nt_two {α : Type} {cs : List α} (h : cs.length = 2) : ∃ c0 c1, cs = [c0, c1] := by
  match cs, h with
  | [c0, c1], _ => exact ⟨c0, c1, rfl⟩
theorem nt_six {α : Type} {cs : List α} (h : cs.length = 6) : ∃ c0 c1 c2 c3 c4 c5, cs = [c0, c1, c2, c3, c4, c5] := by
  match cs, h with
  | [c0, c1, c2, c3, c4, c5], _ => exact ⟨c0, c1, c2, c3, c4, c5, rfl⟩
theorem nt_nine {α : Type} {cs : List α} (h : cs.length = 9) : ∃ c0 c1 c2 c3 c4 c5 c6 c7 c8, cs = [c0, c1, c2, c3, c4, c5, c6, c7, c8] := by
  match cs, h with
  | [c0, c1, c2, c3, c4, c5, c6, c7, c8], _ => exact ⟨c0, c1, c2, c3, c4, c5, c6, c7, c8, rfl⟩
instance : Inhabited Vr := ⟨⟨[], []⟩⟩
section
variable {H : Type} {enc : TypeId × Value → H} {W : World} {base : Nat} {spare : Nat → Bool} {held : Bool}

set_option maxRecDepth 100000 in
theorem vrc_of {fuel : Nat} {cs : List Value} {x : DataW H × List MemPlace} (hl : cs.length = 2) (hf : DataW.trod enc Tryz.prog W base spare held fuel 63 cs = some x) : ∃ (p : Vr) (u s : Value), cs = [u, s] ∧ (RdS W u p.ws ∧ RdS W s p.sg) ∧ Szs p.ws ∧ Szs p.sg := by
  obtain ⟨c0, c1, rfl⟩ := nt_two hl
  obtain ⟨xs, n, _, _, _, hlen, hx⟩ := DataW.trod_struct Tryz.underlying63 hf
  have hy : ∀ i, i < 2 → ∃ y, xs[i]? = some y := fun i hi => ⟨xs[i]'(by rw [hlen]; exact hi), List.getElem?_eq_getElem _⟩
  obtain ⟨l0, hr0, hz0⟩ : ∃ l, RdS W c0 l ∧ Szs l := by
    obtain ⟨y, hy⟩ := hy 0 (by decide)
    have h : DataW.trod enc Tryz.prog W base spare held n 23 (([c0, c1].drop 0).take (Tryz.prog.cellsOf 23)) = xs[0]? := hx 0 _ rfl
    rw [hy, nt_cellsSs] at h
    exact rdS_of Tryz.underlying23 Tryz.underlying9 (by kernel_rfl) h
  obtain ⟨l1, hr1, hz1⟩ : ∃ l, RdS W c1 l ∧ Szs l := by
    obtain ⟨y, hy⟩ := hy 1 (by decide)
    have h : DataW.trod enc Tryz.prog W base spare held n 23 (([c0, c1].drop 1).take (Tryz.prog.cellsOf 23)) = xs[1]? := hx 1 _ rfl
    rw [hy, nt_cellsSs] at h
    exact rdS_of Tryz.underlying23 Tryz.underlying9 (by kernel_rfl) h
  exact ⟨⟨l0, l1⟩, c0, c1, rfl, ⟨hr0, hr1⟩, hz0, hz1⟩
/-- Variants that came in. -/
theorem rdV_of {fuel : Nat} {v : Value} {x : DataW H × List MemPlace} (hf : DataW.trod enc Tryz.prog W base spare held fuel 24 [v] = some x) : ∃ l, RdV W v l ∧ ∀ p ∈ l, Szs p.ws ∧ Szs p.sg := by
  rcases open_slice Tryz.underlying24 hf with ⟨hcs, _⟩ | ⟨a, len, cap, m, n, D, Pl, hcs, _, hl, hm, hmm, _, hcell⟩
  · simp only [List.cons.injEq, and_true] at hcs
    subst hcs
    exact ⟨[], RdV.nil W, fun s h => by cases h⟩
  · simp only [List.cons.injEq, and_true] at hcs
    subst hcs
    have hlen : len ≤ m := by rw [hmm]; split <;> omega
    obtain ⟨b, off, spot⟩ := a
    have hex : ∀ i, i < len → ∃ x : Vr, (∃ u s, W.cell? (((⟨b, off, spot⟩ : Addr).add (i * 2)).add 0) = some u ∧ W.cell? (((⟨b, off, spot⟩ : Addr).add (i * 2)).add 1) = some s ∧ RdS W u x.ws ∧ RdS W s x.sg) ∧ Szs x.ws ∧ Szs x.sg := by
      intro i hi
      obtain ⟨cs, h1, h2⟩ := hcell i (by omega)
      rw [nt_cellsV] at h1
      obtain ⟨_, hl2, hc⟩ := World.cells?_some h1
      obtain ⟨x, u, s, rfl, hr, hz⟩ := vrc_of hl2 h2
      exact ⟨x, ⟨u, s, hc 0 (by decide), hc 1 (by decide), hr⟩, hz⟩
    obtain ⟨f, hf⟩ := choose_lt hex
    refine ⟨(List.range len).map f, ⟨some ⟨b, off, spot⟩, cap, by simp, by simpa using hl, hm, fun i x hx => ?_⟩, fun g hg => ?_⟩
    · have hi : i < len := by have := (List.getElem?_eq_some_iff.1 hx).1; simpa using this
      obtain ⟨u, s, a0, a1, a2⟩ := (hf i hi).1
      obtain rfl : spot = none := by
        obtain ⟨_, _, e0, _⟩ := (hf 0 (by omega)).1
        have h1 := World.cell?_spot e0
        simpa [Addr.add] using h1
      simp only [List.getElem?_map, List.getElem?_range hi, Option.map_some, Option.some.injEq] at hx
      subst hx
      rw [Go.WideShapes.add_plain, Go.WideShapes.add_plain] at a0 a1
      exact ⟨b, off, u, s, rfl, a0, a1, a2⟩
    · obtain ⟨i, hi, rfl⟩ := List.mem_map.1 hg
      exact (hf i (List.mem_range.1 hi)).2

set_option maxRecDepth 100000 in
set_option maxHeartbeats 1000000 in
/-- A note that came in by value. -/
theorem nt_of {r : Reach} {b0 : Nat} {v : Value} {d : DataW H} {p : List MemPlace} (hv : Value.okWide Tryz.prog W r b0 30 v) (h : DataW.Trod enc Tryz.prog W base spare held 30 v d p) :
    ∃ (q : Nt) (u s : Value), v = .agg (q.cells u s) ∧ RdN W u s q ∧ SzN0 q := by
  obtain ⟨cs, rfl, hsz⟩ := okWide_struct Tryz.underlying30 hv
  rw [nt_cellsN] at hsz
  obtain ⟨fuel, hf⟩ := h
  obtain ⟨l⟩ := cs
  obtain ⟨c0, c1, c2, c3, c4, c5, c6, c7, c8, rfl⟩ := nt_nine (cs := l) hsz
  obtain ⟨xs, n, _, _, _, hlen, hx⟩ := DataW.trod_struct Tryz.underlying30 hf
  have hy : ∀ i, i < 7 → ∃ y, xs[i]? = some y := fun i hi => ⟨xs[i]'(by rw [hlen]; exact hi), List.getElem?_eq_getElem _⟩
  obtain ⟨z0, rfl⟩ : ∃ z, c0 = .int .i64 z := by
    obtain ⟨y, hy⟩ := hy 0 (by decide)
    have h : DataW.trod enc Tryz.prog W base spare held n 3 (([c0, c1, c2, c3, c4, c5, c6, c7, c8].drop 0).take (Tryz.prog.cellsOf 3)) = xs[0]? := hx 0 _ rfl
    rw [hy, nt_cellsInt] at h
    obtain ⟨z, hz, _⟩ := DataW.trod_int Tryz.underlying3 h
    exact ⟨z, (List.cons.inj hz).1⟩
  obtain ⟨z1, rfl⟩ : ∃ z, c1 = .int .i64 z := by
    obtain ⟨y, hy⟩ := hy 1 (by decide)
    have h : DataW.trod enc Tryz.prog W base spare held n 3 (([.int .i64 z0, c1, c2, c3, c4, c5, c6, c7, c8].drop 1).take (Tryz.prog.cellsOf 3)) = xs[1]? := hx 1 _ rfl
    rw [hy, nt_cellsInt] at h
    obtain ⟨z, hz, _⟩ := DataW.trod_int Tryz.underlying3 h
    exact ⟨z, (List.cons.inj hz).1⟩
  obtain ⟨z2, rfl⟩ : ∃ z, c2 = .int .i64 z := by
    obtain ⟨y, hy⟩ := hy 2 (by decide)
    have h : DataW.trod enc Tryz.prog W base spare held n 3 (([.int .i64 z0, .int .i64 z1, c2, c3, c4, c5, c6, c7, c8].drop 2).take (Tryz.prog.cellsOf 3)) = xs[2]? := hx 2 _ rfl
    rw [hy, nt_cellsInt] at h
    obtain ⟨z, hz, _⟩ := DataW.trod_int Tryz.underlying3 h
    exact ⟨z, (List.cons.inj hz).1⟩
  obtain ⟨yL, hyL⟩ := hy 3 (by decide)
  have hL : DataW.trod enc Tryz.prog W base spare held n 28 (([.int .i64 z0, .int .i64 z1, .int .i64 z2, c3, c4, c5, c6, c7, c8].drop 3).take (Tryz.prog.cellsOf 28)) = xs[3]? := hx 3 _ rfl
  rw [hyL, nt_cellsLm] at hL
  obtain ⟨ys, n1, _, _, _, hlen1, hx1⟩ := DataW.trod_struct Tryz.underlying28 hL
  have hy1 : ∀ i, i < 3 → ∃ y, ys[i]? = some y := fun i hi => ⟨ys[i]'(by rw [hlen1]; exact hi), List.getElem?_eq_getElem _⟩
  obtain ⟨z3, rfl, hs3⟩ : ∃ f : ByteArray, c3 = .string f ∧ f.size ≤ maxLen := by
    obtain ⟨y, hy⟩ := hy1 0 (by decide)
    have h : DataW.trod enc Tryz.prog W base spare held n1 9 (([c3, c4, c5].drop 0).take (Tryz.prog.cellsOf 9)) = ys[0]? := hx1 0 _ rfl
    rw [hy, nt_cellsStr] at h
    obtain ⟨s, hs, _, hz⟩ := DataW.trod_string Tryz.underlying9 h
    exact ⟨s, (List.cons.inj hs).1, hz⟩
  obtain ⟨z4, rfl, hs4⟩ : ∃ f : ByteArray, c4 = .string f ∧ f.size ≤ maxLen := by
    obtain ⟨y, hy⟩ := hy1 1 (by decide)
    have h : DataW.trod enc Tryz.prog W base spare held n1 9 (([.string z3, c4, c5].drop 1).take (Tryz.prog.cellsOf 9)) = ys[1]? := hx1 1 _ rfl
    rw [hy, nt_cellsStr] at h
    obtain ⟨s, hs, _, hz⟩ := DataW.trod_string Tryz.underlying9 h
    exact ⟨s, (List.cons.inj hs).1, hz⟩
  obtain ⟨z5, rfl⟩ : ∃ z, c5 = .int .i64 z := by
    obtain ⟨y, hy⟩ := hy1 2 (by decide)
    have h : DataW.trod enc Tryz.prog W base spare held n1 3 (([.string z3, .string z4, c5].drop 2).take (Tryz.prog.cellsOf 3)) = ys[2]? := hx1 2 _ rfl
    rw [hy, nt_cellsInt] at h
    obtain ⟨z, hz, _⟩ := DataW.trod_int Tryz.underlying3 h
    exact ⟨z, (List.cons.inj hz).1⟩
  obtain ⟨z6, rfl⟩ : ∃ z, c6 = .bool z := by
    obtain ⟨y, hy⟩ := hy 4 (by decide)
    have h : DataW.trod enc Tryz.prog W base spare held n 4 (([.int .i64 z0, .int .i64 z1, .int .i64 z2, .string z3, .string z4, .int .i64 z5, c6, c7, c8].drop 6).take (Tryz.prog.cellsOf 4)) = xs[4]? := hx 4 _ rfl
    rw [hy, nt_cellsBool] at h
    obtain ⟨z, hz, _⟩ := DataW.trod_bool Tryz.underlying4 h
    exact ⟨z, (List.cons.inj hz).1⟩
  obtain ⟨l7, hr7, hz7⟩ : ∃ l, RdS W c7 l ∧ Szs l := by
    obtain ⟨y, hy⟩ := hy 5 (by decide)
    have h : DataW.trod enc Tryz.prog W base spare held n 23 (([.int .i64 z0, .int .i64 z1, .int .i64 z2, .string z3, .string z4, .int .i64 z5, .bool z6, c7, c8].drop 7).take (Tryz.prog.cellsOf 23)) = xs[5]? := hx 5 _ rfl
    rw [hy, nt_cellsSs] at h
    exact rdS_of Tryz.underlying23 Tryz.underlying9 (by kernel_rfl) h
  obtain ⟨l8, hr8, hz8⟩ : ∃ l, RdV W c8 l ∧ ∀ p ∈ l, Szs p.ws ∧ Szs p.sg := by
    obtain ⟨y, hy⟩ := hy 6 (by decide)
    have h : DataW.trod enc Tryz.prog W base spare held n 24 (([.int .i64 z0, .int .i64 z1, .int .i64 z2, .string z3, .string z4, .int .i64 z5, .bool z6, c7, c8].drop 8).take (Tryz.prog.cellsOf 24)) = xs[6]? := hx 6 _ rfl
    rw [hy, nt_cellsVs] at h
    exact rdV_of h
  exact ⟨⟨z0, z1, z2, z3, z4, z5, z6, l7, l8⟩, c7, c8, rfl, ⟨hr7, hr8⟩, ⟨hs3, hs4, hz7, hz8⟩⟩
set_option maxRecDepth 100000 in
set_option maxHeartbeats 1000000 in
/-- An entry that came in by value. -/
theorem en_of {r : Reach} {b0 : Nat} {v : Value} {d : DataW H} {p : List MemPlace} (hv : Value.okWide Tryz.prog W r b0 26 v) (h : DataW.Trod enc Tryz.prog W base spare held 26 v d p) :
    ∃ (q : En) (u s : Value), v = .agg (q.cells u s) ∧ RdE W u s q ∧ SzE0 q := by
  obtain ⟨cs, rfl, hsz⟩ := okWide_struct Tryz.underlying26 hv
  rw [nt_cellsE] at hsz
  obtain ⟨fuel, hf⟩ := h
  obtain ⟨l⟩ := cs
  obtain ⟨c0, c1, c2, c3, c4, c5, rfl⟩ := nt_six (cs := l) hsz
  obtain ⟨xs, n, _, _, _, hlen, hx⟩ := DataW.trod_struct Tryz.underlying26 hf
  have hy : ∀ i, i < 6 → ∃ y, xs[i]? = some y := fun i hi => ⟨xs[i]'(by rw [hlen]; exact hi), List.getElem?_eq_getElem _⟩
  obtain ⟨z0, rfl⟩ : ∃ z, c0 = .int .i64 z := by
    obtain ⟨y, hy⟩ := hy 0 (by decide)
    have h : DataW.trod enc Tryz.prog W base spare held n 3 (([c0, c1, c2, c3, c4, c5].drop 0).take (Tryz.prog.cellsOf 3)) = xs[0]? := hx 0 _ rfl
    rw [hy, nt_cellsInt] at h
    obtain ⟨z, hz, _⟩ := DataW.trod_int Tryz.underlying3 h
    exact ⟨z, (List.cons.inj hz).1⟩
  obtain ⟨z1, rfl⟩ : ∃ z, c1 = .int .i64 z := by
    obtain ⟨y, hy⟩ := hy 1 (by decide)
    have h : DataW.trod enc Tryz.prog W base spare held n 3 (([.int .i64 z0, c1, c2, c3, c4, c5].drop 1).take (Tryz.prog.cellsOf 3)) = xs[1]? := hx 1 _ rfl
    rw [hy, nt_cellsInt] at h
    obtain ⟨z, hz, _⟩ := DataW.trod_int Tryz.underlying3 h
    exact ⟨z, (List.cons.inj hz).1⟩
  obtain ⟨z2, rfl⟩ : ∃ z, c2 = .int .i64 z := by
    obtain ⟨y, hy⟩ := hy 2 (by decide)
    have h : DataW.trod enc Tryz.prog W base spare held n 3 (([.int .i64 z0, .int .i64 z1, c2, c3, c4, c5].drop 2).take (Tryz.prog.cellsOf 3)) = xs[2]? := hx 2 _ rfl
    rw [hy, nt_cellsInt] at h
    obtain ⟨z, hz, _⟩ := DataW.trod_int Tryz.underlying3 h
    exact ⟨z, (List.cons.inj hz).1⟩
  obtain ⟨z3, rfl⟩ : ∃ z, c3 = .bool z := by
    obtain ⟨y, hy⟩ := hy 3 (by decide)
    have h : DataW.trod enc Tryz.prog W base spare held n 4 (([.int .i64 z0, .int .i64 z1, .int .i64 z2, c3, c4, c5].drop 3).take (Tryz.prog.cellsOf 4)) = xs[3]? := hx 3 _ rfl
    rw [hy, nt_cellsBool] at h
    obtain ⟨z, hz, _⟩ := DataW.trod_bool Tryz.underlying4 h
    exact ⟨z, (List.cons.inj hz).1⟩
  obtain ⟨l4, hr4, hz4⟩ : ∃ l, RdS W c4 l ∧ Szs l := by
    obtain ⟨y, hy⟩ := hy 4 (by decide)
    have h : DataW.trod enc Tryz.prog W base spare held n 23 (([.int .i64 z0, .int .i64 z1, .int .i64 z2, .bool z3, c4, c5].drop 4).take (Tryz.prog.cellsOf 23)) = xs[4]? := hx 4 _ rfl
    rw [hy, nt_cellsSs] at h
    exact rdS_of Tryz.underlying23 Tryz.underlying9 (by kernel_rfl) h
  obtain ⟨l5, hr5, hz5⟩ : ∃ l, RdV W c5 l ∧ ∀ p ∈ l, Szs p.ws ∧ Szs p.sg := by
    obtain ⟨y, hy⟩ := hy 5 (by decide)
    have h : DataW.trod enc Tryz.prog W base spare held n 24 (([.int .i64 z0, .int .i64 z1, .int .i64 z2, .bool z3, c4, c5].drop 5).take (Tryz.prog.cellsOf 24)) = xs[5]? := hx 5 _ rfl
    rw [hy, nt_cellsVs] at h
    exact rdV_of h
  exact ⟨⟨z0, z1, z2, z3, l4, l5⟩, c4, c5, rfl, ⟨hr4, hr5⟩, ⟨hz4, hz5⟩⟩
end
end Go.Proofs.YtjhdeoniafahbaaGreatDoor

/-
  Plain: the notation of a note with one variant; cutting at the ]; how often its signs stand in a notation. No step of a program is in sight here.
-/
namespace Go.Proofs.YtjhdeoniafahbaaGreatDoor

theorem occ_beh {A B : List UInt8} (h : [93] ∉ cutL 32 A) (j : Nat) (hj : j < A.length) : Lib.occAt (A ++ 32 :: 93 :: 32 :: B) [32, 93, 32] j = false := by
  cases ho : Lib.occAt (A ++ 32 :: 93 :: 32 :: B) [32, 93, 32] j with
  | false => rfl
  | true =>
    exfalso
    unfold Lib.occAt at ho
    have hp := List.isPrefixOf_iff_prefix.1 ho
    obtain ⟨R, hR⟩ := hp
    rw [List.drop_append_of_le_length (by omega)] at hR
    have hA : A = A.take j ++ A.drop j := (List.take_append_drop j A).symm
    have hne : A.drop j ≠ [] := fun e => by have := congrArg List.length e; rw [List.length_drop] at this; simp at this; omega
    obtain ⟨c, A', hd⟩ := List.exists_cons_of_ne_nil hne
    rw [hd] at hR hA
    simp only [List.cons_append, List.nil_append, List.cons.injEq] at hR
    obtain ⟨rfl, hR⟩ := hR
    apply h
    rw [hA, cutL_app_any]
    refine List.mem_append_right _ ?_
    cases A' with
    | nil => simp at hR
    | cons d A2 =>
      simp only [List.cons_append, List.cons.injEq] at hR
      obtain ⟨rfl, hR⟩ := hR
      cases A2 with
      | nil => simp [cutL]
      | cons e A3 =>
        simp only [List.cons_append, List.cons.injEq] at hR
        obtain ⟨rfl, _⟩ := hR
        simp [cutL]
theorem cut_beh {A B : List UInt8} (h : [93] ∉ cutL 32 A) : Lib.cut (A ++ 32 :: 93 :: 32 :: B) [32, 93, 32] = (A, B, true) := by
  have hI : Lib.index (A ++ 32 :: 93 :: 32 :: B) [32, 93, 32] = (A.length : Int) := Lib.index_hit (fun j hj => occ_beh h j hj) (by simp) (by unfold Lib.occAt; rw [List.drop_left]; simp [List.isPrefixOf])
  unfold Lib.cut
  rw [hI, if_pos (by omega), Int.toNat_natCast, List.take_left]
  have : (A ++ 32 :: 93 :: 32 :: B).drop (A.length + [32, 93, 32].length) = B := by
    rw [← List.drop_drop, List.drop_left]; rfl
  exact congrArg (fun z => (A, z, true)) this
theorem joinTail_app (sep : List UInt8) (a b : List (List UInt8)) : Lib.joinTail sep (a ++ b) = Lib.joinTail sep a ++ Lib.joinTail sep b := by
  unfold Lib.joinTail; rw [List.map_append, List.flatten_append]
theorem join_app (sep : List UInt8) {a b : List (List UInt8)} (ha : a ≠ []) (hb : b ≠ []) : Lib.join (a ++ b) sep = Lib.join a sep ++ (sep ++ Lib.join b sep) := by
  obtain ⟨x, r, rfl⟩ := List.exists_cons_of_ne_nil ha
  obtain ⟨y, t, rfl⟩ := List.exists_cons_of_ne_nil hb
  rw [List.cons_append, Lib.join_cons, Lib.join_cons, Lib.join_cons, joinTail_app, List.append_assoc]
  congr 2
  unfold Lib.joinTail
  rw [List.map_cons, List.flatten_cons, List.append_assoc]
theorem joinB_data (l : List ByteArray) : (joinB l).data.toList = Lib.join (l.map (·.data.toList)) [32] := by simp [joinB]
theorem frontL_ne (x : Nt) : frontL x ≠ [] := by unfold frontL; simp
theorem varsV_ne {l : List Vr} (h : l ≠ []) : varsV l ≠ [] := by
  obtain ⟨v, r, rfl⟩ := List.exists_cons_of_ne_nil h
  simp [varsV, oneV]
/-- The notation: what stands ahead of the ], and what stands behind. -/
theorem prN_cut {x : Nt} (hv : x.vs ≠ []) : (prN x).data.toList = (joinB (frontL x)).data.toList ++ 32 :: 93 :: 32 :: (joinB (varsV x.vs)).data.toList := by
  unfold prN partsN
  rw [joinB_data, joinB_data, joinB_data, List.map_append, List.map_append, join_app _ (by simpa using frontL_ne x) (by simp), join_app _ (by simp) (by simpa using varsV_ne hv)]
  rw [List.map_singleton, Lib.join_one]
  simp [behB]
theorem varsV_join : ∀ (r : List Vr) (v : Vr), (joinB (varsV (v :: r))).data.toList = Lib.join ((v :: r).map fun u => (joinB (oneV u)).data.toList) [32, 124, 32]
  | [], v => by simp [varsV, Lib.join_one]
  | u :: r, v => by
    have ih := varsV_join r u
    have e : varsV (v :: u :: r) = oneV v ++ ([barB] ++ varsV (u :: r)) := by simp [varsV]
    rw [e, joinB_data, List.map_append, List.map_append, join_app _ (by simp [oneV]) (by simp), join_app _ (by simp) (by simpa using varsV_ne (l := u :: r) (by simp)), ← joinB_data (oneV v), ← joinB_data (varsV (u :: r)), ih]
    rw [List.map_cons (l := u :: r), Lib.join_cons, List.map_singleton, Lib.join_one]
    have e2 : ∀ (a : List UInt8) (t : List (List UInt8)), Lib.joinTail [32, 124, 32] (a :: t) = [32, 124, 32] ++ Lib.join (a :: t) [32, 124, 32] := fun a t => by
      unfold Lib.joinTail
      rw [List.map_cons, List.flatten_cons, Lib.join_cons, List.append_assoc]; rfl
    rw [List.map_cons, e2]
    simp [barB]
/-- Of a valid note: with one of its variants alone. -/
def one1 (x : Nt) (v : Vr) : Nt := { x with vs := [v] }
theorem vars_one {pl : Int} : ∀ {l : List Vr}, varsI pl l = 0 → ∀ v ∈ l, varI pl v = 0
  | [], _, _, h => by cases h
  | a :: r, h, v, hv => by
    rw [varsI] at h
    split at h
    · rename_i h0
      rcases List.mem_cons.1 hv with rfl | hv
      · exact h0
      · exact vars_one h v hv
    · rename_i h0; exact absurd h h0
theorem one_ok {x : Nt} (h : nteI x = 0) {v : Vr} (hv : v ∈ x.vs) : nteI (one1 x v) = 0 := by
  unfold nteI at h
  split at h
  · rename_i hh
    have h1 : headI (one1 x v) = 0 := by
      unfold headI at hh ⊢
      unfold one1 lem0 at *
      dsimp only
      split at hh
      · cases hh
      · rename_i c1
        rw [if_neg c1]
        split at hh
        · cases hh
        · rename_i c2
          rw [if_neg c2]
          split at hh
          · cases hh
          · rename_i c3
            rw [if_neg c3]
            split at hh
            · rename_i c4; exact absurd hh c4.2
            · rename_i c4
              rw [if_neg c4]
              split at hh
              · cases hh
              · rename_i c5
                rw [if_neg c5]
                split at hh
                · cases hh
                · rename_i c6
                  rw [if_neg c6]
                  split at hh
                  · cases hh
                  · rename_i c7
                    rw [if_neg c7]
                    split at hh
                    · cases hh
                    · rename_i c8
                      rw [if_neg c8, if_neg (by simp), if_neg (by simp)]
    unfold nteI
    rw [if_pos h1]
    show varsI x.pl [v] = 0
    rw [varsI, if_pos (vars_one h v hv)]; rfl
  · rename_i hh; exact absurd h hh
theorem one_small {x : Nt} (h : NtSm x) {v : Vr} (hv : v ∈ x.vs) : NtSm (one1 x v) := ⟨h.sup, by simp [one1], fun u hu => by
  have : u = v := by simpa [one1] using hu
  rw [this]; exact h.vs v hv, h.lf, h.ll⟩
theorem front_no {x : Nt} (h : NtOk x) : [93] ∉ cutL 32 (joinB (frontL x)).data.toList := by
  intro hm
  rw [← splitS_data, split_join_any (frontL_ne x)] at hm
  obtain ⟨t, ht, he⟩ := List.mem_map.1 hm
  exact front_beh h t ht (ba_ext he)
/-- P45.6, plainly. -/
theorem variants_one {x : Nt} (h : nteI x = 0) (hs : NtSm x) {v : Vr} (hv : v ∈ x.vs) :
    prE (one1 x v) = 0 ∧ Lib.cut (prN (one1 x v)).data.toList [32, 93, 32] = ((joinB (frontL x)).data.toList, (joinB (oneV v)).data.toList, true) := by
  have h1 := one_ok h hv
  refine ⟨by rw [prE_small (one_small hs hv), h1], ?_⟩
  rw [prN_cut (x := one1 x v) (by simp [one1])]
  have e1 : frontL (one1 x v) = frontL x := rfl
  have e2 : varsV (one1 x v).vs = oneV v := by simp [one1, varsV]
  rw [e1, e2]
  exact cut_beh (front_no (note_ok h))
theorem variants_all {x : Nt} (h : nteI x = 0) : (prN x).data.toList = (joinB (frontL x)).data.toList ++ 32 :: 93 :: 32 :: Lib.join (x.vs.map fun u => (joinB (oneV u)).data.toList) [32, 124, 32] := by
  have hv := (note_ok h).v0
  rw [prN_cut hv]
  obtain ⟨v, r, he⟩ := List.exists_cons_of_ne_nil hv
  rw [he, varsV_join]

/-! P45.7 -/
theorem cB_zero_of {c : UInt8} {s : ByteArray} (h : ∀ b ∈ s.data.toList, brc b = false) (hc : brc c = true) : cB c s = 0 := cB_zero fun hm => by have := h _ hm; rw [hc] at this; cases this
theorem cB_print {c : UInt8} {f l : ByteArray} {n : Int} (h : lemCk f l n = 0) (hc : brc c = true) (h32 : c ≠ 32) : cB c (printT f l n) = 0 := by
  obtain ⟨h1, h2, h3, _⟩ := lck_parts h
  unfold cB
  rw [printT_data, List.count_append, List.count_append]
  have e1 : List.count c f.data.toList = 0 := cB_zero_of (word_brc h1) hc
  have e2 : List.count c (if l.size = 0 then [] else [32, 43, 32] ++ l.data.toList) = 0 := by
    split
    · rfl
    · rename_i hl
      have hw : wordB l = true := by rcases h2 with h | h; exact absurd h hl; exact h
      rw [List.count_append]
      have : List.count c l.data.toList = 0 := cB_zero_of (word_brc hw) hc
      rw [this]
      refine List.count_eq_zero.2 ?_
      intro hm
      simp only [List.mem_cons, List.not_mem_nil, or_false] at hm
      rcases hm with rfl | rfl | rfl <;> first | exact absurd rfl h32 | (revert hc; decide)
  have e3 : List.count c (if n = 0 then [] else 35 :: (itoaB n).data.toList) = 0 := by
    split
    · rfl
    · refine List.count_eq_zero.2 ?_
      intro hm
      rcases List.mem_cons.1 hm with rfl | hm
      · revert hc; decide
      · have := ito_digits h3 _ hm
        unfold brc at hc
        simp only [Bool.or_eq_true, beq_iff_eq] at hc
        rcases hc with ((rfl | rfl) | rfl) | rfl <;> revert this <;> decide
  rw [e1, e2, e3]
theorem cB_front {c : UInt8} {x : Nt} (h : NtOk x) (hc : brc c = true) (h32 : c ≠ 32) : ((frontL x).map (cB c)).sum = if x.pos = true then (if c = 123 then 1 else 0) + (if c = 125 then 1 else 0) else 0 := by
  unfold frontL
  have e1 : cB c (spanB x.fr x.to_) = 0 := cB_zero fun hm => by
    have := span_chars (a := x.fr) (b := x.to_) (by have := h.f1; omega) (by have := h.f1; have := h.f2; omega) _ hm
    unfold brc at hc
    simp only [Bool.or_eq_true, beq_iff_eq] at hc
    rcases hc with ((rfl | rfl) | rfl) | rfl <;> revert this <;> decide
  have e2 : ((if x.pl = 4 then [] else [printT x.lf x.ll x.ln]).map (cB c)).sum = 0 := by
    split
    · rfl
    · rename_i hp
      simp [cB_print (h.lm hp) hc h32]
  have e3 : ((signsB x.pl).map (cB c)).sum = 0 := by
    have hz : cB c plusB = 0 ∧ cB c minB = 0 ∧ cB c starB = 0 := by
      unfold brc at hc
      simp only [Bool.or_eq_true, beq_iff_eq] at hc
      rcases hc with ((rfl | rfl) | rfl) | rfl <;> decide
    unfold signsB
    split
    · simp [hz.1]
    · split
      · simp [hz.2.1]
      · split
        · simp [hz.2.2]
        · rfl
  rw [List.map_append, List.map_append, List.map_append, List.sum_append, List.sum_append, List.sum_append, e2, e3]
  simp only [List.map_cons, List.map_nil, List.sum_cons, List.sum_nil, e1]
  split
  · simp [cB_braces h.sp hc h32]
  · rfl
theorem cB_vars {c : UInt8} {pl : Int} (hc : brc c = true) (h32 : c ≠ 32) : ∀ (r : List Vr) (v : Vr), (∀ u ∈ v :: r, VrOk pl u) → ((varsV (v :: r)).map (cB c)).sum = ((if c = 123 then 1 else 0) + (if c = 125 then 1 else 0)) * (r.length + 1) + (if c = 124 then 1 else 0) * r.length := by
  have hn : c ∉ noneB.data.toList := by
    unfold brc at hc
    simp only [Bool.or_eq_true, beq_iff_eq] at hc
    rcases hc with ((rfl | rfl) | rfl) | rfl <;> decide
  have hone : ∀ u : Vr, VrOk pl u → ((oneV u).map (cB c)).sum = (if c = 123 then 1 else 0) + (if c = 125 then 1 else 0) := fun u hu => by
    simp [oneV, cB_words hu.ws hc h32 hn, cB_braces hu.sg hc h32]
  have hbar : cB c barB = if c = 124 then 1 else 0 := by
    unfold brc at hc
    simp only [Bool.or_eq_true, beq_iff_eq] at hc
    rcases hc with ((rfl | rfl) | rfl) | rfl <;> decide
  intro r
  induction r with
  | nil => intro v h; simp [varsV, hone v (h v (by simp))]
  | cons u r ih =>
    intro v h
    have e : varsV (v :: u :: r) = oneV v ++ ([barB] ++ varsV (u :: r)) := by simp [varsV]
    rw [e, List.map_append, List.map_append, List.sum_append, List.sum_append, ih u (fun y hy => h y (by simp [hy])), hone v (h v (by simp))]
    simp only [List.map_cons, List.map_nil, List.sum_cons, List.sum_nil, hbar, List.length_cons]
    generalize (if c = 123 then 1 else 0) + (if c = 125 then 1 else 0) = q
    generalize (if c = 124 then 1 else 0) = p
    rw [Nat.mul_add q (r.length + 1) 1, Nat.mul_add p r.length 1]
    omega
/-- P45.7, plainly. -/
theorem support_plain {x : Nt} (h : nteI x = 0) : cB 123 (prN x) = x.vs.length + (if x.pos = true then 1 else 0) ∧ cB 125 (prN x) = x.vs.length + (if x.pos = true then 1 else 0) ∧ cB 124 (prN x) + 1 = x.vs.length := by
  have hN := note_ok h
  obtain ⟨v, r, hv⟩ := List.exists_cons_of_ne_nil hN.v0
  have key : ∀ c : UInt8, brc c = true → c ≠ 32 → cB c (prN x) = (if x.pos = true then (if c = 123 then 1 else 0) + (if c = 125 then 1 else 0) else 0) + (((if c = 123 then 1 else 0) + (if c = 125 then 1 else 0)) * (r.length + 1) + (if c = 124 then 1 else 0) * r.length) := by
    intro c hc h32
    unfold prN partsN
    rw [count_joinB h32, List.map_append, List.map_append, List.sum_append, List.sum_append, cB_front hN hc h32, hv, cB_vars hc h32 r v (by rw [← hv]; exact hN.vs)]
    have : cB c behB = 0 := by
      unfold brc at hc
      simp only [Bool.or_eq_true, beq_iff_eq] at hc
      rcases hc with ((rfl | rfl) | rfl) | rfl <;> decide
    simp [this]
  rw [key 123 (by decide) (by decide), key 125 (by decide) (by decide), key 124 (by decide) (by decide), hv]
  simp only [List.length_cons]
  refine ⟨?_, ?_, ?_⟩ <;> split <;> simp <;> omega
end Go.Proofs.YtjhdeoniafahbaaGreatDoor
