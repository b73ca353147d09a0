/-
  Joined, what is needed of: J08 R45f R45g R45h R45i R45b R45j RNp.
-/
import Derived.Lib.SmallJoins
import Derived.Lib.IndexLaws
import Derived.Test.YtjhdeoniafahbaaGreatDoorY01
import Derived.Test.YtjhdeoniafahbaaGreatDoorY09
import Derived.Test.YtjhdeoniafahbaaGreatDoorY11
import Derived.Test.YtjhdeoniafahbaaGreatDoorY08
import Derived.Lib.AppendStr
import Derived.Lib.UnsafeStr
import Derived.Test.YtjhdeoniafahbaaGreatDoorY07
namespace Go.Proofs.YtjhdeoniafahbaaGreatDoor
open Go.RowKit
/-- Sizes of what comes in. -/
structure SzN0 (x : Nt) : Prop where
  lf : x.lf.size ≤ maxLen
  ll : x.ll.size ≤ maxLen
  sup : Szs x.sup
  vs : ∀ v ∈ x.vs, Szs v.ws ∧ Szs v.sg
def gwB (l : List ByteArray) (n : Int) : Bool := l.any (fun s => decide (20 < s.size)) || decide (n < (l.length : Int))
theorem any_at {α : Type} {l : List α} {k : Nat} {a : α} (p : α → Bool) (h : l[k]? = some a) : (l.drop k).any p = (p a || (l.drop (k + 1)).any p) := by
  obtain ⟨h1, h2⟩ := List.getElem?_eq_some_iff.1 h
  rw [List.drop_eq_getElem_cons h1, h2, List.any_cons]
set_option maxRecDepth 100000 in
set_option maxHeartbeats 1000000 in
theorem greatw_any (v : Value) (l : List ByteArray) (n : Int) (w : World) (hr : RdS w v l) (hz : Szs l) :
    Calls Tryz.prog 11 #[v, .int .i64 n] w fun e w' => e = .returned (.bool (gwB l n)) ∧ w = w' := by
  obtain ⟨a, cap, rfl, hlc, hcm, hcell⟩ := hr.open
  have HCell := hid hcell; clear hcell
  have HZ := hid hz; clear hz
  have HG : Hid (gwB l n = (l.any (fun s => decide (20 < s.size)) || decide (n < (l.length : Int)))) := rfl
  generalize gwB l n = r at *
  go_enter Tryz.func11, Tryz.ntmps11
  go_wp2
  go_loop [5] (fun i => ∃ k : Nat, k ≤ l.length ∧ i = .int .i64 k ∧ Hid (l.any (fun s => decide (20 < s.size)) = (l.drop k).any (fun s => decide (20 < s.size)))) (fun i => l.length - (intOf i).toNat)
  case atStart => exact ⟨0, Nat.zero_le _, rfl, rfl⟩
  case round =>
    obtain ⟨k, hk, rfl, HK⟩ := hrel
    by_cases hlt : k < l.length
    · obtain ⟨x, b, off, hx, rfl, hc⟩ := HCell.out k hlt
      have hz1 := HZ.out x (List.mem_of_getElem? hx)
      have HX := hid (any_at (fun s => decide (20 < s.size)) hx)
      have hki : (k : Int) < (l.length : Int) := by omega
      clear hx
      by_cases hb : 20 < x.size
      · have HR : Hid (r = true) := by show _ = _; rw [HG.out, HK.out, HX.out]; simp [hb]
        have hb2 : (20 : Int) < (x.size : Int) := by omega
        clear HG HK HX
        go_wp2
        go_ret
        exact ⟨ret_bool HR.out.symm, rfl⟩
      · have HK2 : Hid (l.any (fun s => decide (20 < s.size)) = (l.drop (k + 1)).any (fun s => decide (20 < s.size))) := by show _ = _; rw [HK.out, HX.out]; simp [hb]
        have hb2 : ¬ (20 : Int) < (x.size : Int) := by omega
        clear HK HX
        go_wp2
        go_round
        case rel => exact ⟨k + 1, by omega, by go_num, HK2.out⟩
        case measure => simp [intOf]; omega
    · have HN : Hid (r = decide (n < (l.length : Int))) := by
        show _ = _; rw [HG.out, HK.out, List.drop_of_length_le (by omega)]; rfl
      have hki : ¬ (k : Int) < (l.length : Int) := by omega
      clear HK HG
      go_wp2
      go_ret
      exact ⟨ret_bool HN.out.symm, rfl⟩
def gvB (v : Vr) : Bool := gwB v.ws 6 || gwB v.sg 6
def grB (sup : List ByteArray) (vs : List Vr) : Bool := vs.any gvB || (decide (4 < (vs.length : Int)) || gwB sup 6)
set_option maxRecDepth 100000 in
set_option maxHeartbeats 2000000 in
theorem great45_any (u v : Value) (sup : List ByteArray) (l : List Vr) (w : World) (hs : RdS w u sup) (hr : RdV w v l) (hz : Szs sup) (hzv : ∀ v ∈ l, Szs v.ws ∧ Szs v.sg) :
    Calls Tryz.prog 36 #[u, v] w fun e w' => e = .returned (.bool (grB sup l)) ∧ w = w' := by
  have HS := hid (greatw_any u sup 6 w hs hz)
  obtain ⟨a0, cap0, rfl, _⟩ := hs.open
  obtain ⟨a, cap, rfl, hlc, hcm, hcell⟩ := hr.open
  have HCell := hid hcell; clear hcell
  have HZ := hid hzv; clear hzv hz hs hr
  have HG : Hid (grB sup l = (l.any gvB || (decide (4 < (l.length : Int)) || gwB sup 6))) := rfl
  generalize grB sup l = r at *
  generalize gwB sup 6 = q0 at *
  go_enter Tryz.func36, Tryz.ntmps36
  go_wp2
  go_loop [5] (fun i => ∃ k : Nat, k ≤ l.length ∧ i = .int .i64 k ∧ Hid (l.any gvB = (l.drop k).any gvB)) (fun i => l.length - (intOf i).toNat)
  case atStart => exact ⟨0, Nat.zero_le _, rfl, rfl⟩
  case round =>
    obtain ⟨k, hk, rfl, HK⟩ := hrel
    by_cases hlt : k < l.length
    · obtain ⟨x, b, off, uu, ss, hx, rfl, d0, d1, r0, r1⟩ := HCell.out k hlt
      have hz1 := HZ.out x (List.mem_of_getElem? hx)
      have HX := hid (any_at gvB hx)
      have HV : Hid (gvB x = (gwB x.ws 6 || gwB x.sg 6)) := rfl
      have H1 := hid (greatw_any uu x.ws 6 w r0 hz1.1)
      have H2 := hid (greatw_any ss x.sg 6 w r1 hz1.2)
      have hki : (k : Int) < (l.length : Int) := by omega
      obtain ⟨x1, y1, rfl, _⟩ := r0.open
      obtain ⟨x2, y2, rfl, _⟩ := r1.open
      clear hx r0 r1 hz1
      generalize gwB x.ws 6 = q1 at *
      generalize gwB x.sg 6 = q2 at *
      cases q1 with
      | true =>
        have HR : Hid (r = true) := by show _ = _; rw [HG.out, HK.out, HX.out, HV.out]; simp
        clear HG HK HX HV
        go_wp2_with fail
        (with_reducible refine H1.out.mono ?_)
        rintro e w' ⟨rfl, rfl⟩
        go_wp2_with fail
        go_ret
        exact ⟨ret_bool HR.out.symm, rfl⟩
      | false => cases q2 with
        | true =>
          have HR : Hid (r = true) := by show _ = _; rw [HG.out, HK.out, HX.out, HV.out]; simp
          clear HG HK HX HV
          go_wp2_with fail
          (with_reducible refine H1.out.mono ?_)
          rintro e w' ⟨rfl, rfl⟩
          go_wp2_with fail
          (with_reducible refine H2.out.mono ?_)
          rintro e w' ⟨rfl, rfl⟩
          go_wp2_with fail
          go_ret
          exact ⟨ret_bool HR.out.symm, rfl⟩
        | false =>
          have HK2 : Hid (l.any gvB = (l.drop (k + 1)).any gvB) := by show _ = _; rw [HK.out, HX.out, HV.out]; simp
          clear HK HX HV
          go_wp2_with fail
          (with_reducible refine H1.out.mono ?_)
          rintro e w' ⟨rfl, rfl⟩
          go_wp2_with fail
          (with_reducible refine H2.out.mono ?_)
          rintro e w' ⟨rfl, rfl⟩
          go_wp2_with fail
          go_round
          case rel => exact ⟨k + 1, by omega, by go_num, HK2.out⟩
          case measure => simp [intOf]; omega
    · have HN : Hid (r = (decide (4 < (l.length : Int)) || q0)) := by
        show _ = _; rw [HG.out, HK.out, List.drop_of_length_le (by omega)]; rfl
      have hki : ¬ (k : Int) < (l.length : Int) := by omega
      clear HK HG
      by_cases h4 : 4 < (l.length : Int)
      · have HR : Hid (r = true) := by show _ = _; rw [HN.out, decide_eq_true h4]; rfl
        clear HN
        go_wp2_with fail
        go_ret
        exact ⟨ret_bool HR.out.symm, rfl⟩
      · have HR : Hid (r = q0) := by show _ = _; rw [HN.out, decide_eq_false h4]; rfl
        clear HN
        go_wp2_with fail
        (with_reducible refine HS.out.mono ?_)
        rintro e w' ⟨rfl, rfl⟩
        go_wp2_with fail
        go_ret
        exact ⟨ret_bool HR.out.symm, rfl⟩
/-- The reference's Great and GreatEntry. -/
def gnB (x : Nt) : Bool := grB x.sup x.vs || (decide (20 < (x.lf.size : Int)) || decide (20 < (x.ll.size : Int)))
set_option maxRecDepth 100000 in
set_option maxHeartbeats 2000000 in
theorem greatN_any (x : Nt) (u s : Value) (w : World) (hN : RdN w u s x) (hz : SzN0 x) :
    Calls Tryz.prog 13 #[.agg (x.cells u s)] w fun e w' => e = .returned (.bool (gnB x)) ∧ Below w.heap.size w w' := by
  have HB := hid (below_al w (.cells (x.cells u s) 30))
  have HGR := hid (great45_any u s x.sup x.vs (w.alloc (.cells (x.cells u s) 30)) (hN.rs.below HB.out) (hN.rv.below HB.out) hz.sup hz.vs)
  have HD : Hid (gnB x = (grB x.sup x.vs || (decide (20 < (x.lf.size : Int)) || decide (20 < (x.ll.size : Int))))) := rfl
  have z1 := hz.lf
  have z2 := hz.ll
  obtain ⟨x1, y1, rfl, _⟩ := hN.rs.open
  obtain ⟨x2, y2, rfl, _⟩ := hN.rv.open
  clear hN hz
  generalize gnB x = g at *
  generalize grB x.sup x.vs = r at *
  unfold Nt.cells at *
  cases r with
  | true =>
    have HR : Hid (g = true) := HD.out
    clear HD
    go_enter Tryz.func13, Tryz.ntmps13
    go_wp2_with fail
    (with_reducible refine HGR.out.mono ?_)
    rintro e w' ⟨rfl, rfl⟩
    go_wp2_with fail
    go_ret
    exact ⟨ret_bool HR.out.symm, HB.out⟩
  | false =>
    by_cases k1 : 20 < (x.lf.size : Int)
    · have HR : Hid (g = true) := by show _ = _; rw [HD.out, decide_eq_true k1]; rfl
      clear HD
      go_enter Tryz.func13, Tryz.ntmps13
      go_wp2_with fail
      (with_reducible refine HGR.out.mono ?_)
      rintro e w' ⟨rfl, rfl⟩
      go_wp2_with fail
      go_ret
      exact ⟨ret_bool HR.out.symm, HB.out⟩
    · have HR : Hid (g = decide (20 < (x.ll.size : Int))) := by show _ = _; rw [HD.out, decide_eq_false k1]; rfl
      clear HD
      go_enter Tryz.func13, Tryz.ntmps13
      go_wp2_with fail
      (with_reducible refine HGR.out.mono ?_)
      rintro e w' ⟨rfl, rfl⟩
      go_wp2_with fail
      go_ret
      exact ⟨ret_bool (by rw [HR.out, show decide (20 < (x.lf.size : Int)) = false from decide_eq_false (by omega)]; rfl), HB.out⟩
end Go.Proofs.YtjhdeoniafahbaaGreatDoor
namespace Go.Proofs.YtjhdeoniafahbaaGreatDoor
theorem gw_ok {l : List ByteArray} {n : Int} (h : gwB l n = false) : (l.length : Int) ≤ n ∧ ∀ s ∈ l, s.size ≤ 20 := by
  unfold gwB at h
  rw [Bool.or_eq_false_iff] at h
  refine ⟨by simpa using h.2, fun s hs => ?_⟩
  have := List.any_eq_false.1 h.1 s hs
  simpa using this
/-- A note of the sizes that the statements examine. -/
structure NtSm (x : Nt) : Prop where
  sup : x.sup.length ≤ 6 ∧ ∀ s ∈ x.sup, s.size ≤ 20
  vl : x.vs.length ≤ 4
  vs : ∀ v ∈ x.vs, (v.ws.length ≤ 6 ∧ ∀ s ∈ v.ws, s.size ≤ 20) ∧ v.sg.length ≤ 6 ∧ ∀ s ∈ v.sg, s.size ≤ 20
  lf : x.lf.size ≤ 20
  ll : x.ll.size ≤ 20
theorem nt_small {x : Nt} (h : gnB x = false) : NtSm x := by
  unfold gnB grB at h
  simp only [Bool.or_eq_false_iff, decide_eq_false_iff_not] at h
  obtain ⟨⟨h1, h2, h3⟩, h4, h5⟩ := h
  have hs := gw_ok h3
  refine ⟨⟨by omega, hs.2⟩, by omega, fun v hv => ?_, by omega, by omega⟩
  have hg := List.any_eq_false.1 h1 v hv
  unfold gvB at hg
  simp only [Bool.or_eq_true, not_or, Bool.not_eq_true] at hg
  have ha := gw_ok hg.1
  have hb := gw_ok hg.2
  exact ⟨⟨by omega, ha.2⟩, by omega, hb.2⟩
end Go.Proofs.YtjhdeoniafahbaaGreatDoor
namespace Go.Proofs.YtjhdeoniafahbaaGreatDoor
open Go.RowKit
theorem lists_len {ls la : List Int} {n : Nat} (h : listsI ls la n = 0) : ls.length = n ∧ la.length = n ∧ lnGo none ls la = 0 := by
  unfold listsI at h
  split at h
  · cases h
  · split at h
    · cases h
    · exact ⟨by omega, by omega, h⟩
def nt00 : Nt := ⟨0, 0, 0, ⟨#[]⟩, ⟨#[]⟩, 0, false, [], []⟩
def ofAI (ls la : List Int) (ws : List ByteArray) (e : En) : Int := if listsI ls la ws.length = 0 then ofI ls la ws e else listsI ls la ws.length
def ofAN (ls la : List Int) (ws : List ByteArray) (e : En) : Nt := if ofAI ls la ws e = 0 then ofN ls la ws e else nt00
/-- What is returned: the note, or an empty one and why. -/
def OfQ (y : Nt) (err : Int) (w : World) (r : Ending) (w' : World) : Prop :=
  ∃ (au : Option Addr) (nu cu : Nat) (av : Option Addr) (nv cv : Nat), r = .returned (.tuple #[.agg (y.cells (.slice au nu cu) (.slice av nv cv)), .int .i64 err]) ∧ RdN w' (.slice au nu cu) (.slice av nv cv) y ∧ Below w.heap.size w w'
theorem rdN_zero (w : World) : RdN w (.slice none 0 0) (.slice none 0 0) nt00 := ⟨Rd.nil _, RdV.nil _⟩
set_option maxRecDepth 100000 in
set_option maxHeartbeats 4000000 in
theorem pOf_any (ls la : List Int) (ws : List ByteArray) (x : En) (v1 v2 v3 u s : Value) (w : World) (he : Env w) (h1 : RdI w v1 ls) (h2 : RdI w v2 la) (h3 : RdS w v3 ws) (hE : RdE w u s x)
    (hz : Sz16 ws) (hzE : SzE x) (hlen : ws.length ≤ 13) :
    Calls Tryz.prog 15 #[v1, v2, v3, .agg (x.cells u s)] w fun r w' => OfQ (ofAN ls la ws x) (ofAI ls la ws x) w r w' := by
  have HB0 := hid (below_tr (below_al w (.cells (x.cells u s) 26)) (below_al _ (.cells zeroN 30)))
  have HRe := hid ((row_nw w (x.cells u s) 26 rfl).al (.cells zeroN 30))
  have hrr := row_nw (w.alloc (.cells (x.cells u s) 26)) zeroN 30 rfl
  rw [show (w.alloc (.cells (x.cells u s) 26)).heap.size = w.heap.size + 1 by simp] at hrr
  have HRr := hid hrr
  have HLI := hid (lists_any v1 v2 v3 ls la ws _ (h1.below HB0.out) (h2.below HB0.out) (h3.below HB0.out))
  have HIA : Hid (ofAI ls la ws x = if listsI ls la ws.length = 0 then ofI ls la ws x else listsI ls la ws.length) := rfl
  have HNA : Hid (ofAN ls la ws x = if ofAI ls la ws x = 0 then ofN ls la ws x else nt00) := rfl
  obtain ⟨a1, c1, rfl, _⟩ := h1.open
  obtain ⟨a2, c2, rfl, _⟩ := h2.open
  obtain ⟨a3, c3, rfl, _⟩ := h3.open
  obtain ⟨au, cu, rfl, _⟩ := hE.rs.open
  obtain ⟨av, cv, rfl, _⟩ := hE.rv.open
  clear hrr
  by_cases k0 : listsI ls la ws.length = 0
  · obtain ⟨hl1, hl2, _⟩ := lists_len k0
    have HF := fun w' (h : Below w.heap.size w w') => hid (pof_any ls la ws x _ _ _ _ _ w' (he.below h) (h1.below h) (h2.below h) (h3.below h) (hE.below h) hz hzE hl1 hl2 hlen)
    have HIB : Hid (ofAI ls la ws x = ofI ls la ws x) := by show _ = _; rw [HIA.out, if_pos k0]
    rw [k0] at HLI
    clear he h1 h2 h3 hE hzE hl1 hl2 HIA
    generalize hi : ofI ls la ws x = oi at *
    unfold En.cells zeroN at *
    go_enter Tryz.func15, Tryz.ntmps15
    go_wp2_with fail
    (with_reducible refine HLI.out.mono ?_)
    rintro e w3 ⟨rfl, hB3⟩
    have HB3 := hid (below_tr HB0.out hB3)
    have HRe3 := hid (HRe.out.below hB3)
    have HRr3 := hid (HRr.out.below hB3)
    have e0 := HRe3.out.cell 0 (x := .int .i64 x.ly) rfl
    have e1 := HRe3.out.cell 1 (x := .int .i64 x.fr) rfl
    have e2 := HRe3.out.cell 2 (x := .int .i64 x.to_) rfl
    have e3 := HRe3.out.cell 3 (x := .bool x.pos) rfl
    have e4 := HRe3.out.cell 4 (x := .slice au x.sup.length cu) rfl
    have e5 := HRe3.out.cell 5 (x := .slice av x.vs.length cv) rfl
    clear HB0 HRe HRr HLI hB3
    go_wp2_with fail
    (with_reducible refine (HF _ HB3.out).out.mono ?_)
    rintro e w4 ⟨y, bu, nu, du, bv, nv, dv, rfl, hy, hB4⟩
    unfold Nt.cells
    have HB4 := hid (below_tr HB3.out hB4)
    have HRr4 := hid (HRr3.out.below hB4)
    have HY := hid hy
    clear e0 e1 e2 e3 e4 e5 HRe3 HRr3 HF hB4 hy HB3
    have HB5 := hid (below_tr HB4.out (below_al w4 (.cells (y.cells (.slice bu nu du) (.slice bv nv dv)) 30)))
    have HRr5 := hid (HRr4.out.al (.cells (y.cells (.slice bu nu du) (.slice bv nv dv)) 30))
    unfold Nt.cells at HB5 HRr5
    have r0 := HRr5.out.cell 0 (x := .int .i64 0) rfl
    have r1 := HRr5.out.cell 1 (x := .int .i64 0) rfl
    have r2 := HRr5.out.cell 2 (x := .int .i64 0) rfl
    have r3 := HRr5.out.cell 3 (x := .string ⟨#[]⟩) rfl
    have r4 := HRr5.out.cell 4 (x := .string ⟨#[]⟩) rfl
    have r5 := HRr5.out.cell 5 (x := .int .i64 0) rfl
    have r6 := HRr5.out.cell 6 (x := .bool false) rfl
    have r7 := HRr5.out.cell 7 (x := .slice none 0 0) rfl
    have r8 := HRr5.out.cell 8 (x := .slice none 0 0) rfl
    have g0 := HRr5.out.frozen 0
    have g1 := HRr5.out.frozen 1
    have g2 := HRr5.out.frozen 2
    have g3 := HRr5.out.frozen 3
    have g4 := HRr5.out.frozen 4
    have g5 := HRr5.out.frozen 5
    have g6 := HRr5.out.frozen 6
    have g7 := HRr5.out.frozen 7
    have g8 := HRr5.out.frozen 8
    by_cases k1 : oi = 0
    · subst k1
      have HNB : Hid (ofAN ls la ws x = y) := by show _ = _; rw [HNA.out, HIB.out, if_pos rfl]; exact (HY.out rfl).1.symm
      have HRY : Hid (OwN w4 (.slice bu nu du) (.slice bv nv dv) y) := by have h := HY.out rfl; show OwN _ _ _ _; rw [h.1]; exact h.2
      clear HY HNA
      go_wp2_with fail
      have q := row9 HRr5.out (.int .i64 y.fr) (.int .i64 y.to_) (.int .i64 y.pl) (.string y.lf) (.string y.ll) (.int .i64 y.ln) (.bool y.pos) (.slice bu nu du) (.slice bv nv dv)
      have hq := (HRY.out.below (below_al w4 (.cells (y.cells (.slice bu nu du) (.slice bv nv dv)) 30))).set9 HRr5.out y
      have hb := bel_set9 HB5.out (B := w.heap.size + 1) (Nat.le_succ _) y (.slice bu nu du) (.slice bv nv dv)
      have z0 := q.cell 0 (x := .int .i64 y.fr) rfl
      have z1 := q.cell 1 (x := .int .i64 y.to_) rfl
      have z2 := q.cell 2 (x := .int .i64 y.pl) rfl
      have z3 := q.cell 3 (x := .string y.lf) rfl
      have z4 := q.cell 4 (x := .string y.ll) rfl
      have z5 := q.cell 5 (x := .int .i64 y.ln) rfl
      have z6 := q.cell 6 (x := .bool y.pos) rfl
      have z7 := q.cell 7 (x := .slice bu nu du) rfl
      have z8 := q.cell 8 (x := .slice bv nv dv) rfl
      exact bodyPost_ret (v := .tuple #[.agg (y.cells (.slice bu nu du) (.slice bv nv dv)), .int .i64 0]) (by simp [results, Tryz.f15, go_sem, Nt.cells, z0, z1, z2, z3, z4, z5, z6, z7, z8]) rfl ⟨bu, nu, du, bv, nv, dv, by rw [HNB.out, HIB.out], by rw [HNB.out]; exact hq.rd, hb⟩
    · have k1b : (oi == 0) = false := beq_eq_false_iff_ne.2 k1
      have HNB : Hid (ofAN ls la ws x = nt00) := by show _ = _; rw [HNA.out, HIB.out, if_neg k1]
      clear HY HNA
      go_wp2_with fail
      have q := row9 HRr5.out (.int .i64 0) (.int .i64 0) (.int .i64 0) (.string ⟨#[]⟩) (.string ⟨#[]⟩) (.int .i64 0) (.bool false) (.slice none 0 0) (.slice none 0 0)
      have hb := zsets_bel HB5.out
      have z0 := q.cell 0 (x := .int .i64 0) rfl
      have z1 := q.cell 1 (x := .int .i64 0) rfl
      have z2 := q.cell 2 (x := .int .i64 0) rfl
      have z3 := q.cell 3 (x := .string ⟨#[]⟩) rfl
      have z4 := q.cell 4 (x := .string ⟨#[]⟩) rfl
      have z5 := q.cell 5 (x := .int .i64 0) rfl
      have z6 := q.cell 6 (x := .bool false) rfl
      have z7 := q.cell 7 (x := .slice none 0 0) rfl
      have z8 := q.cell 8 (x := .slice none 0 0) rfl
      exact bodyPost_ret (v := .tuple #[.agg (nt00.cells (.slice none 0 0) (.slice none 0 0)), .int .i64 oi]) (by simp [results, Tryz.f15, go_sem, Nt.cells, nt00, z0, z1, z2, z3, z4, z5, z6, z7, z8]) rfl ⟨none, 0, 0, none, 0, 0, by rw [HNB.out, HIB.out], by rw [HNB.out]; exact rdN_zero _, hb⟩
  · have k0b : (listsI ls la ws.length == 0) = false := beq_eq_false_iff_ne.2 k0
    have HIB : Hid (ofAI ls la ws x = listsI ls la ws.length) := by show _ = _; rw [HIA.out, if_neg k0]
    have HNB : Hid (ofAN ls la ws x = nt00) := by show _ = _; rw [HNA.out, HIB.out, if_neg k0]
    clear he h1 h2 h3 hE HIA HNA k0
    generalize listsI ls la ws.length = li at *
    unfold En.cells zeroN at *
    go_enter Tryz.func15, Tryz.ntmps15
    go_wp2_with fail
    (with_reducible refine HLI.out.mono ?_)
    rintro e w3 ⟨rfl, hB3⟩
    have HB3 := hid (below_tr HB0.out hB3)
    have HRr3 := hid (HRr.out.below hB3)
    have r0 := HRr3.out.cell 0 (x := .int .i64 0) rfl
    have g0 := HRr3.out.frozen 0
    have r1 := HRr3.out.cell 1 (x := .int .i64 0) rfl
    have g1 := HRr3.out.frozen 1
    have r2 := HRr3.out.cell 2 (x := .int .i64 0) rfl
    have g2 := HRr3.out.frozen 2
    have r3 := HRr3.out.cell 3 (x := .string ⟨#[]⟩) rfl
    have g3 := HRr3.out.frozen 3
    have r4 := HRr3.out.cell 4 (x := .string ⟨#[]⟩) rfl
    have g4 := HRr3.out.frozen 4
    have r5 := HRr3.out.cell 5 (x := .int .i64 0) rfl
    have g5 := HRr3.out.frozen 5
    have r6 := HRr3.out.cell 6 (x := .bool false) rfl
    have g6 := HRr3.out.frozen 6
    have r7 := HRr3.out.cell 7 (x := .slice none 0 0) rfl
    have g7 := HRr3.out.frozen 7
    have r8 := HRr3.out.cell 8 (x := .slice none 0 0) rfl
    have g8 := HRr3.out.frozen 8
    go_wp2_with fail
    have q := row9 HRr3.out (.int .i64 0) (.int .i64 0) (.int .i64 0) (.string ⟨#[]⟩) (.string ⟨#[]⟩) (.int .i64 0) (.bool false) (.slice none 0 0) (.slice none 0 0)
    have hb := zsets_bel HB3.out
    have z0 := q.cell 0 (x := .int .i64 0) rfl
    have z1 := q.cell 1 (x := .int .i64 0) rfl
    have z2 := q.cell 2 (x := .int .i64 0) rfl
    have z3 := q.cell 3 (x := .string ⟨#[]⟩) rfl
    have z4 := q.cell 4 (x := .string ⟨#[]⟩) rfl
    have z5 := q.cell 5 (x := .int .i64 0) rfl
    have z6 := q.cell 6 (x := .bool false) rfl
    have z7 := q.cell 7 (x := .slice none 0 0) rfl
    have z8 := q.cell 8 (x := .slice none 0 0) rfl
    exact bodyPost_ret (v := .tuple #[.agg (nt00.cells (.slice none 0 0) (.slice none 0 0)), .int .i64 li]) (by simp [results, Tryz.f15, go_sem, Nt.cells, nt00, z0, z1, z2, z3, z4, z5, z6, z7, z8]) rfl ⟨none, 0, 0, none, 0, 0, by rw [HNB.out, HIB.out], by rw [HNB.out]; exact rdN_zero _, hb⟩
end Go.Proofs.YtjhdeoniafahbaaGreatDoor
namespace Go.Proofs.YtjhdeoniafahbaaGreatDoor
open Go.ChangeShapes Go.WideShapes Go.ChangeAt Go.RowKit Go.Deep
theorem nt_cellsInt : (Tryz.prog).cellsOf 3 = 1 := by kernel_rfl
theorem nt_cellsStr : (Tryz.prog).cellsOf 9 = 1 := by kernel_rfl
theorem nt_cellsBool : (Tryz.prog).cellsOf 4 = 1 := by kernel_rfl
theorem nt_cellsSs : (Tryz.prog).cellsOf 23 = 1 := by kernel_rfl
theorem nt_cellsVs : (Tryz.prog).cellsOf 24 = 1 := by kernel_rfl
theorem nt_cellsV : (Tryz.prog).cellsOf 63 = 2 := by kernel_rfl
theorem nt_cellsLm : (Tryz.prog).cellsOf 28 = 3 := by kernel_rfl
theorem nt_cellsN : (Tryz.prog).cellsOf 30 = 9 := by kernel_rfl
theorem nt_two {α : Type} {cs : List α} (h : cs.length = 2) : ∃ c0 c1, cs = [c0, c1] := by
  match cs, h with
  | [c0, c1], _ => exact ⟨c0, c1, rfl⟩
theorem nt_nine {α : Type} {cs : List α} (h : cs.length = 9) : ∃ c0 c1 c2 c3 c4 c5 c6 c7 c8, cs = [c0, c1, c2, c3, c4, c5, c6, c7, c8] := by
  match cs, h with
  | [c0, c1, c2, c3, c4, c5, c6, c7, c8], _ => exact ⟨c0, c1, c2, c3, c4, c5, c6, c7, c8, rfl⟩
instance : Inhabited Vr := ⟨⟨[], []⟩⟩
section
variable {H : Type} {enc : TypeId × Value → H} {W : World} {base : Nat} {spare : Nat → Bool} {held : Bool}
set_option maxRecDepth 100000 in
theorem vrc_of {fuel : Nat} {cs : List Value} {x : DataW H × List MemPlace} (hl : cs.length = 2) (hf : DataW.trod enc Tryz.prog W base spare held fuel 63 cs = some x) : ∃ (p : Vr) (u s : Value), cs = [u, s] ∧ (RdS W u p.ws ∧ RdS W s p.sg) ∧ Szs p.ws ∧ Szs p.sg := by
  obtain ⟨c0, c1, rfl⟩ := nt_two hl
  obtain ⟨xs, n, _, _, _, hlen, hx⟩ := DataW.trod_struct Tryz.underlying63 hf
  have hy : ∀ i, i < 2 → ∃ y, xs[i]? = some y := fun i hi => ⟨xs[i]'(by rw [hlen]; exact hi), List.getElem?_eq_getElem _⟩
  obtain ⟨l0, hr0, hz0⟩ : ∃ l, RdS W c0 l ∧ Szs l := by
    obtain ⟨y, hy⟩ := hy 0 (by decide)
    have h : DataW.trod enc Tryz.prog W base spare held n 23 (([c0, c1].drop 0).take (Tryz.prog.cellsOf 23)) = xs[0]? := hx 0 _ rfl
    rw [hy, nt_cellsSs] at h
    exact rdS_of Tryz.underlying23 Tryz.underlying9 (by kernel_rfl) h
  obtain ⟨l1, hr1, hz1⟩ : ∃ l, RdS W c1 l ∧ Szs l := by
    obtain ⟨y, hy⟩ := hy 1 (by decide)
    have h : DataW.trod enc Tryz.prog W base spare held n 23 (([c0, c1].drop 1).take (Tryz.prog.cellsOf 23)) = xs[1]? := hx 1 _ rfl
    rw [hy, nt_cellsSs] at h
    exact rdS_of Tryz.underlying23 Tryz.underlying9 (by kernel_rfl) h
  exact ⟨⟨l0, l1⟩, c0, c1, rfl, ⟨hr0, hr1⟩, hz0, hz1⟩
/-- Variants that came in. -/
theorem rdV_of {fuel : Nat} {v : Value} {x : DataW H × List MemPlace} (hf : DataW.trod enc Tryz.prog W base spare held fuel 24 [v] = some x) : ∃ l, RdV W v l ∧ ∀ p ∈ l, Szs p.ws ∧ Szs p.sg := by
  rcases open_slice Tryz.underlying24 hf with ⟨hcs, _⟩ | ⟨a, len, cap, m, n, D, Pl, hcs, _, hl, hm, hmm, _, hcell⟩
  · simp only [List.cons.injEq, and_true] at hcs
    subst hcs
    exact ⟨[], RdV.nil W, fun s h => by cases h⟩
  · simp only [List.cons.injEq, and_true] at hcs
    subst hcs
    have hlen : len ≤ m := by rw [hmm]; split <;> omega
    obtain ⟨b, off, spot⟩ := a
    have hex : ∀ i, i < len → ∃ x : Vr, (∃ u s, W.cell? (((⟨b, off, spot⟩ : Addr).add (i * 2)).add 0) = some u ∧ W.cell? (((⟨b, off, spot⟩ : Addr).add (i * 2)).add 1) = some s ∧ RdS W u x.ws ∧ RdS W s x.sg) ∧ Szs x.ws ∧ Szs x.sg := by
      intro i hi
      obtain ⟨cs, h1, h2⟩ := hcell i (by omega)
      rw [nt_cellsV] at h1
      obtain ⟨_, hl2, hc⟩ := World.cells?_some h1
      obtain ⟨x, u, s, rfl, hr, hz⟩ := vrc_of hl2 h2
      exact ⟨x, ⟨u, s, hc 0 (by decide), hc 1 (by decide), hr⟩, hz⟩
    obtain ⟨f, hf⟩ := choose_lt hex
    refine ⟨(List.range len).map f, ⟨some ⟨b, off, spot⟩, cap, by simp, by simpa using hl, hm, fun i x hx => ?_⟩, fun g hg => ?_⟩
    · have hi : i < len := by have := (List.getElem?_eq_some_iff.1 hx).1; simpa using this
      obtain ⟨u, s, a0, a1, a2⟩ := (hf i hi).1
      obtain rfl : spot = none := by
        obtain ⟨_, _, e0, _⟩ := (hf 0 (by omega)).1
        have h1 := World.cell?_spot e0
        simpa [Addr.add] using h1
      simp only [List.getElem?_map, List.getElem?_range hi, Option.map_some, Option.some.injEq] at hx
      subst hx
      rw [Go.WideShapes.add_plain, Go.WideShapes.add_plain] at a0 a1
      exact ⟨b, off, u, s, rfl, a0, a1, a2⟩
    · obtain ⟨i, hi, rfl⟩ := List.mem_map.1 hg
      exact (hf i (List.mem_range.1 hi)).2
set_option maxRecDepth 100000 in
set_option maxHeartbeats 1000000 in
/-- A note that came in by value. -/
theorem nt_of {r : Reach} {b0 : Nat} {v : Value} {d : DataW H} {p : List MemPlace} (hv : Value.okWide Tryz.prog W r b0 30 v) (h : DataW.Trod enc Tryz.prog W base spare held 30 v d p) :
    ∃ (q : Nt) (u s : Value), v = .agg (q.cells u s) ∧ RdN W u s q ∧ SzN0 q := by
  obtain ⟨cs, rfl, hsz⟩ := okWide_struct Tryz.underlying30 hv
  rw [nt_cellsN] at hsz
  obtain ⟨fuel, hf⟩ := h
  obtain ⟨l⟩ := cs
  obtain ⟨c0, c1, c2, c3, c4, c5, c6, c7, c8, rfl⟩ := nt_nine (cs := l) hsz
  obtain ⟨xs, n, _, _, _, hlen, hx⟩ := DataW.trod_struct Tryz.underlying30 hf
  have hy : ∀ i, i < 7 → ∃ y, xs[i]? = some y := fun i hi => ⟨xs[i]'(by rw [hlen]; exact hi), List.getElem?_eq_getElem _⟩
  obtain ⟨z0, rfl⟩ : ∃ z, c0 = .int .i64 z := by
    obtain ⟨y, hy⟩ := hy 0 (by decide)
    have h : DataW.trod enc Tryz.prog W base spare held n 3 (([c0, c1, c2, c3, c4, c5, c6, c7, c8].drop 0).take (Tryz.prog.cellsOf 3)) = xs[0]? := hx 0 _ rfl
    rw [hy, nt_cellsInt] at h
    obtain ⟨z, hz, _⟩ := DataW.trod_int Tryz.underlying3 h
    exact ⟨z, (List.cons.inj hz).1⟩
  obtain ⟨z1, rfl⟩ : ∃ z, c1 = .int .i64 z := by
    obtain ⟨y, hy⟩ := hy 1 (by decide)
    have h : DataW.trod enc Tryz.prog W base spare held n 3 (([.int .i64 z0, c1, c2, c3, c4, c5, c6, c7, c8].drop 1).take (Tryz.prog.cellsOf 3)) = xs[1]? := hx 1 _ rfl
    rw [hy, nt_cellsInt] at h
    obtain ⟨z, hz, _⟩ := DataW.trod_int Tryz.underlying3 h
    exact ⟨z, (List.cons.inj hz).1⟩
  obtain ⟨z2, rfl⟩ : ∃ z, c2 = .int .i64 z := by
    obtain ⟨y, hy⟩ := hy 2 (by decide)
    have h : DataW.trod enc Tryz.prog W base spare held n 3 (([.int .i64 z0, .int .i64 z1, c2, c3, c4, c5, c6, c7, c8].drop 2).take (Tryz.prog.cellsOf 3)) = xs[2]? := hx 2 _ rfl
    rw [hy, nt_cellsInt] at h
    obtain ⟨z, hz, _⟩ := DataW.trod_int Tryz.underlying3 h
    exact ⟨z, (List.cons.inj hz).1⟩
  obtain ⟨yL, hyL⟩ := hy 3 (by decide)
  have hL : DataW.trod enc Tryz.prog W base spare held n 28 (([.int .i64 z0, .int .i64 z1, .int .i64 z2, c3, c4, c5, c6, c7, c8].drop 3).take (Tryz.prog.cellsOf 28)) = xs[3]? := hx 3 _ rfl
  rw [hyL, nt_cellsLm] at hL
  obtain ⟨ys, n1, _, _, _, hlen1, hx1⟩ := DataW.trod_struct Tryz.underlying28 hL
  have hy1 : ∀ i, i < 3 → ∃ y, ys[i]? = some y := fun i hi => ⟨ys[i]'(by rw [hlen1]; exact hi), List.getElem?_eq_getElem _⟩
  obtain ⟨z3, rfl, hs3⟩ : ∃ f : ByteArray, c3 = .string f ∧ f.size ≤ maxLen := by
    obtain ⟨y, hy⟩ := hy1 0 (by decide)
    have h : DataW.trod enc Tryz.prog W base spare held n1 9 (([c3, c4, c5].drop 0).take (Tryz.prog.cellsOf 9)) = ys[0]? := hx1 0 _ rfl
    rw [hy, nt_cellsStr] at h
    obtain ⟨s, hs, _, hz⟩ := DataW.trod_string Tryz.underlying9 h
    exact ⟨s, (List.cons.inj hs).1, hz⟩
  obtain ⟨z4, rfl, hs4⟩ : ∃ f : ByteArray, c4 = .string f ∧ f.size ≤ maxLen := by
    obtain ⟨y, hy⟩ := hy1 1 (by decide)
    have h : DataW.trod enc Tryz.prog W base spare held n1 9 (([.string z3, c4, c5].drop 1).take (Tryz.prog.cellsOf 9)) = ys[1]? := hx1 1 _ rfl
    rw [hy, nt_cellsStr] at h
    obtain ⟨s, hs, _, hz⟩ := DataW.trod_string Tryz.underlying9 h
    exact ⟨s, (List.cons.inj hs).1, hz⟩
  obtain ⟨z5, rfl⟩ : ∃ z, c5 = .int .i64 z := by
    obtain ⟨y, hy⟩ := hy1 2 (by decide)
    have h : DataW.trod enc Tryz.prog W base spare held n1 3 (([.string z3, .string z4, c5].drop 2).take (Tryz.prog.cellsOf 3)) = ys[2]? := hx1 2 _ rfl
    rw [hy, nt_cellsInt] at h
    obtain ⟨z, hz, _⟩ := DataW.trod_int Tryz.underlying3 h
    exact ⟨z, (List.cons.inj hz).1⟩
  obtain ⟨z6, rfl⟩ : ∃ z, c6 = .bool z := by
    obtain ⟨y, hy⟩ := hy 4 (by decide)
    have h : DataW.trod enc Tryz.prog W base spare held n 4 (([.int .i64 z0, .int .i64 z1, .int .i64 z2, .string z3, .string z4, .int .i64 z5, c6, c7, c8].drop 6).take (Tryz.prog.cellsOf 4)) = xs[4]? := hx 4 _ rfl
    rw [hy, nt_cellsBool] at h
    obtain ⟨z, hz, _⟩ := DataW.trod_bool Tryz.underlying4 h
    exact ⟨z, (List.cons.inj hz).1⟩
  obtain ⟨l7, hr7, hz7⟩ : ∃ l, RdS W c7 l ∧ Szs l := by
    obtain ⟨y, hy⟩ := hy 5 (by decide)
    have h : DataW.trod enc Tryz.prog W base spare held n 23 (([.int .i64 z0, .int .i64 z1, .int .i64 z2, .string z3, .string z4, .int .i64 z5, .bool z6, c7, c8].drop 7).take (Tryz.prog.cellsOf 23)) = xs[5]? := hx 5 _ rfl
    rw [hy, nt_cellsSs] at h
    exact rdS_of Tryz.underlying23 Tryz.underlying9 (by kernel_rfl) h
  obtain ⟨l8, hr8, hz8⟩ : ∃ l, RdV W c8 l ∧ ∀ p ∈ l, Szs p.ws ∧ Szs p.sg := by
    obtain ⟨y, hy⟩ := hy 6 (by decide)
    have h : DataW.trod enc Tryz.prog W base spare held n 24 (([.int .i64 z0, .int .i64 z1, .int .i64 z2, .string z3, .string z4, .int .i64 z5, .bool z6, c7, c8].drop 8).take (Tryz.prog.cellsOf 24)) = xs[6]? := hx 6 _ rfl
    rw [hy, nt_cellsVs] at h
    exact rdV_of h
  exact ⟨⟨z0, z1, z2, z3, z4, z5, z6, l7, l8⟩, c7, c8, rfl, ⟨hr7, hr8⟩, ⟨hs3, hs4, hz7, hz8⟩⟩
end
end Go.Proofs.YtjhdeoniafahbaaGreatDoor
namespace Go.Proofs.YtjhdeoniafahbaaGreatDoor
theorem joinTail_app (sep : List UInt8) (a b : List (List UInt8)) : Lib.joinTail sep (a ++ b) = Lib.joinTail sep a ++ Lib.joinTail sep b := by
  unfold Lib.joinTail; rw [List.map_append, List.flatten_append]
theorem join_app (sep : List UInt8) {a b : List (List UInt8)} (ha : a ≠ []) (hb : b ≠ []) : Lib.join (a ++ b) sep = Lib.join a sep ++ (sep ++ Lib.join b sep) := by
  obtain ⟨x, r, rfl⟩ := List.exists_cons_of_ne_nil ha
  obtain ⟨y, t, rfl⟩ := List.exists_cons_of_ne_nil hb
  rw [List.cons_append, Lib.join_cons, Lib.join_cons, Lib.join_cons, joinTail_app, List.append_assoc]
  congr 2
  unfold Lib.joinTail
  rw [List.map_cons, List.flatten_cons, List.append_assoc]
theorem joinB_data (l : List ByteArray) : (joinB l).data.toList = Lib.join (l.map (·.data.toList)) [32] := by simp [joinB]
end Go.Proofs.YtjhdeoniafahbaaGreatDoor
namespace Go.Proofs.YtjhdeoniafahbaaGreatDoor
open Go.RowKit
/-- append of a string's bytes to a row that the call owns. -/
theorem wpList_aps {P : Program} {ops : Array Oper} {rest : List Oper} {o : Oper} {a : Act} {w : World} {Q : Exit → Act → World → Prop} (hgd : o.guard = none) (sl x : Operand) (t u : TypeId)
    (ho : o.op = .call { callee := .builtin .append, args := #[sl, x], argTypes := #[t, u] })
    (base : Nat) (e : TypeId) (ht : P.underlying t = some (.slice e)) (hu : P.underlying u = some .string) (hi : (P.info? e).map (fun i => (i.zero, i.size, i.bytes)) = some (some (.int .u8 0), 1, 1))
    (v : Value) (n : Nat) (xs : List Value) (hs : a.eval sl = v) (s : ByteArray) (hx : a.eval x = .string s) (hown : w.ownsRow base e 1 v n xs)
    (hbytes : n + s.size ≤ 140737488355328) (hbase : base ≤ w.heap.size)
    (h : ∀ v' w', w'.ownsRow base e 1 v' (n + s.size) (xs ++ Lib.strCells s) → w.grownBy w' v.ownBlock → Below base w w' → wpList P ops Q rest (a.put o.dst v') w') :
    wpList P ops Q (o :: rest) a w := by
  obtain ⟨i, h1, h2, h3, h4⟩ := info_parts hi
  exact Lib.wpList_append_own_string w hgd sl x t u ho base e i ht hu h1 h2 h3 h4 v n xs hs hown s hx (by unfold maxLen; omega) hbytes hbase
    (fun v' w' g2 g3 _ => h v' w' g2 g3 ((Below.refl _ _).grown g3 hbase (fun k hk => (hown.lt k hk).1)))
theorem infoU8b : (Tryz.prog.info? 5).map (fun i => (i.zero, i.size, i.bytes)) = some (some (.int .u8 0), 1, 1) := by kernel_rfl
/-- A row of the bytes of T. -/
def OwB (base : Nat) (W : World) (v : Value) (T : List UInt8) : Prop := W.ownsRow base 5 1 v T.length (Lib.byteCells T)
theorem OwB.str {base : Nat} {W : World} {v : Value} {A : List UInt8} {s : ByteArray} (h : W.ownsRow base 5 1 v (A.length + s.size) (Lib.byteCells A ++ Lib.strCells s)) : OwB base W v (A ++ s.data.toList) := by
  unfold OwB
  rw [Lib.byteCells_append, List.length_append, Array.length_toList, ← Lib.strCells_eq]; exact h
theorem OwB.one {base : Nat} {W : World} {v : Value} {A : List UInt8} {c : UInt8} (h : W.ownsRow base 5 1 v (A.length + 1) (Lib.byteCells A ++ [.int .u8 (c.toNat : Int)])) : OwB base W v (A ++ [c]) := by
  unfold OwB
  rw [Lib.byteCells_append, List.length_append]; exact h
theorem OwB.conv {base : Nat} {W : World} {v : Value} {T : List UInt8} (h : OwB base W v T) : ∃ b c, v = .slice b T.length c ∧ (convert 98 9 (.slice b T.length c)).run Tryz.prog W = .ok (.string ⟨T.toArray⟩) W := by
  have hlen : (Lib.byteCells T).length = T.length := Lib.byteCells_length T
  have hown := h
  rcases h.2 with ⟨rfl, hn⟩ | ⟨g, c, cur, rfl, hrest⟩
  · have hT : T = [] := List.eq_nil_of_length_eq_zero hn
    subst hT
    exact ⟨none, 0, rfl, run_convert_bytes_nil W _ 5 Tryz.underlying98 Tryz.underlying5 0 0 _ Tryz.underlying9⟩
  · refine ⟨some ⟨g, 0, none⟩, c, rfl, ?_⟩
    refine run_convert_bytes_back W _ _ 5 ⟨g, 0, none⟩ c T Tryz.underlying98 Tryz.underlying5 Tryz.underlying9 (fun j hj => ?_)
    have hadd : (⟨g, 0, none⟩ : Addr).add j = ⟨g, j, none⟩ := by unfold Addr.add; split <;> simp_all
    rw [hadd, World.ownsRow.cellAt hown j (by omega)]
    simp [Lib.byteCells, hj]
theorem OwB.slice {base : Nat} {W : World} {v : Value} {T : List UInt8} (h : OwB base W v T) : ∃ b c, v = .slice b T.length c := by
  rcases h.2 with ⟨rfl, hn⟩ | ⟨g, c, cur, rfl, _⟩
  · exact ⟨none, 0, by rw [hn]⟩
  · exact ⟨_, _, rfl⟩
theorem own_slice2 {W : World} {v : Value} {l : List ByteArray} (h : OwS W v l) : ∃ ad cap, v = .slice ad l.length cap := by
  rcases h.2 with ⟨rfl, hn⟩ | ⟨g, cap, cur, rfl, _⟩
  · exact ⟨none, 0, by rw [hn]⟩
  · exact ⟨_, _, rfl⟩
theorem joinTo_le (l : List ByteArray) (k : Nat) : (joinTo l k).size ≤ (joinB l).size := by
  unfold joinTo
  by_cases h1 : l.take k = []
  · rw [h1]
    show 0 ≤ _
    omega
  · by_cases h2 : l.drop k = []
    · have e : l.take k = l := by have := List.take_append_drop k l; rw [h2, List.append_nil] at this; exact this
      rw [e]; exact Nat.le_refl _
    · have e := joinB_data l
      rw [← List.take_append_drop k l, List.map_append, join_app _ (by simpa using h1) (by simpa using h2)] at e
      have e2 := joinB_data (l.take k)
      have h3 := congrArg List.length e
      have h4 := congrArg List.length e2
      rw [List.length_append] at h3
      rw [List.take_append_drop] at h3
      have h5 : (joinB l).data.toList.length = (joinB l).size := rfl
      have h6 : (joinB (l.take k)).data.toList.length = (joinB (l.take k)).size := rfl
      omega
set_option maxRecDepth 100000 in
set_option maxHeartbeats 4000000 in
theorem rjoin_any (v : Value) (l : List ByteArray) (w : World) (hr : RdS w v l) (hz : (joinB l).size ≤ 1000000000) :
    Calls Tryz.prog 72 #[v] w fun e w' => e = .returned (.string (joinB l)) ∧ Below w.heap.size w w' := by
  obtain ⟨a, cap, rfl, hlc, hcm, hcell⟩ := hr.open
  have HC := hid hcell
  have HZ : Hid (∀ k, (joinTo l k).size ≤ 1000000000) := fun k => Nat.le_trans (joinTo_le l k) hz
  have HOW1 : Hid (OwB w.heap.size (w.alloc (.cells #[] 5)) (.slice (some ⟨w.heap.size, 0, none⟩) 0 0) []) := World.ownsRow_made w #[] 0 (Nat.le_refl _) (Nat.zero_le _) rfl
  have HB1 := hid (below_al w (.cells #[] 5))
  clear hcell hr hz
  go_enter Tryz.func72, Tryz.ntmps72
  go_wp2_with fail
  generalize w.alloc (.cells #[] 5) = w1 at *
  go_loopw [3, 4] (fun vb i wr => ∃ (k : Nat) (va : Value), k ≤ l.length ∧ va = vb ∧ i = .int .i64 k ∧ Hid (OwB w.heap.size wr va (joinTo l k).data.toList) ∧ Hid (Below w.heap.size w wr)) (fun _ i _ => l.length - (intOf i).toNat)
  case atStart => exact ⟨0, _, Nat.zero_le _, rfl, rfl, HOW1.out, HB1.out⟩
  case round =>
    obtain ⟨k, va, hk, rfl, rfl, HOW, HB⟩ := hrel
    by_cases hlt : k < l.length
    · obtain ⟨x, b, off, hx, rfl, hc0⟩ := HC.out k hlt
      have hki : (k : Int) < (l.length : Int) := by omega
      have hc := Below.keeps HB.out _ _ hc0
      have HC0 := hid hc0
      have HX := hid hx
      have hz1 := HZ.out (k + 1)
      have hbs := HB.out.size
      clear hc0 hx
      rcases k with _ | k
      · have HN : Hid (joinTo l 1 = x) := joinTo_one l x HX.out
        have hz2 : 0 + x.size ≤ 140737488355328 := by have := HN.out; rw [this] at hz1; omega
        have hown : wr.ownsRow w.heap.size 5 1 va 0 [] := HOW.out
        have q2 : ¬ (0 : Int) < ((0 : Nat) : Int) := by omega
        rw [Nat.add_zero] at hc HC0
        clear hz1 HX HOW
        go_wp2_with (at_builtin; refine wpList_aps rfl _ _ 98 9 rfl w.heap.size 5 Tryz.underlying98 Tryz.underlying9 infoU8b va 0 [] rfl x rfl hown hz2 hbs ?_; intro v' w3 hown2 hg2 hb2)
        have HOW2 : Hid (OwB w.heap.size w3 v' (joinTo l 1).data.toList) := by
          rw [HN.out]
          have h := OwB.str (A := []) hown2
          show OwB _ _ _ _
          simpa using h
        have HB2 := hid (HB.out.trans hb2)
        clear hown hown2 hg2 hb2 HB
        go_wp2_with fail
        go_roundw
        case rel => exact ⟨1, _, by omega, rfl, by go_num, HOW2.out, HB2.out⟩
        case measure => simp [intOf]; omega
      · have HN := hid (joinTo_succ l k x HX.out)
        have hz2 : (joinTo l (k + 1)).size + 1 + x.size ≤ 140737488355328 := by
          have := HN.out
          rw [this] at hz1
          simp only [ByteArray.size_append] at hz1
          have : (⟨#[32]⟩ : ByteArray).size = 1 := rfl
          omega
        have hown := HOW.out
        have q2 : (0 : Int) < ((k + 1 : Nat) : Int) := by omega
        have hzl : (joinTo l (k + 1)).data.toList.length = (joinTo l (k + 1)).size := rfl
        have hz0 := HZ.out (k + 1)
        unfold OwB at hown
        clear hz1 HX HOW
        generalize joinTo l (k + 1) = J at *
        go_wp2_with (first
          | (at_builtin; refine wpList_aps rfl _ _ 98 9 rfl w.heap.size 5 Tryz.underlying98 Tryz.underlying9 infoU8b v' (J.data.toList ++ [32]).length (Lib.byteCells (J.data.toList ++ [32])) rfl x rfl hown3.out hz3.out hbs2.out ?_; intro v4 w4 hown4 hg4 hb4; clear hc2)
          | (at_builtin; refine wpList_ap rfl _ _ 98 rfl w.heap.size 5 Tryz.underlying98 infoU8b rfl (by decide) (by decide) va J.data.toList.length (Lib.byteCells J.data.toList) rfl hown [.int .u8 32] rfl (by simp [Value.oneCell']) rfl (by simp) (by omega) hbs ?_; intro v' w3 hown2 hb2 _; have hown3 : Hid (w3.ownsRow w.heap.size 5 1 v' (J.data.toList ++ [32]).length (Lib.byteCells (J.data.toList ++ [32]))) := OwB.one (c := 32) hown2; have HB2 := hid (HB.out.trans hb2); have hc2 := Below.keeps HB2.out _ _ HC0.out; have hbs2 := hid HB2.out.size; have hz3 : Hid ((J.data.toList ++ [32]).length + x.size ≤ 140737488355328) := (by show _ ≤ _; rw [List.length_append, hzl]; exact hz2); clear hown hown2 hb2 HB hc))
        have HOW2 : Hid (OwB w.heap.size w4 v4 (joinTo l (k + 2)).data.toList) := by
          rw [HN.out]
          have h := OwB.str hown4
          show OwB _ _ _ _
          simpa using h
        have HB4 := hid (HB2.out.trans hb4)
        clear hown3 hown4 hg4 hb4 HB2
        go_wp2_with fail
        go_roundw
        case rel => exact ⟨k + 2, _, by omega, rfl, by go_num, HOW2.out, HB4.out⟩
        case measure => simp [intOf]; omega
    · have hki : ¬ (k : Int) < (l.length : Int) := by omega
      have HOT := HOW.out
      obtain ⟨T, hT⟩ : ∃ T, T = (joinTo l k).data.toList := ⟨_, rfl⟩
      rw [← hT] at HOT
      have HV : Hid ((⟨T.toArray⟩ : ByteArray) = joinB l) := by
        show _ = _
        rw [hT]
        unfold joinTo
        rw [List.take_of_length_le (by omega)]
      clear HOW hT
      obtain ⟨bb, cc, rfl, hcv⟩ := HOT.conv
      generalize (⟨T.toArray⟩ : ByteArray) = J at *
      clear HOT
      go_wp2_with fail
      go_ret
      exact ⟨congrArg (fun x => Ending.returned (.string x)) HV.out, HB.out⟩
theorem rquoted_any (v : Value) (l : List ByteArray) (w : World) (hr : RdS w v l) (hz : (joinB l).size ≤ 1000000000) :
    Calls Tryz.prog 73 #[v] w fun e w' => e = .returned (.string (quoteB l)) ∧ Below w.heap.size w w' := by
  have HJ := hid (rjoin_any v l w hr hz)
  obtain ⟨a, cap, rfl, _⟩ := hr.open
  clear hr hz
  by_cases h0 : l.length = 0
  · have h0b : ((l.length : Int) == 0) = true := by rw [h0]; rfl
    have HV : Hid (quoteB l = ⟨#[91, 93]⟩) := by
      have : l = [] := List.eq_nil_of_length_eq_zero h0
      show _ = _
      rw [this]; rfl
    clear HJ h0
    go_enter Tryz.func73, Tryz.ntmps73
    go_wp2
    go_ret
    exact ⟨congrArg (fun x => Ending.returned (.string x)) HV.out.symm, Below.refl _ _⟩
  · have h0b : ((l.length : Int) == 0) = false := beq_eq_false_iff_ne.2 (by omega)
    have HV : Hid (quoteB l = joinB l) := by
      show _ = _
      unfold quoteB
      rw [if_neg (by first | omega | (intro h; rw [h] at h0; exact h0 rfl) | exact h0)]
    clear h0
    go_enter Tryz.func73, Tryz.ntmps73
    go_wp2_with fail
    refine HJ.out.mono ?_
    rintro e w2 ⟨rfl, hB⟩
    go_wp2
    go_ret
    exact ⟨congrArg (fun x => Ending.returned (.string x)) HV.out.symm, hB⟩
set_option maxRecDepth 100000 in
set_option maxHeartbeats 4000000 in
theorem rparts_any (s : ByteArray) (w : World) (hs : s.size ≤ 1000000000) :
    Calls Tryz.prog 74 #[.string s] w fun e w' => ∃ v, e = .returned v ∧ OwS w' v (splitS s) ∧ Below w.heap.size w w' := by
  have HBE := fun (w' : World) (v : Value) (ks : List ByteArray) (h : w'.ownsRow w.heap.size 9 1 v ks.length (ks.map Value.string)) => hid (own_zero h)
  go_enter Tryz.func74, Tryz.ntmps74
  go_wp2
  go_loopw [3, 4, 5] (fun o f i wr => ∃ (j k : Nat) (ks : List ByteArray), k ≤ s.size + 1 ∧ j ≤ s.size + 1 ∧ i = .int .i64 k ∧ f = .int .i64 j ∧ Hid (CutG s.data.toList ks j k) ∧ Hid (wr.ownsRow w.heap.size 9 1 o ks.length (ks.map Value.string)) ∧ Hid (Below w.heap.size w wr)) (fun _ _ i _ => s.size + 1 - (intOf i).toNat)
  case atStart => exact ⟨0, 0, [], by omega, by omega, rfl, rfl, CutG.start _, World.ownsRow_made w #[] 0 (Nat.le_refl _) (by unfold maxLen; omega) rfl, below_al w _⟩
  case round =>
    rename_i wr
    obtain ⟨j, k, ks, hk, hj, rfl, rfl, HC, HO, HB⟩ := hrel
    have hb := HC.out.bound
    have hsz : s.data.toList.length = s.size := rfl
    rw [hsz] at hb
    have hown := HO.out
    have hbs := HB.out.size
    by_cases hlt : k ≤ s.size
    · have hjk := HC.out.le (by rw [hsz]; exact hlt)
      have HPush : Hid (∀ (w3 : World) (v' : Value), w3.ownsRow w.heap.size 9 1 v' (ks.length + 1) (ks.map Value.string ++ [Value.string (s.extract j k)]) → w3.ownsRow w.heap.size 9 1 v' (ks ++ [s.extract j k]).length ((ks ++ [s.extract j k]).map Value.string)) := fun w3 v' h => by simpa using h
      by_cases hlt2 : k < s.size
      · have q1 : ((k : Int) == (s.size : Int)) = false := beq_eq_false_iff_ne.2 (by omega)
        by_cases h32 : s[k] = 32
        · have HC2 := hid (HC.out.split hlt2 (by rw [getL s k hlt2, h32]))
          have q3 : ((s[k].toNat : Int) == 32) = true := by rw [h32]; rfl
          clear h32 hsz
          go_wp2_with (at_builtin; refine wpList_ap rfl _ _ 23 rfl w.heap.size 9 Tryz.underlying23 infoStr rfl (by decide) (by decide) _ ks.length _ rfl hown [.string (s.extract j k)] rfl (by simp [Value.oneCell']) rfl (by simp) (by omega) hbs ?_; intro v' w1 hown' hb1 _)
          have HO2 := hid (HPush.out _ _ hown')
          have HB2 := hid (HB.out.trans hb1)
          clear hown hown' hb1 HB HO
          go_wp2_with fail
          go_roundw
          case rel => exact ⟨k + 1, k + 1, _, by omega, by omega, by go_num, by go_num, HC2.out, HO2.out, HB2.out⟩
          case measure => simp [intOf]; omega
        · have HC2 := hid (HC.out.skip (by omega) s[k] (getL s k hlt2) h32)
          have q3 := byte_ne h32
          clear h32 hsz hown
          go_wp2_with fail
          go_roundw
          case rel => exact ⟨j, k + 1, ks, by omega, by omega, by go_num, rfl, HC2.out, HO.out, HB.out⟩
          case measure => simp [intOf]; omega
      · obtain rfl : k = s.size := by omega
        have q1 : ((s.size : Int) == (s.size : Int)) = true := by simp
        have HC2 := hid HC.out.last
        clear hsz
        go_wp2_with (at_builtin; refine wpList_ap rfl _ _ 23 rfl w.heap.size 9 Tryz.underlying23 infoStr rfl (by decide) (by decide) _ ks.length _ rfl hown [.string (s.extract j s.size)] rfl (by simp [Value.oneCell']) rfl (by simp) (by omega) hbs ?_; intro v' w1 hown' hb1 _)
        have HO2 := hid (HPush.out _ _ hown')
        have HB2 := hid (HB.out.trans hb1)
        clear hown hown' hb1 HB HO
        go_wp2_with fail
        go_roundw
        case rel => exact ⟨s.size + 1, s.size + 1, _, by omega, by omega, by go_num, by go_num, HC2.out, HO2.out, HB2.out⟩
        case measure => simp [intOf]
    · obtain rfl : k = s.size + 1 := by omega
      have HE := hid HC.out.done
      have HOW := HBE _ _ _ HO.out
      clear hown hsz hb
      go_wp2
      go_ret
      exact ⟨_, rfl, by rw [HE.out]; exact HOW.out, HB.out⟩
theorem owS_made (w : World) : OwS (w.alloc (.cells #[] 9)) (.slice (some ⟨w.heap.size, 0, none⟩) 0 0) [] := World.ownsRow_made w #[] 0 (Nat.zero_le _) (Nat.zero_le _) rfl
set_option maxRecDepth 100000 in
set_option maxHeartbeats 1000000 in
theorem rQuote_any (v : Value) (l : List ByteArray) (w : World) (he : Env w) (hr : RdS w v l) (hz : ∀ s ∈ l, s.size ≤ 65536) (hj : (joinB l).size ≤ 1000000000) :
    Calls Tryz.prog 31 #[v] w fun e w' => e = .returned (.tuple #[.string (quotS l), .int .i64 (quotI l)]) ∧ Below w.heap.size w w' := by
  have HR := hid (rright_any v l w he hr hz)
  have HQ := fun w' (h : Below w.heap.size w w') => hid (rquoted_any v l w' (hr.below h) hj)
  have HC : Hid (lcheckI l = if 4096 < l.length then 4 else if (l.any fun s => !wordB s) = true then 11 else 0) := rfl
  have HI : Hid (quotI l = if lcheckI l = 0 then (if 65536 < (quoteB l).size then 4 else 0) else lcheckI l) := rfl
  have HS : Hid (quotS l = if quotI l = 0 then quoteB l else ⟨#[]⟩) := rfl
  obtain ⟨a, cap, rfl, _⟩ := hr.open
  clear hr hz hj he
  generalize quotI l = qi at *
  generalize quotS l = qs at *
  generalize lcheckI l = lc at *
  generalize quoteB l = q at *
  by_cases h1 : 4096 < l.length
  · have h1i : (4096 : Int) < (l.length : Int) := by omega
    have HV : Hid (qi = 4) := by show _ = _; rw [HI.out, HC.out, if_pos h1]; rfl
    have HV2 : Hid (qs = ⟨#[]⟩) := by show _ = _; rw [HS.out, HV.out]; rfl
    clear HI HS HC HR HQ
    go_enter Tryz.func31, Tryz.ntmps31
    go_wp2
    go_ret2
    exact ⟨by rw [HV.out, HV2.out]; rfl, Below.refl _ _⟩
  have h1i : ¬ (4096 : Int) < (l.length : Int) := by omega
  cases ha : (l.any fun s => !wordB s) with
  | true =>
    rw [ha] at HR
    have HV : Hid (qi = 11) := by show _ = _; rw [HI.out, HC.out, if_neg h1, ha]; rfl
    have HV2 : Hid (qs = ⟨#[]⟩) := by show _ = _; rw [HS.out, HV.out]; rfl
    clear HI HS HC HQ ha
    go_enter Tryz.func31, Tryz.ntmps31
    go_wp2_with fail
    (with_reducible refine HR.out.mono ?_)
    rintro e w1 ⟨rfl, hB1⟩
    go_wp2
    go_ret2
    exact ⟨by rw [HV.out, HV2.out]; rfl, hB1⟩
  | false =>
    rw [ha] at HR
    have HC2 : Hid (lc = 0) := by show _ = _; rw [HC.out, if_neg h1, ha]; rfl
    clear HC ha
    by_cases h2 : 65536 < q.size
    · have h2i : (65536 : Int) < (q.size : Int) := by omega
      have HV : Hid (qi = 4) := by show _ = _; rw [HI.out, HC2.out, if_pos rfl, if_pos h2]
      have HV2 : Hid (qs = ⟨#[]⟩) := by show _ = _; rw [HS.out, HV.out]; rfl
      clear HI HS
      go_enter Tryz.func31, Tryz.ntmps31
      go_wp2_with fail
      (with_reducible refine HR.out.mono ?_)
      rintro e w1 ⟨rfl, hB1⟩
      go_wp2_with fail
      (with_reducible refine (HQ _ hB1).out.mono ?_)
      rintro e w2 ⟨rfl, hB2⟩
      go_wp2
      go_ret2
      exact ⟨by rw [HV.out, HV2.out]; rfl, below_tr hB1 hB2⟩
    · have h2i : ¬ (65536 : Int) < (q.size : Int) := by omega
      have HV : Hid (qi = 0) := by show _ = _; rw [HI.out, HC2.out, if_pos rfl, if_neg h2]
      have HV2 : Hid (qs = q) := by show _ = _; rw [HS.out, HV.out]; rfl
      clear HI HS
      go_enter Tryz.func31, Tryz.ntmps31
      go_wp2_with fail
      (with_reducible refine HR.out.mono ?_)
      rintro e w1 ⟨rfl, hB1⟩
      go_wp2_with fail
      (with_reducible refine (HQ _ hB1).out.mono ?_)
      rintro e w2 ⟨rfl, hB2⟩
      go_wp2
      go_ret2
      exact ⟨by rw [HV.out, HV2.out]; rfl, below_tr hB1 hB2⟩
set_option maxRecDepth 100000 in
set_option maxHeartbeats 1000000 in
theorem rUnq_any (s : ByteArray) (w : World) (he : Env w) (hs : s.size ≤ 1048576) :
    Calls Tryz.prog 33 #[.string s] w fun e w' => ∃ v, e = .returned (.tuple #[v, .int .i64 (unqI s)]) ∧ OwS w' v (unqL s) ∧ Below w.heap.size w w' := by
  have HI : Hid (unqI s = if 65536 < s.size then 4 else if s = noneB then 0 else if lcheckI (splitS s) = 0 then 0 else 3) := rfl
  have HL : Hid (unqL s = if 65536 < s.size then [] else if s = noneB then [] else if lcheckI (splitS s) = 0 then splitS s else []) := rfl
  have HO := hid (owS_made w)
  have HB0 := hid (below_al w (.cells #[] 9))
  by_cases h1 : 65536 < s.size
  · have h1i : (65536 : Int) < (s.size : Int) := by omega
    have HV : Hid (unqI s = 4) := by show _ = _; rw [HI.out, if_pos h1]
    have HV2 : Hid (unqL s = []) := by show _ = _; rw [HL.out, if_pos h1]
    clear HI HL
    generalize unqI s = ui at *
    generalize unqL s = ul at *
    go_enter Tryz.func33, Tryz.ntmps33
    go_wp2
    go_ret2
    exact ⟨_, by rw [HV.out]; rfl, by rw [HV2.out]; exact HO.out, HB0.out⟩
  · have h1i : ¬ (65536 : Int) < (s.size : Int) := by omega
    by_cases h2 : s = noneB
    · have HV : Hid (unqI s = 0) := by show _ = _; rw [HI.out, if_neg h1, if_pos h2]
      have HV2 : Hid (unqL s = []) := by show _ = _; rw [HL.out, if_neg h1, if_pos h2]
      subst h2
      clear HI HL h1 h1i hs he
      generalize unqI noneB = ui at *
      generalize unqL noneB = ul at *
      unfold noneB
      go_enter Tryz.func33, Tryz.ntmps33
      go_wp2
      go_ret2
      exact ⟨_, by rw [HV.out]; rfl, by rw [HV2.out]; exact HO.out, HB0.out⟩
    · have hbq0 : ¬ s.toList = [91, 93] := fun e => h2 (ba_ext (by rw [← ByteArray.toList_eq, e]; rfl))
      have hbq : (s.toList == [91, 93]) = false := beq_eq_false_iff_ne.2 hbq0
      have HI2 : Hid (unqI s = if lcheckI (splitS s) = 0 then 0 else 3) := by show _ = _; rw [HI.out, if_neg h1, if_neg h2]
      have HL2 : Hid (unqL s = if lcheckI (splitS s) = 0 then splitS s else []) := by show _ = _; rw [HL.out, if_neg h1, if_neg h2]
      have HP := hid (rparts_any s w (by omega))
      have hl2 : ∀ x ∈ splitS s, x.size ≤ 65536 := fun x hx => by have := splitS_size s x hx; omega
      have HRT := fun v w' (h : Below w.heap.size w w') (ho : OwS w' v (splitS s)) => hid (rright_any v (splitS s) w' (he.below h) ho.rd hl2)
      have HC : Hid (lcheckI (splitS s) = if 4096 < (splitS s).length then 4 else if ((splitS s).any fun x => !wordB x) = true then 11 else 0) := rfl
      clear HI HL h2 hl2 he HO HB0
      generalize unqI s = ui at *
      generalize unqL s = ul at *
      generalize splitS s = ps at *
      generalize lcheckI ps = lc at *
      by_cases h3 : 4096 < ps.length
      · have h3i : (4096 : Int) < (ps.length : Int) := by omega
        have HV : Hid (ui = 3) := by show _ = _; rw [HI2.out, HC.out, if_pos h3]; rfl
        have HV2 : Hid (ul = []) := by show _ = _; rw [HL2.out, HC.out, if_pos h3]; rfl
        clear HI2 HL2 HC HRT
        go_enter Tryz.func33, Tryz.ntmps33
        go_wp2_with fail
        (with_reducible refine HP.out.mono ?_)
        rintro e w1 ⟨v, rfl, ho, hB1⟩
        obtain ⟨ad, cp, rfl⟩ := own_slice2 ho
        have HO1 := hid (owS_made w1)
        have HB1 := hid (below_tr hB1 (below_al w1 (.cells #[] 9)))
        clear ho hB1
        go_wp2
        go_ret2
        exact ⟨_, by rw [HV.out]; rfl, by rw [HV2.out]; exact HO1.out, HB1.out⟩
      have h3i : ¬ (4096 : Int) < (ps.length : Int) := by omega
      cases ha : (ps.any fun x => !wordB x) with
      | true =>
        rw [ha] at HRT
        have HV : Hid (ui = 3) := by show _ = _; rw [HI2.out, HC.out, if_neg h3, ha]; rfl
        have HV2 : Hid (ul = []) := by show _ = _; rw [HL2.out, HC.out, if_neg h3, ha]; rfl
        clear HI2 HL2 HC ha
        go_enter Tryz.func33, Tryz.ntmps33
        go_wp2_with fail
        (with_reducible refine HP.out.mono ?_)
        rintro e w1 ⟨v, rfl, ho, hB1⟩
        have HR1 := HRT v w1 hB1 ho
        obtain ⟨ad, cp, rfl⟩ := own_slice2 ho
        have HB1 := hid hB1
        clear ho hB1 HRT
        go_wp2_with fail
        (with_reducible refine HR1.out.mono ?_)
        rintro e w2 ⟨rfl, hB2⟩
        have HO1 := hid (owS_made w2)
        have HB2 := hid (below_tr HB1.out (below_tr hB2 (below_al w2 (.cells #[] 9))))
        clear hB2
        go_wp2
        go_ret2
        exact ⟨_, by rw [HV.out]; rfl, by rw [HV2.out]; exact HO1.out, HB2.out⟩
      | false =>
        rw [ha] at HRT
        have HV : Hid (ui = 0) := by show _ = _; rw [HI2.out, HC.out, if_neg h3, ha]; rfl
        have HV2 : Hid (ul = ps) := by show _ = _; rw [HL2.out, HC.out, if_neg h3, ha]; rfl
        clear HI2 HL2 HC ha
        go_enter Tryz.func33, Tryz.ntmps33
        go_wp2_with fail
        (with_reducible refine HP.out.mono ?_)
        rintro e w1 ⟨v, rfl, ho, hB1⟩
        have HR1 := HRT v w1 hB1 ho
        have HO0 := hid ho
        obtain ⟨ad, cp, rfl⟩ := own_slice2 ho
        have HB1 := hid hB1
        clear ho hB1 HRT
        go_wp2_with fail
        (with_reducible refine HR1.out.mono ?_)
        rintro e w2 ⟨rfl, hB2⟩
        have HO1 := hid (HO0.out.below hB2)
        have HB2 := hid (below_tr HB1.out hB2)
        clear hB2
        go_wp2
        go_ret2
        exact ⟨_, by rw [HV.out]; rfl, by rw [HV2.out]; exact HO1.out, HB2.out⟩
end Go.Proofs.YtjhdeoniafahbaaGreatDoor
namespace Go.Proofs.YtjhdeoniafahbaaGreatDoor
open Go.RowKit
theorem dec_step45 (u : Nat) (h : ¬ u < 10) : Lib.decDigits u = Lib.decDigits (u / 10) ++ [UInt8.ofNat (48 + u % 10)] := by
  rw [Lib.decDigits, dif_neg h]
theorem dec_last45 (u : Nat) (h : u < 10) : Lib.decDigits u = [UInt8.ofNat (48 + u)] := by
  rw [Lib.decDigits, dif_pos h]
def dgA45 : ByteArray := ⟨#[48, 49, 50, 51, 52, 53, 54, 55, 56, 57]⟩
theorem dg_at45 (k : Nat) (h : k < 10) : dgA45.extract k (k + 1) = ⟨#[UInt8.ofNat (48 + k)]⟩ := by
  have : k = 0 ∨ k = 1 ∨ k = 2 ∨ k = 3 ∨ k = 4 ∨ k = 5 ∨ k = 6 ∨ k = 7 ∨ k = 8 ∨ k = 9 := by omega
  rcases this with rfl | rfl | rfl | rfl | rfl | rfl | rfl | rfl | rfl | rfl <;> decide +kernel
theorem nDig45 : ∀ (n : Nat), n < 1000000000 → (Lib.decDigits n).length ≤ 10 := fun n hn => by
  have h : ∀ (k m : Nat), m < 10 ^ (k + 1) → (Lib.decDigits m).length ≤ k + 1 := by
    intro k
    induction k with
    | zero => intro m hm; rw [dec_last45 m (by omega)]; simp
    | succ k ih =>
      intro m hm
      by_cases h9 : m < 10
      · rw [dec_last45 m h9]; simp
      · rw [dec_step45 m h9, List.length_append]
        have := ih (m / 10) (by rw [Nat.pow_succ] at hm; omega)
        simp only [List.length_cons, List.length_nil]; omega
  exact h 9 n (by omega)
set_option maxRecDepth 100000 in
set_option maxHeartbeats 1000000 in
theorem rdec45_any (n : Nat) (hn : n < 1000000000) (w : World) : Calls Tryz.prog 106 #[.int .i64 n] w fun e w' => e = .returned (.string (itoaB n)) ∧ w = w' := by
  have HL : Hid ((Lib.decDigits n).length ≤ 10) := nDig45 n hn
  have HI : Hid ((itoaB (n : Int)).data.toList = Lib.decDigits n) := by
    show _ = _
    rw [itoaB_data (by omega)]; simp
  go_enter Tryz.func106, Tryz.ntmps106
  go_wp2
  go_loop [0, 3] (fun nv sv => ∃ (u : Nat) (s : ByteArray), nv = .int .i64 u ∧ sv = .string s ∧ u < 1000000000 ∧ Hid (Lib.decDigits n = Lib.decDigits u ++ s.data.toList)) (fun nv _ => (intOf nv).toNat)
  case atStart => exact ⟨n, ⟨#[]⟩, rfl, rfl, hn, by simp [Hid]⟩
  case round =>
    obtain ⟨u, s, rfl, rfl, hu, HD⟩ := hrel
    have hsz : s.size ≤ 10 := by
      have h1 := congrArg List.length HD.out
      have h2 := HL.out
      have h3 : s.data.toList.length = s.size := rfl
      rw [List.length_append, h3] at h1
      omega
    by_cases h9 : u < 10
    · have h9i : (u : Int) < 10 := by omega
      have HV : Hid (dgA45.extract u (u + 1) ++ s = itoaB (n : Int)) := by
        apply ba_ext
        rw [dg_at45 u h9, HI.out, HD.out, dec_last45 u h9]
        simp
      go_wp2
      go_ret
      exact ⟨congrArg (fun x => Ending.returned (.string x)) HV.out, rfl⟩
    · have h9i : (9 : Int) < (u : Int) := by omega
      have HV : Hid (Lib.decDigits n = Lib.decDigits (u / 10) ++ (dgA45.extract (u % 10) (u % 10 + 1) ++ s).data.toList) := by
        show _ = _
        rw [dg_at45 _ (by omega), HD.out, dec_step45 u h9]
        simp
      go_wp2
      go_round
      case rel => exact ⟨u / 10, _, by go_num, rfl, by omega, HV.out⟩
      case measure => simp [intOf]; omega
set_option maxHeartbeats 1000000 in
theorem rlines_str (a b : Nat) (ha : a < 1000000000) (hb : b < 1000000000) (w : World) : Calls Tryz.prog 70 #[.int .i64 a, .int .i64 b] w fun e w' => e = .returned (.string (spanB a b)) ∧ w = w' := by
  have HA := fun w' => hid (rdec45_any a ha w')
  have HB := fun w' => hid (rdec45_any b hb w')
  have sz : ∀ n : Nat, n < 1000000000 → (itoaB (n : Int)).size ≤ 10 := fun n hn => by
    have h1 : (itoaB (n : Int)).data.toList = Lib.decDigits n := by rw [itoaB_data (by omega)]; simp
    have h2 := congrArg List.length h1
    have h3 := nDig45 n hn
    have h4 : (itoaB (n : Int)).data.toList.length = (itoaB (n : Int)).size := rfl
    omega
  have z1 := sz a ha
  have z2 := sz b hb
  by_cases h : (a : Int) = (b : Int)
  · have hab : ((a : Int) == (b : Int)) = true := by rw [h]; simp
    have HV : Hid (spanB (a : Int) (b : Int) = itoaB (a : Int)) := by show _ = _; unfold spanB; rw [if_pos h]
    clear h sz HB
    generalize itoaB (a : Int) = sa at *
    go_enter Tryz.func70, Tryz.ntmps70
    go_wp2_with fail
    (with_reducible refine (HA _).out.mono ?_)
    rintro e w1 ⟨rfl, rfl⟩
    go_wp2
    go_ret
    exact ⟨congrArg (fun x => Ending.returned (.string x)) HV.out.symm, rfl⟩
  · have hab : ((a : Int) == (b : Int)) = false := beq_eq_false_iff_ne.2 h
    have HV : Hid (spanB (a : Int) (b : Int) = (itoaB (a : Int) ++ ⟨#[45]⟩) ++ itoaB (b : Int)) := by show _ = _; unfold spanB; rw [if_neg h]
    clear h sz
    generalize itoaB (a : Int) = sa at *
    generalize itoaB (b : Int) = sb at *
    go_enter Tryz.func70, Tryz.ntmps70
    go_wp2_with fail
    (with_reducible refine (HA _).out.mono ?_)
    rintro e w1 ⟨rfl, rfl⟩
    go_wp2_with fail
    (with_reducible refine (HB _).out.mono ?_)
    rintro e w1 ⟨rfl, rfl⟩
    go_wp2
    go_ret
    exact ⟨congrArg (fun x => Ending.returned (.string x)) HV.out.symm, rfl⟩
end Go.Proofs.YtjhdeoniafahbaaGreatDoor
namespace Go.Proofs.YtjhdeoniafahbaaGreatDoor
open Go.RowKit
def dgB (c : UInt8) : Bool := decide (48 ≤ c.toNat) && decide (c.toNat ≤ 57)
/-- How many digits stand at the beginning, of at most 4; their number. -/
def numK (l : List UInt8) : Nat := ((l.take 4).takeWhile dgB).length
def numN (l : List UInt8) : Nat := (Lib.decFrom 0 (l.take (numK l))).getD 0
theorem decFrom_lt45 : ∀ (l : List UInt8) (acc n : Nat), Lib.decFrom acc l = some n → n < (acc + 1) * 10 ^ l.length
  | [], acc, n, h => by
    have e : acc = n := by simpa [Lib.decFrom] using h
    subst e; simp
  | c :: r, acc, n, h => by
    unfold Lib.decFrom at h
    cases hc : Lib.digitVal c with
    | none => rw [hc] at h; simp at h
    | some x =>
      rw [hc] at h
      have h2 := decFrom_lt45 r _ n h
      have hx : x < 10 := by
        unfold Lib.digitVal at hc
        split at hc
        · cases hc; omega
        · cases hc
      have h3 : (acc * 10 + x + 1) * 10 ^ r.length ≤ ((acc + 1) * 10) * 10 ^ r.length := Nat.mul_le_mul_right _ (by omega)
      rw [List.length_cons, Nat.pow_succ', ← Nat.mul_assoc]
      exact Nat.lt_of_lt_of_le h2 h3
theorem digit_of45 {c : UInt8} (h1 : 48 ≤ c.toNat) (h2 : c.toNat ≤ 57) : Lib.digitVal c = some (c.toNat - 48) := by
  unfold Lib.digitVal
  rw [if_pos ⟨h1, h2⟩]
theorem decFrom_snoc45 (c : UInt8) (d : Nat) (hc : Lib.digitVal c = some d) : ∀ (l : List UInt8) (acc N : Nat), Lib.decFrom acc l = some N → Lib.decFrom acc (l ++ [c]) = some (N * 10 + d)
  | [], acc, N, h => by
    have e : acc = N := by simpa [Lib.decFrom] using h
    subst e
    rw [List.nil_append]
    unfold Lib.decFrom
    rw [hc]
    rfl
  | x :: r, acc, N, h => by
    unfold Lib.decFrom at h
    rw [List.cons_append]
    unfold Lib.decFrom
    cases hx : Lib.digitVal x with
    | none => rw [hx] at h; cases h
    | some y =>
      rw [hx] at h
      exact decFrom_snoc45 c d hc r _ N h
/-- The first k bytes are digits, and no more than k are taken. -/
theorem numK_of {l : List UInt8} {k : Nat} (hk : k ≤ l.length) (h4 : k ≤ 4) (ha : ∀ c ∈ l.take k, dgB c = true) (hs : k = 4 ∨ ∀ c, l[k]? = some c → dgB c = false) : numK l = k := by
  unfold numK
  have e : l.take 4 = l.take k ++ (l.take 4).drop k := by
    have := List.take_append_drop k (l.take 4)
    rw [List.take_take, Nat.min_eq_left h4] at this
    exact this.symm
  rw [e, List.takeWhile_append_of_pos ha]
  have hd : ((l.take 4).drop k).takeWhile dgB = [] := by
    rcases hs with h | h
    · subst h
      rw [List.drop_eq_nil_of_le (by rw [List.length_take]; omega)]; rfl
    · cases hr : (l.take 4).drop k with
      | nil => rfl
      | cons c r =>
        have h0 : ((l.take 4).drop k)[0]? = some c := by rw [hr]; rfl
        rw [List.getElem?_drop, Nat.add_zero, List.getElem?_take] at h0
        split at h0
        · rw [List.takeWhile_cons, if_neg (by rw [h c h0]; simp)]
        · cases h0
  rw [hd, List.append_nil, List.length_take]
  omega
set_option maxRecDepth 100000 in
set_option maxHeartbeats 2000000 in
theorem rnum45_any (s : ByteArray) (w : World) (hs : s.size ≤ 1000000) : Calls Tryz.prog 130 #[.string s] w fun e w' => e = .returned (.tuple #[.int .i64 (numN s.data.toList), .int .i64 (numK s.data.toList)]) ∧ w = w' := by
  have hsz : s.data.toList.length = s.size := rfl
  have HSZ := hid hsz
  clear hsz
  go_enter Tryz.func130, Tryz.ntmps130
  go_wp2
  go_loop [4, 5] (fun nv i => ∃ (k N : Nat), k ≤ s.size ∧ k ≤ 4 ∧ i = .int .i64 k ∧ nv = .int .i64 N ∧ N < 100000 ∧ Hid (Lib.decFrom 0 (s.data.toList.take k) = some N) ∧ Hid (∀ c ∈ s.data.toList.take k, dgB c = true)) (fun _ i => s.size - (intOf i).toNat)
  case atStart => exact ⟨0, 0, by omega, by omega, rfl, rfl, by omega, rfl, by simp [Hid]⟩
  case round =>
    obtain ⟨k, N, hk, hk4, rfl, rfl, hN, HF, HA⟩ := hrel
    have fin : (k = 4 ∨ ∀ c, s.data.toList[k]? = some c → dgB c = false) → Hid (numN s.data.toList = N ∧ numK s.data.toList = k) := fun h => by
      have e := numK_of (l := s.data.toList) (by rw [HSZ.out]; exact hk) hk4 HA.out h
      refine ⟨?_, e⟩
      unfold numN
      rw [e, HF.out]; rfl
    have stop : Hid (numN s.data.toList = N ∧ numK s.data.toList = k) → Hid (Value.tuple #[.int .i64 (N : Int), .int .i64 (k : Int)] = .tuple #[.int .i64 (numN s.data.toList : Nat), .int .i64 (numK s.data.toList : Nat)]) := fun h => by
      show _ = _
      rw [h.out.1, h.out.2]
    by_cases hlt : k < s.size
    · have hki : (k : Int) < (s.size : Int) := by omega
      have HBK : Hid (s.data.toList[k]? = some s[k]) := by
        show _ = _
        rw [List.getElem?_eq_getElem (by rw [HSZ.out]; exact hlt)]; rfl
      by_cases h4 : k < 4
      · have h4i : (k : Int) < 4 := by omega
        by_cases b1 : (48 : Int) ≤ (s[k].toNat : Int)
        · by_cases b2 : (s[k].toNat : Int) ≤ 57
          · have hd := digit_of45 (c := s[k]) (by omega) (by omega)
            have HF2 : Hid (Lib.decFrom 0 (s.data.toList.take (k + 1)) = some (N * 10 + (s[k].toNat - 48))) := by
              show _ = _
              rw [List.take_add_one, HBK.out]
              exact decFrom_snoc45 _ _ hd _ _ _ HF.out
            have HA2 : Hid (∀ c ∈ s.data.toList.take (k + 1), dgB c = true) := by
              intro c hc
              rw [List.take_add_one, HBK.out, List.mem_append] at hc
              rcases hc with hc | hc
              · exact HA.out c hc
              · have : c = s[k] := by simpa using hc
                rw [this]
                unfold dgB
                rw [decide_eq_true (by omega), decide_eq_true (by omega)]; rfl
            have hN2 : N * 10 + (s[k].toNat - 48) < 100000 := by
              have h1 := decFrom_lt45 _ _ _ HF2.out
              have h2 : (s.data.toList.take (k + 1)).length ≤ 4 := by rw [List.length_take]; omega
              have h3 : (10 : Nat) ^ (s.data.toList.take (k + 1)).length ≤ 10 ^ 4 := Nat.pow_le_pow_right (by decide) h2
              have e : (10 : Nat) ^ 4 = 10000 := by decide
              omega
            clear hd HF HBK HA fin stop
            go_wp2
            go_round
            case rel => exact ⟨k + 1, N * 10 + (s[k].toNat - 48), by omega, by omega, by go_num, by go_num, hN2, HF2.out, HA2.out⟩
            case measure => simp [intOf]; omega
          · have HV := stop (fin (.inr fun c hc => by
              have e : s[k] = c := Option.some.inj (HBK.out.symm.trans hc)
              rw [← e]; unfold dgB; rw [decide_eq_false (show ¬ s[k].toNat ≤ 57 by omega)]; simp))
            clear fin stop HF HA HBK
            go_wp2
            go_ret2
            exact ⟨congrArg Ending.returned HV.out, rfl⟩
        · have HV := stop (fin (.inr fun c hc => by
            have e : s[k] = c := Option.some.inj (HBK.out.symm.trans hc)
            rw [← e]; unfold dgB; rw [decide_eq_false (show ¬ 48 ≤ s[k].toNat by omega)]; simp))
          clear fin stop HF HA HBK
          go_wp2
          go_ret2
          exact ⟨congrArg Ending.returned HV.out, rfl⟩
      · have h4i : ¬ (k : Int) < 4 := by omega
        have HV := stop (fin (.inl (by omega)))
        clear fin stop HF HA HBK
        go_wp2
        go_ret2
        exact ⟨congrArg Ending.returned HV.out, rfl⟩
    · have hki : ¬ (k : Int) < (s.size : Int) := by omega
      have HV := stop (fin (.inr fun c hc => by
        rw [List.getElem?_eq_none (by rw [HSZ.out]; omega)] at hc; cases hc))
      clear fin stop HF HA
      go_wp2
      go_ret2
      exact ⟨congrArg Ending.returned HV.out, rfl⟩
end Go.Proofs.YtjhdeoniafahbaaGreatDoor
namespace Go.Proofs.YtjhdeoniafahbaaGreatDoor
open Go.RowKit
theorem numN_lt (l : List UInt8) : numN l < 100000 := by
  unfold numN
  cases h : Lib.decFrom 0 (l.take (numK l)) with
  | none => simp
  | some N =>
    have h1 := decFrom_lt45 _ _ _ h
    have h2 : (l.take (numK l)).length ≤ 4 := by
      rw [List.length_take]
      have : numK l ≤ 4 := by
        unfold numK
        have := (List.takeWhile_prefix (p := dgB) (l := l.take 4)).length_le
        rw [List.length_take] at this
        omega
      omega
    have h3 : (10 : Nat) ^ (l.take (numK l)).length ≤ 10 ^ 4 := Nat.pow_le_pow_right (by decide) h2
    have e : (10 : Nat) ^ 4 = 10000 := by decide
    show N < 100000
    omega
theorem numK_le (l : List UInt8) : numK l ≤ l.length := by
  unfold numK
  have := (List.takeWhile_prefix (p := dgB) (l := l.take 4)).length_le
  rw [List.length_take] at this
  omega
/-- The end of the lines. -/
def unlT (s : ByteArray) : Nat := if s.data.toList[numK s.data.toList]? = some 45 then numN (s.data.toList.drop (numK s.data.toList + 1)) else numN s.data.toList
def unlB (s : ByteArray) : Bool := decide (spanB (numN s.data.toList : Nat) (unlT s : Nat) = s)
set_option maxRecDepth 100000 in
set_option maxHeartbeats 2000000 in
theorem runl_any (s : ByteArray) (w : World) (hs : s.size ≤ 1000000) : Calls Tryz.prog 107 #[.string s] w fun e w' => e = .returned (.tuple #[.int .i64 (numN s.data.toList), .int .i64 (unlT s), .bool (unlB s)]) ∧ w = w' := by
  have HN := hid (rnum45_any s w hs)
  have hk := numK_le s.data.toList
  have hsz : s.data.toList.length = s.size := rfl
  have hn1 := numN_lt s.data.toList
  have HB : Hid (unlB s = decide (spanB (numN s.data.toList : Nat) (unlT s : Nat) = s)) := rfl
  have hd : (s.extract (numK s.data.toList + 1) s.size).data.toList = s.data.toList.drop (numK s.data.toList + 1) := by
    rw [take_drop_piece, List.take_of_length_le (by rw [List.length_drop, hsz]; omega)]
  have HD : Hid (unlT s = if s.data.toList[numK s.data.toList]? = some 45 then numN (s.data.toList.drop (numK s.data.toList + 1)) else numN s.data.toList) := rfl
  have HN2 := hid (rnum45_any (s.extract (numK s.data.toList + 1) s.size) w (by rw [ByteArray.size_extract]; omega))
  rw [hd] at HN2
  have hn2 := numN_lt (s.data.toList.drop (numK s.data.toList + 1))
  have HAT : Hid (∀ h : numK s.data.toList < s.size, s.data.toList[numK s.data.toList]? = some (s[numK s.data.toList]'h)) := fun h => by rw [List.getElem?_eq_getElem (by rw [hsz]; exact h)]; rfl
  have HNO : Hid (s.size ≤ numK s.data.toList → s.data.toList[numK s.data.toList]? = none) := fun h => List.getElem?_eq_none (by rw [hsz]; exact h)
  rw [hsz] at hk
  clear hd hsz
  generalize numN (s.data.toList.drop (numK s.data.toList + 1)) = n2 at *
  generalize s.data.toList[numK s.data.toList]? = at0 at *
  generalize numN s.data.toList = n1 at *
  generalize numK s.data.toList = k at *
  generalize unlT s = t at *
  by_cases hlt : k < s.size
  · have hki : (k : Int) < (s.size : Int) := by omega
    have hat := HAT.out hlt
    by_cases h45 : s[k]'hlt = 45
    · have HV : Hid (t = n2) := by show _ = _; rw [HD.out, hat, h45, if_pos rfl]
      have q1 : (((s[k]'hlt).toNat : Int) == 45) = true := by rw [h45]; rfl
      have HL := hid (rlines_str n1 n2 (by omega) (by omega) w)
      have hq := ba_beq (spanB (n1 : Nat) (n2 : Nat)) s
      clear HD HAT HNO hat h45
      rw [HV.out] at HB ⊢
      generalize unlB s = ub at *
      generalize spanB (n1 : Nat) (n2 : Nat) = sp at *
      rw [← HB.out] at hq
      have HQ := hid hq
      clear hq HB hn1 hn2
      go_enter Tryz.func107, Tryz.ntmps107
      go_wp2_with fail
      (with_reducible refine HN.out.mono ?_)
      rintro e w1 ⟨rfl, rfl⟩
      go_wp2_with fail
      (with_reducible refine HN2.out.mono ?_)
      rintro e w1 ⟨rfl, rfl⟩
      go_wp2_with fail
      (with_reducible refine HL.out.mono ?_)
      rintro e w1 ⟨rfl, rfl⟩
      go_wp2
      exact bodyPost_ret (results_tmp3 rfl _ _ _) rfl ⟨by rw [← HQ.out]; rfl, rfl⟩
    · have HV : Hid (t = n1) := by show _ = _; rw [HD.out, hat, if_neg (by simpa using h45)]
      have q1 : (((s[k]'hlt).toNat : Int) == 45) = false := beq_eq_false_iff_ne.2 fun e => h45 (UInt8.toNat_inj.1 (by
        have : (s[k]'hlt).toNat = 45 := by omega
        rw [this]; rfl))
      have HL := hid (rlines_str n1 n1 (by omega) (by omega) w)
      have hq := ba_beq (spanB (n1 : Nat) (n1 : Nat)) s
      clear HD HAT HNO hat h45 HN2
      rw [HV.out] at HB ⊢
      generalize unlB s = ub at *
      generalize spanB (n1 : Nat) (n1 : Nat) = sp at *
      rw [← HB.out] at hq
      have HQ := hid hq
      clear hq HB hn1 hn2
      go_enter Tryz.func107, Tryz.ntmps107
      go_wp2_with fail
      (with_reducible refine HN.out.mono ?_)
      rintro e w1 ⟨rfl, rfl⟩
      go_wp2_with fail
      (with_reducible refine HL.out.mono ?_)
      rintro e w1 ⟨rfl, rfl⟩
      go_wp2
      exact bodyPost_ret (results_tmp3 rfl _ _ _) rfl ⟨by rw [← HQ.out]; rfl, rfl⟩
  · have hki : ¬ (k : Int) < (s.size : Int) := by omega
    have HV : Hid (t = n1) := by show _ = _; rw [HD.out, HNO.out (by omega), if_neg (by simp)]
    have HL := hid (rlines_str n1 n1 (by omega) (by omega) w)
    have hq := ba_beq (spanB (n1 : Nat) (n1 : Nat)) s
    clear HD HAT HNO HN2
    rw [HV.out] at HB ⊢
    generalize unlB s = ub at *
    generalize spanB (n1 : Nat) (n1 : Nat) = sp at *
    rw [← HB.out] at hq
    have HQ := hid hq
    clear hq HB hn1 hn2
    go_enter Tryz.func107, Tryz.ntmps107
    go_wp2_with fail
    (with_reducible refine HN.out.mono ?_)
    rintro e w1 ⟨rfl, rfl⟩
    go_wp2_with fail
    (with_reducible refine HL.out.mono ?_)
    rintro e w1 ⟨rfl, rfl⟩
    go_wp2
    exact bodyPost_ret (results_tmp3 rfl _ _ _) rfl ⟨by rw [← HQ.out]; rfl, rfl⟩
end Go.Proofs.YtjhdeoniafahbaaGreatDoor
namespace Go.Proofs.YtjhdeoniafahbaaGreatDoor
open Go.RowKit
theorem own_slice {W : World} {base size n : Nat} {e : TypeId} {v : Value} {xs : List Value} (h : W.ownsRow base e size v n xs) : ∃ ad cap, v = .slice ad n cap := by
  rcases h.2 with ⟨rfl, hn⟩ | ⟨g, cap, cur, rfl, _⟩
  · exact ⟨none, 0, by rw [hn]⟩
  · exact ⟨_, _, rfl⟩
end Go.Proofs.YtjhdeoniafahbaaGreatDoor
namespace Go.Proofs.YtjhdeoniafahbaaGreatDoor
open Go.RowKit
/-- Does it end with a closing brace? -/
def endB (x : ByteArray) : Bool := x.data.toList.getLast? == some 125
/-- The parts, the first one without its first byte. -/
def brW : List ByteArray → List ByteArray
  | [] => []
  | x :: r => x.extract 1 x.size :: r
def brOk (l : List ByteArray) : Bool := match l with
  | [] => false
  | x :: _ => x.data.toList.head? == some 123
def emB : ByteArray := ⟨#[123, 125]⟩
def brI (l : List ByteArray) : Int := fIdx endB (brW l)
def brL (l : List ByteArray) : List ByteArray :=
  if brOk l = false then [] else if l[0]? = some emB then [] else if brI l < 0 then []
  else (brW l).take (brI l).toNat ++ [((brW l).getD (brI l).toNat ⟨#[]⟩).extract 0 (((brW l).getD (brI l).toNat ⟨#[]⟩).size - 1)]
def brN (l : List ByteArray) : Int :=
  if brOk l = false then 0 else if l[0]? = some emB then 1 else if brI l < 0 then 0 else brI l + 1
theorem brW_len (l : List ByteArray) : (brW l).length = l.length := by cases l <;> rfl
theorem brW_at {l : List ByteArray} {k : Nat} {x : ByteArray} (h : l[k]? = some x) : (brW l)[k]? = some (if k = 0 then x.extract 1 x.size else x) := by
  cases l with
  | nil => simp at h
  | cons y r =>
    cases k with
    | zero =>
      have : y = x := by simpa using h
      subst this; rfl
    | succ k => simpa [brW] using h
theorem endB_at {x : ByteArray} (h : 0 < x.size) : endB x = decide (x[x.size - 1]'(by omega) = 125) := by
  unfold endB
  have hl : x.data.toList.length = x.size := rfl
  rw [List.getLast?_eq_getElem?, hl, List.getElem?_eq_getElem (by omega)]
  have : x.data.toList[x.size - 1]'(by omega) = x[x.size - 1]'(by omega) := rfl
  rw [this]
  by_cases he : x[x.size - 1]'(by omega) = 125
  · rw [he]; simp
  · rw [decide_eq_false he]; simpa using he
theorem endB_nil {x : ByteArray} (h : x.size = 0) : endB x = false := by
  have hl : x.data.toList.length = x.size := rfl
  have : x.data.toList = [] := List.eq_nil_of_length_eq_zero (by omega)
  unfold endB
  rw [this]; rfl
set_option maxRecDepth 100000 in
set_option maxHeartbeats 8000000 in
theorem rbraced_any (v : Value) (l : List ByteArray) (w : World) (hr : RdS w v l) (hz : ∀ s ∈ l, s.size ≤ 1000000) (hlen : l.length ≤ 1000000) :
    Calls Tryz.prog 108 #[v] w fun e w' => ∃ u, e = .returned (.tuple #[u, .int .i64 (brN l)]) ∧ OwS w' u (brL l) ∧ Below w.heap.size w w' := by
  have HO := hid (owS_made w)
  have HB0 := hid (below_al w (.cells #[] 9))
  have HL : Hid (brL l = if brOk l = false then [] else if l[0]? = some emB then [] else if brI l < 0 then []
    else (brW l).take (brI l).toNat ++ [((brW l).getD (brI l).toNat ⟨#[]⟩).extract 0 (((brW l).getD (brI l).toNat ⟨#[]⟩).size - 1)]) := rfl
  have HN : Hid (brN l = if brOk l = false then 0 else if l[0]? = some emB then 1 else if brI l < 0 then 0 else brI l + 1) := rfl
  obtain ⟨a, cap, rfl, hlc, hcm, hcell⟩ := hr.open
  have HC := hid hcell
  clear hcell hr
  by_cases h0 : l.length = 0
  · have hl0 : l = [] := List.eq_nil_of_length_eq_zero h0
    have h0b : ((l.length : Int) == 0) = true := by rw [h0]; rfl
    have HV : Hid (brN l = 0) := by show _ = _; rw [HN.out, hl0]; rfl
    have HV2 : Hid (brL l = []) := by show _ = _; rw [HL.out, hl0]; rfl
    clear HL HN hl0 h0
    go_enter Tryz.func108, Tryz.ntmps108
    go_wp2
    go_ret2
    exact ⟨_, by rw [HV.out]; rfl, by rw [HV2.out]; exact HO.out, HB0.out⟩
  obtain ⟨x, b, off, hx, rfl, hc0⟩ := HC.out 0 (by omega)
  have h0b : ((l.length : Int) == 0) = false := beq_eq_false_iff_ne.2 (by omega)
  have hli : (0 : Int) < (l.length : Int) := by omega
  have hln : 0 < l.length := by omega
  rw [Nat.add_zero] at hc0
  have hok : brOk l = (x.data.toList.head? == some 123) := by
    cases l with
    | nil => simp at hx
    | cons y r =>
      have : y = x := by simpa using hx
      subst this; rfl
  have hxl : x.data.toList.length = x.size := rfl
  by_cases hx0 : x.size = 0
  · obtain rfl := ba_nil0 hx0
    have HV : Hid (brN l = 0) := by show _ = _; rw [HN.out, hok]; rfl
    have HV2 : Hid (brL l = []) := by show _ = _; rw [HL.out, hok]; rfl
    clear HL HN hok hx hx0 hxl
    go_enter Tryz.func108, Tryz.ntmps108
    go_wp2
    go_ret2
    exact ⟨_, by rw [HV.out]; rfl, by rw [HV2.out]; exact HO.out, HB0.out⟩
  have hxe : ¬ x.toList = [] := toL_ne hx0
  have hxf := mt_ne hx0
  have hxp : 0 < x.size := by omega
  have hxi : (0 : Int) < (x.size : Int) := by omega
  have hhd : x.data.toList.head? = some (x[0]'hxp) := by
    rw [List.head?_eq_getElem?, List.getElem?_eq_getElem (by omega)]; rfl
  by_cases h123 : x[0]'hxp = 123
  case neg =>
    have HV0 : Hid (brOk l = false) := by show _ = _; rw [hok, hhd]; simpa using h123
    have HV : Hid (brN l = 0) := by show _ = _; rw [HN.out, if_pos HV0.out]
    have HV2 : Hid (brL l = []) := by show _ = _; rw [HL.out, if_pos HV0.out]
    have q1 : (((x[0]'hxp).toNat : Int) == 123) = false := beq_eq_false_iff_ne.2 fun e => h123 (UInt8.toNat_inj.1 (by
      have : (x[0]'hxp).toNat = 123 := by omega
      rw [this]; rfl))
    clear HL HN hok hx hx0 hxl hhd h123 HV0
    go_enter Tryz.func108, Tryz.ntmps108
    go_wp2
    go_ret2
    exact ⟨_, by rw [HV.out]; rfl, by rw [HV2.out]; exact HO.out, HB0.out⟩
  have HOK : Hid (brOk l = true) := by show _ = _; rw [hok, hhd, h123]; rfl
  have q1 : (((x[0]'hxp).toNat : Int) == 123) = true := by rw [h123]; rfl
  have q1b : (((x[0]'hxp).toNat : Int) != 123) = false := by rw [bne, q1]; rfl
  have hbe := ba_beq x emB
  by_cases hem : x = emB
  · have HV : Hid (brN l = 1) := by show _ = _; rw [HN.out, if_neg (by rw [HOK.out]; simp), if_pos (by rw [hx, hem])]
    have HV2 : Hid (brL l = []) := by show _ = _; rw [HL.out, if_neg (by rw [HOK.out]; simp), if_pos (by rw [hx, hem])]
    subst hem
    clear HL HN hok hx hx0 hxl hhd h123 HOK hbe hxe hxf q1 q1b
    unfold emB at *
    go_enter Tryz.func108, Tryz.ntmps108
    go_wp2
    go_ret2
    exact ⟨_, by rw [HV.out]; rfl, by rw [HV2.out]; exact HO.out, HB0.out⟩
  rw [decide_eq_false hem] at hbe
  have hbe2 : (x.toList == [123, 125]) = false := by
    rw [show ([123, 125] : List UInt8) = emB.toList by rw [ByteArray.toList_eq]; rfl]
    exact hbe
  have hbe3 : ¬ x.toList = [123, 125] := fun e => by rw [e] at hbe2; simp at hbe2
  have HN2 : Hid (brN l = if brI l < 0 then 0 else brI l + 1) := by show _ = _; rw [HN.out, if_neg (by rw [HOK.out]; simp), if_neg (fun h => hem (Option.some.inj (hx.symm.trans h)))]
  have HL2 : Hid (brL l = if brI l < 0 then [] else (brW l).take (brI l).toNat ++ [((brW l).getD (brI l).toNat ⟨#[]⟩).extract 0 (((brW l).getD (brI l).toNat ⟨#[]⟩).size - 1)]) := by
    show _ = _; rw [HL.out, if_neg (by rw [HOK.out]; simp), if_neg (fun h => hem (Option.some.inj (hx.symm.trans h)))]
  have HZ := hid hz
  have HX := hid hx
  clear HN HL HOK hok hx hx0 hxl hhd h123 hbe hem hz
  go_enter Tryz.func108, Tryz.ntmps108
  go_wp2
  clear hbe2 hbe3 hxe hxf q1 q1b hc0
  go_loopw [4, 5] (fun ob i wr => ∃ (k : Nat) (ad : Option Addr) (cp : Nat), k ≤ l.length ∧ ob = .slice ad k cp ∧ i = .int .i64 k ∧ Hid (∀ y ∈ (brW l).take k, endB y = false) ∧ Hid (wr.ownsRow w.heap.size 9 1 (.slice ad k cp) k (((brW l).take k).map Value.string)) ∧ Hid (Below w.heap.size w wr)) (fun _ i _ => l.length - (intOf i).toNat)
  case atStart => exact ⟨0, some ⟨w.heap.size, 0, none⟩, 0, Nat.zero_le _, rfl, rfl, by simp [Hid], World.ownsRow_made w #[] 0 (Nat.le_refl _) (Nat.zero_le _) rfl, below_al w _⟩
  case round =>
    obtain ⟨k, ad, cp, hk, rfl, rfl, HE, HOW, HB⟩ := hrel
    by_cases hlt : k < l.length
    · obtain ⟨y, b2, o2, hy, e2, d0⟩ := HC.out k hlt
      cases e2
      have hki : (k : Int) < (l.length : Int) := by omega
      have hk0 : (0 : Int) ≤ (k : Int) := by omega
      have e0 := Below.keeps HB.out _ _ d0
      have hyz := HZ.out y (List.mem_of_getElem? hy)
      have hwk := brW_at hy
      obtain ⟨u, hu⟩ : ∃ u, u = if k = 0 then y.extract 1 y.size else y := ⟨_, rfl⟩
      rw [← hu] at hwk
      have hus : u.size ≤ 1000000 := by
        rw [hu]
        split
        · rw [ByteArray.size_extract]; omega
        · exact hyz
      have hy0 : k = 0 → 0 < y.size := fun h => by
        subst h
        have : y = x := Option.some.inj (hy.symm.trans HX.out)
        rw [this]; exact hxp
      have HWK := hid hwk
      have hown := HOW.out
      have hbs := HB.out.size
      have HIT : endB u = true → Hid (brI l = (k : Int)) := fun h => fIdx_hit _ _ k u HE.out HWK.out h
      have HNX : endB u = false → Hid (∀ z ∈ (brW l).take (k + 1), endB z = false) := fun h => take_none HE.out HWK.out h
      have HPU : Hid (∀ (w3 : World) (v' : Value), w3.ownsRow w.heap.size 9 1 v' (k + 1) (((brW l).take k).map Value.string ++ [.string u]) → w3.ownsRow w.heap.size 9 1 v' (k + 1) (((brW l).take (k + 1)).map Value.string)) := fun w3 v' h => by
        rw [List.take_add_one, HWK.out, List.map_append]; exact h
      clear hwk d0 hyz hy
      have HUE := hid hu
      have HY0 := hid hy0
      clear hu hy0
      go_upto_if 42 with fail
      go_cut [6] from 42 to 44 (fun uv wx => uv = .string u ∧ Hid (wr = wx))
      case first =>
        by_cases k0 : k = 0
        · have q0 : ((k : Int) == 0) = true := by rw [k0]; rfl
          have hy1 := HY0.out k0
          have q2 : (1 : Int) ≤ (y.size : Int) := by omega
          have HU : Hid (y.extract 1 y.size = u) := by show _ = _; rw [HUE.out, if_pos k0]
          clear HUE HY0 k0 HIT HNX HPU HWK HOW HE
          go_wp2_with fail
          go_meet
          exact ⟨by rw [← HU.out], rfl⟩
        · have q0 : ((k : Int) == 0) = false := beq_eq_false_iff_ne.2 (by omega)
          have HU : Hid (y = u) := by show _ = _; rw [HUE.out, if_neg k0]
          clear HUE HY0 k0 HIT HNX HPU HWK HOW HE
          go_wp2_with fail
          go_meet
          exact ⟨by rw [← HU.out], rfl⟩
      case rest =>
        obtain ⟨rfl, hwc⟩ := hcut
        obtain rfl := hwc.out
        clear hwc HUE HY0 e0
        go_upto_region 13 with fail
        go_cut [7, 55] from 45 to 54 (fun nv ev wx => nv = .int .i64 (u.size : Int) ∧ ev = .bool (endB u) ∧ Hid (wr = wx))
        case first =>
          clear HNX HIT HPU HOW HE HN2 HL2 HWK
          by_cases u0 : u.size = 0
          · have u0i : ¬ (0 : Int) < (u.size : Int) := by omega
            have HE0 := hid (endB_nil u0)
            have HU0 := hid u0
            clear u0
            go_wp2_with fail
            go_meet
            exact ⟨by rw [HU0.out], by rw [HE0.out], rfl⟩
          have u0n : 0 < u.size := by omega
          have u0i : (0 : Int) < (u.size : Int) := by omega
          have u1n : u.size - 1 < u.size := by omega
          have HE0 := hid (endB_at u0n)
          have hun : IntKind.i64.wrap ((u.size : Int) - 1) = ((u.size - 1 : Nat) : Int) := by rw [IntWalk.i64_in _ (by omega)]; omega
          by_cases h125 : u[u.size - 1]'(by omega) = 125
          · have q3 : (((u[u.size - 1]'(by omega)).toNat : Int) == 125) = true := by rw [h125]; rfl
            have HE1 : Hid (endB u = true) := by show _ = _; rw [HE0.out, h125]; rfl
            clear h125 HE0
            go_wp2_with fail
            go_meet
            exact ⟨rfl, by rw [HE1.out], rfl⟩
          · have q3 : (((u[u.size - 1]'(by omega)).toNat : Int) == 125) = false := beq_eq_false_iff_ne.2 fun e => h125 (UInt8.toNat_inj.1 (by
              have : (u[u.size - 1]'(by omega)).toNat = 125 := by omega
              rw [this]; rfl))
            have HE1 : Hid (endB u = false) := by show _ = _; rw [HE0.out]; exact decide_eq_false h125
            clear h125 HE0
            go_wp2_with fail
            go_meet
            exact ⟨rfl, by rw [HE1.out], rfl⟩
        case rest =>
          obtain ⟨rfl, rfl, hwc⟩ := hcut
          obtain rfl := hwc.out
          clear hwc
          cases he : endB u with
          | true =>
            have u0n : 0 < u.size := Nat.pos_of_ne_zero fun h => by rw [endB_nil h] at he; cases he
            have u1n : u.size - 1 < u.size := by omega
            have hun : IntKind.i64.wrap ((u.size : Int) - 1) = ((u.size - 1 : Nat) : Int) := by rw [IntWalk.i64_in _ (by omega)]; omega
            have HI2 := HIT he
            have HV : Hid (brN l = (k : Int) + 1) := by show _ = _; rw [HN2.out, HI2.out, if_neg (by omega)]
            have HV2 : Hid (brL l = (brW l).take k ++ [u.extract 0 (u.size - 1)]) := by
              show _ = _
              rw [HL2.out, HI2.out, if_neg (by omega), Int.toNat_natCast, List.getD_eq_getElem?_getD, HWK.out]; rfl
            have hkl : ((brW l).take k).length = k := by rw [List.length_take, brW_len]; omega
            have HKL := hid hkl
            clear HNX HIT HN2 HL2 HPU HWK HI2 hkl HOW HE he
            go_wp2_with (at_builtin; refine wpList_ap rfl _ _ 23 rfl w.heap.size 9 Tryz.underlying23 infoStr rfl (by decide) (by decide) (.slice ad k cp) k (((brW l).take k).map Value.string) rfl hown [.string (u.extract 0 (u.size - 1))] rfl (by simp [Value.oneCell']) rfl (by simp) (by omega) hbs ?_; intro v' w3 hown2 hb2 _)
            have HO3 : Hid (OwS w3 v' ((brW l).take k ++ [u.extract 0 (u.size - 1)])) := by
              show World.ownsRow _ _ _ _ _ _ _
              rw [List.length_append, HKL.out, List.map_append]
              exact own_zero hown2
            have HB3 := hid (HB.out.trans hb2)
            clear hown hown2 hb2 HB
            go_wp2_with fail
            go_ret2
            exact ⟨_, by rw [HV.out]; rfl, by rw [HV2.out]; exact HO3.out, HB3.out⟩
          | false =>
            have HE2 := HNX he
            clear HNX HIT he
            go_wp2_with (at_builtin; refine wpList_ap rfl _ _ 23 rfl w.heap.size 9 Tryz.underlying23 infoStr rfl (by decide) (by decide) (.slice ad k cp) k (((brW l).take k).map Value.string) rfl hown [.string u] rfl (by simp [Value.oneCell']) rfl (by simp) (by omega) hbs ?_; intro v' w3 hown2 hb2 _)
            have HO3 := hid (HPU.out _ _ hown2)
            have HB3 := hid (HB.out.trans hb2)
            obtain ⟨ad3, cp3, rfl⟩ := own_slice hown2
            clear hown hown2 hb2 HPU HWK HOW HE HB
            go_wp2_with fail
            go_roundw
            case rel => exact ⟨k + 1, ad3, cp3, by omega, rfl, by go_num, HE2.out, HO3.out, HB3.out⟩
            case measure => simp [intOf]; omega
    · have hki : ¬ (k : Int) < (l.length : Int) := by omega
      have HV0 : Hid (brI l = -1) := by
        have h := HE.out
        rw [List.take_of_length_le (by rw [brW_len]; omega)] at h
        exact fIdx_none _ _ h
      have HV : Hid (brN l = 0) := by show _ = _; rw [HN2.out, HV0.out]; rfl
      have HV2 : Hid (brL l = []) := by show _ = _; rw [HL2.out, HV0.out]; rfl
      have HO1 := hid (owS_made wr)
      have HB1 := hid (below_tr HB.out (below_al wr (.cells #[] 9)))
      clear HN2 HL2 HOW HE
      go_wp2
      go_ret2
      exact ⟨_, by rw [HV.out]; rfl, by rw [HV2.out]; exact HO1.out, HB1.out⟩
end Go.Proofs.YtjhdeoniafahbaaGreatDoor
namespace Go.Proofs.YtjhdeoniafahbaaGreatDoor
/-- The first place, from 1 on, at which sigla between braces begin. -/
def rvF (l : List ByteArray) : Option Nat := (List.range l.length).find? fun i => decide (1 ≤ i) && decide (0 < brN (l.drop i))
def rvB (l : List ByteArray) : Bool := match rvF l with
  | none => false
  | some i => decide (unqI (joinB (l.take i)) = 0) && decide ((i : Int) + brN (l.drop i) = l.length)
def rvP (l : List ByteArray) : Vr := match rvF l with
  | none => ⟨[], []⟩
  | some i => ⟨unqL (joinB (l.take i)), brL (l.drop i)⟩
def rsupOk (l : List ByteArray) : Bool := decide (openI (restP l) < 0) || decide (openI (restP l) + brN ((restP l).drop (openI (restP l)).toNat) = (restP l).length)
def rsupL (l : List ByteArray) : List ByteArray := if openI (restP l) < 0 then [] else brL ((restP l).drop (openI (restP l)).toNat)
def rhdB (l : List ByteArray) : Bool := unlB (l.getD 0 ⟨#[]⟩) && (rsupOk l && (if plcI (ownP l) = 4 then decide ((lemP (ownP l)).length = 0) else decide ((hdLm l).e = 0)))
def rhdP (l : List ByteArray) : Nt := ⟨(numN (l.getD 0 ⟨#[]⟩).data.toList : Nat), (unlT (l.getD 0 ⟨#[]⟩) : Nat), plcI (ownP l), (hdLm l).f, (hdLm l).l, (hdLm l).n, supB l, rsupL l, []⟩
def rnoteP (s : ByteArray) : Nt := { rhdP (frP s) with vs := (grpsP s).map rvP }
def rokP (s : ByteArray) : Bool := decide (0 < endI (splitS s)) && (rhdB (frP s) && ((grpsP s).all rvB && (decide (prE (rnoteP s) = 0) && decide (prN (rnoteP s) = s))))
theorem brok_opens (x : ByteArray) (r : List ByteArray) : brOk (x :: r) = opensB x := by
  unfold brOk opensB cutPB Lib.hasPrefix
  show (x.data.toList.head? == some 123) = List.isPrefixOf [123] x.data.toList
  cases x.data.toList with
  | nil => rfl
  | cons c t =>
    simp only [List.head?_cons, List.isPrefixOf, Bool.and_true]
    by_cases h : c = 123
    · subst h; rfl
    · have h2 : ((123 : UInt8) == c) = false := beq_eq_false_iff_ne.2 (Ne.symm h)
      rw [h2]; simpa using h
theorem brN_no {x : ByteArray} {r : List ByteArray} (h : opensB x = false) : brN (x :: r) = 0 := by
  unfold brN
  rw [if_pos (by rw [brok_opens]; exact h)]
theorem jTail_app (sep : List UInt8) (a b : List (List UInt8)) : Lib.joinTail sep (a ++ b) = Lib.joinTail sep a ++ Lib.joinTail sep b := by simp [Lib.joinTail]
def cl125 (z : ByteArray) : ByteArray := z ++ ⟨#[125]⟩
theorem cl125_data (z : ByteArray) : (cl125 z).data.toList = z.data.toList ++ [125] := by simp [cl125]
def op123 (z : ByteArray) : ByteArray := ⟨#[123]⟩ ++ z
theorem op123_data (z : ByteArray) : (op123 z).data.toList = 123 :: z.data.toList := by simp [op123]
theorem op123_cut (z : ByteArray) : (op123 z).extract 1 (op123 z).size = z := by
  refine ba_ext ?_
  have hl : (op123 z).data.toList.length = (op123 z).size := rfl
  rw [take_drop_piece, op123_data]
  rw [op123_data] at hl
  simp only [List.length_cons] at hl
  rw [← hl]
  show (z.data.toList.take _) = _
  exact List.take_of_length_le (by omega)
theorem cl125_cut (z : ByteArray) : (cl125 z).extract 0 ((cl125 z).size - 1) = z := by
  refine ba_ext ?_
  have hl : (cl125 z).data.toList.length = (cl125 z).size := rfl
  rw [Lib.extract_from_zero, cl125_data]
  rw [cl125_data] at hl
  simp only [List.length_append, List.length_cons, List.length_nil] at hl
  have : (cl125 z).size - 1 = z.data.toList.length := by omega
  rw [this]
  exact List.take_left
theorem cl125_end (z : ByteArray) : endB (cl125 z) = true := by
  unfold endB
  rw [cl125_data]; simp
/-- The tokens of sigla between braces. -/
theorem brace_form {a : List ByteArray} {z : ByteArray} (h : ∀ s ∈ a ++ [z], sigB s = true) : ∃ T, splitS (bracesB (a ++ [z])) = T ∧ brOk T = true ∧ T[0]? ≠ some emB ∧ brW T = a ++ [cl125 z] ∧ T.length = a.length + 1 := by
  have hno : ∀ s ∈ a ++ [z], (32 : UInt8) ∉ s.data.toList := fun s hs => brc_32 (sig_brc (h s hs)).2.2
  cases a with
  | nil =>
    have hd : (bracesB ([] ++ [z])).data.toList = (op123 (cl125 z)).data.toList := by
      rw [braces_data, op123_data, cl125_data, joinB_data]
      simp [Lib.join_one]
    have e : bracesB ([] ++ [z]) = op123 (cl125 z) := ba_ext hd
    have h32 : (32 : UInt8) ∉ (op123 (cl125 z)).data.toList := by
      rw [op123_data, cl125_data]
      intro hm
      rcases List.mem_cons.1 hm with hm | hm
      · cases hm
      · rcases List.mem_append.1 hm with hm | hm
        · exact hno z (by simp) hm
        · simp at hm
    have hz0 := (sig_brc (h z (by simp))).1
    refine ⟨[op123 (cl125 z)], by rw [e]; exact split_word h32, ?_, ?_, ?_, rfl⟩
    · unfold brOk
      simp only [op123_data]; rfl
    · intro he
      have : op123 (cl125 z) = emB := Option.some.inj he
      have h2 := congrArg (fun x : ByteArray => x.data.toList.length) this
      simp only [op123_data, cl125_data, List.length_cons, List.length_append, List.length_nil] at h2
      have hl : z.data.toList.length = z.size := rfl
      have : emB.data.toList.length = 2 := rfl
      omega
    · simp only [brW, List.nil_append]
      rw [op123_cut]
  | cons b r =>
    have hd : (bracesB (b :: r ++ [z])).data.toList = (joinB (op123 b :: (r ++ [cl125 z]))).data.toList := by
      rw [braces_data, joinB_data, joinB_data]
      simp only [List.cons_append, List.map_cons, List.map_append, List.map_nil, Lib.join_cons, op123_data, cl125_data, jTail_app]
      simp [Lib.joinTail]
    have e : bracesB (b :: r ++ [z]) = joinB (op123 b :: (r ++ [cl125 z])) := ba_ext hd
    have h32 : ∀ s ∈ op123 b :: (r ++ [cl125 z]), (32 : UInt8) ∉ s.data.toList := by
      intro s hs
      rcases List.mem_cons.1 hs with rfl | hs
      · rw [op123_data]
        intro hm
        rcases List.mem_cons.1 hm with hm | hm
        · cases hm
        · exact hno b (by simp) hm
      · rcases List.mem_append.1 hs with hs | hs
        · exact hno s (by simp [hs])
        · have : s = cl125 z := by simpa using hs
          rw [this, cl125_data]
          intro hm
          rcases List.mem_append.1 hm with hm | hm
          · exact hno z (by simp) hm
          · simp at hm
    have hb0 := (sig_brc (h b (by simp)))
    refine ⟨op123 b :: (r ++ [cl125 z]), by rw [e]; exact split_joinW h32 (by simp), ?_, ?_, ?_, by simp⟩
    · unfold brOk
      simp only [op123_data]; rfl
    · intro he
      have : op123 b = emB := Option.some.inj he
      have h2 := congrArg (fun x : ByteArray => x.data.toList) this
      simp only [op123_data] at h2
      have h3 : b.data.toList = [125] := (List.cons.inj h2).2
      exact absurd (hb0.2.2 125 (by rw [h3]; simp)) (by decide)
    · show (op123 b).extract 1 (op123 b).size :: (r ++ [cl125 z]) = _
      rw [op123_cut]; rfl
theorem brc_end {s : ByteArray} (h : ∀ c ∈ s.data.toList, brc c = false) : endB s = false := by
  cases he : endB s with
  | false => rfl
  | true =>
    unfold endB at he
    have h2 : s.data.toList.getLast? = some 125 := by simpa using he
    exact absurd (h 125 (List.mem_of_getLast? h2)) (by decide)
/-- Sigla between braces are read back. -/
theorem br_back {l : List ByteArray} (h : ∀ s ∈ l, sigB s = true) : brL (splitS (bracesB l)) = l ∧ brN (splitS (bracesB l)) = ((splitS (bracesB l)).length : Int) := by
  by_cases h0 : l = []
  · subst h0
    exact ⟨by decide +kernel, by decide +kernel⟩
  · obtain ⟨a, z, rfl⟩ : ∃ a z, l = a ++ [z] := ⟨l.dropLast, l.getLast h0, (List.dropLast_concat_getLast h0).symm⟩
    obtain ⟨T, hT, h1, h2, h3, h4⟩ := brace_form h
    have hI : brI T = (a.length : Int) := by
      unfold brI
      rw [h3]
      exact fIdx_app _ _ (fun y hy => brc_end (sig_brc (h y (by simp [hy]))).2.2) (cl125_end z)
    rw [hT]
    constructor
    · unfold brL
      rw [h1, if_neg (by simp), if_neg h2, hI, if_neg (by omega), Int.toNat_natCast, h3, List.take_left, List.getD_eq_getElem?_getD]
      simp only [List.getElem?_append_right (Nat.le_refl _), Nat.sub_self, List.getElem?_cons_zero, Option.getD_some]
      rw [cl125_cut]
    · unfold brN
      rw [h1, if_neg (by simp), if_neg h2, hI, if_neg (by omega), h4]
      omega
/-- Numbers. -/
theorem dig_all (n : Nat) : ∀ c ∈ Lib.decDigits n, dgB c = true := fun c hc => by
  have h := (digits_ok n).2.2 c hc
  unfold dgB
  rw [decide_eq_true h.1, decide_eq_true h.2]; rfl
theorem nDig4 (n : Nat) (hn : n < 10000) : (Lib.decDigits n).length ≤ 4 := by
  have h : ∀ (k m : Nat), m < 10 ^ (k + 1) → (Lib.decDigits m).length ≤ k + 1 := by
    intro k
    induction k with
    | zero => intro m hm; rw [dec_last45 m (by omega)]; simp
    | succ k ih =>
      intro m hm
      by_cases h9 : m < 10
      · rw [dec_last45 m h9]; simp
      · rw [dec_step45 m h9, List.length_append]
        have := ih (m / 10) (by rw [Nat.pow_succ] at hm; omega)
        simp only [List.length_cons, List.length_nil]; omega
  exact h 3 n (by omega)
theorem num_dig {n : Nat} (hn : n < 10000) (t : List UInt8) (ht : ∀ c, t.head? = some c → dgB c = false) : numK (Lib.decDigits n ++ t) = (Lib.decDigits n).length ∧ numN (Lib.decDigits n ++ t) = n := by
  have h4 := nDig4 n hn
  have e : numK (Lib.decDigits n ++ t) = (Lib.decDigits n).length := by
    refine numK_of (by rw [List.length_append]; omega) h4 (by rw [List.take_left]; exact dig_all n) (.inr fun c hc => ht c ?_)
    rw [List.getElem?_append_right (Nat.le_refl _), Nat.sub_self] at hc
    rw [List.head?_eq_getElem?]; exact hc
  refine ⟨e, ?_⟩
  unfold numN
  rw [e, List.take_left, (digits_ok n).1]; rfl
theorem unl_back {a b : Int} (ha : 1 ≤ a) (hb : a ≤ b) (hm : b ≤ 4096) : unlB (spanB a b) = true ∧ ((numN (spanB a b).data.toList : Nat) : Int) = a ∧ ((unlT (spanB a b) : Nat) : Int) = b := by
  obtain ⟨n, rfl⟩ : ∃ n : Nat, a = n := ⟨a.toNat, by omega⟩
  obtain ⟨m, rfl⟩ : ∃ m : Nat, b = m := ⟨b.toNat, by omega⟩
  have hn : (itoaB (n : Int)).data.toList = Lib.decDigits n := by rw [itoaB_data (by omega)]; simp
  have hm2 : (itoaB (m : Int)).data.toList = Lib.decDigits m := by rw [itoaB_data (by omega)]; simp
  have key : numN (spanB (n : Int) m).data.toList = n ∧ unlT (spanB (n : Int) m) = m := by
    by_cases he : (n : Int) = m
    · have hs : (spanB (n : Int) m).data.toList = Lib.decDigits n ++ [] := by unfold spanB; rw [if_pos he, hn, List.append_nil]
      obtain ⟨k1, k2⟩ := num_dig (n := n) (by omega) [] (by simp)
      unfold unlT
      rw [hs, k1, k2, if_neg (by simp)]
      exact ⟨rfl, by omega⟩
    · have hs : (spanB (n : Int) m).data.toList = Lib.decDigits n ++ 45 :: Lib.decDigits m := by
        unfold spanB
        rw [if_neg he]
        simp [hn, hm2]
      obtain ⟨k1, k2⟩ := num_dig (n := n) (by omega) (45 :: Lib.decDigits m) (by intro c hc; cases hc; decide)
      obtain ⟨k3, k4⟩ := num_dig (n := m) (by omega) [] (by simp)
      rw [List.append_nil] at k4
      unfold unlT
      rw [hs, k1, k2, List.getElem?_append_right (Nat.le_refl _), Nat.sub_self, List.getElem?_cons_zero, if_pos rfl]
      refine ⟨rfl, ?_⟩
      have : (Lib.decDigits n ++ 45 :: Lib.decDigits m).drop ((Lib.decDigits n).length + 1) = Lib.decDigits m := by
        rw [← List.drop_drop, List.drop_left]; rfl
      rw [this, k4]
  refine ⟨?_, by rw [key.1], by rw [key.2]⟩
  unfold unlB
  rw [key.1, key.2]
  exact decide_eq_true rfl
/-- A variant's tokens are read back. -/
theorem rgrp_back {pl : Int} {v : Vr} (h : VrOk pl v) (hq : (quoteB v.ws).size ≤ 65536) : rvB (grpV v) = true ∧ rvP (grpV v) = v := by
  obtain ⟨⟨x, r, hx, ho⟩, _⟩ := brace_tok h.sg
  have hQ := quote_back h.ws h.wl hq
  have hS := br_back h.sg
  have hj : joinB (splitS (quoteB v.ws)) = quoteB v.ws := joinB_split _
  obtain ⟨L, hL⟩ : ∃ L, L = (splitS (quoteB v.ws)).length := ⟨_, rfl⟩
  have hL1 : 1 ≤ L := by
    rw [hL]
    have : splitS (quoteB v.ws) ≠ [] := fun e => by
      have := splitS_data (quoteB v.ws)
      rw [e] at this
      exact cutL_ne 32 _ this.symm
    exact List.length_pos_iff.2 this
  have e1 : (grpV v).take L = splitS (quoteB v.ws) := by rw [hL]; exact List.take_left
  have e2 : (grpV v).drop L = splitS (bracesB v.sg) := by rw [hL]; exact List.drop_left
  have hlen : (grpV v).length = L + (splitS (bracesB v.sg)).length := by rw [hL]; exact List.length_append
  have hs0 : 0 < (splitS (bracesB v.sg)).length := by rw [hx]; simp
  have hF : rvF (grpV v) = some L := by
    unfold rvF
    rw [List.find?_range_eq_some]
    refine ⟨?_, by rw [List.mem_range]; omega, fun j hj => ?_⟩
    · rw [e2, hS.2, decide_eq_true hL1, decide_eq_true (by omega)]; rfl
    · by_cases hj1 : 1 ≤ j
      · have hjl : j < (splitS (quoteB v.ws)).length := by omega
        have hd : (grpV v).drop j = (splitS (quoteB v.ws))[j] :: ((splitS (quoteB v.ws)).drop (j + 1) ++ splitS (bracesB v.sg)) := by
          unfold grpV
          rw [List.drop_append_of_le_length (by omega), List.drop_eq_getElem_cons hjl]; rfl
        rw [hd, brN_no (quote_toks h.ws _ (List.getElem_mem hjl)).1]
        simp
      · rw [decide_eq_false hj1]; rfl
  unfold rvB rvP
  rw [hF]
  simp only
  rw [e1, e2, hj, hQ.1, hQ.2, hS.1, hS.2, hlen]
  refine ⟨?_, rfl⟩
  simp
theorem rown_front {x : Nt} (h : NtOk x) : rsupL ((frontL x).flatMap splitS) = x.sup ∧ rsupOk ((frontL x).flatMap splitS) = true := by
  have hr : restP ((frontL x).flatMap splitS) = (lemT x ++ signsB x.pl) ++ supT x := by unfold restP; rw [front_toks h, List.append_assoc]; rfl
  cases hp : x.pos with
  | false =>
    have hs : supT x = [] := by unfold supT; rw [hp]; rfl
    have hi : openI (restP ((frontL x).flatMap splitS)) = -1 := by
      rw [hr, hs, List.append_nil]
      exact fIdx_none _ _ fun t ht => (pre_tok h t ht).1
    unfold rsupL rsupOk
    rw [hi, h.ps hp]
    simp
  | true =>
    have hs : supT x = splitS (bracesB x.sup) := by unfold supT; rw [hp]; rfl
    obtain ⟨⟨y, r, hy, ho⟩, _⟩ := brace_tok h.sp
    have hS := br_back h.sp
    have hi : openI (restP ((frontL x).flatMap splitS)) = ((lemT x ++ signsB x.pl).length : Int) := by
      rw [hr, hs, hy]
      exact fIdx_app y r (fun t ht => (pre_tok h t ht).1) ho
    have e2 : (restP ((frontL x).flatMap splitS)).drop (openI (restP ((frontL x).flatMap splitS))).toNat = splitS (bracesB x.sup) := by rw [hi, hr, hs, Int.toNat_natCast]; exact List.drop_left
    have e3 : ((restP ((frontL x).flatMap splitS)).length : Int) = ((lemT x ++ signsB x.pl).length : Int) + (splitS (bracesB x.sup)).length := by
      rw [hr, hs, List.length_append]; omega
    unfold rsupL rsupOk
    rw [e2, hS.1, hS.2, if_neg (by rw [hi]; omega), e3, hi]
    simp
theorem rhd_front {x : Nt} (h : NtOk x) (hz : (printT x.lf x.ll x.ln).size ≤ 65536) : rhdB ((frontL x).flatMap splitS) = true ∧ rhdP ((frontL x).flatMap splitS) = { x with vs := [] } := by
  obtain ⟨k1, k2⟩ := hd_front h hz
  obtain ⟨r1, r2⟩ := rown_front h
  have hg : ((frontL x).flatMap splitS).getD 0 ⟨#[]⟩ = spanB x.fr x.to_ := by rw [front_toks h]; rfl
  obtain ⟨u1, u2, u3⟩ := unl_back h.f1 h.f2 h.f3
  unfold hdB at k1
  simp only [Bool.and_eq_true] at k1
  unfold hdP at k2
  have c3 := congrArg Nt.pl k2
  have c4 := congrArg Nt.lf k2
  have c5 := congrArg Nt.ll k2
  have c6 := congrArg Nt.ln k2
  have c7 := congrArg Nt.pos k2
  simp only at c3 c4 c5 c6 c7
  constructor
  · unfold rhdB
    rw [hg, u1, r2, k1.2.2]; rfl
  · unfold rhdP
    rw [hg, u2, u3, r1, c3, c4, c5, c6, c7]
/-- What is printed, in tokens. -/
theorem fr_prN {x : Nt} (hN : NtOk x) : endI (splitS (prN x)) = (((frontL x).flatMap splitS).length : Int) ∧ frP (prN x) = (frontL x).flatMap splitS ∧ grpsP (prN x) = x.vs.map grpV := by
  have ht := toks_prN hN
  have hI : endI (splitS (prN x)) = (((frontL x).flatMap splitS).length : Int) := by
    unfold endI
    rw [ht]
    exact fIdx_app _ _ (fun t h => decide_eq_false (front_beh hN t h)) (decide_eq_true rfl)
  refine ⟨hI, ?_, ?_⟩
  · unfold frP
    rw [hI, Int.toNat_natCast, ht]; exact List.take_left
  · obtain ⟨v, r, hv⟩ := List.exists_cons_of_ne_nil hN.v0
    unfold grpsP
    rw [hI, Int.toNat_natCast, ht]
    have e : ((frontL x).flatMap splitS ++ behB :: (varsV x.vs).flatMap splitS).drop (((frontL x).flatMap splitS).length + 1) = (varsV x.vs).flatMap splitS := drop_app1 _ _ _
    rw [e, hv]
    exact bars_vars r v (by rw [← hv]; exact hN.vs)
theorem rpar_print {x : Nt} (h : prE x = 0) : rokP (prN x) = true ∧ rnoteP (prN x) = x := by
  have hE := h
  unfold prE at h
  split at h
  · rename_i h0
    split at h
    · cases h
    · rename_i hz
      have hN := note_ok h0
      obtain ⟨hI, hfr, hg⟩ := fr_prN hN
      have hlen : 0 < ((frontL x).flatMap splitS).length := by rw [front_toks hN]; simp
      have hpt : (printT x.lf x.ll x.ln).size ≤ 65536 := by
        by_cases hp : x.pl = 4
        · obtain ⟨a, b, c⟩ := hN.no hp
          rw [a, b, c]; decide +kernel
        · have : (printT x.lf x.ll x.ln) ∈ partsN x := by
            unfold partsN frontL
            rw [if_neg hp]; simp
          have := mem_join_le this
          have e : (joinB (partsN x)).size = (prN x).size := rfl
          omega
      obtain ⟨hh, hp⟩ := rhd_front hN hpt
      have hall : ∀ u ∈ x.vs, rvB (grpV u) = true ∧ rvP (grpV u) = u := fun u hu => by
        refine rgrp_back (hN.vs u hu) ?_
        have hm : quoteB u.ws ∈ partsN x := by
          unfold partsN
          exact List.mem_append_right _ (List.mem_append_right _ (vars_mem hu))
        have := mem_join_le hm
        have e : (joinB (partsN x)).size = (prN x).size := rfl
        omega
      have hnote : rnoteP (prN x) = x := by
        unfold rnoteP
        rw [hfr, hp, hg, List.map_map]
        have : x.vs.map (rvP ∘ grpV) = x.vs := by
          rw [List.map_congr_left (f := rvP ∘ grpV) (g := id) fun u hu => (hall u hu).2]; simp
        rw [this]
      refine ⟨?_, hnote⟩
      unfold rokP
      rw [hnote, hE, hfr, hh, hI, hg]
      have ha : (x.vs.map grpV).all rvB = true := by
        rw [List.all_eq_true]
        intro g hg
        obtain ⟨u, hu, rfl⟩ := List.mem_map.1 hg
        exact (hall u hu).1
      have hl2 : (0 : Int) < (((frontL x).flatMap splitS).length : Int) := by omega
      rw [ha, decide_eq_true hl2]
      simp
  · rename_i h0; exact absurd h h0
/-- The reference's Parse is the program's. -/
theorem rpar_eq (s : ByteArray) : rokP s = okP s ∧ (rokP s = true → rnoteP s = noteP s) := by
  have fw : rokP s = true → okP s = true ∧ rnoteP s = noteP s := fun h => by
    have h0 := h
    unfold rokP at h0
    simp only [Bool.and_eq_true, decide_eq_true_eq] at h0
    obtain ⟨a, b⟩ := par_uniq h0.2.2.2.1 h0.2.2.2.2
    have ho : okP s = true := by
      unfold parI at a
      split at a
      · rename_i ho; exact ho
      · split at a <;> cases a
    refine ⟨ho, ?_⟩
    unfold parN at b
    rw [if_pos ho] at b
    exact b.symm
  refine ⟨?_, fun h => (fw h).2⟩
  cases hr : rokP s with
  | true => exact ((fw hr).1).symm
  | false =>
    cases ho : okP s with
    | false => rfl
    | true =>
      have h1 := par_ok (s := s) (by unfold parI; rw [if_pos ho])
      have h2 := (rpar_print h1.1).1
      rw [h1.2, hr] at h2
      cases h2
end Go.Proofs.YtjhdeoniafahbaaGreatDoor
