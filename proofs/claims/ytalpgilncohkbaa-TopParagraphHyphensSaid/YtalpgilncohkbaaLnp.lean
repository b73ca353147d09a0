/-
  paragraph.forced, ends, penalty, begin, behind.
-/
import Derived.Test.YtalpgilncohkbaaItm
import Derived.Test.YtalpgilncohkbaaBad
namespace Go.Proofs.Ytalpgilncohkbaa
open Go.RowKit

def forcedF (l : List It) (i : Nat) : Bool := match l[i]? with | some x => decide (x.k = 3) && decide (x.p = -10000) | none => false
def boxAt (l : List It) (i : Nat) : Bool := match l[i]? with | some x => decide (x.k = 1) | none => false
def endsF (l : List It) (i : Nat) : Bool := match l[i]? with
  | some x => if x.k = 2 then decide (0 < i) && boxAt l (i - 1) else if x.k = 3 then decide (x.p ≠ 10000) else false
  | none => true
def penF (l : List It) (i : Nat) : Int := match l[i]? with | some x => if x.k = 3 ∧ x.p ≠ -10000 then x.p else 0 | none => 0
def penW (l : List It) (i : Nat) : Int := match l[i]? with | some x => if x.k = 3 then x.w else 0 | none => 0
theorem RdIt.at {W : World} {a : Option Addr} {n c : Nat} {l : List It} (h : RdIt W (.slice a n c) l) {i : Nat} (hi : i < l.length) : ∃ x b off, l[i]? = some x ∧ a = some ⟨b, off, none⟩ ∧ W.cell? ⟨b, off + i * 6, none⟩ = some (.int .i64 x.k) ∧ W.cell? ⟨b, off + i * 6 + 1, none⟩ = some (.int .i64 x.w) ∧ W.cell? ⟨b, off + i * 6 + 2, none⟩ = some (.int .i64 x.s) ∧ W.cell? ⟨b, off + i * 6 + 3, none⟩ = some (.int .i64 x.h) ∧ W.cell? ⟨b, off + i * 6 + 4, none⟩ = some (.int .i64 x.p) ∧ W.cell? ⟨b, off + i * 6 + 5, none⟩ = some (.string x.t) := by
  obtain ⟨a', c', e1, _, _, e4⟩ := h
  cases e1
  obtain ⟨b, off, e, hc⟩ := e4 i _ (List.getElem?_eq_getElem hi)
  exact ⟨_, b, off, List.getElem?_eq_getElem hi, e, hc 0 _ rfl, hc 1 _ rfl, hc 2 _ rfl, hc 3 _ rfl, hc 4 _ rfl, hc 5 _ rfl⟩
theorem get_none {α : Type} {l : List α} {i : Nat} (h : ¬ i < l.length) : l[i]? = none := List.getElem?_eq_none (by omega)

set_option maxHeartbeats 1000000 in
theorem forced_any (v : Value) (l : List It) (i : Nat) (w : World) (hv : RdIt w v l) :
    Calls Try.prog 37 #[v, .int .i64 (i : Int)] w fun e w' => e = .returned (.bool (forcedF l i)) ∧ w = w' := by
  obtain ⟨a, cap, rfl, hlc, hcm, _⟩ := hv.open
  by_cases hi : i < l.length
  · have g1 : (i : Int) < (l.length : Int) := by omega
    have g0 : (0 : Int) ≤ (i : Int) := by omega
    obtain ⟨x, b, off, hx, rfl, c0, c1, c2, c3, c4, c5⟩ := hv.at hi
    have HV : Hid (forcedF l i = (decide (x.k = 3) && decide (x.p = -10000))) := by show _ = _; unfold forcedF; rw [hx]
    clear hv hx
    by_cases h3 : x.k = 3
    · rw [h3] at c0 HV
      by_cases hp : x.p = -10000
      · rw [hp] at c4 HV
        go_enter Try.func37, Try.ntmps37
        go_wp2
        go_ret
        exact ⟨ret_bool HV.out.symm, rfl⟩
      · have e4 : (x.p == -10000) = false := beq_eq_false_iff_ne.2 hp
        rw [decide_eq_false hp] at HV
        go_enter Try.func37, Try.ntmps37
        go_wp2
        go_ret
        exact ⟨ret_bool HV.out.symm, rfl⟩
    · have e3 : (x.k == 3) = false := beq_eq_false_iff_ne.2 h3
      rw [decide_eq_false h3, Bool.false_and] at HV
      go_enter Try.func37, Try.ntmps37
      go_wp2
      go_ret
      exact ⟨ret_bool HV.out.symm, rfl⟩
  · have g1 : ¬ (i : Int) < (l.length : Int) := by omega
    have HV : Hid (forcedF l i = false) := by show _ = _; unfold forcedF; rw [get_none hi]
    clear hv
    go_enter Try.func37, Try.ntmps37
    go_wp2
    go_ret
    exact ⟨ret_bool HV.out.symm, rfl⟩

set_option maxHeartbeats 1000000 in
theorem ends_any (v : Value) (l : List It) (i : Nat) (w : World) (hv : RdIt w v l) (hi0 : i ≤ l.length) :
    Calls Try.prog 34 #[v, .int .i64 (i : Int)] w fun e w' => e = .returned (.bool (endsF l i)) ∧ w = w' := by
  obtain ⟨a, cap, rfl, hlc, hcm, _⟩ := hv.open
  by_cases hi : i < l.length
  · have g1 : ((i : Int) == (l.length : Int)) = false := beq_eq_false_iff_ne.2 (by omega)
    have g2 : (i : Int) < (l.length : Int) := by omega
    have g0 : (0 : Int) ≤ (i : Int) := by omega
    obtain ⟨x, b, off, hx, rfl, c0, c1, c2, c3, c4, c5⟩ := hv.at hi
    have HV : Hid (endsF l i = if x.k = 2 then decide (0 < i) && boxAt l (i - 1) else if x.k = 3 then decide (x.p ≠ 10000) else false) := by show _ = _; unfold endsF; rw [hx]
    clear hx
    by_cases h2 : x.k = 2
    · rw [h2] at c0
      rw [if_pos h2] at HV
      by_cases hp : 0 < i
      · have g3 : (0 : Int) < (i : Int) := by omega
        obtain ⟨y, b', off', hy, hya, d0, _⟩ := hv.at (i := i - 1) (by omega)
        cases hya
        have HB : Hid (boxAt l (i - 1) = decide (y.k = 1)) := by show _ = _; unfold boxAt; rw [hy]
        rw [decide_eq_true hp, Bool.true_and, HB.out] at HV
        have w1 : IntKind.i64.wrap ((i : Int) - 1) = ((i - 1 : Nat) : Int) := by rw [IntWalk.i64_in _ (by omega)]; omega
        have w2 : (0 : Int) ≤ ((i - 1 : Nat) : Int) := by omega
        have w3 : ((i - 1 : Nat) : Int) < (l.length : Int) := by omega
        clear hv hy HB
        generalize i - 1 = i1 at *
        by_cases h1 : y.k = 1
        · rw [h1] at d0 HV
          go_enter Try.func34, Try.ntmps34
          go_wp2
          go_ret
          exact ⟨ret_bool HV.out.symm, rfl⟩
        · have e1 : (y.k == 1) = false := beq_eq_false_iff_ne.2 h1
          rw [decide_eq_false h1] at HV
          go_enter Try.func34, Try.ntmps34
          go_wp2
          go_ret
          exact ⟨ret_bool HV.out.symm, rfl⟩
      · have g3 : ¬ (0 : Int) < (i : Int) := by omega
        rw [decide_eq_false hp, Bool.false_and] at HV
        clear hv
        go_enter Try.func34, Try.ntmps34
        go_wp2
        go_ret
        exact ⟨ret_bool HV.out.symm, rfl⟩
    · have e2 : (x.k == 2) = false := beq_eq_false_iff_ne.2 h2
      rw [if_neg h2] at HV
      clear hv
      by_cases h3 : x.k = 3
      · rw [h3] at c0
        rw [if_pos h3] at HV
        have e2' : ((3 : Int) == 2) = false := rfl
        clear e2
        by_cases hp : x.p = 10000
        · rw [hp] at c4
          rw [decide_eq_false (by simp [hp])] at HV
          go_enter Try.func34, Try.ntmps34
          go_wp2
          go_ret
          exact ⟨ret_bool HV.out.symm, rfl⟩
        · have e4 : (x.p != 10000) = true := bne_iff_ne.2 hp
          rw [decide_eq_true hp] at HV
          go_enter Try.func34, Try.ntmps34
          go_wp2
          go_ret
          exact ⟨ret_bool HV.out.symm, rfl⟩
      · have e3 : (x.k == 3) = false := beq_eq_false_iff_ne.2 h3
        rw [if_neg h3] at HV
        go_enter Try.func34, Try.ntmps34
        go_wp2
        go_ret
        exact ⟨ret_bool HV.out.symm, rfl⟩
  · obtain rfl : i = l.length := by omega
    have g1 : ((l.length : Int) == (l.length : Int)) = true := beq_self_eq_true _
    have HV : Hid (endsF l l.length = true) := by show _ = _; unfold endsF; rw [get_none hi]
    clear hv
    go_enter Try.func34, Try.ntmps34
    go_wp2
    go_ret
    exact ⟨ret_bool HV.out.symm, rfl⟩

set_option maxHeartbeats 1000000 in
theorem penalty_any (v : Value) (l : List It) (i : Nat) (w : World) (hv : RdIt w v l) :
    Calls Try.prog 36 #[v, .int .i64 (i : Int)] w fun e w' => e = .returned (.int .i64 (penF l i)) ∧ w = w' := by
  have HF := hid (forced_any v l i w hv)
  obtain ⟨a, cap, rfl, hlc, hcm, _⟩ := hv.open
  by_cases hi : i < l.length
  · have g1 : (i : Int) < (l.length : Int) := by omega
    have g0 : (0 : Int) ≤ (i : Int) := by omega
    obtain ⟨x, b, off, hx, rfl, c0, c1, c2, c3, c4, c5⟩ := hv.at hi
    have HV : Hid (penF l i = if x.k = 3 ∧ x.p ≠ -10000 then x.p else 0) := by show _ = _; unfold penF; rw [hx]
    have HFV : Hid (forcedF l i = (decide (x.k = 3) && decide (x.p = -10000))) := by show _ = _; unfold forcedF; rw [hx]
    rw [HFV.out] at HF
    clear hv hx HFV
    by_cases h3 : x.k = 3
    · rw [decide_eq_true h3, Bool.true_and] at HF
      by_cases hp : x.p = -10000
      · rw [decide_eq_true hp] at HF
        rw [if_neg (fun h => h.2 hp)] at HV
        rw [h3] at c0
        go_enter Try.func36, Try.ntmps36
        go_wp2_with fail
        refine HF.out.mono ?_
        rintro e w1 ⟨rfl, rfl⟩
        go_wp2
        go_ret
        exact ⟨ret_int HV.out.symm, rfl⟩
      · rw [decide_eq_false hp] at HF
        rw [if_pos ⟨h3, hp⟩] at HV
        rw [h3] at c0
        go_enter Try.func36, Try.ntmps36
        go_wp2_with fail
        refine HF.out.mono ?_
        rintro e w1 ⟨rfl, rfl⟩
        go_wp2
        go_ret
        exact ⟨ret_int HV.out.symm, rfl⟩
    · have e3 : (x.k == 3) = false := beq_eq_false_iff_ne.2 h3
      rw [if_neg (fun h => h3 h.1)] at HV
      go_enter Try.func36, Try.ntmps36
      go_wp2
      go_ret
      exact ⟨ret_int HV.out.symm, rfl⟩
  · have g1 : ¬ (i : Int) < (l.length : Int) := by omega
    have HV : Hid (penF l i = 0) := by show _ = _; unfold penF; rw [get_none hi]
    clear hv HF
    go_enter Try.func36, Try.ntmps36
    go_wp2
    go_ret
    exact ⟨ret_int HV.out.symm, rfl⟩

/-- The first item of a line from an index on. -/
def glueAt (l : List It) (i : Nat) : Bool := match l[i]? with | some x => decide (x.k = 2) | none => false
def beginF (l : List It) : Nat → Nat → Nat
  | i, 0 => i
  | i, n + 1 => if glueAt l i = true then beginF l (i + 1) n else i
set_option maxHeartbeats 1000000 in
theorem begin_any (v : Value) (l : List It) (i : Nat) (w : World) (hv : RdIt w v l) (hi0 : i ≤ l.length) :
    Calls Try.prog 33 #[v, .int .i64 (i : Int), .int .i64 (l.length : Int)] w fun e w' => e = .returned (.int .i64 (beginF l i (l.length - i) : Nat)) ∧ w = w' := by
  have HV0 := hid hv
  obtain ⟨a, cap, rfl, hlc, hcm, _⟩ := hv.open
  clear hv
  go_enter Try.func33, Try.ntmps33
  go_wp2
  go_loop [1] (fun v1 => ∃ k : Nat, k ≤ l.length ∧ v1 = .int .i64 k ∧ Hid (beginF l k (l.length - k) = beginF l i (l.length - i))) (fun v1 => l.length - (intOf v1).toNat)
  case atStart => exact ⟨i, hi0, rfl, rfl⟩
  case round =>
    obtain ⟨k, hk, rfl, HK⟩ := hrel
    by_cases hlt : k < l.length
    · have hti : (k : Int) < (l.length : Int) := by omega
      have hk0 : (0 : Int) ≤ (k : Int) := by omega
      obtain ⟨x, b, off, hx, rfl, c0, c1, c2, c3, c4, c5⟩ := HV0.out.at hlt
      have HG : Hid (glueAt l k = decide (x.k = 2)) := by show _ = _; unfold glueAt; rw [hx]
      obtain ⟨n, hn⟩ : ∃ n, l.length - k = n + 1 := ⟨l.length - k - 1, by omega⟩
      have hn2 : l.length - (k + 1) = n := by omega
      rw [hn, beginF, HG.out] at HK
      have HN := hid hn2
      clear hx hn hn2 HG
      by_cases h2 : x.k = 2
      · rw [h2] at c0
        rw [decide_eq_true h2, if_pos rfl] at HK
        go_wp2
        go_round
        case rel => exact ⟨k + 1, by omega, by go_num, by rw [HN.out]; exact HK.out⟩
        case measure => simp [intOf]; omega
      · have e2 : (x.k == 2) = false := beq_eq_false_iff_ne.2 h2
        rw [decide_eq_false h2, if_neg Bool.false_ne_true] at HK
        go_wp2
        go_ret
        exact ⟨by rw [← HK.out]; rfl, rfl⟩
    · obtain rfl : k = l.length := by omega
      have hti : ¬ (l.length : Int) < (l.length : Int) := by omega
      rw [Nat.sub_self, beginF] at HK
      go_wp2
      go_ret
      exact ⟨by rw [← HK.out]; rfl, rfl⟩
theorem beginF_bd (l : List It) : ∀ (n i : Nat), i ≤ beginF l i n ∧ beginF l i n ≤ i + n
  | 0, i => ⟨Nat.le_refl _, Nat.le_refl _⟩
  | n + 1, i => by
    rw [beginF]
    split
    · have := beginF_bd l n (i + 1); omega
    · omega
/-- The potential behind a break. -/
def behF (ps : List Int) (to_ : Nat) : Int := if to_ + 1 = ps.length then 0 else ps.getD (to_ + 1) 0
set_option maxHeartbeats 1000000 in
theorem behind_any (v : Value) (ps : List Int) (i : Nat) (w : World) (hv : RdI w v ps) (hi : i < ps.length) (hl : ps.length ≤ 5000) :
    Calls Try.prog 21 #[v, .int .i64 (i : Int)] w fun e w' => e = .returned (.int .i64 (behF ps i)) ∧ w = w' := by
  have HV0 := hid hv
  obtain ⟨a, cap, rfl, hlc, hcm, _⟩ := hv.open
  clear hv
  have HV : Hid (behF ps i = if i + 1 = ps.length then 0 else ps.getD (i + 1) 0) := rfl
  have w1 : IntKind.i64.wrap ((ps.length : Int) - 1) = (ps.length : Int) - 1 := IntWalk.i64_in _ (by omega)
  by_cases h1 : i + 1 = ps.length
  · have e1 : ((i : Int) == (ps.length : Int) - 1) = true := beq_iff_eq.2 (by omega)
    rw [if_pos h1] at HV
    clear h1
    go_enter Try.func21, Try.ntmps21
    go_wp2
    go_ret
    exact ⟨ret_int HV.out.symm, rfl⟩
  · have e1 : ((i : Int) == (ps.length : Int) - 1) = false := beq_eq_false_iff_ne.2 (by omega)
    rw [if_neg h1] at HV
    obtain ⟨x, b, off, hx, rfl, c0⟩ := HV0.out.open51 (i := i + 1) (by omega)
    rw [List.getD_eq_getElem?_getD, hx, Option.getD_some] at HV
    have w2 : IntKind.i64.wrap ((i : Int) + 1) = ((i + 1 : Nat) : Int) := by rw [IntWalk.i64_in _ (by omega)]; rfl
    have w3 : (0 : Int) ≤ ((i + 1 : Nat) : Int) := by omega
    have w4 : ((i + 1 : Nat) : Int) < (ps.length : Int) := by omega
    clear hx h1
    generalize i + 1 = i1 at *
    go_enter Try.func21, Try.ntmps21
    go_wp2
    go_ret
    exact ⟨ret_int HV.out.symm, rfl⟩
end Go.Proofs.Ytalpgilncohkbaa
