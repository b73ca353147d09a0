/-
  Plain: the two ways of telling a word answer alike. No step of a program is in sight here.
-/
import Derived.Test.YtjhdeoniafahbaaGreatDoorPlDec
import Derived.Test.YtjhdeoniafahbaaGreatDoorJ02
namespace Go.Proofs.YtjhdeoniafahbaaGreatDoor

def badC (c : UInt8) (f : Bool) : Bool := decide (kindI c.toNat = 0) || (decide (kindI c.toNat = 2) && !f)
theorem chkGo_cons (st : Bool) (c : UInt8) (r : List UInt8) : chkGo st (c :: r) = if (mk c && st) = true then chkGo true r else okc c && chkGo (lk c) r := rfl
theorem chk_rgo : ∀ (l : List UInt8) (pk : Int) (pf : Bool), chkGo (decide (pk = 1) || pf) l = true ↔ ∀ (k : Nat) (c : UInt8) (f : Bool), l[k]? = some c → (rgo pk pf l)[k]? = some f → badC c f = false
  | [], pk, pf => by simp [chkGo]
  | c :: r, pk, pf => by
    have ih := chk_rgo r (kindI c.toNat) (decide (kindI c.toNat = 2) && (decide (pk = 1) || pf))
    have hall : (∀ (k : Nat) (d : UInt8) (f : Bool), (c :: r)[k]? = some d → (rgo pk pf (c :: r))[k]? = some f → badC d f = false) ↔
        (badC c (decide (kindI c.toNat = 2) && (decide (pk = 1) || pf)) = false ∧ ∀ (k : Nat) (d : UInt8) (f : Bool), r[k]? = some d → (rgo (kindI c.toNat) (decide (kindI c.toNat = 2) && (decide (pk = 1) || pf)) r)[k]? = some f → badC d f = false) := by
      constructor
      · intro h
        exact ⟨h 0 c _ rfl rfl, fun k d f h1 h2 => h (k + 1) d f h1 h2⟩
      · rintro ⟨h1, h2⟩ k d f h3 h4
        cases k with
        | zero =>
          have e1 : c = d := by simpa using h3
          have e2 : (decide (kindI c.toNat = 2) && (decide (pk = 1) || pf)) = f := by simpa [rgo] using h4
          rw [← e1, ← e2]; exact h1
        | succ k => exact h2 k d f h3 h4
    rw [hall, ← ih, chkGo_cons]
    cases hst : (decide (pk = 1) || pf) with
    | true =>
      by_cases h2 : kindI c.toNat = 2
      · have hm : mk c = true := by unfold mk; rw [h2]; rfl
        rw [hm, if_pos (by rfl)]
        have : (decide (kindI c.toNat = 1) || (decide (kindI c.toNat = 2) && true)) = true := by rw [h2]; rfl
        rw [this]
        constructor
        · intro h; exact ⟨by unfold badC; rw [h2]; rfl, h⟩
        · intro h; exact h.2
      · have hm : mk c = false := by unfold mk; exact decide_eq_false h2
        rw [hm, if_neg (by simp)]
        have : (decide (kindI c.toNat = 1) || (decide (kindI c.toNat = 2) && true)) = lk c := by rw [decide_eq_false h2]; simp [lk]
        rw [this]
        have hb : badC c (decide (kindI c.toNat = 2) && true) = !okc c := by
          unfold badC okc; rw [decide_eq_false h2]; simp
        rw [hb, Bool.and_eq_true]
        simp
    | false =>
      have hm : (mk c && false) = false := by simp
      rw [hm, if_neg (by simp)]
      have : (decide (kindI c.toNat = 1) || (decide (kindI c.toNat = 2) && false)) = lk c := by simp [lk]
      rw [this]
      have hb : badC c (decide (kindI c.toNat = 2) && false) = !okc c := by
        unfold badC okc; simp
      rw [hb, Bool.and_eq_true]
      simp
theorem chk_right (l : List UInt8) : chkGo false l = true ↔ ¬ ∃ k, k < l.length ∧ badAt l k = true := by
  have h := chk_rgo l 0 false
  rw [show (decide ((0 : Int) = 1) || false) = false by rfl] at h
  rw [h]
  have hl := rgo_len l 0 false
  constructor
  · rintro h2 ⟨k, hk, hb⟩
    unfold badAt rightL at hb
    rw [List.getElem?_eq_getElem hk, List.getElem?_eq_getElem (show k < (rgo 0 false l).length by omega)] at hb
    have := h2 k _ _ (List.getElem?_eq_getElem hk) (List.getElem?_eq_getElem (show k < (rgo 0 false l).length by omega))
    have hb2 : badC l[k] (rgo 0 false l)[k] = true := hb
    rw [this] at hb2; cases hb2
  · intro h2 k c f hc hf
    refine Classical.byContradiction fun hb => h2 ⟨k, (List.getElem?_eq_some_iff.1 hc).1, ?_⟩
    unfold badAt rightL
    rw [hc, hf]
    show badC c f = true
    simpa using hb
theorem kind_six (c : Int) : kindI c ≤ 6 := by
  unfold kindI
  repeat' split
  all_goals omega
theorem rword_is (s : ByteArray) : rwordB s.data.toList = isWordB s := by
  have hl : s.data.toList.length = s.size := by rw [Array.length_toList]; rfl
  unfold rwordB isWordB
  rw [hl]
  by_cases h0 : s.size = 0
  · have e1 : decide (1 ≤ s.size) = false := decide_eq_false (by omega)
    have e2 : decide (s.size ≠ 0) = false := decide_eq_false (by omega)
    rw [e1, e2]; rfl
  · have e1 : decide (1 ≤ s.size) = true := decide_eq_true (by omega)
    have e2 : decide (s.size ≠ 0) = true := decide_eq_true (by omega)
    rw [e1, e2]
    by_cases h64 : s.size ≤ 64
    · have e3 : decide (rcheckI s.data.toList = 0) = chkB s := by
        unfold rcheckI chkB
        rw [if_neg (by omega)]
        have h := chk_right s.data.toList
        cases hc : chkGo false s.data.toList with
        | true => rw [if_neg (h.1 hc)]; rfl
        | false =>
          have : ∃ k, k < s.data.toList.length ∧ badAt s.data.toList k = true := Classical.byContradiction fun hn => by
            rw [h.2 hn] at hc; cases hc
          rw [if_pos this]; rfl
      have e5 : highAt s.data.toList = (bytesL s).any sepB := by
        unfold highAt bytesL
        rw [List.any_map]
        refine congrArg (fun p => s.data.toList.any p) (funext fun c => ?_)
        have h6 := kind_six c.toNat
        show decide (4 < kindI c.toNat) = (decide (kindI c.toNat = 5) || decide (kindI c.toNat = 6))
        rw [Bool.eq_iff_iff]
        simp only [Bool.or_eq_true, decide_eq_true_eq]
        omega
      rw [e3, e5]
      refine congrArg (fun p => (true && decide (s.size ≤ 64) && chkB s && p) && !(bytesL s).any sepB) ?_
      unfold firstK
      cases s.data.toList with
      | nil => rfl
      | cons c r => unfold isLet; rfl
    · rw [decide_eq_false h64]; simp
end Go.Proofs.YtjhdeoniafahbaaGreatDoor
