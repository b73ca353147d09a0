/-
  Contracts: IsName, CutSuffix, siglum, checkSet, mask, members.
-/
import Derived.Test.YtigaflmhdbgmdaaDoorCharset
import Derived.Test.YtigaflmhdbgmdaaDoorLib
namespace Go.Proofs.YtigaflmhdbgmdaaDoor
open Go.RowKit

def isNameB (s : ByteArray) : Bool := decide (s.size ≠ 0) && decide (s.size ≤ 16) && decide (lettersI s.data.toList = s.size)

set_option maxHeartbeats 400000 in
theorem isName_any (s : ByteArray) (w : World) (hs : s.size ≤ maxLen) :
    Calls Tryd.prog 50 #[.string s] w fun e w' => e = .returned (.bool (isNameB s)) ∧ w = w' := by
  have hs' := hs
  unfold maxLen at hs
  go_enter Tryd.func50, Tryd.ntmps50
  go_wp2_with (go_at_call 61; refine (letters_any _ _ hs').mono ?_; rintro e w' ⟨rfl, rfl⟩)
  all_goals go_ret
  all_goals refine ⟨ret_bool ?_, rfl⟩
  all_goals (have hl := lettersI_le s.data.toList; have hz : s.toList = [] ↔ s.size = 0 := by rw [ByteArray.toList_eq, ← List.length_eq_zero_iff]; simp)
  · have h : s.toList = [] := by assumption
    simp [isNameB, hz.1 h]
  · have h : ¬ s.toList = [] := by assumption
    have h16 : (s.size : Int) ≤ 16 := by assumption
    have h0 : s.size ≠ 0 := fun e => h (hz.2 e)
    have h16' : s.size ≤ 16 := by omega
    have he : s.toList.isEmpty = false := by simpa using h
    rw [he, Bool.eq_iff_iff]; simp [isNameB, h0, h16']
  · have h16 : 16 < (s.size : Int) := by assumption
    simp [isNameB]; omega

def cutStar (s : ByteArray) : ByteArray × Bool := if 1 ≤ s.size ∧ (s.extract (s.size - 1) s.size).toList = [42] then (s.extract 0 (s.size - 1), true) else (s, false)

set_option maxHeartbeats 400000 in
theorem cutStar_any (s : ByteArray) (w : World) (hs : s.size ≤ maxLen) :
    Calls Tryd.prog 49 #[.string s, .string ⟨#[42]⟩] w fun e w' => e = .returned (.tuple #[.string (cutStar s).1, .bool (cutStar s).2]) ∧ w = w' := by
  unfold maxLen at hs
  go_enter Tryd.func49, Tryd.ntmps49
  go_wp2
  all_goals go_ret2
  all_goals refine ⟨?_, rfl⟩
  · have h : (!(s.extract (s.size - 1) s.size).toList == [42]) = true := by assumption
    have h' : ¬ (s.extract (s.size - 1) s.size).toList = [42] := by simpa using h
    simp [cutStar, h']
  · have h : (!(s.extract (s.size - 1) s.size).toList == [42]) = false := by assumption
    have h1 : 1 ≤ (s.size : Int) := by assumption
    have h' : (s.extract (s.size - 1) s.size).toList = [42] := by simpa using h
    have h1' : 1 ≤ s.size := by omega
    simp [cutStar, h', h1']
  · have h1 : (s.size : Int) < 1 := by assumption
    have h1' : ¬ 1 ≤ s.size := by omega
    simp [cutStar, h1']

def sigB (s : ByteArray) : Bool := isNameB (cutStar s).1 && (!(cutStar s).2 || decide (s.size ≤ 16))

theorem cutStar_le (s : ByteArray) : (cutStar s).1.size ≤ s.size := by
  unfold cutStar; split
  · simp
  · exact Nat.le_refl _

set_option maxHeartbeats 400000 in
theorem siglum_any (s : ByteArray) (w : World) (hs : s.size ≤ maxLen) :
    Calls Tryd.prog 22 #[.string s] w fun e w' => e = .returned (.bool (sigB s)) ∧ w = w' := by
  have hle := Nat.le_trans (cutStar_le s) hs
  have hs' := hs
  have HF : Hid (sigB s = (isNameB (cutStar s).1 && (!(cutStar s).2 || decide (s.size ≤ 16)))) := rfl
  have hcu := cutStar_any s w hs
  generalize (cutStar s).1 = t at *
  generalize (cutStar s).2 = b at *
  have HC := hid hcu; clear hcu
  unfold maxLen at hs
  have hnm : ∀ w', Hid (Calls Tryd.prog 50 #[.string t] w' fun e w'' => e = .returned (.bool (isNameB t)) ∧ w' = w'') := fun w' => isName_any t w' hle
  clear hle hs'
  generalize isNameB t = nb at *
  have h16 : ((s.size : Int) ≤ 16) ↔ s.size ≤ 16 := by omega
  have H16 := hid h16; clear h16
  cases nb <;> cases b <;> by_cases h : (s.size : Int) ≤ 16
  all_goals
    go_enter Tryd.func22, Tryd.ntmps22
    go_wp2_with (first | (go_at_call 49; refine HC.out.mono ?_; rintro e w' ⟨rfl, rfl⟩) | (go_at_call 50; refine (hnm _).out.mono ?_; rintro e w' ⟨rfl, rfl⟩))
    go_ret
    refine ⟨ret_bool ?_, rfl⟩
    have := H16.out
    rw [HF.out]; simp; try omega

/-- The error of a set of numbers below n, the last one before it known. -/
def ckSet (n : Int) : Option Int → List Int → Int
  | _, [] => 0
  | p, x :: r => if x < 0 ∨ n ≤ x then 2 else if (∃ q, p = some q ∧ x ≤ q) then 10 else ckSet n (some x) r

theorem ckSet_drop (n : Int) (l : List Int) (k : Nat) (x : Int) (h : l[k]? = some x) (p : Option Int) : ckSet n p (l.drop k) = if x < 0 ∨ n ≤ x then 2 else if (∃ q, p = some q ∧ x ≤ q) then 10 else ckSet n (some x) (l.drop (k + 1)) := by
  obtain ⟨hk, hx⟩ := List.getElem?_eq_some_iff.1 h
  rw [List.drop_eq_getElem_cons hk, hx]; rfl

set_option maxHeartbeats 400000 in
theorem checkSet_any (v : Value) (l : List Int) (n : Int) (w : World) (hr : RdI w v l) :
    Calls Tryd.prog 40 #[v, .int .i64 n] w fun e w' => e = .returned (.int .i64 (ckSet n none l)) ∧ w = w' := by
  obtain ⟨a, cap, rfl, hlc, hcm, hcell⟩ := hr.open
  have HCell := hid hcell; clear hcell
  go_enter Tryd.func40, Tryd.ntmps40
  go_wp2
  go_loop [9] (fun i => ∃ k : Nat, k ≤ l.length ∧ i = .int .i64 k ∧ Hid (ckSet n none l = ckSet n (if k = 0 then none else l[k - 1]?) (l.drop k))) (fun i => l.length - (intOf i).toNat)
  case atStart => exact ⟨0, Nat.zero_le _, rfl, by simp [Hid]⟩
  case round =>
    obtain ⟨k, hk, rfl, HK⟩ := hrel
    by_cases hlt : k < l.length
    · obtain ⟨x, b, off, hx, rfl, hc⟩ := HCell.out k hlt
      have HX := hid hx; clear hx
      by_cases hk0 : k = 0
      · subst hk0
        rw [Nat.add_zero] at hc
        go_wp2
        · go_ret
          exact ⟨ret_int (by rw [HK.out, ckSet_drop n l 0 x HX.out, if_pos (by assumption)]), rfl⟩
        · go_round
          case rel => exact ⟨1, by omega, by go_num, by rw [HK.out, ckSet_drop n l 0 x HX.out, if_neg (by omega), if_neg (by simp)]; simp [HX.out, Hid]⟩
          case measure => simp [intOf]; omega
        · go_ret
          exact ⟨ret_int (by rw [HK.out, ckSet_drop n l 0 x HX.out, if_pos (by omega)]), rfl⟩
      · obtain ⟨q, b', off', hq, he, hcq⟩ := HCell.out (k - 1) (by omega)
        cases he
        have HQ := hid hq; clear hq
        rw [if_neg hk0, HQ.out] at HK
        go_wp2
        · go_ret
          exact ⟨ret_int (by rw [HK.out, ckSet_drop n l k x HX.out, if_pos (by assumption)]), rfl⟩
        · go_ret
          exact ⟨ret_int (by rw [HK.out, ckSet_drop n l k x HX.out, if_neg (by omega), if_pos ⟨q, rfl, by assumption⟩]), rfl⟩
        · go_round
          case rel => exact ⟨k + 1, by omega, by go_num, by rw [HK.out, ckSet_drop n l k x HX.out, if_neg (by omega), if_neg (by rintro ⟨q', e, h⟩; cases e; omega)]; simp [HX.out, Hid]⟩
          case measure => simp [intOf]; omega
        · go_ret
          exact ⟨ret_int (by rw [HK.out, ckSet_drop n l k x HX.out, if_pos (by omega)]), rfl⟩
    · go_wp2
      go_ret
      exact ⟨ret_int (by rw [HK.out, List.drop_of_length_le (by omega)]; rfl), rfl⟩
end Go.Proofs.YtigaflmhdbgmdaaDoor
