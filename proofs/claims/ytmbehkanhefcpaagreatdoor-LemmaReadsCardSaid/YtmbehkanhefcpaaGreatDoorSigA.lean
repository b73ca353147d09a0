/-
  Contracts: IsName, CutSuffix, siglum, checkSet, mask, members.
-/
import Derived.Test.YtmbehkanhefcpaaGreatDoorCharset
import Derived.Test.YtmbehkanhefcpaaGreatDoorLib
namespace Go.Proofs.YtmbehkanhefcpaaGreatDoor
open Go.RowKit

def isNameB (s : ByteArray) : Bool := decide (s.size ≠ 0) && decide (s.size ≤ 16) && decide (lettersI s.data.toList = s.size)

def cutStar (s : ByteArray) : ByteArray × Bool := if 1 ≤ s.size ∧ (s.extract (s.size - 1) s.size).toList = [42] then (s.extract 0 (s.size - 1), true) else (s, false)

set_option maxHeartbeats 400000 in
theorem cutStar_any (s : ByteArray) (w : World) (hs : s.size ≤ maxLen) :
    Calls Tryz.prog 40 #[.string s, .string ⟨#[42]⟩] w fun e w' => e = .returned (.tuple #[.string (cutStar s).1, .bool (cutStar s).2]) ∧ w = w' := by
  unfold maxLen at hs
  go_enter Tryz.func40, Tryz.ntmps40
  go_wp2
  all_goals go_ret2
  all_goals refine ⟨?_, rfl⟩
  · have h : (!(s.extract (s.size - 1) s.size).toList == [42]) = true := by assumption
    have h' : ¬ (s.extract (s.size - 1) s.size).toList = [42] := by simpa using h
    simp [cutStar, h']
  · have h : (!(s.extract (s.size - 1) s.size).toList == [42]) = false := by assumption
    have h1 : 1 ≤ (s.size : Int) := by assumption
    have h' : (s.extract (s.size - 1) s.size).toList = [42] := by simpa using h
    have h1' : 1 ≤ s.size := by omega
    simp [cutStar, h', h1']
  · have h1 : (s.size : Int) < 1 := by assumption
    have h1' : ¬ 1 ≤ s.size := by omega
    simp [cutStar, h1']

def sigB (s : ByteArray) : Bool := isNameB (cutStar s).1 && (!(cutStar s).2 || decide (s.size ≤ 16))

theorem cutStar_le (s : ByteArray) : (cutStar s).1.size ≤ s.size := by
  unfold cutStar; split
  · simp
  · exact Nat.le_refl _

/-- The error of a set of numbers below n, the last one before it known. -/
def ckSet (n : Int) : Option Int → List Int → Int
  | _, [] => 0
  | p, x :: r => if x < 0 ∨ n ≤ x then 2 else if (∃ q, p = some q ∧ x ≤ q) then 10 else ckSet n (some x) r

theorem ckSet_drop (n : Int) (l : List Int) (k : Nat) (x : Int) (h : l[k]? = some x) (p : Option Int) : ckSet n p (l.drop k) = if x < 0 ∨ n ≤ x then 2 else if (∃ q, p = some q ∧ x ≤ q) then 10 else ckSet n (some x) (l.drop (k + 1)) := by
  obtain ⟨hk, hx⟩ := List.getElem?_eq_some_iff.1 h
  rw [List.drop_eq_getElem_cons hk, hx]; rfl

end Go.Proofs.YtmbehkanhefcpaaGreatDoor
