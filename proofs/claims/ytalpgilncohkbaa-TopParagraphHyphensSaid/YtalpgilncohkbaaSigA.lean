/-
  Contracts: IsName, CutSuffix, siglum, checkSet, mask, members.
-/
import Derived.Test.YtalpgilncohkbaaCharset
import Derived.Test.YtalpgilncohkbaaJ01
namespace Go.Proofs.Ytalpgilncohkbaa
open Go.RowKit

def isNameB (s : ByteArray) : Bool := decide (s.size ≠ 0) && decide (s.size ≤ 16) && decide (lettersI s.data.toList = s.size)

def cutStar (s : ByteArray) : ByteArray × Bool := if 1 ≤ s.size ∧ (s.extract (s.size - 1) s.size).toList = [42] then (s.extract 0 (s.size - 1), true) else (s, false)

def sigB (s : ByteArray) : Bool := isNameB (cutStar s).1 && (!(cutStar s).2 || decide (s.size ≤ 16))

theorem cutStar_le (s : ByteArray) : (cutStar s).1.size ≤ s.size := by
  unfold cutStar; split
  · simp
  · exact Nat.le_refl _

/-- The error of a set of numbers below n, the last one before it known. -/
def ckSet (n : Int) : Option Int → List Int → Int
  | _, [] => 0
  | p, x :: r => if x < 0 ∨ n ≤ x then 2 else if (∃ q, p = some q ∧ x ≤ q) then 10 else ckSet n (some x) r

theorem ckSet_drop (n : Int) (l : List Int) (k : Nat) (x : Int) (h : l[k]? = some x) (p : Option Int) : ckSet n p (l.drop k) = if x < 0 ∨ n ≤ x then 2 else if (∃ q, p = some q ∧ x ≤ q) then 10 else ckSet n (some x) (l.drop (k + 1)) := by
  obtain ⟨hk, hx⟩ := List.getElem?_eq_some_iff.1 h
  rw [List.drop_eq_getElem_cons hk, hx]; rfl

end Go.Proofs.Ytalpgilncohkbaa
