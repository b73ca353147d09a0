/-
  Contracts of the library's functions on slices, at this program's element types.
-/
import Derived.Test.YtlneimjenjpbnaaCharset
import Derived.Test.YtlneimjenjpbnaaLib
import Derived.Test.YtlneimjenjpbnaaPl
namespace Go.Proofs.Ytlneimjenjpbnaa
open Go.RowKit

def cmpI (a b : Int) : Int := if a < b then -1 else if b < a then 1 else 0

/-- lexicographic comparison -/
def lexI : List Int → List Int → Int
  | [], [] => 0
  | [], _ :: _ => -1
  | _ :: _, [] => 1
  | x :: l, y :: m => if cmpI x y = 0 then lexI l m else cmpI x y

theorem lexI_drop (l m : List Int) (k : Nat) (x y : Int) (hx : l[k]? = some x) (hy : m[k]? = some y) : lexI (l.drop k) (m.drop k) = if cmpI x y = 0 then lexI (l.drop (k + 1)) (m.drop (k + 1)) else cmpI x y := by
  obtain ⟨hk, rfl⟩ := List.getElem?_eq_some_iff.1 hx
  obtain ⟨hk2, rfl⟩ := List.getElem?_eq_some_iff.1 hy
  rw [List.drop_eq_getElem_cons hk, List.drop_eq_getElem_cons hk2]; rfl
theorem lexI_short (l m : List Int) (k : Nat) (hk : k < l.length) (hk2 : m.length ≤ k) : lexI (l.drop k) (m.drop k) = 1 := by
  rw [List.drop_eq_getElem_cons hk, List.drop_of_length_le hk2]; rfl
theorem lexI_end (l m : List Int) (k : Nat) (hk : l.length ≤ k) : lexI (l.drop k) (m.drop k) = if k < m.length then -1 else 0 := by
  rw [List.drop_of_length_le hk]
  split
  · next h => rw [List.drop_eq_getElem_cons h]; rfl
  · next h => rw [List.drop_of_length_le (by omega)]; rfl

def sortedB : List Int → Bool
  | x :: y :: l => decide (x ≤ y) && sortedB (y :: l)
  | _ => true

theorem sortedB_iff (l : List Int) : sortedB l = true ↔ ∀ (k : Nat) (x y : Int), l[k]? = some x → l[k + 1]? = some y → x ≤ y := by
  induction l with
  | nil => simp [sortedB]
  | cons a l ih =>
    cases l with
    | nil => simp [sortedB]
    | cons b l =>
      simp only [sortedB, Bool.and_eq_true, decide_eq_true_eq, ih]
      constructor
      · rintro ⟨h1, h2⟩ k x y hx hy
        cases k with
        | zero => simp at hx hy; omega
        | succ k => exact h2 k x y (by simpa using hx) (by simpa using hy)
      · intro h
        exact ⟨h 0 a b rfl rfl, fun k x y hx hy => h (k + 1) x y (by simpa using hx) (by simpa using hy)⟩

end Go.Proofs.Ytlneimjenjpbnaa
