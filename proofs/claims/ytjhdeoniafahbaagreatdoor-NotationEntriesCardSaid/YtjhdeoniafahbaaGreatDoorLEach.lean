/-
  P43.6: the walk of LemmaEach.
-/
import Derived.Test.YtjhdeoniafahbaaGreatDoorJ05
import Derived.Test.YtjhdeoniafahbaaGreatDoorSame43
import Derived.Test.YtjhdeoniafahbaaGreatDoorPlNum
namespace Go.Proofs.YtjhdeoniafahbaaGreatDoor
open Go.RowKit

theorem rdS_one (W : World) (s : ByteArray) : RdS (W.alloc (.cells #[.string s] 9)) (.slice (some ⟨W.heap.size, 0, none⟩) 1 1) [s] := by
  refine ⟨_, 1, rfl, Nat.le_refl _, by unfold maxLen; omega, fun i x hx => ⟨_, _, rfl, ?_⟩⟩
  match i, hx with
  | 0, hx => cases hx; exact cell_nw W _ _ 0 rfl
theorem szs_one {s : ByteArray} (h : s.size ≤ maxLen) : Szs [s] := fun x hx => by
  have : x = s := by simpa using hx
  rw [this]; exact h
theorem fine_one {s : ByteArray} (h : fineB [s] = true) : wordB s = true ∧ s.size ≤ 66 := by
  obtain ⟨_, h2, h3⟩ := fine_all h
  exact ⟨h2 s (by simp), h3 s (by simp)⟩
theorem lemCk_ok {f l : ByteArray} (hf : wordB f = true) (hl : l.size = 0 ∨ wordB l = true) {n : Nat} (hn : n ≤ 65536) : lemCk f l n = 0 := by
  unfold lemCk
  rw [hf]
  have : (decide (l.size ≠ 0) && !wordB l) = false := by
    rcases hl with h | h
    · rw [h]; rfl
    · rw [h]; simp
  rw [this, if_neg (by simp), if_neg (by omega)]
theorem run_max2j {P : Program} {w : World} (ts : Array TypeId) (t : TypeId) (k : IntKind) (n m : Nat) (h : max n 1 = m + 1) : (Builtin.max_ ts t #[.int k n, .int k 1]).run P w = .ok (.int k ((m : Int) + 1)) w := by
  have hm : (m : Int) + 1 = if (n : Int) < 1 then 1 else (n : Int) := by split <;> omega
  rw [hm]
  simp [Builtin.max_, Builtin.max2, go_sem]
theorem run_max2z {P : Program} {w : World} (ts : Array TypeId) (t : TypeId) (k : IntKind) : (Builtin.max_ ts t #[.int k 0, .int k 1]).run P w = .ok (.int k 1) w := by
  simp [Builtin.max_, Builtin.max2, go_sem]
/-- What a number n finds in a list of occurrences. -/
theorem each_cases (oc : List (Nat × Nat)) (hb : ∀ p ∈ oc, p.2 ≤ 1000) (n : Nat) :
    (∃ p, ((n = 0 ∧ oc.length = 1) ∨ (0 < n ∧ n ≤ oc.length ∧ 1 < oc.length)) ∧ oc[max n 1 - 1]? = some p ∧ findE oc n = 0 ∧ findF oc n = p.1 ∧ findT oc n = (p.2 : Int) + 1 ∧ p.2 ≤ 1000) ∨
    (n = 0 ∧ 1 < oc.length ∧ findE oc n = 16 ∧ findF oc n = 0 ∧ findT oc n = 0) ∨
    (n = 0 ∧ oc.length = 0 ∧ findE oc n = 6 ∧ findF oc n = 0 ∧ findT oc n = 0) ∨
    (0 < n ∧ oc.length < n ∧ findE oc n = 6 ∧ findF oc n = 0 ∧ findT oc n = 0) ∨
    (0 < n ∧ n ≤ oc.length ∧ oc.length = 1 ∧ findE oc n = 6 ∧ findF oc n = 0 ∧ findT oc n = 0) := by
  have hno : ∀ k, k ≠ 0 → findE oc n = k → findE oc n = k ∧ findF oc n = 0 ∧ findT oc n = 0 := fun k hk h => by
    refine ⟨h, ?_, ?_⟩
    · unfold findF; rw [if_neg (by omega)]
    · unfold findT; rw [if_neg (by omega)]
  by_cases h1 : (n = 0 ∧ oc.length = 1) ∨ (0 < n ∧ n ≤ oc.length ∧ 1 < oc.length)
  · have hE : findE oc n = 0 := by
      unfold findE endE
      rw [if_neg (by omega), if_neg (by omega), if_neg (by omega)]
    have hlt : max n 1 - 1 < oc.length := by omega
    have hp : oc[max n 1 - 1]? = some oc[max n 1 - 1] := List.getElem?_eq_getElem hlt
    have hpb := hb _ (List.mem_of_getElem? hp)
    refine .inl ⟨_, h1, hp, hE, ?_, ?_, hpb⟩
    · unfold findF; rw [if_pos hE]; unfold fOf; rw [hp]
    · unfold findT; rw [if_pos hE]; unfold tOf; rw [hp]; exact wrap_small hpb
  · refine .inr ?_
    by_cases h2 : n = 0
    · by_cases h3 : oc.length = 0
      · exact .inr (.inl ⟨h2, h3, hno 6 (by omega) (by unfold findE endE; rw [if_pos h3])⟩)
      · exact .inl ⟨h2, by omega, hno 16 (by omega) (by unfold findE endE; rw [if_neg h3, if_pos (by omega)])⟩
    · by_cases h3 : n ≤ oc.length
      · exact .inr (.inr (.inr ⟨by omega, h3, by omega, hno 6 (by omega) (by unfold findE endE; rw [if_neg (by omega), if_neg (by omega), if_pos (by omega)])⟩))
      · refine .inr (.inr (.inl ⟨by omega, by omega, hno 6 (by omega) ?_⟩))
        unfold findE endE
        by_cases h4 : oc.length = 0
        · rw [if_pos h4]
        · rw [if_neg h4, if_neg (by omega), if_pos (by omega)]

end Go.Proofs.YtjhdeoniafahbaaGreatDoor
