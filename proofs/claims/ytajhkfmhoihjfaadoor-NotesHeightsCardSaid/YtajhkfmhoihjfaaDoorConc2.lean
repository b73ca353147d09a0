/-
  slices.Concat of two lists; the rest of a slice.
-/
import Derived.Test.YtajhkfmhoihjfaaDoorConcI
namespace Go.Proofs.YtajhkfmhoihjfaaDoor
open Go.RowKit

theorem Rd.dropk {α : Type} {enc : α → Value} {W : World} {b off n cap : Nat} {l : List α} (h : Rd enc W (.slice (some ⟨b, off, none⟩) n cap) l) (k : Nat) (hk : k ≤ l.length) : Rd enc W (.slice (some ⟨b, off + k, none⟩) (n - k) (cap - k)) (l.drop k) := by
  obtain ⟨a', cap', h1, h2, h3, h4⟩ := h
  cases h1
  refine ⟨_, _, by rw [List.length_drop], by rw [List.length_drop]; omega, by omega, fun i x hx => ?_⟩
  rw [List.getElem?_drop] at hx
  obtain ⟨b', off', e, hc⟩ := h4 _ x hx
  cases e
  exact ⟨b, off + k, rfl, by rw [Nat.add_assoc]; exact hc⟩
theorem concat2I_any (B : Nat) (v1 v2 : Value) (l1 l2 : List Int) (w : World) (h1 : w.cell? ⟨B, 0, none⟩ = some v1) (h2 : w.cell? ⟨B, 1, none⟩ = some v2) (r1 : Rd (Value.int .i64) w v1 l1) (r2 : Rd (Value.int .i64) w v2 l2)
    (k1 : l1.length ≤ 20) (k2 : l2.length ≤ 20) (n1 : ∀ n cap, v1 = .slice none n cap → cap = 0) (n2 : ∀ n cap, v2 = .slice none n cap → cap = 0) :
    Calls Tryd.prog 36 #[.slice (some ⟨B, 0, none⟩) 2 2] w fun e w' => ∃ r, e = .returned r ∧ Rd (Value.int .i64) w' r (l1 ++ l2) ∧ Below w.heap.size w w' := by
  refine (concatI_any B [(v1, l1), (v2, l2)] w ?_ (by simp) ?_ ?_).mono ?_
  · intro j p hj
    rcases j with _ | _ | j
    · obtain rfl := Option.some.inj hj; exact ⟨h1, r1⟩
    · obtain rfl := Option.some.inj hj; exact ⟨h2, r2⟩
    · cases hj
  · intro p hp
    simp only [List.mem_cons, List.not_mem_nil, or_false] at hp
    rcases hp with rfl | rfl
    · exact k1
    · exact k2
  · intro p hp
    simp only [List.mem_cons, List.not_mem_nil, or_false] at hp
    rcases hp with rfl | rfl
    · exact n1
    · exact n2
  · rintro e w' ⟨r, he, hr, hB⟩
    exact ⟨r, he, by simpa [catT] using hr, hB⟩
theorem concat2S_any (B : Nat) (v1 v2 : Value) (l1 l2 : List ByteArray) (w : World) (h1 : w.cell? ⟨B, 0, none⟩ = some v1) (h2 : w.cell? ⟨B, 1, none⟩ = some v2) (r1 : Rd (Value.string) w v1 l1) (r2 : Rd (Value.string) w v2 l2)
    (k1 : l1.length ≤ 20) (k2 : l2.length ≤ 20) (n1 : ∀ n cap, v1 = .slice none n cap → cap = 0) (n2 : ∀ n cap, v2 = .slice none n cap → cap = 0) :
    Calls Tryd.prog 37 #[.slice (some ⟨B, 0, none⟩) 2 2] w fun e w' => ∃ r, e = .returned r ∧ Rd (Value.string) w' r (l1 ++ l2) ∧ Below w.heap.size w w' := by
  refine (concatS_any B [(v1, l1), (v2, l2)] w ?_ (by simp) ?_ ?_).mono ?_
  · intro j p hj
    rcases j with _ | _ | j
    · obtain rfl := Option.some.inj hj; exact ⟨h1, r1⟩
    · obtain rfl := Option.some.inj hj; exact ⟨h2, r2⟩
    · cases hj
  · intro p hp
    simp only [List.mem_cons, List.not_mem_nil, or_false] at hp
    rcases hp with rfl | rfl
    · exact k1
    · exact k2
  · intro p hp
    simp only [List.mem_cons, List.not_mem_nil, or_false] at hp
    rcases hp with rfl | rfl
    · exact n1
    · exact n2
  · rintro e w' ⟨r, he, hr, hB⟩
    exact ⟨r, he, by simpa [catT] using hr, hB⟩
end Go.Proofs.YtajhkfmhoihjfaaDoor
