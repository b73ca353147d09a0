/-
  Two rows of numbers of the call's own, apart, that grow.
-/
import Derived.Test.YtalpgilncohkbaaJ01
namespace Go.Proofs.Ytalpgilncohkbaa
open Go.RowKit

/-- Two rows of numbers of the call's own, apart. -/
structure TwI (W : World) (base : Nat) (v u : Value) (L M : List Int) : Prop where
  o1 : W.ownsRow base 3 1 v L.length (L.map (Value.int .i64))
  o2 : W.ownsRow base 3 1 u M.length (M.map (Value.int .i64))
  ap : v.ownBlock = none ∨ v.ownBlock ≠ u.ownBlock
theorem TwI.nil (W : World) (base : Nat) : TwI W base (.slice none 0 0) (.slice none 0 0) [] [] := ⟨World.ownsRow_nil _ _ _ _, World.ownsRow_nil _ _ _ _, .inl rfl⟩
theorem TwI.push1 {W W' : World} {base g cap : Nat} {v u : Value} {L M : List Int} (h : TwI W base v u L M) (x : Int) (ho : W'.ownsRow base 3 1 (.slice (some ⟨g, 0, none⟩) (L.length + 1) cap) (L.length + 1) (L.map (Value.int .i64) ++ [.int .i64 x])) (hg : W.grownBy W' v.ownBlock) (hat : v.ownBlock = some g ∨ W.heap.size < g) :
    TwI W' base (.slice (some ⟨g, 0, none⟩) (L.length + 1) cap) u (L ++ [x]) M := by
  refine ⟨by rw [List.length_append, List.map_append]; exact ho, h.o2.kept hg ?_, .inr ?_⟩
  · rcases h.ap with e | e
    · rw [e]
      cases hu : u.ownBlock with
      | none => exact .inl rfl
      | some k => exact .inr (by simp)
    · exact .inr fun e2 => e e2.symm
  · intro e
    rcases hat with h1 | h1
    · rcases h.ap with e2 | e2
      · rw [e2] at h1; cases h1
      · exact e2 (by rw [h1]; exact e)
    · have := h.o2.lt g e.symm
      omega
theorem TwI.push2 {W W' : World} {base g cap : Nat} {v u : Value} {L M : List Int} (h : TwI W base v u L M) (x : Int) (ho : W'.ownsRow base 3 1 (.slice (some ⟨g, 0, none⟩) (M.length + 1) cap) (M.length + 1) (M.map (Value.int .i64) ++ [.int .i64 x])) (hg : W.grownBy W' u.ownBlock) (hat : u.ownBlock = some g ∨ W.heap.size < g) :
    TwI W' base v (.slice (some ⟨g, 0, none⟩) (M.length + 1) cap) L (M ++ [x]) := by
  refine ⟨h.o1.kept hg ?_, by rw [List.length_append, List.map_append]; exact ho, ?_⟩
  · cases hv : v.ownBlock with
    | none => exact .inl rfl
    | some k =>
      right
      rcases h.ap with e | e
      · rw [e] at hv; cases hv
      · rw [← hv]; exact e
  · cases hv : v.ownBlock with
    | none => exact .inl rfl
    | some k =>
      right
      intro e
      have e3 : k = g := by cases e; rfl
      rcases hat with h1 | h1
      · rcases h.ap with e2 | e2
        · rw [e2] at hv; cases hv
        · exact e2 (by rw [hv, h1, e3])
      · have := h.o1.lt k hv
        omega
theorem TwI.below {W W' : World} {base : Nat} {v u : Value} {L M : List Int} (h : TwI W base v u L M) (hb : Below W.heap.size W W') : TwI W' base v u L M := ⟨own_belowX h.o1 hb, own_belowX h.o2 hb, h.ap⟩
theorem TwI.rd1 {W : World} {base : Nat} {v u : Value} {L M : List Int} (h : TwI W base v u L M) : RdI W v L := Rd.of_own (enc := Value.int .i64) h.o1
theorem TwI.rd2 {W : World} {base : Nat} {v u : Value} {L M : List Int} (h : TwI W base v u L M) : RdI W u M := Rd.of_own (enc := Value.int .i64) h.o2
end Go.Proofs.Ytalpgilncohkbaa
