/-
  The reference of layer 42: check, Groups, better.
-/
import Derived.Test.YtigaflmhdbgmdaaDoorPlG
import Derived.Test.YtigaflmhdbgmdaaDoorRefD
namespace Go.Proofs.YtigaflmhdbgmdaaDoor
open Go.RowKit

/-- The first k groups within a set, as the reference finds them. -/
theorem withinTo_sub {names : List ByteArray} {gs : List Grp} {set : List Int} (h0 : startI names gs set = 0) (k : Nat) (g : Grp) (h : gs[k]? = some g) :
    withinTo gs (maskN set) (k + 1) = withinTo gs (maskN set) k ++ if subB g.mem set = true then [(k : Int)] else [] := by
  rw [withinTo_succ _ _ _ g h, inside_eq h0 (List.mem_of_getElem? h)]
  have e : (!(g.mem.any fun n => !(set.any fun y => decide (n = y)))) = subB g.mem set := by
    unfold subB
    rw [Bool.eq_iff_iff, Bool.not_eq_true', List.any_eq_false, List.all_eq_true]
    refine forall_congr' fun x => forall_congr' fun _ => ?_
    have : (set.any fun y => decide (x = y)) = (set.any fun y => decide (y = x)) := by congr 1; funext y; rw [decide_eq_decide]; exact eq_comm
    rw [this]; simp
  rw [e]

theorem betterB_drop (l m : List Int) (hl : l.length = m.length) : betterB l m = decide (lexI l m < 0) := by
  unfold betterB
  simp [hl]
theorem lexI_step (l m : List Int) (k : Nat) (x y : Int) (hx : l[k]? = some x) (hy : m[k]? = some y) : decide (lexI (l.drop k) (m.drop k) < 0) = if x = y then decide (lexI (l.drop (k + 1)) (m.drop (k + 1)) < 0) else decide (x < y) := by
  rw [lexI_drop l m k x y hx hy]
  by_cases e : x = y
  · subst e
    simp [cmpI]
  · rw [if_neg e]
    by_cases h : x < y
    · simp [cmpI, h]
    · simp [cmpI, h]
      omega

end Go.Proofs.YtigaflmhdbgmdaaDoor
