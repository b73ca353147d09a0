/-
  strings.Split at a space, strings.Join with a space, as contracts over lists.
-/
import Derived.Test.YtajhkfmhoihjfaaDoorSplit
import Derived.Test.YtajhkfmhoihjfaaDoorShelf
import Derived.Test.YtajhkfmhoihjfaaDoorCut
namespace Go.Proofs.YtajhkfmhoihjfaaDoor
open Go.RowKit Go.Shelf

theorem split_any (s : ByteArray) (m : Int) (w : World) (hs : s.size < 4294967281) (hm : w.cell? ⟨0, 0, none⟩ = some (.int .i64 m)) :
    Calls Tryd.prog 24 #[.string s, .string ⟨#[32]⟩] w fun e w' => ∃ v, e = .returned v ∧ RdS w' v (splitS s) ∧ Below w.heap.size w w' := by
  refine (Go.Proofs.Any.strings_Split { Tryd.laysM146 with } Tryd.laysM146.i9 s ⟨#[32]⟩ m w hs hm (by decide)).mono ?_
  rintro e w' ⟨rfl, rfl⟩
  refine ⟨_, rfl, ?_, below_al _ _⟩
  refine ⟨some ⟨w.heap.size, 0, none⟩, (splitS s).length, by rw [splitS_count], Nat.le_refl _, ?_, fun i x hx => ⟨w.heap.size, 0, rfl, ?_⟩⟩
  · have := splitS_len s; unfold maxLen; omega
  · rw [Nat.zero_add]
    refine cell_nw w _ _ i ?_
    simp only [List.getElem?_toArray, List.getElem?_map]
    rw [show Lib.splitB ⟨#[32]⟩ 0 (Lib.countB s ⟨#[32]⟩) s = splitS s from rfl, hx]; rfl

/-- strings.Join with a space, of a list as it is read. -/
theorem join_any (v : Value) (l : List ByteArray) (w : World) (hr : RdS w v l) (hlen : l.length ≤ 140737488355328) (hj : (Lib.join (l.map (·.data.toList)) [32]).length ≤ 140737488355328) :
    Calls Tryd.prog 25 #[v, .string ⟨#[32]⟩] w fun e w' => e = .returned (.string (joinB l)) ∧ Below w.heap.size w w' := by
  obtain ⟨a, cap, rfl, hlc, hcm, hcell⟩ := hr.open
  by_cases h0 : l = []
  · subst h0
    refine (Tryd.strings_Join_none a cap (ByteArray.mk #[32]) w).mono ?_
    rintro e w' ⟨rfl, rfl⟩
    exact ⟨rfl, Below.refl _ _⟩
  · obtain ⟨x, b, off, hx, rfl, hc0⟩ := hcell 0 (by cases l with | nil => exact absurd rfl h0 | cons _ _ => simp)
    refine (Tryd.strings_Join b off cap l (ByteArray.mk #[32]) w (fun j y hy => by
          obtain ⟨x, b', off', hx', e, hc⟩ := hcell j (List.getElem?_eq_some_iff.1 hy).1
          cases e
          rw [hy] at hx'; cases hx'
          exact hc) (World.block_lt_of_cell? _ _ hc0) (by omega) hlc hj).mono ?_
    rintro e w' ⟨rfl, hB⟩
    exact ⟨rfl, hB⟩
end Go.Proofs.YtajhkfmhoihjfaaDoor
