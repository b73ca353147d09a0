/-
  P43.2: the walk of LemmaFound.
-/
import Derived.Test.YtmbehkanhefcpaaGreatDoorFind
import Derived.Test.YtmbehkanhefcpaaGreatDoorLOnly
import Derived.Deep.RegionHeld3
import Derived.StillTailTactics
namespace Go.Proofs.YtmbehkanhefcpaaGreatDoor
open Go.RowKit

theorem wrap_small {x : Nat} (h : x ≤ 1000) : wrap64 ((x : Int) + 1) = (x : Int) + 1 := by unfold wrap64; omega
theorem found_plain {oc : List (Nat × Nat)} (hs : oc.Pairwise pLt) {p : Nat × Nat} (hp : p ∈ oc) (hb : p.2 ≤ 1000) : findE oc (ofNum oc p) = 0 ∧ findF oc (ofNum oc p) = p.1 ∧ findT oc (ofNum oc p) = (p.2 : Int) + 1 := by
  obtain ⟨j, hj⟩ := List.getElem?_of_mem hp
  have hlt := (List.getElem?_eq_some_iff.1 hj).1
  by_cases h1 : oc.length = 1
  · have hn : ofNum oc p = 0 := by unfold ofNum; rw [if_pos h1]
    have hE : findE oc 0 = 0 := by
      unfold findE endE
      rw [if_neg (by omega), if_neg (by omega), if_neg (by omega)]
    have h0 : j = 0 := by omega
    subst h0
    rw [hn]
    refine ⟨hE, ?_, ?_⟩
    · unfold findF; rw [if_pos hE]; unfold fOf; rw [show max 0 1 - 1 = 0 by rfl, hj]
    · unfold findT; rw [if_pos hE]; unfold tOf; rw [show max 0 1 - 1 = 0 by rfl, hj]; exact wrap_small hb
  · have hn : ofNum oc p = j + 1 := by unfold ofNum; rw [if_neg h1]; exact numP_at hs hj
    have hE : findE oc (j + 1) = 0 := by
      unfold findE endE
      rw [if_neg (by omega), if_neg (by omega), if_neg (by omega)]
    rw [hn]
    refine ⟨hE, ?_, ?_⟩
    · unfold findF; rw [if_pos hE]; unfold fOf; rw [show max (j + 1) 1 - 1 = j by omega, hj]
    · unfold findT; rw [if_pos hE]; unfold tOf; rw [show max (j + 1) 1 - 1 = j by omega, hj]; exact wrap_small hb
theorem found_lem {ws : List ByteArray} (hw : ∀ s ∈ ws, wordB s = true) {a b : Nat} (h1 : a < b) (h2 : b ≤ ws.length) {n : Nat} (hn : n ≤ 65536) : lemCk (ws.getD a ⟨#[]⟩) (lastW ws a b) n = 0 := by
  have e1 : ws[a]? = some (ws.getD a ⟨#[]⟩) := by rw [List.getD_eq_getElem?_getD, List.getElem?_eq_getElem (by omega)]; rfl
  have e2 : ws[b - 1]? = some (ws.getD (b - 1) ⟨#[]⟩) := by rw [List.getD_eq_getElem?_getD, List.getElem?_eq_getElem (by omega)]; rfl
  have g1 := hw _ (List.mem_of_getElem? e1)
  have g2 := hw _ (List.mem_of_getElem? e2)
  unfold lemCk
  rw [g1]
  have : (decide ((lastW ws a b).size ≠ 0) && !wordB (lastW ws a b)) = false := by
    unfold lastW
    by_cases h : b - a = 1
    · rw [if_pos h]; rfl
    · rw [if_neg h, g2]; simp
  rw [this, if_neg (by simp), if_neg (by omega)]

end Go.Proofs.YtmbehkanhefcpaaGreatDoor
