/-
  Plain: the words that the reference's window finds.
-/
import Derived.Test.YtjhdeoniafahbaaGreatDoorR45b
import Derived.Test.YtjhdeoniafahbaaGreatDoorJ09
namespace Go.Proofs.YtjhdeoniafahbaaGreatDoor
open Go.RowKit

theorem winF_run (a b : Int) : ∀ (l : List Int) (w : List ByteArray), l.Pairwise (· ≤ ·) → (∀ x ∈ l, a ≤ x) → winF l w a b = w.take (l.takeWhile (inB a b)).length
  | [], w, _, _ => by simp [winF]
  | x :: l, [], _, _ => by simp [winF]
  | x :: l, y :: w, hp, ha => by
    rw [List.pairwise_cons] at hp
    have ih := winF_run a b l w hp.2 (fun z hz => ha z (by simp [hz]))
    have hax := ha x (by simp)
    by_cases hb : x ≤ b
    · have h1 : inB a b x = true := by unfold inB; rw [decide_eq_true hax, decide_eq_true hb]; rfl
      rw [List.takeWhile_cons, if_pos h1, List.length_cons, List.take_succ_cons, ← ih]
      unfold winF
      rw [List.zip_cons_cons, List.filter_cons, if_pos h1, List.map_cons]
    · have h1 : inB a b x = false := by unfold inB; rw [decide_eq_false hb]; simp
      rw [List.takeWhile_cons, if_neg (by rw [h1]; simp), List.length_nil, List.take_zero]
      unfold winF
      rw [List.map_eq_nil_iff, List.filter_eq_nil_iff]
      intro p hpm
      have hm := (List.of_mem_zip (a := p.1) (b := p.2) hpm).1
      rw [List.mem_cons] at hm
      have : x ≤ p.1 := by
        rcases hm with h | h
        · omega
        · exact hp.1 _ h
      unfold inB
      rw [decide_eq_false (show ¬ p.1 ≤ b by omega)]
      simp
theorem winF_skip (a b : Int) : ∀ (k : Nat) (l : List Int) (w : List ByteArray), (∀ j x, j < k → l[j]? = some x → inB a b x = false) → winF l w a b = winF (l.drop k) (w.drop k) a b
  | 0, l, w, _ => by simp
  | k + 1, [], w, _ => by simp [winF]
  | k + 1, x :: l, [], _ => by simp [winF]
  | k + 1, x :: l, y :: w, h => by
    have h0 := h 0 x (by omega) (by simp)
    have ih := winF_skip a b k l w (fun j z hj hz => h (j + 1) z (by omega) (by simpa using hz))
    rw [List.drop_succ_cons, List.drop_succ_cons, ← ih]
    unfold winF
    rw [List.zip_cons_cons, List.filter_cons, if_neg (by rw [h0]; simp)]
theorem winF_eq {ls la : List Int} {ws : List ByteArray} (h : listsI ls la ws.length = 0) (a b : Int) : winF ls ws a b = wWs ls ws a b := by
  obtain ⟨h1, h2, h3⟩ := lists_len h
  obtain ⟨_, g2, g3⟩ := lnGo_ok ls la none h3 (by omega)
  have hm := ln_mono (ls := ls) (la := la) (by omega) g2 g3
  unfold wWs wEnd wFst
  rcases fIdx_cases (inB a b) ls with he | ⟨k, x, he, hx, hlt, hb⟩
  · rw [he, if_pos (by omega)]
    have hn : ls.any (inB a b) = false := by
      have := fIdx_pos (inB a b) ls
      rw [he] at this
      rw [← this]; decide
    unfold winF
    rw [List.map_eq_nil_iff, List.filter_eq_nil_iff]
    intro p hpm
    have hm := (List.of_mem_zip (a := p.1) (b := p.2) hpm).1
    have := List.any_eq_false.1 hn _ hm
    simpa using this
  · rw [he, if_neg (by omega), Int.toNat_natCast]
    have hsk : ∀ j z, j < k → ls[j]? = some z → inB a b z = false := fun j z hj hz => fIdx_first he j z hj hz
    rw [winF_skip a b k ls ws hsk]
    have hax : a ≤ x := by
      unfold inB at hb
      simp only [Bool.and_eq_true, decide_eq_true_eq] at hb
      exact hb.1
    have hsorted : (ls.drop k).Pairwise (· ≤ ·) := by
      rw [List.pairwise_iff_getElem]
      intro i j hi hj hij
      have e1 : ls[k + i]? = some (ls.drop k)[i] := by rw [← List.getElem?_drop]; exact List.getElem?_eq_getElem hi
      have e2 : ls[k + i + (j - i)]? = some (ls.drop k)[j] := by rw [show k + i + (j - i) = k + j by omega, ← List.getElem?_drop]; exact List.getElem?_eq_getElem hj
      exact hm (j - i) (k + i) _ _ e1 e2
    rw [winF_run a b _ _ hsorted, List.drop_take, show k + ((ls.drop k).takeWhile (inB a b)).length - k = ((ls.drop k).takeWhile (inB a b)).length by omega]
    intro y hy
    obtain ⟨i, hi⟩ := List.getElem?_of_mem hy
    rw [List.getElem?_drop] at hi
    have := hm i k x y hx hi
    omega
end Go.Proofs.YtjhdeoniafahbaaGreatDoor
