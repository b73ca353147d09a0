/-
  The order of notes: each once, sorted.
-/
import Derived.Test.YtajhkfmhoihjfaaDoorOrd
namespace Go.Proofs.YtajhkfmhoihjfaaDoor
open Go.RowKit

/-- j stands ahead of k: by the first list, by the second, by the places. -/
def KeyL (l1 l2 : List Int) (j k : Nat) : Prop := l1.getD j 0 < l1.getD k 0 ∨ (l1.getD j 0 = l1.getD k 0 ∧ (l2.getD j 0 < l2.getD k 0 ∨ (l2.getD j 0 = l2.getD k 0 ∧ j < k)))
theorem KeyL.trans {l1 l2 : List Int} {i j k : Nat} (h : KeyL l1 l2 i j) (h2 : KeyL l1 l2 j k) : KeyL l1 l2 i k := by
  unfold KeyL at *
  omega
theorem ltN_iff (l1 l2 : List Int) (i k : Nat) : ltN l1 l2 i k = true ↔ (l1.getD i 0 < l1.getD k 0 ∨ (l1.getD i 0 = l1.getD k 0 ∧ l2.getD i 0 < l2.getD k 0)) := by
  unfold ltN cmp2
  rw [decide_eq_true_eq]
  unfold cmpI
  repeat' split
  all_goals omega
theorem takeWhile_dropWhile {α : Type} (p : α → Bool) (l : List α) : l = (l.reverse.dropWhile p).reverse ++ (l.reverse.takeWhile p).reverse := by
  rw [← List.reverse_append, List.takeWhile_append_dropWhile, List.reverse_reverse]
theorem insR_sorted {l1 l2 : List Int} {S : List Nat} {x : Nat} (h : S.Pairwise (KeyL l1 l2)) (hx : ∀ y ∈ S, y < x) : (insR (ltN l1 l2) S x).Pairwise (KeyL l1 l2) := by
  have e := takeWhile_dropWhile (ltN l1 l2 x) S
  have hB : ∀ y ∈ (S.reverse.takeWhile (ltN l1 l2 x)).reverse, ltN l1 l2 x y = true := fun y hy => by
    have := List.mem_reverse.1 hy
    exact List.all_eq_true.1 (List.all_takeWhile (p := ltN l1 l2 x) (l := S.reverse)) y this
  have hA : ∀ y, (S.reverse.dropWhile (ltN l1 l2 x)).head? = some y → ltN l1 l2 x y = false := fun y hy => by
    have := List.head?_dropWhile_not (ltN l1 l2 x) S.reverse
    rw [hy] at this
    simpa using this
  unfold insR
  have hA' : ∀ y, ((S.reverse.dropWhile (ltN l1 l2 x)).reverse).getLast? = some y → ltN l1 l2 x y = false := fun y hy => hA y (by rw [List.getLast?_reverse] at hy; exact hy)
  generalize (S.reverse.dropWhile (ltN l1 l2 x)).reverse = A at *
  generalize (S.reverse.takeWhile (ltN l1 l2 x)).reverse = B at *
  subst e
  rw [List.pairwise_append] at h
  obtain ⟨h1, h2, h3⟩ := h
  have hxB : ∀ y ∈ B, KeyL l1 l2 x y := fun y hy => by
    have := (ltN_iff l1 l2 x y).1 (hB y hy)
    unfold KeyL; omega
  have hAx : ∀ y ∈ A, KeyL l1 l2 y x := fun y hy => by
    rcases getLast?_cases A with rfl | ⟨A', z, rfl⟩
    · cases hy
    · have hz := hA' z (by simp)
      have hzx : KeyL l1 l2 z x := by
        have h4 : ¬ (l1.getD x 0 < l1.getD z 0 ∨ (l1.getD x 0 = l1.getD z 0 ∧ l2.getD x 0 < l2.getD z 0)) := fun h => by
          rw [← ltN_iff, hz] at h; cases h
        have h5 := hx z (by simp)
        unfold KeyL; omega
      rcases List.mem_append.1 hy with h6 | h6
      · exact ((List.pairwise_append.1 h1).2.2 y h6 z (by simp)).trans hzx
      · have : y = z := by simpa using h6
        subst this; exact hzx
  rw [List.pairwise_append]
  refine ⟨h1, List.pairwise_cons.2 ⟨hxB, h2⟩, fun a ha b hb => ?_⟩
  rcases List.mem_cons.1 hb with rfl | hb
  · exact hAx a ha
  · exact h3 a ha b hb
theorem srt_sorted (l1 l2 : List Int) : ∀ n, (srtL (ltN l1 l2) (List.range n)).Pairwise (KeyL l1 l2)
  | 0 => by simp [srtL]
  | n + 1 => by
    rw [List.range_succ, srtL_snoc]
    exact insR_sorted (srt_sorted l1 l2 n) fun y hy => List.mem_range.1 ((srtL_perm _ _).mem_iff.1 hy)

/-- What is known of the order. -/
structure OrdOk (l1 l2 : List Int) (L : List Nat) : Prop where
  len : L.length = l1.length
  lt : ∀ (i k : Nat), L[i]? = some k → k < l1.length
  new : ∀ (i k : Nat), L[i]? = some k → k ∉ L.take i
  key : ∀ (i j k : Nat), L[i]? = some j → L[i + 1]? = some k → KeyL l2 l1 j k
theorem ord_ok {l1 l2 : List Int} (h : l1.length = l2.length) : OrdOk l1 l2 (ordL l1 l2) := by
  unfold ordL
  rw [if_pos h]
  have hp := srtL_perm (ltN l2 l1) (List.range l1.length)
  have hs := srt_sorted l2 l1 l1.length
  have hn : (srtL (ltN l2 l1) (List.range l1.length)).Nodup := hp.nodup_iff.2 List.nodup_range
  generalize srtL (ltN l2 l1) (List.range l1.length) = L at *
  refine ⟨by rw [hp.length_eq, List.length_range], fun i k hk => List.mem_range.1 (hp.mem_iff.1 (List.mem_of_getElem? hk)), fun i k hk hm => ?_, fun i j k hj hk => ?_⟩
  · obtain ⟨hi, he⟩ := List.getElem?_eq_some_iff.1 hk
    obtain ⟨q, hq, hqe⟩ := List.mem_take_iff_getElem.1 hm
    have hlt : q < i := by omega
    exact List.pairwise_iff_getElem.1 hn q i (by omega) hi hlt (by rw [hqe, he])
  · obtain ⟨hi, he⟩ := List.getElem?_eq_some_iff.1 hj
    obtain ⟨hi2, he2⟩ := List.getElem?_eq_some_iff.1 hk
    have := List.pairwise_iff_getElem.1 hs i (i + 1) hi hi2 (by omega)
    rw [he, he2] at this
    exact this
end Go.Proofs.YtajhkfmhoihjfaaDoor
