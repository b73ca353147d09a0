/-
  A slice of slices of numbers.
-/
import Derived.Test.YtlneimjenjpbnaaLib
import Derived.Test.YtlneimjenjpbnaaRws
namespace Go.Proofs.Ytlneimjenjpbnaa
open Go.RowKit

/-- The slice value v reads as a matrix. -/
def RdM (W : World) (v : Value) (M : List (List Int)) : Prop :=
  ∃ a cap, v = .slice a M.length cap ∧ M.length ≤ cap ∧ cap ≤ maxLen ∧ ∀ i row, M[i]? = some row → ∃ b off u, a = some ⟨b, off, none⟩ ∧ W.cell? ⟨b, off + i, none⟩ = some u ∧ RdI W u row
theorem RdM.below {W W' : World} {v : Value} {M : List (List Int)} (h : RdM W v M) (hb : Below W.heap.size W W') : RdM W' v M := by
  obtain ⟨a, cap, h1, h2, h3, h4⟩ := h
  refine ⟨a, cap, h1, h2, h3, fun i row hi => ?_⟩
  obtain ⟨b, off, u, e, hc, hr⟩ := h4 i row hi
  exact ⟨b, off, u, e, Below.keeps hb _ _ hc, hr.below hb⟩
theorem RdM.nil (W : World) : RdM W (.slice none 0 0) [] := ⟨none, 0, rfl, Nat.le_refl _, by unfold maxLen; omega, fun i x h => by simp at h⟩
theorem RdM.open {W : World} {v : Value} {M : List (List Int)} (h : RdM W v M) : ∃ a cap, v = .slice a M.length cap ∧ M.length ≤ cap ∧ cap ≤ 9223372036854775807 ∧ ∀ i, i < M.length → ∃ row b off u, M[i]? = some row ∧ a = some ⟨b, off, none⟩ ∧ W.cell? ⟨b, off + i, none⟩ = some u ∧ RdI W u row := by
  obtain ⟨a, cap, h1, h2, h3, h4⟩ := h
  refine ⟨a, cap, h1, h2, h3, fun i hi => ?_⟩
  obtain ⟨b, off, u, e, hc, hr⟩ := h4 i M[i] (by simp [hi])
  exact ⟨M[i], b, off, u, by simp [hi], e, hc, hr⟩

/-- Block G holds the rows' slices, the blocks rs the rows, all made from block base on. -/
structure MatR (W : World) (base G B : Nat) (rs : List Nat) (M : List (List Int)) : Prop where
  len : rs.length = M.length
  nodup : rs.Nodup
  hG : base ≤ G
  hr : ∀ r ∈ rs, base ≤ r ∧ r ≠ G
  outer : ∃ cur, W.heap[G]? = some (.cells cur 22 (0, 0)) ∧ ∀ (i r : Nat), rs[i]? = some r → cur[i]? = some (Value.slice (some ⟨r, 0, none⟩) B B)
  inner : ∀ (i r : Nat) (row : List Int), rs[i]? = some r → M[i]? = some row → row.length = B ∧ W.heap[r]? = some (.cells (row.map (Value.int .i64)).toArray 3 (0, 0))
theorem MatR.Glt {W : World} {base G B : Nat} {rs : List Nat} {M : List (List Int)} (h : MatR W base G B rs M) : G < W.heap.size := by
  obtain ⟨cur, h1, _⟩ := h.outer
  exact (Array.getElem?_eq_some_iff.1 h1).1
theorem MatR.rlt {W : World} {base G B : Nat} {rs : List Nat} {M : List (List Int)} (h : MatR W base G B rs M) : ∀ r ∈ rs, r < W.heap.size := by
  intro r hr
  obtain ⟨i, hi, rfl⟩ := List.getElem_of_mem hr
  obtain ⟨row, hrow⟩ : ∃ row, M[i]? = some row := ⟨M[i]'(by rw [← h.len]; exact hi), List.getElem?_eq_getElem _⟩
  exact (Array.getElem?_eq_some_iff.1 (h.inner i _ row (List.getElem?_eq_getElem hi) hrow).2).1
theorem MatR.below {W W' : World} {base G B : Nat} {rs : List Nat} {M : List (List Int)} (h : MatR W base G B rs M) (hb : Below W.heap.size W W') : MatR W' base G B rs M := by
  refine ⟨h.len, h.nodup, h.hG, h.hr, ?_, fun i r row hi hrow => ?_⟩
  · obtain ⟨cur, h1, h2⟩ := h.outer
    exact ⟨cur, (hb.block G h.Glt).trans h1, h2⟩
  · have h1 := h.inner i r row hi hrow
    exact ⟨h1.1, (hb.block r (h.rlt r (List.mem_of_getElem? hi))).trans h1.2⟩
theorem MatR.rowCell {W : World} {base G B : Nat} {rs : List Nat} {M : List (List Int)} (h : MatR W base G B rs M) {i : Nat} {row : List Int} (hi : M[i]? = some row) : ∃ r, rs[i]? = some r ∧ W.cell? ⟨G, i, none⟩ = some (.slice (some ⟨r, 0, none⟩) B B) ∧ (∀ (j : Nat) (n : Int), row[j]? = some n → W.cell? ⟨r, j, none⟩ = some (.int .i64 n)) ∧ (∀ j : Nat, W.frozen? ⟨r, j, none⟩ = false) ∧ row.length = B ∧ base ≤ r := by
  have hlt : i < rs.length := by rw [h.len]; exact (List.getElem?_eq_some_iff.1 hi).1
  obtain ⟨cur, h1, h2⟩ := h.outer
  have hr : rs[i]? = some rs[i] := List.getElem?_eq_getElem hlt
  have h3 := h.inner i _ row hr hi
  refine ⟨rs[i], hr, ?_, fun j n hj => ?_, fun j => ?_, h3.1, (h.hr _ (List.getElem_mem hlt)).1⟩
  · rw [cell_of_row W G i cur _ _ h1]; exact h2 i _ hr
  · rw [cell_of_row W _ j _ _ _ h3.2]
    simp [hj]
  · unfold World.frozen?
    rw [h3.2]; simp
/-- A number of the matrix is written. -/
theorem MatR.set {W : World} {base G B : Nat} {rs : List Nat} {M : List (List Int)} (h : MatR W base G B rs M) {i r j : Nat} {row : List Int} (hr : rs[i]? = some r) (hi : M[i]? = some row) (n : Int) : MatR (W.setCell ⟨r, j, none⟩ (.int .i64 n)) base G B rs (M.set i (row.set j n)) := by
  have hrm := h.hr r (List.mem_of_getElem? hr)
  refine ⟨by rw [List.length_set]; exact h.len, h.nodup, h.hG, h.hr, ?_, fun k q row' hk hrow => ?_⟩
  · obtain ⟨cur, h1, h2⟩ := h.outer
    exact ⟨cur, (Below.heap_setCell _ _ _ _ (by simpa using hrm.2.symm)).trans h1, h2⟩
  · have h0 := h.inner i r row hr hi
    rw [List.getElem?_set] at hrow
    by_cases e : i = k
    · subst e
      rw [hr] at hk
      cases hk
      rw [if_pos rfl] at hrow
      split at hrow
      · cases hrow
        refine ⟨by rw [List.length_set]; exact h0.1, ?_⟩
        rw [Go.heap_setCell_same W r j _ _ _ h0.2]
        congr 2
        rw [List.map_set]
        simp
      · cases hrow
    · rw [if_neg e] at hrow
      have h1 := h.inner k q row' hk hrow
      have hne : q ≠ r := fun e2 => by
        subst e2
        obtain ⟨k1, k2⟩ := List.getElem?_eq_some_iff.1 hr
        obtain ⟨k3, k4⟩ := List.getElem?_eq_some_iff.1 hk
        rcases Nat.lt_or_gt_of_ne e with h5 | h5
        · exact List.pairwise_iff_getElem.1 h.nodup i k k1 k3 h5 (k2.trans k4.symm)
        · exact List.pairwise_iff_getElem.1 h.nodup k i k3 k1 h5 (k4.trans k2.symm)
      exact ⟨h1.1, (Below.heap_setCell _ _ _ _ (by simpa using hne)).trans h1.2⟩
/-- A row is put behind the others. -/
theorem MatR.rd {W : World} {base G B : Nat} {rs : List Nat} {M : List (List Int)} (h : MatR W base G B rs M) {cap : Nat} (hc : M.length ≤ cap) (hm : cap ≤ maxLen) (hB : B ≤ maxLen) : RdM W (.slice (some ⟨G, 0, none⟩) M.length cap) M := by
  refine ⟨some ⟨G, 0, none⟩, cap, rfl, hc, hm, fun i row hi => ?_⟩
  obtain ⟨r, h1, h2, h3, _, h5, _⟩ := h.rowCell hi
  refine ⟨G, 0, _, rfl, by rw [Nat.zero_add]; exact h2, some ⟨r, 0, none⟩, B, by rw [h5], by rw [h5]; exact Nat.le_refl _, hB, fun j n hj => ⟨r, 0, rfl, by rw [Nat.zero_add]; exact h3 j n hj⟩⟩
theorem own_full {W : World} {base : Nat} {e : TypeId} {g n : Nat} {xs : List Value} (h : W.ownsRow base e 1 (.slice (some ⟨g, 0, none⟩) n n) n xs) : W.heap[g]? = some (.cells xs.toArray e (0, 0)) ∧ base ≤ g := by
  rcases h.2 with ⟨h1, _⟩ | ⟨g', cap, cur, h1, hb, hh, hc, hm, hs, ht⟩
  · cases h1
  · simp only [Value.slice.injEq, Option.some.injEq, Addr.mk.injEq, and_true, true_and] at h1
    obtain ⟨rfl, rfl⟩ := h1
    refine ⟨?_, hb⟩
    rw [hh, ← ht, List.take_of_length_le (by rw [Array.length_toList, hs]; exact Nat.le_refl _)]
theorem madeZero (n : Nat) : (madeCells #[Value.int .i64 0] (n * 1)).toList = (List.replicate n (0 : Int)).map (Value.int .i64) := by
  rw [Nat.mul_one, toList_madeCells_one, List.map_replicate]
end Go.Proofs.Ytlneimjenjpbnaa
