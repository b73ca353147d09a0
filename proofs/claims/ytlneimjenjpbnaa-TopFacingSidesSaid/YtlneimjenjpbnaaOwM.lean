/-
  A slice of slices of numbers whose rows the call grows.
-/
import Derived.Test.YtlneimjenjpbnaaMat0
import Derived.Test.YtlneimjenjpbnaaAp
namespace Go.Proofs.Ytlneimjenjpbnaa
open Go.RowKit

theorem own_setX {W : World} {base : Nat} {e : TypeId} {s n : Nat} {v : Value} {xs : List Value} (h : W.ownsRow base e s v n xs) (p : Addr) (u : Value) (hp : v.ownBlock ≠ some p.block) : (W.setCell p u).ownsRow base e s v n xs := by
  have hg : W.grownBy (W.setCell p u) (some p.block) := ⟨rfl, rfl, rfl, by simp [World.setCell], fun k _ hk => Below.heap_setCell W p u k (fun e => hk (by rw [e]))⟩
  exact h.kept hg (by cases hv : v.ownBlock with
    | none => exact .inl rfl
    | some k => right; rw [hv] at hp; exact hp)
theorem row_own_neX {W : World} {k base size n : Nat} {cs : Array Value} {t e : TypeId} {v : Value} {xs : List Value} (h : Row W k cs t) (ho : W.ownsRow base e size v n xs) (hte : t ≠ e) : v.ownBlock ≠ some k := by
  intro hv
  rcases ho.2 with ⟨rfl, _⟩ | ⟨g, cap, cur, rfl, _, hg, _⟩
  · cases hv
  · cases hv
    have h1 : W.heap[g]? = _ := h
    rw [hg] at h1
    cases h1
    exact hte rfl
/-- Block G holds the slices vs, each of which owns its row of M, made from block base on. -/
structure OwM (W : World) (base G : Nat) (vs : List Value) (M : List (List Int)) : Prop where
  outer : Row W G vs.toArray 22
  len : vs.length = M.length
  rows : ∀ (i : Nat) (v : Value) (row : List Int), vs[i]? = some v → M[i]? = some row → W.ownsRow base 3 1 v row.length (row.map (Value.int .i64))
  apart : ∀ (i j : Nat) (v u : Value), i ≠ j → vs[i]? = some v → vs[j]? = some u → v.ownBlock = none ∨ v.ownBlock ≠ u.ownBlock
theorem own_lt {W : World} {base : Nat} {e : TypeId} {s n : Nat} {v : Value} {xs : List Value} (h : W.ownsRow base e s v n xs) {k : Nat} (hk : v.ownBlock = some k) : base ≤ k ∧ k < W.heap.size := h.lt k hk
theorem own_belowX {W W' : World} {base : Nat} {e : TypeId} {size : Nat} {v : Value} {n : Nat} {xs : List Value} (h : W.ownsRow base e size v n xs) (hb : Below W.heap.size W W') : W'.ownsRow base e size v n xs :=
  h.kept (row := none) ⟨hb.os, hb.tape, hb.output, hb.size, fun k hk _ => hb.block k hk⟩ (by cases v.ownBlock <;> simp)
theorem OwM.below {W W' : World} {base G : Nat} {vs : List Value} {M : List (List Int)} (h : OwM W base G vs M) (hb : Below W.heap.size W W') : OwM W' base G vs M :=
  ⟨h.outer.below hb, h.len, fun i v row hv hr => own_belowX (h.rows i v row hv hr) hb, h.apart⟩
/-- A row of another slice grows. -/
theorem OwM.grown {W W' : World} {base G : Nat} {vs : List Value} {M : List (List Int)} (h : OwM W base G vs M) {r : Option Nat} (hg : W.grownBy W' r) (hG : r ≠ some G) (hr : ∀ (i : Nat) (v : Value), vs[i]? = some v → v.ownBlock = none ∨ v.ownBlock ≠ r) : OwM W' base G vs M :=
  ⟨(hg.block G h.outer.lt (fun e => hG e.symm)).trans h.outer, h.len, fun i v row hv hrow => (h.rows i v row hv hrow).kept hg (hr i v hv), h.apart⟩
/-- A row is grown, or made anew, and its slice is stored. -/
theorem OwM.put {W W' : World} {base G i g n cap : Nat} {vs : List Value} {M : List (List Int)} {v : Value} {row row' : List Int} (h : OwM W base G vs M) (hv : vs[i]? = some v) (_hrow : M[i]? = some row) {r : Option Nat} (hg : W.grownBy W' r) (hr : r = none ∨ r = v.ownBlock)
    (ho : W'.ownsRow base 3 1 (.slice (some ⟨g, 0, none⟩) n cap) row'.length (row'.map (Value.int .i64))) (hat : v.ownBlock = some g ∨ W.heap.size ≤ g) :
    OwM (W'.setCell ⟨G, i, none⟩ (.slice (some ⟨g, 0, none⟩) n cap)) base G (vs.set i (.slice (some ⟨g, 0, none⟩) n cap)) (M.set i row') := by
  have hne : ∀ (j : Nat) (u : Value), vs[j]? = some u → u.ownBlock ≠ some G := fun j u hu => by
    have hj : j < M.length := by rw [← h.len]; exact (List.getElem?_eq_some_iff.1 hu).1
    exact row_own_neX h.outer (h.rows j u _ hu (List.getElem?_eq_getElem hj)) (by decide)
  have hrG : r ≠ some G := by
    rcases hr with rfl | rfl
    · simp
    · exact hne i v hv
  have hout : Row W' G vs.toArray 22 := (hg.block G h.outer.lt (fun e => hrG e.symm)).trans h.outer
  have hgG : g ≠ G := fun e => row_own_neX hout ho (by decide) (by rw [e]; rfl)
  have key : ∀ (j : Nat) (u : Value), j ≠ i → vs[j]? = some u → u.ownBlock = none ∨ u.ownBlock ≠ some g := fun j u hj hu => by
    rcases hat with ha | ha
    · rcases h.apart j i u v hj hu hv with h1 | h1
      · exact .inl h1
      · exact .inr (by rw [← ha]; exact h1)
    · cases hb : u.ownBlock with
      | none => exact .inl rfl
      | some k =>
        right
        intro e
        have hjl : j < M.length := by rw [← h.len]; exact (List.getElem?_eq_some_iff.1 hu).1
        have := (own_lt (h.rows j u _ hu (List.getElem?_eq_getElem hjl)) hb).2
        cases e
        omega
  refine ⟨?_, by rw [List.length_set, List.length_set]; exact h.len, fun j u rw' hu hrow' => ?_, fun j k u u' hjk hu hu' => ?_⟩
  · have h1 := hout.set i (.slice (some ⟨g, 0, none⟩) n cap)
    rw [show vs.toArray.setIfInBounds i (Value.slice (some ⟨g, 0, none⟩) n cap) = (vs.set i (.slice (some ⟨g, 0, none⟩) n cap)).toArray by simp] at h1
    exact h1
  · by_cases hji : i = j
    · subst hji
      have hil := (List.getElem?_eq_some_iff.1 hv).1
      rw [List.getElem?_set_self hil] at hu
      rw [List.getElem?_set_self (by rw [← h.len]; exact hil)] at hrow'
      cases hu
      cases hrow'
      exact own_setX ho _ _ (by simp only [Value.ownBlock]; intro e; cases e; exact hgG rfl)
    · rw [List.getElem?_set_ne hji] at hu hrow'
      refine own_setX ((h.rows j u rw' hu hrow').kept hg ?_) _ _ (hne j u hu)
      rcases hr with rfl | rfl
      · cases u.ownBlock <;> simp
      · exact h.apart j i u v (fun e => hji e.symm) hu hv
  · by_cases h1 : i = j
    · subst h1
      have hil := (List.getElem?_eq_some_iff.1 hv).1
      rw [List.getElem?_set_self hil] at hu
      rw [List.getElem?_set_ne hjk] at hu'
      cases hu
      right
      intro e
      rcases key k u' (fun e => hjk e.symm) hu' with h2 | h2
      · rw [h2] at e; cases e
      · exact h2 e.symm
    · rw [List.getElem?_set_ne h1] at hu
      by_cases h2 : i = k
      · subst h2
        have hil := (List.getElem?_eq_some_iff.1 hv).1
        rw [List.getElem?_set_self hil] at hu'
        cases hu'
        exact key j u (fun e => h1 e.symm) hu
      · rw [List.getElem?_set_ne h2] at hu'
        exact h.apart j k u u' hjk hu hu'
theorem OwM.rd {W : World} {base G : Nat} {vs : List Value} {M : List (List Int)} (h : OwM W base G vs M) {cap : Nat} (hc : M.length ≤ cap) (hm : cap ≤ maxLen) : RdM W (.slice (some ⟨G, 0, none⟩) M.length cap) M := by
  refine ⟨some ⟨G, 0, none⟩, cap, rfl, hc, hm, fun i row hi => ?_⟩
  have hl : i < vs.length := by rw [h.len]; exact (List.getElem?_eq_some_iff.1 hi).1
  have hv : vs[i]? = some vs[i] := List.getElem?_eq_getElem hl
  refine ⟨G, 0, vs[i], rfl, ?_, Rd.of_own (h.rows i _ row hv hi)⟩
  rw [Nat.zero_add]
  exact h.outer.cell i (by simp [hl])
theorem OwM.at {W : World} {base G : Nat} {vs : List Value} {M : List (List Int)} (h : OwM W base G vs M) {i : Nat} (hi : i < M.length) : ∃ v, vs[i]? = some v ∧ W.cell? ⟨G, i, none⟩ = some v ∧ W.frozen? ⟨G, i, none⟩ = false ∧ W.ownsRow base 3 1 v M[i].length (M[i].map (Value.int .i64)) := by
  have hl : i < vs.length := by rw [h.len]; exact hi
  exact ⟨vs[i], List.getElem?_eq_getElem hl, h.outer.cell i (by simp [hl]), h.outer.frozen i, h.rows i _ _ (List.getElem?_eq_getElem hl) (List.getElem?_eq_getElem hi)⟩
end Go.Proofs.Ytlneimjenjpbnaa
