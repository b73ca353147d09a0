/-
  A slice of slices whose rows the call grows, at any type of elements (OwM, of any number of cells an element); slices of elements of several cells.
-/
import Derived.Test.YtlneimjenjpbnaaOwM
namespace Go.Proofs.Ytlneimjenjpbnaa
open Go.RowKit

/-- The slice value v reads as the list l, s cells an element. -/
def RdC {α : Type} (s : Nat) (enc : α → List Value) (W : World) (v : Value) (l : List α) : Prop :=
  ∃ a cap, v = .slice a l.length cap ∧ l.length ≤ cap ∧ cap ≤ maxLen ∧ ∀ i x, l[i]? = some x → ∃ b off, a = some ⟨b, off, none⟩ ∧ ∀ j u, (enc x)[j]? = some u → W.cell? ⟨b, off + i * s + j, none⟩ = some u
theorem RdC.mono {α : Type} {s : Nat} {enc : α → List Value} {W W' : World} {v : Value} {l : List α} (h : RdC s enc W v l) (hk : ∀ p x, W.cell? p = some x → W'.cell? p = some x) : RdC s enc W' v l := by
  obtain ⟨a, cap, h1, h2, h3, h4⟩ := h
  exact ⟨a, cap, h1, h2, h3, fun i x hx => let ⟨b, off, e, hc⟩ := h4 i x hx; ⟨b, off, e, fun j u hj => hk _ _ (hc j u hj)⟩⟩
theorem RdC.below {α : Type} {s : Nat} {enc : α → List Value} {W W' : World} {v : Value} {l : List α} (h : RdC s enc W v l) (hb : Below W.heap.size W W') : RdC s enc W' v l := h.mono (Below.keeps hb)
theorem RdC.open {α : Type} {s : Nat} {enc : α → List Value} {W : World} {v : Value} {l : List α} (h : RdC s enc W v l) : ∃ a cap, v = .slice a l.length cap ∧ l.length ≤ cap ∧ cap ≤ 9223372036854775807 ∧ ∀ i x, l[i]? = some x → ∃ b off, a = some ⟨b, off, none⟩ ∧ ∀ j u, (enc x)[j]? = some u → W.cell? ⟨b, off + i * s + j, none⟩ = some u := h
theorem flat_at {α : Type} {s : Nat} {enc : α → List Value} (hs : ∀ x, (enc x).length = s) : ∀ (l : List α) (i : Nat) (x : α) (j : Nat) (u : Value), l[i]? = some x → (enc x)[j]? = some u → (l.flatMap enc)[i * s + j]? = some u
  | [], i, x, j, u, h, _ => by cases h
  | y :: t, 0, x, j, u, h, hu => by
    cases h
    rw [List.flatMap_cons, Nat.zero_mul, Nat.zero_add, List.getElem?_append_left (List.getElem?_eq_some_iff.1 hu).1]
    exact hu
  | y :: t, i + 1, x, j, u, h, hu => by
    rw [List.flatMap_cons, List.getElem?_append_right (by rw [hs, Nat.add_mul]; omega), hs, show (i + 1) * s + j - s = i * s + j by rw [Nat.add_mul]; omega]
    exact flat_at hs t i x j u h hu
theorem RdC.of_own {α : Type} {s : Nat} {enc : α → List Value} (hs : ∀ x, (enc x).length = s) {W : World} {base : Nat} {e : TypeId} {v : Value} {l : List α} (h : W.ownsRow base e s v l.length (l.flatMap enc)) : RdC s enc W v l := by
  obtain ⟨_, h2⟩ := h
  rcases h2 with ⟨rfl, hn⟩ | ⟨g, cap, cur, rfl, hb, hh, hc, hm, hsz, ht⟩
  · have : l = [] := List.eq_nil_of_length_eq_zero hn
    subst this
    exact ⟨none, 0, rfl, Nat.le_refl _, by unfold maxLen; omega, fun i x h => by simp at h⟩
  · refine ⟨some ⟨g, 0, none⟩, cap, rfl, hc, hm, fun i x hx => ⟨g, 0, rfl, fun j u hj => ?_⟩⟩
    have h3 := flat_at hs l i x j u hx hj
    have hr : Row W g cur e := hh
    rw [Nat.zero_add]
    refine hr.cell _ ?_
    rw [← ht, List.getElem?_take] at h3
    split at h3
    · rw [← Array.getElem?_toList]; exact h3
    · cases h3
/-- .. of slices of such elements. -/
def RdMC {α : Type} (s : Nat) (enc : α → List Value) (W : World) (v : Value) (M : List (List α)) : Prop :=
  ∃ a cap, v = .slice a M.length cap ∧ M.length ≤ cap ∧ cap ≤ maxLen ∧ ∀ i row, M[i]? = some row → ∃ b off u, a = some ⟨b, off, none⟩ ∧ W.cell? ⟨b, off + i, none⟩ = some u ∧ RdC s enc W u row
theorem RdMC.mono {α : Type} {s : Nat} {enc : α → List Value} {W W' : World} {v : Value} {M : List (List α)} (h : RdMC s enc W v M) (hk : ∀ p x, W.cell? p = some x → W'.cell? p = some x) : RdMC s enc W' v M := by
  obtain ⟨a, cap, h1, h2, h3, h4⟩ := h
  exact ⟨a, cap, h1, h2, h3, fun i x hx => let ⟨b, off, u, e, hc, hr⟩ := h4 i x hx; ⟨b, off, u, e, hk _ _ hc, hr.mono hk⟩⟩
theorem RdMC.below {α : Type} {s : Nat} {enc : α → List Value} {W W' : World} {v : Value} {M : List (List α)} (h : RdMC s enc W v M) (hb : Below W.heap.size W W') : RdMC s enc W' v M := h.mono (Below.keeps hb)

/-- Block G holds the slices vs (of type tO), each of which owns its row of M (elements of type e, s cells each), made from block base on. -/
structure OwG {α : Type} (tO e : TypeId) (s : Nat) (enc : α → List Value) (W : World) (base G : Nat) (vs : List Value) (M : List (List α)) : Prop where
  outer : Row W G vs.toArray tO
  len : vs.length = M.length
  rows : ∀ (i : Nat) (v : Value) (row : List α), vs[i]? = some v → M[i]? = some row → W.ownsRow base e s v row.length (row.flatMap enc)
  apart : ∀ (i j : Nat) (v u : Value), i ≠ j → vs[i]? = some v → vs[j]? = some u → v.ownBlock = none ∨ v.ownBlock ≠ u.ownBlock
variable {α : Type} {tO e : TypeId} {s : Nat} {enc : α → List Value}
theorem OwG.below {W W' : World} {base G : Nat} {vs : List Value} {M : List (List α)} (h : OwG tO e s enc W base G vs M) (hb : Below W.heap.size W W') : OwG tO e s enc W' base G vs M :=
  ⟨h.outer.below hb, h.len, fun i v row hv hr => own_belowX (h.rows i v row hv hr) hb, h.apart⟩
/-- A row is grown, or made anew, and its slice is stored. -/
theorem OwG.put (hte : tO ≠ e) {W W' : World} {base G i g n cap : Nat} {vs : List Value} {M : List (List α)} {v : Value} {row row' : List α} (h : OwG tO e s enc W base G vs M) (hv : vs[i]? = some v) (_hrow : M[i]? = some row) {r : Option Nat} (hg : W.grownBy W' r) (hr : r = none ∨ r = v.ownBlock)
    (ho : W'.ownsRow base e s (.slice (some ⟨g, 0, none⟩) n cap) row'.length (row'.flatMap enc)) (hat : v.ownBlock = some g ∨ W.heap.size ≤ g) :
    OwG tO e s enc (W'.setCell ⟨G, i, none⟩ (.slice (some ⟨g, 0, none⟩) n cap)) base G (vs.set i (.slice (some ⟨g, 0, none⟩) n cap)) (M.set i row') := by
  have hne : ∀ (j : Nat) (u : Value), vs[j]? = some u → u.ownBlock ≠ some G := fun j u hu => by
    have hj : j < M.length := by rw [← h.len]; exact (List.getElem?_eq_some_iff.1 hu).1
    exact row_own_neX h.outer (h.rows j u _ hu (List.getElem?_eq_getElem hj)) hte
  have hrG : r ≠ some G := by
    rcases hr with rfl | rfl
    · simp
    · exact hne i v hv
  have hout : Row W' G vs.toArray tO := (hg.block G h.outer.lt (fun e => hrG e.symm)).trans h.outer
  have hgG : g ≠ G := fun e => row_own_neX hout ho hte (by rw [e]; rfl)
  have key : ∀ (j : Nat) (u : Value), j ≠ i → vs[j]? = some u → u.ownBlock = none ∨ u.ownBlock ≠ some g := fun j u hj hu => by
    rcases hat with ha | ha
    · rcases h.apart j i u v hj hu hv with h1 | h1
      · exact .inl h1
      · exact .inr (by rw [← ha]; exact h1)
    · cases hb : u.ownBlock with
      | none => exact .inl rfl
      | some k =>
        right
        intro e
        have hjl : j < M.length := by rw [← h.len]; exact (List.getElem?_eq_some_iff.1 hu).1
        have := (own_lt (h.rows j u _ hu (List.getElem?_eq_getElem hjl)) hb).2
        cases e
        omega
  refine ⟨?_, by rw [List.length_set, List.length_set]; exact h.len, fun j u rw' hu hrow' => ?_, fun j k u u' hjk hu hu' => ?_⟩
  · have h1 := hout.set i (.slice (some ⟨g, 0, none⟩) n cap)
    rw [show vs.toArray.setIfInBounds i (Value.slice (some ⟨g, 0, none⟩) n cap) = (vs.set i (.slice (some ⟨g, 0, none⟩) n cap)).toArray by simp] at h1
    exact h1
  · by_cases hji : i = j
    · subst hji
      have hil := (List.getElem?_eq_some_iff.1 hv).1
      rw [List.getElem?_set_self hil] at hu
      rw [List.getElem?_set_self (by rw [← h.len]; exact hil)] at hrow'
      cases hu
      cases hrow'
      exact own_setX ho _ _ (by simp only [Value.ownBlock]; intro e; cases e; exact hgG rfl)
    · rw [List.getElem?_set_ne hji] at hu hrow'
      refine own_setX ((h.rows j u rw' hu hrow').kept hg ?_) _ _ (hne j u hu)
      rcases hr with rfl | rfl
      · cases u.ownBlock <;> simp
      · exact h.apart j i u v (fun e => hji e.symm) hu hv
  · by_cases h1 : i = j
    · subst h1
      have hil := (List.getElem?_eq_some_iff.1 hv).1
      rw [List.getElem?_set_self hil] at hu
      rw [List.getElem?_set_ne hjk] at hu'
      cases hu
      right
      intro e
      rcases key k u' (fun e => hjk e.symm) hu' with h2 | h2
      · rw [h2] at e; cases e
      · exact h2 e.symm
    · rw [List.getElem?_set_ne h1] at hu
      by_cases h2 : i = k
      · subst h2
        have hil := (List.getElem?_eq_some_iff.1 hv).1
        rw [List.getElem?_set_self hil] at hu'
        cases hu'
        exact key j u (fun e => h1 e.symm) hu
      · rw [List.getElem?_set_ne h2] at hu'
        exact h.apart j k u u' hjk hu hu'
theorem OwG.rd (hs : ∀ x, (enc x).length = s) {W : World} {base G : Nat} {vs : List Value} {M : List (List α)} (h : OwG tO e s enc W base G vs M) {cap : Nat} (hc : M.length ≤ cap) (hm : cap ≤ maxLen) : RdMC s enc W (.slice (some ⟨G, 0, none⟩) M.length cap) M := by
  refine ⟨some ⟨G, 0, none⟩, cap, rfl, hc, hm, fun i row hi => ?_⟩
  have hl : i < vs.length := by rw [h.len]; exact (List.getElem?_eq_some_iff.1 hi).1
  have hv : vs[i]? = some vs[i] := List.getElem?_eq_getElem hl
  refine ⟨G, 0, vs[i], rfl, ?_, RdC.of_own hs (h.rows i _ row hv hi)⟩
  rw [Nat.zero_add]
  exact h.outer.cell i (by simp [hl])
/-- All rows are nil. -/
theorem OwG.nil {W : World} {base G n : Nat} (hG : Row W G (List.replicate n (Value.slice none 0 0)).toArray tO) : OwG tO e s enc W base G (List.replicate n (.slice none 0 0)) (List.replicate n []) := by
  refine ⟨hG, by simp, fun i v row hv hr => ?_, fun i j v u _ hv _ => ?_⟩
  · obtain rfl := (List.mem_replicate.1 (List.mem_of_getElem? hv)).2
    obtain rfl := (List.mem_replicate.1 (List.mem_of_getElem? hr)).2
    exact World.ownsRow_nil _ _ _ _
  · obtain rfl := (List.mem_replicate.1 (List.mem_of_getElem? hv)).2
    exact .inl rfl
end Go.Proofs.Ytlneimjenjpbnaa
