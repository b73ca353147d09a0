/-
  slices.Insert of one string into a row of the call's own, as a contract over lists.
-/
import Derived.Test.YtkmggnohheomeaaDoorIns2
import Derived.Test.YtkmggnohheomeaaDoorPlOth
import Derived.Test.YtkmggnohheomeaaDoorOf
namespace Go.Proofs.YtkmggnohheomeaaDoor
open Go.RowKit Go.Shelf

theorem below_setCells {B b : Nat} (h : B ≤ b) : ∀ (vs : List Value) (o : Nat) {W w : World}, Below B W w → Below B W (w.setCells b o vs)
  | [], _, _, _, hb => hb
  | v :: r, o, _, w, hb => by
    rw [World.setCells]
    exact below_setCells h r (o + 1) (hb.setCell (p := ⟨b, o, none⟩) h v)
/-- The cells of a row that reads as a list of strings. -/
theorem rdS_cells {W : World} {b off n cap : Nat} {l : List ByteArray} (hn : n = l.length) (h1 : n ≤ cap) (h2 : cap ≤ maxLen) (h : ∀ i x, l[i]? = some x → W.cell? ⟨b, off + i, none⟩ = some (.string x)) : RdS W (.slice (some ⟨b, off, none⟩) n cap) l := by
  subst hn
  exact ⟨_, cap, rfl, h1, h2, fun i x hx => ⟨b, off, rfl, h i x hx⟩⟩
theorem setCells_in {w : World} {b o : Nat} {vs : List Value} (h : ∀ j, j < vs.length → (w.cell? ⟨b, o + j, none⟩).isSome = true) {j : Nat} {v : Value} (hv : vs[j]? = some v) : (w.setCells b o vs).cell? ⟨b, o + j, none⟩ = some v := by
  obtain ⟨hj, e⟩ := List.getElem?_eq_some_iff.1 hv
  rw [World.cell?_setCells_in b vs o w h j hj, e]
theorem some_setCells (b : Nat) : ∀ (vs : List Value) (o : Nat) (w : World) (x : Addr), (w.cell? x).isSome = true → ((w.setCells b o vs).cell? x).isSome = true
  | [], _, _, _, h => h
  | v :: r, o, w, x, h => by
    rw [World.setCells]
    refine some_setCells b r (o + 1) _ x ?_
    by_cases e : x = ⟨b, o, none⟩
    · subst e
      obtain ⟨u, hu⟩ := Option.isSome_iff_exists.1 h
      rw [World.cell?_setCell_same _ _ _ hu]; rfl
    · rw [World.cell?_setCell_other _ _ _ _ (fun h => e h.symm)]; exact h

set_option maxHeartbeats 1000000 in
theorem insert_any (ws : List ByteArray) (k : Nat) (o : ByteArray) (v : Value) (base vb : Nat) (w : World) (hk : k ≤ ws.length) (hlen : 0 < ws.length) (hlen2 : ws.length ≤ 1000) (hown : w.ownsRow base 9 1 v ws.length (ws.map Value.string)) (hbw : base ≤ w.heap.size)
    (hvb : w.heap[vb]? = some (.cells #[.string o] 9 (0, 0))) (hne : v.ownBlock ≠ some vb) :
    Calls Tryd.prog 21 #[v, .int .i64 k, .slice (some ⟨vb, 0, none⟩) 1 1] w fun e w' => ∃ v', e = .returned v' ∧ RdS w' v' (insW ws k o) ∧ Below base w w' := by
  obtain ⟨_, h2⟩ := hown
  rcases h2 with ⟨_, hn⟩ | ⟨g, c, cur, rfl, hb, hh, hc, hm, hs, ht⟩
  · omega
  have hgb : g ≠ vb := fun e => hne (by rw [e]; rfl)
  have hcur : ∀ (j : Nat) x, ws[j]? = some x → cur[j]? = some (Value.string x) := by
    intro j x hx
    have hj := (List.getElem?_eq_some_iff.1 hx).1
    have h1 : (ws.map Value.string)[j]? = some (Value.string x) := by rw [List.getElem?_map, hx]; rfl
    rw [← ht, List.getElem?_take, if_pos (by omega)] at h1
    simpa using h1
  have hcs : ∀ (j : Nat) v, (ws.map Value.string)[j]? = some v → w.cell? ⟨g, 0 + j, none⟩ = some v := by
    intro j v hv
    rw [List.getElem?_map, Option.map_eq_some_iff] at hv
    obtain ⟨x, hx, rfl⟩ := hv
    rw [Nat.zero_add, cell_of_row _ g j cur 9 (0, 0) hh]
    exact hcur j x hx
  have hsp : ∀ j, j < c → (w.cell? ⟨g, 0 + j, none⟩).isSome = true := by
    intro j hj
    rw [Nat.zero_add, cell_of_row _ g j cur 9 (0, 0) hh]
    simp; omega
  have hfz : ∀ j, w.frozen? ⟨g, j, none⟩ = false := fun j => frozen_of_row w g j cur 9 hh
  have hvs : ∀ (j : Nat) v, [Value.string o][j]? = some v → w.cell? ⟨vb, 0 + j, none⟩ = some v := by
    intro j v hv
    rw [Nat.zero_add, cell_of_row _ vb j _ 9 (0, 0) hvb]
    simpa using hv
  have h1c : ∀ v ∈ ws.map Value.string, v.oneCell' = true := by
    intro v hv
    obtain ⟨x, _, rfl⟩ := List.mem_map.1 hv
    rfl
  have h1v : ∀ v ∈ [Value.string o], v.oneCell' = true := by
    intro v hv
    have : v = .string o := by simpa using hv
    rw [this]; rfl
  have hil := insW_len hk o
  have hm63 : c ≤ 9223372036854775807 := by unfold maxLen at hm; omega
  by_cases hroom : ws.length + 1 ≤ c
  · by_cases hkl : k < ws.length
    · refine (Tryd.slices_Insert_string_shift g 0 ws.length c k vb 0 1 1 (ws.map Value.string) [.string o] w hkl (by omega) hroom hm63 (fun e => hgb e.symm) (by simp) rfl hcs (fun j hj => hsp j (by omega)) (fun j _ => hfz _) hvs h1c h1v 9 9 1 cur.size
        (by unfold World.shape?; rw [hvb]; rfl) (by unfold World.shape?; rw [hh]) (by omega) (frozen_of_row w vb 0 _ 9 hvb) (frozen_of_row w vb 1 _ 9 hvb)).mono ?_
      rintro e w' ⟨rfl, rfl⟩
      refine ⟨_, rfl, ?_, below_setCells hb _ _ (below_setCells hb _ _ (Below.refl _ _).drew)⟩
      have hl1 : ((ws.map Value.string).drop k).length = ws.length - k := by simp
      have hsp1 : ∀ j, j < c → (w.drew.cell? ⟨g, 0 + j, none⟩).isSome = true := hsp
      have q1 : ∀ j, j < ((ws.map Value.string).drop k).length → (w.drew.cell? ⟨g, 0 + (k + 1) + j, none⟩).isSome = true := fun j hj => by
        rw [Nat.zero_add, ← Nat.zero_add (k + 1 + j)]; exact hsp1 _ (by omega)
      have q2 : ∀ j, j < [Value.string o].length → ((w.drew.setCells g (0 + (k + 1)) ((ws.map Value.string).drop k)).cell? ⟨g, 0 + k + j, none⟩).isSome = true := fun j hj => by
        refine some_setCells g _ _ _ _ ?_
        rw [Nat.zero_add, ← Nat.zero_add (k + j)]
        exact hsp1 _ (by simp at hj; omega)
      refine rdS_cells hil.symm hroom hm fun i x hx => ?_
      rw [insW_get hk] at hx
      by_cases h1 : i < k
      · rw [if_pos h1] at hx
        rw [World.cell?_setCells_out _ _ _ _ _ (fun _ _ => .inl (by simp; omega)), World.cell?_setCells_out _ _ _ _ _ (fun _ _ => .inl (by simp; omega))]
        exact hcs i _ (by rw [List.getElem?_map, hx]; rfl)
      · rw [if_neg h1] at hx
        by_cases h3 : i = k
        · rw [if_pos h3] at hx
          have := setCells_in q2 (j := 0) (v := .string o) rfl
          cases hx
          rw [h3]; exact this
        · rw [if_neg h3] at hx
          rw [World.cell?_setCells_out _ _ _ _ _ (fun _ _ => .inr (by simp; omega))]
          have := setCells_in q1 (j := i - (k + 1)) (v := .string x) (by
            rw [List.getElem?_drop, show k + (i - (k + 1)) = i - 1 by omega, List.getElem?_map, hx]; rfl)
          rw [show 0 + i = 0 + (k + 1) + (i - (k + 1)) by omega]; exact this
    · have hkn : k = ws.length := by omega
      subst hkn
      refine (Tryd.slices_Insert_string_end_room g 0 ws.length c vb 0 1 1 [.string o] w (by omega) hroom hm63 rfl (fun j hj => by rw [Nat.add_assoc]; exact hsp _ (by omega)) (fun j _ => hfz _) hvs h1v).mono ?_
      rintro e w' ⟨rfl, rfl⟩
      refine ⟨_, rfl, ?_, below_setCells hb _ _ (Below.refl _ _)⟩
      have q2 : ∀ j, j < [Value.string o].length → (w.cell? ⟨g, 0 + ws.length + j, none⟩).isSome = true := fun j hj => by
        rw [Nat.add_assoc]; exact hsp _ (by simp at hj; omega)
      refine rdS_cells hil.symm hroom hm fun i x hx => ?_
      rw [insW_get hk] at hx
      by_cases h1 : i < ws.length
      · rw [if_pos h1] at hx
        rw [World.cell?_setCells_out _ _ _ _ _ (fun _ _ => .inl (by simp; omega))]
        exact hcs i _ (by rw [List.getElem?_map, hx]; rfl)
      · rw [if_neg h1] at hx
        by_cases h3 : i = ws.length
        · rw [if_pos h3] at hx
          have := setCells_in q2 (j := 0) (v := .string o) rfl
          cases hx
          rw [h3]; exact this
        · rw [if_neg h3] at hx
          have := (List.getElem?_eq_some_iff.1 hx).1
          omega
  · have hgc := grownCap_ge w (ws.length + 1) c 9
    have hgm := grownCap_le_maxLen w (ws.length + 1) c 9 (by unfold maxLen; omega)
    by_cases hkl : k < ws.length
    · refine (Tryd.slices_Insert_string_grow g 0 ws.length c k vb 0 1 1 (ws.map Value.string) [.string o] w hkl (by omega) hc (by omega) (by omega) (by simp) rfl hcs hvs h1c h1v).mono ?_
      rintro e w' ⟨rfl, rfl⟩
      have hbA : Below base w (w.alloc (.cells (((ws.map Value.string).take k).toArray ++ Builtin.zeroCells (Value.string ⟨#[]⟩).cells (ws.length + 1 - k) ++ Builtin.zeroCells (Value.string ⟨#[]⟩).cells (grownCap w (ws.length + 1) c 9 - (ws.length + 1))) 9)).drew := ((Below.refl _ _).alloc hbw _).drew
      refine ⟨_, rfl, ?_, below_setCells hbw _ _ ((below_setCells hbw _ _ hbA).drew)⟩
      have hzl : ∀ n, (Builtin.zeroCells (Value.string ⟨#[]⟩).cells n).size = n := by
        intro n; simp [Builtin.zeroCells, Value.cells]
      have hrow := heap_alloc_new w (.cells (((ws.map Value.string).take k).toArray ++ Builtin.zeroCells (Value.string ⟨#[]⟩).cells (ws.length + 1 - k) ++ Builtin.zeroCells (Value.string ⟨#[]⟩).cells (grownCap w (ws.length + 1) c 9 - (ws.length + 1))) 9)
      have hA : ∀ j, j < ws.length + 1 → ((w.alloc (.cells (((ws.map Value.string).take k).toArray ++ Builtin.zeroCells (Value.string ⟨#[]⟩).cells (ws.length + 1 - k) ++ Builtin.zeroCells (Value.string ⟨#[]⟩).cells (grownCap w (ws.length + 1) c 9 - (ws.length + 1))) 9)).drew.cell? ⟨w.heap.size, j, none⟩).isSome = true := by
        intro j hj
        show ((w.alloc _).cell? _).isSome = true
        rw [cell_of_row _ _ j _ 9 (0, 0) hrow]
        simp [hzl]; omega
      have hP : ∀ (j : Nat) x, j < k → ws[j]? = some x → (w.alloc (.cells (((ws.map Value.string).take k).toArray ++ Builtin.zeroCells (Value.string ⟨#[]⟩).cells (ws.length + 1 - k) ++ Builtin.zeroCells (Value.string ⟨#[]⟩).cells (grownCap w (ws.length + 1) c 9 - (ws.length + 1))) 9)).drew.cell? ⟨w.heap.size, j, none⟩ = some (.string x) := by
        intro j x hj hx
        show (w.alloc _).cell? _ = _
        rw [cell_of_row _ _ j _ 9 (0, 0) hrow, Array.append_assoc, Array.getElem?_append_left (by simp; omega)]
        simp [hj, hx]
      generalize (w.alloc (.cells (((ws.map Value.string).take k).toArray ++ Builtin.zeroCells (Value.string ⟨#[]⟩).cells (ws.length + 1 - k) ++ Builtin.zeroCells (Value.string ⟨#[]⟩).cells (grownCap w (ws.length + 1) c 9 - (ws.length + 1))) 9)).drew = wd at *
      have hl1 : ((ws.map Value.string).drop k).length = ws.length - k := by simp
      have q2 : ∀ j, j < [Value.string o].length → (wd.cell? ⟨w.heap.size, k + j, none⟩).isSome = true := fun j hj => hA _ (by simp at hj; omega)
      have q1 : ∀ j, j < ((ws.map Value.string).drop k).length → ((wd.setCells w.heap.size k [.string o]).drew.cell? ⟨w.heap.size, k + 1 + j, none⟩).isSome = true := fun j hj => some_setCells _ _ _ wd _ (hA _ (by omega))
      refine rdS_cells hil.symm hgc hgm fun i x hx => ?_
      rw [Nat.zero_add]
      rw [insW_get hk] at hx
      by_cases h1 : i < k
      · rw [if_pos h1] at hx
        rw [World.cell?_setCells_out _ _ _ _ _ (fun _ _ => .inl (by simp; omega))]
        show (wd.setCells w.heap.size k [.string o]).cell? _ = _
        rw [World.cell?_setCells_out _ _ _ _ _ (fun _ _ => .inl (by simp; omega))]
        exact hP i x h1 hx
      · rw [if_neg h1] at hx
        by_cases h3 : i = k
        · rw [if_pos h3] at hx
          rw [World.cell?_setCells_out _ _ _ _ _ (fun _ _ => .inl (by simp; omega))]
          have := setCells_in q2 (j := 0) (v := .string o) rfl
          cases hx
          rw [h3]; exact this
        · rw [if_neg h3] at hx
          have := setCells_in q1 (j := i - (k + 1)) (v := .string x) (by
            rw [List.getElem?_drop, show k + (i - (k + 1)) = i - 1 by omega, List.getElem?_map, hx]; rfl)
          rw [show i = k + 1 + (i - (k + 1)) by omega]; exact this
    · have hkn : k = ws.length := by omega
      subst hkn
      refine (Tryd.slices_Insert_string_end_grow (some ⟨g, 0, none⟩) ws.length c vb 0 1 1 (ws.map Value.string) [Value.string o] w (by omega) hc (by omega) (by omega) (by simp) rfl (fun h => by cases h)
        (fun a ha j v hv => by cases ha; rw [show (⟨g, 0, none⟩ : Addr).add j = ⟨g, 0 + j, none⟩ by unfold Addr.add; split <;> simp_all]; exact hcs j v hv) hvs h1v).mono ?_
      rintro e w' ⟨rfl, rfl⟩
      refine ⟨_, rfl, ?_, (Below.refl _ _).drew.alloc hbw _⟩
      refine rdS_cells hil.symm hgc hgm fun i x hx => ?_
      rw [Nat.zero_add]
      have hi := (List.getElem?_eq_some_iff.1 hx).1
      have hrow := heap_alloc_new w.drew (.cells ((ws.map Value.string ++ [Value.string o]).toArray ++ Builtin.zeroCells (Value.string ⟨#[]⟩).cells (grownCap w (ws.length + 1) c 9 - (ws.length + 1))) 9)
      rw [show w.heap.size = w.drew.heap.size from rfl, cell_of_row _ _ i _ 9 (0, 0) hrow, Array.getElem?_append_left (by simp; omega)]
      have e : insW ws ws.length o = ws ++ [o] := by unfold insW; simp
      rw [e] at hx
      have : (ws.map Value.string ++ [Value.string o]) = (ws ++ [o]).map Value.string := by simp
      rw [this, List.getElem?_toArray, List.getElem?_map, hx]; rfl
end Go.Proofs.YtkmggnohheomeaaDoor
