/-
  notes.Height, notes.Join.
-/
import Derived.Test.YtlneimjenjpbnaaDoorNoteD
import Derived.Test.YtlneimjenjpbnaaDoorPlN
namespace Go.Proofs.YtlneimjenjpbnaaDoor
open Go.RowKit Go.Shelf

def heightI (st : St) (s : ByteArray) : Int := if setI st s = 0 then (if 1073741824 < ((setR st s).length : Int) * st.nh then 4 else 0) else setI st s
def heightN (st : St) (s : ByteArray) : Int := if heightI st s = 0 then ((setR st s).length : Int) * st.nh else 0
theorem setI_zero {st : St} {s : ByteArray} (h : setI st s = 0) : styleI st = 0 ∧ noteI s = 0 := by
  unfold setI at h
  split at h
  · rename_i h1; exact absurd h h1
  · rename_i h1; exact ⟨Decidable.not_not.1 h1, h⟩
theorem noteI_size {s : ByteArray} (h : noteI s = 0) : s.size ≤ 65536 := by
  unfold noteI at h
  split at h
  · cases h
  · omega
theorem setR_len {st : St} {s : ByteArray} (h : setI st s = 0) : (setR st s).length ≤ 65537 := by
  obtain ⟨h1, h2⟩ := setI_zero h
  obtain ⟨_, h3, h4, _⟩ := style_ok h1
  unfold setR
  rw [if_pos h, List.length_map]
  have h5 := setL_len h3.1 h4.1 (splitS s)
  have h6 := splitS_len s
  have h7 := noteI_size h2
  omega

set_option maxRecDepth 100000 in
set_option maxHeartbeats 1000000 in
theorem nheight_any (st : St) (s : ByteArray) (m : Int) (w : World) (hm : w.cell? ⟨0, 0, none⟩ = some (.int .i64 m)) :
    Calls Tryd.prog 19 #[.agg st.cells, .string s] w fun e w' => e = .returned (.tuple #[.int .i64 (heightN st s), .int .i64 (heightI st s)]) ∧ Below w.heap.size w w' := by
  have hb0 := below_al w (.cells st.cells 25)
  have hm0 := cell_al hm (.cells st.cells 25)
  have HS := fun w' h => hid (nSet_any st s m w' h)
  have hnw := World.alloc_heap_new w (.cells st.cells 25)
  have HI : Hid (heightI st s = if setI st s = 0 then (if 1073741824 < ((setR st s).length : Int) * st.nh then 4 else 0) else setI st s) := rfl
  have HN : Hid (heightN st s = if heightI st s = 0 then ((setR st s).length : Int) * st.nh else 0) := rfl
  by_cases h0 : setI st s = 0
  · have hlen := setR_len h0
    obtain ⟨_, _, _, kn⟩ := style_ok (setI_zero h0).1
    have hmul : 0 ≤ ((setR st s).length : Int) * st.nh ∧ ((setR st s).length : Int) * st.nh ≤ 70369817919488 := by
      refine ⟨Int.mul_nonneg (by omega) kn.1, ?_⟩
      have h1 : ((setR st s).length : Int) * st.nh ≤ 65537 * st.nh := Int.mul_le_mul_of_nonneg_right (by omega) kn.1
      omega
    have HIz := hid h0
    rw [h0] at HS
    clear h0
    have HC := fun (w' : World) (h : w'.heap[w.heap.size]? = some (.cells st.cells 25 (0, 0))) => hid (cell_st h 2 rfl)
    generalize hL : setR st s = L at *
    clear hL
    unfold St.cells at *
    go_enter Tryd.func19, Tryd.ntmps19
    go_wp2_with fail
    refine (HS _ hm0).out.mono ?_
    rintro e w1 ⟨v, rfl, hr1, hB1⟩
    obtain ⟨av, capv, rfl, hlv, hcv, _⟩ := hr1.open
    have hst1 := (hB1.block w.heap.size (by simp)).trans hnw
    have hc2 := (HC _ hst1).out
    have HB := hid (below_tr hb0 hB1)
    clear HS hm hm0 hb0 hB1 hnw hst1 HC
    by_cases hg : 1073741824 < (L.length : Int) * st.nh
    · have HI2 : Hid (heightI st s = 4) := by rw [HI.out, if_pos HIz.out, if_pos hg]; rfl
      have HN2 : Hid (heightN st s = 0) := by rw [HN.out, HI2.out]; rfl
      clear HI HN HIz
      go_wp2
      go_ret2
      exact ⟨by rw [HI2.out, HN2.out]; rfl, HB.out⟩
    · have HI2 : Hid (heightI st s = 0) := by rw [HI.out, if_pos HIz.out, if_neg hg]; rfl
      have HN2 : Hid (heightN st s = (L.length : Int) * st.nh) := by rw [HN.out, HI2.out]; rfl
      clear HI HN HIz
      go_wp2
      go_ret2
      exact ⟨by rw [HI2.out, HN2.out]; rfl, HB.out⟩
  · have HI2 : Hid (heightI st s = setI st s) := by rw [HI.out, if_neg h0]; rfl
    have HN2 : Hid (heightN st s = 0) := by rw [HN.out, HI2.out, if_neg h0]; rfl
    have hb : (setI st s == 0) = false := by simpa using h0
    rw [HI2.out, HN2.out]
    clear HI HN HI2 HN2 hnw
    generalize setI st s = si at *
    generalize setR st s = L at *
    unfold St.cells at *
    go_enter Tryd.func19, Tryd.ntmps19
    go_wp2_with fail
    refine (HS _ hm0).out.mono ?_
    rintro e w1 ⟨v, rfl, hr1, hB1⟩
    obtain ⟨av, capv, rfl, hlv, hcv, _⟩ := hr1.open
    have HB := hid (below_tr hb0 hB1)
    clear HS hm hm0 hb0 hB1
    go_wp2
    go_ret2
    exact ⟨rfl, HB.out⟩

/-- The first error among lines. -/
def firstI : List ByteArray → Int
  | [] => 0
  | x :: r => if noteI x = 0 then firstI r else noteI x
theorem firstI_zero : ∀ {l : List ByteArray}, (∀ x ∈ l, noteI x = 0) → firstI l = 0
  | [], _ => rfl
  | x :: r, h => by rw [firstI, if_pos (h x (by simp))]; exact firstI_zero fun y hy => h y (by simp [hy])
theorem firstI_all : ∀ {l : List ByteArray}, firstI l = 0 → ∀ x ∈ l, noteI x = 0
  | [], _, x, hx => by cases hx
  | y :: r, h, x, hx => by
    rw [firstI] at h
    split at h
    · rename_i h1
      rcases List.mem_cons.1 hx with rfl | h2
      · exact h1
      · exact firstI_all h x h2
    · rename_i h1; exact absurd h h1
theorem firstI_hit : ∀ {l : List ByteArray} {k : Nat} {x : ByteArray}, (∀ y ∈ l.take k, noteI y = 0) → l[k]? = some x → noteI x ≠ 0 → firstI l = noteI x
  | [], k, x, _, hx, _ => by simp at hx
  | y :: r, 0, x, _, hx, h => by
    have : y = x := by simpa using hx
    subst this
    rw [firstI, if_neg h]
  | y :: r, k + 1, x, hk, hx, h => by
    rw [List.take_succ_cons] at hk
    rw [firstI, if_pos (hk y (by simp))]
    exact firstI_hit (k := k) (fun z hz => hk z (by simp [hz])) (by simpa using hx) h
theorem note_take {l : List ByteArray} {k : Nat} {x : ByteArray} (h : ∀ y ∈ l.take k, noteI y = 0) (hx : l[k]? = some x) (hn : noteI x = 0) : ∀ y ∈ l.take (k + 1), noteI y = 0 := by
  intro y hy
  rw [List.take_add_one, hx] at hy
  rcases List.mem_append.1 hy with h' | h'
  · exact h y h'
  · simp at h'; rw [h']; exact hn
def joinI (l : List ByteArray) : Int := if l.length = 0 then 5 else if firstI l = 0 then (if 65536 < (joinB l).size then 4 else 0) else firstI l
def joinT (l : List ByteArray) : ByteArray := if joinI l = 0 then joinB l else ⟨#[]⟩
theorem joinB_le {l : List ByteArray} (h : firstI l = 0) (hl : l.length ≤ 65537) : (joinB l).size ≤ 140737488355328 := by
  have h1 := join_le 65536 (l.map (·.data.toList)) fun x hx => by
    obtain ⟨y, hy, rfl⟩ := List.mem_map.1 hx
    exact noteI_size (firstI_all h y hy)
  rw [List.length_map] at h1
  have h2 : (joinB l).size = (Lib.join (l.map (·.data.toList)) [32]).length := rfl
  have h3 : l.length * (65536 + 1) ≤ 65537 * 65537 := Nat.mul_le_mul_right _ hl
  omega

end Go.Proofs.YtlneimjenjpbnaaDoor
