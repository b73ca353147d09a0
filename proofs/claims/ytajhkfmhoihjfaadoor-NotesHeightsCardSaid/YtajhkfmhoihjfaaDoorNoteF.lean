/-
  The reference: style, Great, Join.
-/
import Derived.Test.YtajhkfmhoihjfaaDoorNoteE
namespace Go.Proofs.YtajhkfmhoihjfaaDoor
open Go.RowKit Go.Shelf

set_option maxHeartbeats 4000000 in
set_option maxRecDepth 100000 in
theorem rstyle_any (st : St) (w : World) :
    Calls Tryd.prog 41 #[.agg st.cells] w fun e w' => e = .returned (.int .i64 (styleI st)) ∧ Below w.heap.size w w' := by
  have hI : Hid (styleI st = if okL st.width = true ∧ okL st.letter = true ∧ okL st.sp = true ∧ okL st.nh = true then 0 else 2) := rfl
  have H0 := okL_cases st.width
  have H1 := okL_cases st.letter
  have H2 := okL_cases st.sp
  have H3 := okL_cases st.nh
  have hb := below_tr (below_al w (.cells st.cells 25)) (below_al (w.alloc (.cells st.cells 25)) (.cells #[.int .i64 st.width, .int .i64 st.letter, .int .i64 st.sp, .int .i64 st.nh] 3))
  have hx := fun i v (h : (#[Value.int .i64 st.width, .int .i64 st.letter, .int .i64 st.sp, .int .i64 st.nh])[i]? = some v) => cell_nw (w.alloc (.cells st.cells 25)) #[.int .i64 st.width, .int .i64 st.letter, .int .i64 st.sp, .int .i64 st.nh] 3 i h
  rw [World.size_alloc] at hx
  have hx0 := hx 0 _ rfl
  have hx1 := hx 1 _ rfl
  have hx2 := hx 2 _ rfl
  have hx3 := hx 3 _ rfl
  have HB := hid hb
  clear hx hb
  unfold St.cells at *
  generalize styleI st = r at *
  generalize okL st.width = o0 at *
  generalize okL st.letter = o1 at *
  generalize okL st.sp = o2 at *
  generalize okL st.nh = o3 at *
  generalize st.width = x0 at *
  generalize st.letter = x1 at *
  generalize st.sp = x2 at *
  generalize st.nh = x3 at *
  go_enter Tryd.func41, Tryd.ntmps41
  go_wp2
  generalize (w.alloc _).alloc _ = W at *
  go_loop [4] (fun i => ∃ k : Nat, k ≤ 4 ∧ i = .int .i64 k ∧ Hid ((1 ≤ k → o0 = true) ∧ (2 ≤ k → o1 = true) ∧ (3 ≤ k → o2 = true) ∧ (4 ≤ k → o3 = true))) (fun i => 4 - (intOf i).toNat)
  case atStart => exact ⟨0, by omega, rfl, by simp [Hid]⟩
  case round =>
    obtain ⟨k, hk, rfl, HK⟩ := hrel
    by_cases e0 : k = 0
    · subst e0
      rcases H0 with ⟨ho, ha, hc⟩ | ⟨ho, ha⟩ | ⟨ho, ha, hc⟩
      · go_wp2
        go_round
        case rel =>
          refine ⟨1, by omega, rfl, ?_⟩
          have h := HK.out
          exact ⟨fun _ => ho, fun h' => absurd h' (by omega), fun h' => absurd h' (by omega), fun h' => absurd h' (by omega)⟩
        case measure => simp [intOf]
      · have hR : Hid (r = 2) := by rw [hI.out, ho]; simp [Hid]
        go_wp2
        go_ret
        exact ⟨ret_int hR.out.symm, HB.out⟩
      · have hR : Hid (r = 2) := by rw [hI.out, ho]; simp [Hid]
        go_wp2
        go_ret
        exact ⟨ret_int hR.out.symm, HB.out⟩
    by_cases e1 : k = 1
    · subst e1
      rcases H1 with ⟨ho, ha, hc⟩ | ⟨ho, ha⟩ | ⟨ho, ha, hc⟩
      · go_wp2
        go_round
        case rel =>
          refine ⟨2, by omega, rfl, ?_⟩
          have h := HK.out
          exact ⟨fun _ => h.1 (by omega), fun h' => ho, fun h' => absurd h' (by omega), fun h' => absurd h' (by omega)⟩
        case measure => simp [intOf]
      · have hR : Hid (r = 2) := by rw [hI.out, ho]; simp [Hid]
        go_wp2
        go_ret
        exact ⟨ret_int hR.out.symm, HB.out⟩
      · have hR : Hid (r = 2) := by rw [hI.out, ho]; simp [Hid]
        go_wp2
        go_ret
        exact ⟨ret_int hR.out.symm, HB.out⟩
    by_cases e2 : k = 2
    · subst e2
      rcases H2 with ⟨ho, ha, hc⟩ | ⟨ho, ha⟩ | ⟨ho, ha, hc⟩
      · go_wp2
        go_round
        case rel =>
          refine ⟨3, by omega, rfl, ?_⟩
          have h := HK.out
          exact ⟨fun _ => h.1 (by omega), fun h' => h.2.1 (by omega), fun h' => ho, fun h' => absurd h' (by omega)⟩
        case measure => simp [intOf]
      · have hR : Hid (r = 2) := by rw [hI.out, ho]; simp [Hid]
        go_wp2
        go_ret
        exact ⟨ret_int hR.out.symm, HB.out⟩
      · have hR : Hid (r = 2) := by rw [hI.out, ho]; simp [Hid]
        go_wp2
        go_ret
        exact ⟨ret_int hR.out.symm, HB.out⟩
    by_cases e3 : k = 3
    · subst e3
      rcases H3 with ⟨ho, ha, hc⟩ | ⟨ho, ha⟩ | ⟨ho, ha, hc⟩
      · go_wp2
        go_round
        case rel =>
          refine ⟨4, by omega, rfl, ?_⟩
          have h := HK.out
          exact ⟨fun _ => h.1 (by omega), fun h' => h.2.1 (by omega), fun h' => h.2.2.1 (by omega), fun h' => ho⟩
        case measure => simp [intOf]
      · have hR : Hid (r = 2) := by rw [hI.out, ho]; simp [Hid]
        go_wp2
        go_ret
        exact ⟨ret_int hR.out.symm, HB.out⟩
      · have hR : Hid (r = 2) := by rw [hI.out, ho]; simp [Hid]
        go_wp2
        go_ret
        exact ⟨ret_int hR.out.symm, HB.out⟩
    obtain rfl : k = 4 := by omega
    have hR : Hid (r = 0) := by
      have h := HK.out
      rw [hI.out, if_pos ⟨h.1 (by omega), h.2.1 (by omega), h.2.2.1 (by omega), h.2.2.2 (by omega)⟩]; rfl
    go_wp2
    go_ret
    exact ⟨ret_int hR.out.symm, HB.out⟩

def bigS (x : ByteArray) : Bool := (decide (100 < x.size) && decide (x.size ≤ 65536)) || decide (65540 < x.size)
def great50 (l : List ByteArray) : Bool := l.any bigS || decide (10 < l.length)
theorem bigS_cases (x : ByteArray) : (bigS x = true ∧ ((100 < x.size ∧ x.size ≤ 65536) ∨ (100 < x.size ∧ ¬ x.size ≤ 65536 ∧ 65540 < x.size))) ∨ (bigS x = false ∧ ((¬ 100 < x.size) ∨ (100 < x.size ∧ ¬ x.size ≤ 65536 ∧ ¬ 65540 < x.size))) := by
  unfold bigS
  by_cases h1 : 100 < x.size
  · by_cases h2 : x.size ≤ 65536
    · left; exact ⟨by simp [h1, h2], .inl ⟨h1, h2⟩⟩
    · by_cases h3 : 65540 < x.size
      · left; exact ⟨by simp [h3], .inr ⟨h1, h2, h3⟩⟩
      · right; exact ⟨by simp [h2, h3], .inr ⟨h1, h2, h3⟩⟩
  · right; exact ⟨by simp [h1]; omega, .inl h1⟩

set_option maxHeartbeats 1000000 in
set_option maxRecDepth 100000 in
theorem great50_any (v : Value) (l : List ByteArray) (w : World) (hr : RdS w v l) (hz : Szs l) :
    Calls Tryd.prog 11 #[v] w fun e w' => e = .returned (.bool (great50 l)) ∧ w = w' := by
  obtain ⟨a, cap, rfl, hlc, hcm, hcell⟩ := hr.open
  have HCell := hid hcell; clear hcell
  have HZ := hid hz; clear hz
  have HG : Hid (great50 l = (l.any bigS || decide (10 < l.length))) := rfl
  go_enter Tryd.func11, Tryd.ntmps11
  go_wp2
  go_loop [3] (fun i => ∃ k : Nat, k ≤ l.length ∧ i = .int .i64 k ∧ Hid (∀ y ∈ l.take k, bigS y = false)) (fun i => l.length - (intOf i).toNat)
  case atStart => exact ⟨0, Nat.zero_le _, rfl, by simp [Hid]⟩
  case round =>
    obtain ⟨k, hk, rfl, HK⟩ := hrel
    by_cases hlt : k < l.length
    · obtain ⟨x, b, off, hx, rfl, hc⟩ := HCell.out k hlt
      have HX := hid hx
      have hz1 := HZ.out x (List.mem_of_getElem? hx)
      clear hx
      unfold maxLen at hz1
      rcases bigS_cases x with ⟨hb, h | h⟩ | ⟨hb, h | h⟩
      · have HR : Hid (great50 l = true) := by
          rw [HG.out, List.any_eq_true.2 ⟨x, List.mem_of_getElem? HX.out, hb⟩]; rfl
        clear hb
        go_wp2
        go_ret
        exact ⟨ret_bool HR.out.symm, rfl⟩
      · have HR : Hid (great50 l = true) := by
          rw [HG.out, List.any_eq_true.2 ⟨x, List.mem_of_getElem? HX.out, hb⟩]; rfl
        clear hb
        go_wp2
        go_ret
        exact ⟨ret_bool HR.out.symm, rfl⟩
      · have HK2 := hid (take_none HK.out HX.out hb)
        clear hb
        go_wp2
        go_round
        case rel => exact ⟨k + 1, by omega, by go_num, HK2.out⟩
        case measure => simp [intOf]; omega
      · have HK2 := hid (take_none HK.out HX.out hb)
        clear hb
        go_wp2
        go_round
        case rel => exact ⟨k + 1, by omega, by go_num, HK2.out⟩
        case measure => simp [intOf]; omega
    · have HN : Hid (great50 l = decide (10 < l.length)) := by
        have h := HK.out
        rw [List.take_of_length_le (by omega)] at h
        rw [HG.out, List.any_eq_false.2 (fun y hy => by simpa using h y hy)]; rfl
      clear HK HG
      go_wp2
      go_ret
      exact ⟨ret_bool (by rw [HN.out]; exact decide_eq_decide.2 (by omega)), rfl⟩
end Go.Proofs.YtajhkfmhoihjfaaDoor
