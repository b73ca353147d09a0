/-
  The reference's Text; the check of a style, the program's and the reference's.
-/
import Derived.Test.YtlneimjenjpbnaaDoorNoteA
namespace Go.Proofs.YtlneimjenjpbnaaDoor
open Go.RowKit

theorem infoStrN : (Tryd.prog.info? 9).map (fun i => (i.zero, i.size, i.bytes)) = some (some (.string ⟨#[]⟩), 1, 16) := by kernel_rfl

/-- A style: its eleven numbers, and two values that are not looked at. -/
structure St where
  width : Int
  lh : Int
  nh : Int
  ph : Int
  gap : Int
  sp : Int
  stretch : Int
  shrink : Int
  letter : Int
  hyphen : Int
  every : Int
  pos : Option Addr × Nat × Nat
  lay : Option Addr × Nat × Nat
def St.cells (st : St) : Array Value := #[.int .i64 st.width, .int .i64 st.lh, .int .i64 st.nh, .int .i64 st.ph, .int .i64 st.gap, .int .i64 st.sp, .int .i64 st.stretch, .int .i64 st.shrink, .int .i64 st.letter, .int .i64 st.hyphen, .int .i64 st.every,
  .slice st.pos.1 st.pos.2.1 st.pos.2.2, .slice st.lay.1 st.lay.2.1 st.lay.2.2]
def okL (n : Int) : Bool := decide (0 ≤ n) && decide (n ≤ 1073741824)
def styleI (st : St) : Int := if okL st.width = true ∧ okL st.letter = true ∧ okL st.sp = true ∧ okL st.nh = true then 0 else 2
theorem okL_cases (n : Int) : (okL n = true ∧ ¬ n < 0 ∧ ¬ 1073741824 < n) ∨ (okL n = false ∧ n < 0) ∨ (okL n = false ∧ ¬ n < 0 ∧ 1073741824 < n) := by
  unfold okL
  by_cases h1 : n < 0
  · right; left; exact ⟨by simp; omega, h1⟩
  · by_cases h2 : 1073741824 < n
    · right; right; exact ⟨by simp; omega, h1, h2⟩
    · left; exact ⟨by simp; omega, h1, h2⟩

theorem idx4_0 (x0 x1 x2 x3 : Int) (w : World) : (Instr.index 74 (.agg #[.int .i64 x0, .int .i64 x1, .int .i64 x2, .int .i64 x3]) (.int .i64 0)).run Tryd.prog w = .ok (.int .i64 x0) w := by kernel_rfl
theorem idx4_1 (x0 x1 x2 x3 : Int) (w : World) : (Instr.index 74 (.agg #[.int .i64 x0, .int .i64 x1, .int .i64 x2, .int .i64 x3]) (.int .i64 1)).run Tryd.prog w = .ok (.int .i64 x1) w := by kernel_rfl
theorem idx4_2 (x0 x1 x2 x3 : Int) (w : World) : (Instr.index 74 (.agg #[.int .i64 x0, .int .i64 x1, .int .i64 x2, .int .i64 x3]) (.int .i64 2)).run Tryd.prog w = .ok (.int .i64 x2) w := by kernel_rfl
theorem idx4_3 (x0 x1 x2 x3 : Int) (w : World) : (Instr.index 74 (.agg #[.int .i64 x0, .int .i64 x1, .int .i64 x2, .int .i64 x3]) (.int .i64 3)).run Tryd.prog w = .ok (.int .i64 x3) w := by kernel_rfl

set_option maxHeartbeats 4000000 in
set_option maxRecDepth 100000 in
theorem cstyle_any (st : St) (w : World) :
    Calls Tryd.prog 18 #[.agg st.cells] w fun e w' => e = .returned (.int .i64 (styleI st)) ∧ Below w.heap.size w w' := by
  have hI : Hid (styleI st = if okL st.width = true ∧ okL st.letter = true ∧ okL st.sp = true ∧ okL st.nh = true then 0 else 2) := rfl
  have H0 := okL_cases st.width
  have H1 := okL_cases st.letter
  have H2 := okL_cases st.sp
  have H3 := okL_cases st.nh
  have hb := below_al w (.cells st.cells 25)
  unfold St.cells at *
  generalize styleI st = r at *
  generalize okL st.width = o0 at *
  generalize okL st.letter = o1 at *
  generalize okL st.sp = o2 at *
  generalize okL st.nh = o3 at *
  generalize st.width = x0 at *
  generalize st.letter = x1 at *
  generalize st.sp = x2 at *
  generalize st.nh = x3 at *
  have hx0 := fun w' => idx4_0 x0 x1 x2 x3 w'
  have hx1 := fun w' => idx4_1 x0 x1 x2 x3 w'
  have hx2 := fun w' => idx4_2 x0 x1 x2 x3 w'
  have hx3 := fun w' => idx4_3 x0 x1 x2 x3 w'
  go_enter Tryd.func18, Tryd.ntmps18
  go_wp2
  go_loop [14] (fun i => ∃ k : Nat, k ≤ 4 ∧ i = .int .i64 k ∧ Hid ((1 ≤ k → o0 = true) ∧ (2 ≤ k → o1 = true) ∧ (3 ≤ k → o2 = true) ∧ (4 ≤ k → o3 = true))) (fun i => 4 - (intOf i).toNat)
  case atStart => exact ⟨0, by omega, rfl, by simp [Hid]⟩
  case round =>
    obtain ⟨k, hk, rfl, HK⟩ := hrel
    by_cases e0 : k = 0
    · subst e0
      rcases H0 with ⟨ho, ha, hc⟩ | ⟨ho, ha⟩ | ⟨ho, ha, hc⟩
      · go_wp2
        go_round
        case rel =>
          refine ⟨1, by omega, rfl, ?_⟩
          have h := HK.out
          exact ⟨fun _ => ho, fun h' => absurd h' (by omega), fun h' => absurd h' (by omega), fun h' => absurd h' (by omega)⟩
        case measure => simp [intOf]
      · have hR : Hid (r = 2) := by rw [hI.out, ho]; simp [Hid]
        go_wp2
        go_ret
        exact ⟨ret_int hR.out.symm, hb⟩
      · have hR : Hid (r = 2) := by rw [hI.out, ho]; simp [Hid]
        go_wp2
        go_ret
        exact ⟨ret_int hR.out.symm, hb⟩
    by_cases e1 : k = 1
    · subst e1
      rcases H1 with ⟨ho, ha, hc⟩ | ⟨ho, ha⟩ | ⟨ho, ha, hc⟩
      · go_wp2
        go_round
        case rel =>
          refine ⟨2, by omega, rfl, ?_⟩
          have h := HK.out
          exact ⟨fun _ => h.1 (by omega), fun h' => ho, fun h' => absurd h' (by omega), fun h' => absurd h' (by omega)⟩
        case measure => simp [intOf]
      · have hR : Hid (r = 2) := by rw [hI.out, ho]; simp [Hid]
        go_wp2
        go_ret
        exact ⟨ret_int hR.out.symm, hb⟩
      · have hR : Hid (r = 2) := by rw [hI.out, ho]; simp [Hid]
        go_wp2
        go_ret
        exact ⟨ret_int hR.out.symm, hb⟩
    by_cases e2 : k = 2
    · subst e2
      rcases H2 with ⟨ho, ha, hc⟩ | ⟨ho, ha⟩ | ⟨ho, ha, hc⟩
      · go_wp2
        go_round
        case rel =>
          refine ⟨3, by omega, rfl, ?_⟩
          have h := HK.out
          exact ⟨fun _ => h.1 (by omega), fun h' => h.2.1 (by omega), fun h' => ho, fun h' => absurd h' (by omega)⟩
        case measure => simp [intOf]
      · have hR : Hid (r = 2) := by rw [hI.out, ho]; simp [Hid]
        go_wp2
        go_ret
        exact ⟨ret_int hR.out.symm, hb⟩
      · have hR : Hid (r = 2) := by rw [hI.out, ho]; simp [Hid]
        go_wp2
        go_ret
        exact ⟨ret_int hR.out.symm, hb⟩
    by_cases e3 : k = 3
    · subst e3
      rcases H3 with ⟨ho, ha, hc⟩ | ⟨ho, ha⟩ | ⟨ho, ha, hc⟩
      · go_wp2
        go_round
        case rel =>
          refine ⟨4, by omega, rfl, ?_⟩
          have h := HK.out
          exact ⟨fun _ => h.1 (by omega), fun h' => h.2.1 (by omega), fun h' => h.2.2.1 (by omega), fun h' => ho⟩
        case measure => simp [intOf]
      · have hR : Hid (r = 2) := by rw [hI.out, ho]; simp [Hid]
        go_wp2
        go_ret
        exact ⟨ret_int hR.out.symm, hb⟩
      · have hR : Hid (r = 2) := by rw [hI.out, ho]; simp [Hid]
        go_wp2
        go_ret
        exact ⟨ret_int hR.out.symm, hb⟩
    obtain rfl : k = 4 := by omega
    have hR : Hid (r = 0) := by
      have h := HK.out
      rw [hI.out, if_pos ⟨h.1 (by omega), h.2.1 (by omega), h.2.2.1 (by omega), h.2.2.2 (by omega)⟩]; rfl
    go_wp2
    go_ret
    exact ⟨ret_int hR.out.symm, hb⟩
end Go.Proofs.YtlneimjenjpbnaaDoor
