/-
  The reference's Text; the check of a style, the program's and the reference's.
-/
import Derived.Test.YtajhkfmhoihjfaaDoorNoteA
namespace Go.Proofs.YtajhkfmhoihjfaaDoor
open Go.RowKit

theorem infoStrN : (Tryd.prog.info? 9).map (fun i => (i.zero, i.size, i.bytes)) = some (some (.string ⟨#[]⟩), 1, 16) := by kernel_rfl

set_option maxHeartbeats 4000000 in
set_option maxRecDepth 100000 in
theorem rntext_any (s : ByteArray) (w : World) :
    Calls Tryd.prog 14 #[.string s] w fun e w' => ∃ v, e = .returned (.tuple #[v, .int .i64 (noteI s)]) ∧ RdS w' v (noteL s) ∧ Below w.heap.size w w' := by
  by_cases h64 : 65536 < s.size
  · have hI : Hid (noteI s = 4) := by unfold noteI; rw [if_pos h64]; rfl
    have hL : Hid (noteL s = []) := by unfold noteL; rw [hI.out]; rfl
    have q1 : (65536 : Int) < (s.size : Int) := by omega
    go_enter Tryd.func14, Tryd.ntmps14
    go_wp2
    go_ret2
    exact ⟨_, by rw [hI.out]; rfl, by rw [hL.out]; exact Rd.nil _, Below.refl _ _⟩
  have h1 : ¬ (65536 : Int) < (s.size : Int) := by omega
  by_cases h0 : s.size = 0
  · have hI : Hid (noteI s = 5) := by unfold noteI; rw [if_neg h64, if_pos h0]; rfl
    have hL : Hid (noteL s = []) := by unfold noteL; rw [hI.out]; rfl
    obtain rfl : s = ⟨#[]⟩ := by
      rcases s with ⟨a⟩
      congr 1
      exact Array.eq_empty_of_size_eq_zero h0
    clear h0 h64
    go_enter Tryd.func14, Tryd.ntmps14
    go_wp2
    go_ret2
    exact ⟨_, by rw [hI.out]; rfl, by rw [hL.out]; exact Rd.nil _, Below.refl _ _⟩
  have h2 := mt_ne h0
  have HI1 : Hid (noteI s = if s.data.toList.any badC = true then 11 else if holeB (splitS s) = true then 3 else 0) := by unfold noteI; rw [if_neg h64, if_neg h0]; rfl
  have HL : Hid (noteL s = if noteI s = 0 then splitS s else []) := rfl
  clear h0
  go_enter Tryd.func14, Tryd.ntmps14
  go_wp2
  go_loop [4] (fun i => ∃ k : Nat, k ≤ s.size ∧ i = .int .i64 k ∧ Hid (∀ y ∈ s.data.toList.take k, badC y = false)) (fun i => s.size - (intOf i).toNat)
  case atStart => exact ⟨0, by omega, rfl, by simp [Hid]⟩
  case round =>
    obtain ⟨k, hk, rfl, HK⟩ := hrel
    by_cases hlt : k < s.size
    · have HG := hid (getL s k hlt)
      by_cases h32 : s[k].toNat < 32
      · have hI : Hid (noteI s = 11) := by
          rw [HI1.out, if_pos]; · rfl
          exact List.any_eq_true.2 ⟨_, List.mem_of_getElem? HG.out, by simp [badC, h32]⟩
        have hL : Hid (noteL s = []) := by rw [HL.out, hI.out]; rfl
        have q2 : (s[k].toNat : Int) < 32 := by omega
        go_wp2
        go_ret2
        exact ⟨_, by rw [hI.out]; rfl, by rw [hL.out]; exact Rd.nil _, Below.refl _ _⟩
      · have q2 : ¬ (s[k].toNat : Int) < 32 := by omega
        by_cases h126 : 126 < s[k].toNat
        · have hI : Hid (noteI s = 11) := by
            rw [HI1.out, if_pos]; · rfl
            exact List.any_eq_true.2 ⟨_, List.mem_of_getElem? HG.out, by simp [badC, h126]⟩
          have hL : Hid (noteL s = []) := by rw [HL.out, hI.out]; rfl
          have q3 : (126 : Int) < (s[k].toNat : Int) := by omega
          go_wp2
          go_ret2
          exact ⟨_, by rw [hI.out]; rfl, by rw [hL.out]; exact Rd.nil _, Below.refl _ _⟩
        · have q3 : ¬ (126 : Int) < (s[k].toNat : Int) := by omega
          have HB : Hid (badC s[k] = false) := by simp [badC, Hid]; omega
          go_wp2
          go_round
          case rel => exact ⟨k + 1, by omega, by go_num, bad_take HK.out HG.out HB.out⟩
          case measure => simp [intOf]; omega
    · obtain rfl : k = s.size := by omega
      have HI : Hid (noteI s = if holeB (splitS s) = true then 3 else 0) := by
        rw [HI1.out, if_neg]; · rfl
        rw [Bool.not_eq_true, List.any_eq_false]
        have h := HK.out
        rw [List.take_of_length_le (show s.data.toList.length ≤ s.size from Nat.le_refl _)] at h
        intro y hy; rw [h y hy]; simp
      clear HI1 HK hlt
      go_wp2
      go_loopw [5, 6, 7] (fun o f i wr => ∃ (j k : Nat) (ks : List ByteArray), k ≤ s.size + 1 ∧ j ≤ k ∧ i = .int .i64 k ∧ f = .int .i64 j ∧ Hid (CutAt s.data.toList ks j k) ∧ wr.ownsRow w.heap.size 9 1 o ks.length (ks.map Value.string) ∧ Below w.heap.size w wr) (fun _ _ i _ => s.size + 1 - (intOf i).toNat)
      case atStart => exact ⟨0, 0, [], by omega, by omega, rfl, rfl, CutAt.start _, World.ownsRow_made w #[] 0 (Nat.le_refl _) (by unfold maxLen; omega) rfl, below_al w _⟩
      case round =>
        rename_i wr
        obtain ⟨j, k, ks, hk, hjk, rfl, rfl, HC, hown, hB⟩ := hrel
        have hb := HC.out.bound
        have hsz : s.data.toList.length = s.size := rfl
        rw [hsz] at hb
        by_cases hlt : k ≤ s.size
        · have push : ∀ (w3 : World) (v' : Value), w3.ownsRow w.heap.size 9 1 v' (ks.length + 1) (ks.map Value.string ++ [Value.string (s.extract j k)]) → w3.ownsRow w.heap.size 9 1 v' (ks ++ [s.extract j k]).length ((ks ++ [s.extract j k]).map Value.string) := fun w3 v' h => by simpa using h
          have HPush := hid push
          clear push
          by_cases hjk2 : k = j
          · obtain rfl := hjk2
            have q1 : ((k : Int) == (k : Int)) = true := by simp
            by_cases hlt2 : k < s.size
            · by_cases h32 : s[k] = 32
              · have hh := HC.out.hole (fun _ => by rw [getL s k hlt2, h32]) hlt
                have hI : Hid (noteI s = 3) := by rw [HI.out, if_pos hh]; rfl
                have hL : Hid (noteL s = []) := by rw [HL.out, hI.out]; rfl
                have q3 : ((s[k].toNat : Int) == 32) = true := by rw [h32]; rfl
                clear hh h32
                go_wp2
                go_ret2
                exact ⟨_, by rw [hI.out]; rfl, by rw [hL.out]; exact Rd.nil _, hB⟩
              · have HC2 := hid (HC.out.skip (by omega) s[k] (getL s k hlt2) h32)
                have q3 := byte_ne h32
                clear h32
                go_wp2
                go_roundw
                case rel => exact ⟨k, k + 1, ks, by omega, by omega, by go_num, rfl, HC2.out, hown, hB⟩
                case measure => simp [intOf]; omega
            · obtain rfl : k = s.size := by omega
              have hh := HC.out.hole (fun h => absurd h hlt2) hlt
              have hI : Hid (noteI s = 3) := by rw [HI.out, if_pos hh]; rfl
              have hL : Hid (noteL s = []) := by rw [HL.out, hI.out]; rfl
              clear hh
              go_wp2
              go_ret2
              exact ⟨_, by rw [hI.out]; rfl, by rw [hL.out]; exact Rd.nil _, hB⟩
          · have q1 : ((k : Int) == (j : Int)) = false := by simp; omega
            by_cases hlt2 : k < s.size
            · by_cases h32 : s[k] = 32
              · have HC2 := hid (HC.out.split hlt2 (by rw [getL s k hlt2, h32]) hjk2)
                have q3 : ((s[k].toNat : Int) == 32) = true := by rw [h32]; rfl
                clear h32
                go_wp2_with (at_builtin; refine wpList_ap rfl _ _ 23 rfl w.heap.size 9 Tryd.underlying23 infoStrN rfl (by decide) (by decide) _ _ _ rfl hown [.string (s.extract j k)] rfl (by simp [Value.oneCell']) rfl (by simp) (by omega) hB.size ?_; intro v' w1 hown' hb1 _)
                go_roundw
                case rel => exact ⟨k + 1, k + 1, _, by omega, by omega, by go_num, by go_num, HC2.out, HPush.out _ _ hown', hB.trans hb1⟩
                case measure => simp [intOf]; omega
              · have HC2 := hid (HC.out.skip (by omega) s[k] (getL s k hlt2) h32)
                have q3 := byte_ne h32
                clear h32
                go_wp2
                go_roundw
                case rel => exact ⟨j, k + 1, ks, by omega, by omega, by go_num, rfl, HC2.out, hown, hB⟩
                case measure => simp [intOf]; omega
            · obtain rfl : k = s.size := by omega
              have HC2 := hid (HC.out.last hjk2)
              go_wp2_with (at_builtin; refine wpList_ap rfl _ _ 23 rfl w.heap.size 9 Tryd.underlying23 infoStrN rfl (by decide) (by decide) _ _ _ rfl hown [.string (s.extract j s.size)] rfl (by simp [Value.oneCell']) rfl (by simp) (by omega) hB.size ?_; intro v' w1 hown' hb1 _)
              go_roundw
              case rel => exact ⟨s.size + 1, s.size + 1, _, by omega, by omega, by go_num, by go_num, HC2.out, HPush.out _ _ hown', hB.trans hb1⟩
              case measure => simp [intOf]
        · obtain rfl : k = s.size + 1 := by omega
          obtain ⟨e1, e2⟩ := HC.out.done
          have hI : Hid (noteI s = 0) := by rw [HI.out, e2]; rfl
          have hL : Hid (noteL s = ks) := by rw [HL.out, hI.out, e1]; rfl
          have hr := Rd.of_own (enc := Value.string) hown
          obtain ⟨ao, capo, rfl, _, _, _⟩ := hr.open
          clear hown
          go_wp2
          go_ret2
          exact ⟨_, by rw [hI.out]; rfl, by rw [hL.out]; exact hr, hB⟩

/-- A style: its eleven numbers, and two values that are not looked at. -/
structure St where
  width : Int
  lh : Int
  nh : Int
  ph : Int
  gap : Int
  sp : Int
  stretch : Int
  shrink : Int
  letter : Int
  hyphen : Int
  every : Int
  pos : Option Addr × Nat × Nat
  lay : Option Addr × Nat × Nat
def St.cells (st : St) : Array Value := #[.int .i64 st.width, .int .i64 st.lh, .int .i64 st.nh, .int .i64 st.ph, .int .i64 st.gap, .int .i64 st.sp, .int .i64 st.stretch, .int .i64 st.shrink, .int .i64 st.letter, .int .i64 st.hyphen, .int .i64 st.every,
  .slice st.pos.1 st.pos.2.1 st.pos.2.2, .slice st.lay.1 st.lay.2.1 st.lay.2.2]
def okL (n : Int) : Bool := decide (0 ≤ n) && decide (n ≤ 1073741824)
def styleI (st : St) : Int := if okL st.width = true ∧ okL st.letter = true ∧ okL st.sp = true ∧ okL st.nh = true then 0 else 2
theorem okL_cases (n : Int) : (okL n = true ∧ ¬ n < 0 ∧ ¬ 1073741824 < n) ∨ (okL n = false ∧ n < 0) ∨ (okL n = false ∧ ¬ n < 0 ∧ 1073741824 < n) := by
  unfold okL
  by_cases h1 : n < 0
  · right; left; exact ⟨by simp; omega, h1⟩
  · by_cases h2 : 1073741824 < n
    · right; right; exact ⟨by simp; omega, h1, h2⟩
    · left; exact ⟨by simp; omega, h1, h2⟩

theorem idx4_0 (x0 x1 x2 x3 : Int) (w : World) : (Instr.index 93 (.agg #[.int .i64 x0, .int .i64 x1, .int .i64 x2, .int .i64 x3]) (.int .i64 0)).run Tryd.prog w = .ok (.int .i64 x0) w := by kernel_rfl
theorem idx4_1 (x0 x1 x2 x3 : Int) (w : World) : (Instr.index 93 (.agg #[.int .i64 x0, .int .i64 x1, .int .i64 x2, .int .i64 x3]) (.int .i64 1)).run Tryd.prog w = .ok (.int .i64 x1) w := by kernel_rfl
theorem idx4_2 (x0 x1 x2 x3 : Int) (w : World) : (Instr.index 93 (.agg #[.int .i64 x0, .int .i64 x1, .int .i64 x2, .int .i64 x3]) (.int .i64 2)).run Tryd.prog w = .ok (.int .i64 x2) w := by kernel_rfl
theorem idx4_3 (x0 x1 x2 x3 : Int) (w : World) : (Instr.index 93 (.agg #[.int .i64 x0, .int .i64 x1, .int .i64 x2, .int .i64 x3]) (.int .i64 3)).run Tryd.prog w = .ok (.int .i64 x3) w := by kernel_rfl

set_option maxHeartbeats 4000000 in
set_option maxRecDepth 100000 in
theorem cstyle_any (st : St) (w : World) :
    Calls Tryd.prog 39 #[.agg st.cells] w fun e w' => e = .returned (.int .i64 (styleI st)) ∧ Below w.heap.size w w' := by
  have hI : Hid (styleI st = if okL st.width = true ∧ okL st.letter = true ∧ okL st.sp = true ∧ okL st.nh = true then 0 else 2) := rfl
  have H0 := okL_cases st.width
  have H1 := okL_cases st.letter
  have H2 := okL_cases st.sp
  have H3 := okL_cases st.nh
  have hb := below_al w (.cells st.cells 25)
  unfold St.cells at *
  generalize styleI st = r at *
  generalize okL st.width = o0 at *
  generalize okL st.letter = o1 at *
  generalize okL st.sp = o2 at *
  generalize okL st.nh = o3 at *
  generalize st.width = x0 at *
  generalize st.letter = x1 at *
  generalize st.sp = x2 at *
  generalize st.nh = x3 at *
  have hx0 := fun w' => idx4_0 x0 x1 x2 x3 w'
  have hx1 := fun w' => idx4_1 x0 x1 x2 x3 w'
  have hx2 := fun w' => idx4_2 x0 x1 x2 x3 w'
  have hx3 := fun w' => idx4_3 x0 x1 x2 x3 w'
  go_enter Tryd.func39, Tryd.ntmps39
  go_wp2
  go_loop [14] (fun i => ∃ k : Nat, k ≤ 4 ∧ i = .int .i64 k ∧ Hid ((1 ≤ k → o0 = true) ∧ (2 ≤ k → o1 = true) ∧ (3 ≤ k → o2 = true) ∧ (4 ≤ k → o3 = true))) (fun i => 4 - (intOf i).toNat)
  case atStart => exact ⟨0, by omega, rfl, by simp [Hid]⟩
  case round =>
    obtain ⟨k, hk, rfl, HK⟩ := hrel
    by_cases e0 : k = 0
    · subst e0
      rcases H0 with ⟨ho, ha, hc⟩ | ⟨ho, ha⟩ | ⟨ho, ha, hc⟩
      · go_wp2
        go_round
        case rel =>
          refine ⟨1, by omega, rfl, ?_⟩
          have h := HK.out
          exact ⟨fun _ => ho, fun h' => absurd h' (by omega), fun h' => absurd h' (by omega), fun h' => absurd h' (by omega)⟩
        case measure => simp [intOf]
      · have hR : Hid (r = 2) := by rw [hI.out, ho]; simp [Hid]
        go_wp2
        go_ret
        exact ⟨ret_int hR.out.symm, hb⟩
      · have hR : Hid (r = 2) := by rw [hI.out, ho]; simp [Hid]
        go_wp2
        go_ret
        exact ⟨ret_int hR.out.symm, hb⟩
    by_cases e1 : k = 1
    · subst e1
      rcases H1 with ⟨ho, ha, hc⟩ | ⟨ho, ha⟩ | ⟨ho, ha, hc⟩
      · go_wp2
        go_round
        case rel =>
          refine ⟨2, by omega, rfl, ?_⟩
          have h := HK.out
          exact ⟨fun _ => h.1 (by omega), fun h' => ho, fun h' => absurd h' (by omega), fun h' => absurd h' (by omega)⟩
        case measure => simp [intOf]
      · have hR : Hid (r = 2) := by rw [hI.out, ho]; simp [Hid]
        go_wp2
        go_ret
        exact ⟨ret_int hR.out.symm, hb⟩
      · have hR : Hid (r = 2) := by rw [hI.out, ho]; simp [Hid]
        go_wp2
        go_ret
        exact ⟨ret_int hR.out.symm, hb⟩
    by_cases e2 : k = 2
    · subst e2
      rcases H2 with ⟨ho, ha, hc⟩ | ⟨ho, ha⟩ | ⟨ho, ha, hc⟩
      · go_wp2
        go_round
        case rel =>
          refine ⟨3, by omega, rfl, ?_⟩
          have h := HK.out
          exact ⟨fun _ => h.1 (by omega), fun h' => h.2.1 (by omega), fun h' => ho, fun h' => absurd h' (by omega)⟩
        case measure => simp [intOf]
      · have hR : Hid (r = 2) := by rw [hI.out, ho]; simp [Hid]
        go_wp2
        go_ret
        exact ⟨ret_int hR.out.symm, hb⟩
      · have hR : Hid (r = 2) := by rw [hI.out, ho]; simp [Hid]
        go_wp2
        go_ret
        exact ⟨ret_int hR.out.symm, hb⟩
    by_cases e3 : k = 3
    · subst e3
      rcases H3 with ⟨ho, ha, hc⟩ | ⟨ho, ha⟩ | ⟨ho, ha, hc⟩
      · go_wp2
        go_round
        case rel =>
          refine ⟨4, by omega, rfl, ?_⟩
          have h := HK.out
          exact ⟨fun _ => h.1 (by omega), fun h' => h.2.1 (by omega), fun h' => h.2.2.1 (by omega), fun h' => ho⟩
        case measure => simp [intOf]
      · have hR : Hid (r = 2) := by rw [hI.out, ho]; simp [Hid]
        go_wp2
        go_ret
        exact ⟨ret_int hR.out.symm, hb⟩
      · have hR : Hid (r = 2) := by rw [hI.out, ho]; simp [Hid]
        go_wp2
        go_ret
        exact ⟨ret_int hR.out.symm, hb⟩
    obtain rfl : k = 4 := by omega
    have hR : Hid (r = 0) := by
      have h := HK.out
      rw [hI.out, if_pos ⟨h.1 (by omega), h.2.1 (by omega), h.2.2.1 (by omega), h.2.2.2 (by omega)⟩]; rfl
    go_wp2
    go_ret
    exact ⟨ret_int hR.out.symm, hb⟩
end Go.Proofs.YtajhkfmhoihjfaaDoor
