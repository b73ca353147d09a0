/-
  The reference's charset functions: Kind, Letters, right, Check, IsWord, IsName.
-/
import Derived.Test.YtmbehkanhefcpaaGreatDoorSigA
import Derived.Test.YtmbehkanhefcpaaGreatDoorBits
namespace Go.Proofs.YtmbehkanhefcpaaGreatDoor
open Go.RowKit

set_option maxHeartbeats 2000000 in
theorem rkind_any (c : Int) (h0 : 0 ≤ c) (h1 : c ≤ 255) (w : World) :
    Calls Tryz.prog 50 #[.int .u8 c] w fun e w' => e = .returned (.int .i64 (kindI c)) ∧ w = w' := by
  have hcs : (c = 94 ∨ c = 126 ∨ c = 37 ∨ c = 39 ∨ c = 32 ∨ c = 46 ∨ c = 44 ∨ c = 59 ∨ c = 58 ∨ c = 33 ∨ c = 63 ∨ c = 40 ∨ c = 41 ∨ c = 45) ∨
      ((97 ≤ c ∧ c ≤ 122) ∨ (65 ≤ c ∧ c ≤ 90)) ∨ (48 ≤ c ∧ c ≤ 57) ∨
      (¬ ((97 ≤ c ∧ c ≤ 122) ∨ (65 ≤ c ∧ c ≤ 90)) ∧ ¬ (48 ≤ c ∧ c ≤ 57) ∧ (c ≠ 94 ∧ c ≠ 126 ∧ c ≠ 37 ∧ c ≠ 39 ∧ c ≠ 32 ∧ c ≠ 46 ∧ c ≠ 44 ∧ c ≠ 59 ∧ c ≠ 58 ∧ c ≠ 33 ∧ c ≠ 63 ∧ c ≠ 40 ∧ c ≠ 41 ∧ c ≠ 45)) := by omega
  rcases hcs with h | h | h | h
  · rcases h with rfl | rfl | rfl | rfl | rfl | rfl | rfl | rfl | rfl | rfl | rfl | rfl | rfl | rfl
    all_goals
      go_enter Tryz.func50, Tryz.ntmps50
      go_wp2
      go_ret
      exact ⟨rfl, rfl⟩
  · have HK : Hid (kindI c = 1) := by unfold kindI; rw [if_pos h]; rfl
    rcases h with ⟨ha, hb⟩ | ⟨ha, hb⟩
    · go_enter Tryz.func50, Tryz.ntmps50
      go_wp2
      go_ret
      exact ⟨ret_int HK.out.symm, rfl⟩
    · go_enter Tryz.func50, Tryz.ntmps50
      go_wp2
      go_ret
      exact ⟨ret_int HK.out.symm, rfl⟩
  · have HK : Hid (kindI c = 3) := by unfold kindI; rw [if_neg (by omega), if_neg (by omega), if_pos h]; rfl
    obtain ⟨ha, hb⟩ := h
    have hb1 : (c == 94) = false := beq_eq_false_iff_ne.2 (by omega)
    have hb2 : (c == 126) = false := beq_eq_false_iff_ne.2 (by omega)
    have hb3 : (c == 37) = false := beq_eq_false_iff_ne.2 (by omega)
    go_enter Tryz.func50, Tryz.ntmps50
    go_wp2
    go_ret
    exact ⟨ret_int HK.out.symm, rfl⟩
  · obtain ⟨hl, hd, n1, n2, n3, n4, n5, n6, n7, n8, n9, n10, n11, n12, n13, n14⟩ := h
    have HK : Hid (kindI c = 0) := by unfold kindI; rw [if_neg hl, if_neg (by omega), if_neg hd, if_neg n4, if_neg n5, if_neg (by omega)]; rfl
    have b1 := beq_eq_false_iff_ne.2 n1; have b2 := beq_eq_false_iff_ne.2 n2; have b3 := beq_eq_false_iff_ne.2 n3; have b4 := beq_eq_false_iff_ne.2 n4
    have b5 := beq_eq_false_iff_ne.2 n5; have b6 := beq_eq_false_iff_ne.2 n6; have b7 := beq_eq_false_iff_ne.2 n7; have b8 := beq_eq_false_iff_ne.2 n8
    have b9 := beq_eq_false_iff_ne.2 n9; have b10 := beq_eq_false_iff_ne.2 n10; have b11 := beq_eq_false_iff_ne.2 n11; have b12 := beq_eq_false_iff_ne.2 n12
    have b13 := beq_eq_false_iff_ne.2 n13; have b14 := beq_eq_false_iff_ne.2 n14
    clear n1 n2 n3 n4 n5 n6 n7 n8 n9 n10 n11 n12 n13 n14
    have hcase : (c < 48 ∨ (57 < c ∧ c < 65)) ∨ (90 < c ∧ c < 97) ∨ 122 < c := by omega
    clear hl hd
    rcases hcase with (h | ⟨h, h'⟩) | ⟨h, h'⟩ | h
    all_goals
      go_enter Tryz.func50, Tryz.ntmps50
      go_wp2
      go_ret
      exact ⟨ret_int HK.out.symm, rfl⟩

set_option maxHeartbeats 400000 in
theorem rletters_any (s : ByteArray) (w : World) (hs : s.size ≤ maxLen) :
    Calls Tryz.prog 94 #[.string s] w fun e w' => e = .returned (.int .i64 (lettersI s.data.toList)) ∧ w = w' := by
  unfold maxLen at hs
  go_enter Tryz.func94, Tryz.ntmps94
  go_wp2
  go_loop [3, 4] (fun n i => ∃ k : Nat, k ≤ s.size ∧ i = .int .i64 k ∧ n = .int .i64 (lettersI (s.data.toList.take k))) (fun _ i => s.size - (intOf i).toNat)
  case atStart => exact ⟨0, Nat.zero_le _, rfl, rfl⟩
  case round =>
    obtain ⟨k, hk, rfl, rfl⟩ := hrel
    have hd := lettersI_le (s.data.toList.take k)
    have hl : (s.data.toList.take k).length ≤ k := List.length_take_le _ _
    by_cases hlt : k < s.size
    · have hsn := lettersI_snoc (s.data.toList.take k) s[k]
      rw [← take_snoc s k hlt] at hsn
      have HS := hid hsn
      clear hsn
      have hu : 0 ≤ (s[k].toNat : Int) ∧ (s[k].toNat : Int) ≤ 255 := ⟨by omega, by have := UInt8.toNat_lt s[k]; omega⟩
      by_cases h1 : kindI s[k].toNat = 1
      · rw [if_pos (by simp [isLet, h1])] at HS
        have b1 := beq_iff_eq.2 h1
        clear h1
        go_wp2_with (go_at_call 50; refine (rkind_any _ (by omega) (by omega) _).mono ?_; rintro e w' ⟨rfl, rfl⟩)
        go_round
        case rel => exact ⟨k + 1, by omega, by go_num, by rw [HS.out]⟩
        case measure => simp [intOf]; omega
      · have b1 := beq_eq_false_iff_ne.2 h1
        by_cases h3 : kindI s[k].toNat = 3
        · rw [if_pos (by simp [isLet, h3])] at HS
          have b3 := beq_iff_eq.2 h3
          clear h1 h3
          go_wp2_with (go_at_call 50; refine (rkind_any _ (by omega) (by omega) _).mono ?_; rintro e w' ⟨rfl, rfl⟩)
          go_round
          case rel => exact ⟨k + 1, by omega, by go_num, by rw [HS.out]⟩
          case measure => simp [intOf]; omega
        · rw [if_neg (by simp [isLet, h1, h3])] at HS
          have b3 := beq_eq_false_iff_ne.2 h3
          clear h1 h3
          go_wp2_with (go_at_call 50; refine (rkind_any _ (by omega) (by omega) _).mono ?_; rintro e w' ⟨rfl, rfl⟩)
          go_round
          case rel => exact ⟨k + 1, by omega, by go_num, by rw [HS.out]; go_num⟩
          case measure => simp [intOf]; omega
    · go_wp2
      go_ret
      exact ⟨ret_int (by rw [List.take_of_length_le (by simp; omega)]), rfl⟩
end Go.Proofs.YtmbehkanhefcpaaGreatDoor
