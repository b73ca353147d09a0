/-
  The program's charset functions (Kind, Letters, IsName), each by a contract.
-/
import Derived.Test.YtigaflmhdbgmdaaDoorHid
import Derived.Test.YtigaflmhdbgmdaaDoorRows
import Derived.WalkLawsBesides
import Derived.Deep.QuietTactic
import Derived.BigQuiet
import Derived.Lib.Bytealg
import Derived.Lib.Strings
import Derived.Laws.Strings3
import Derived.Shelf.Strings.Search1
namespace Go.Proofs.YtigaflmhdbgmdaaDoor
open Go.RowKit


def kindI (c : Int) : Int :=
  if (97 ≤ c ∧ c ≤ 122) ∨ (65 ≤ c ∧ c ≤ 90) then 1 else if c = 94 ∨ c = 126 ∨ c = 37 then 2 else if 48 ≤ c ∧ c ≤ 57 then 3 else if c = 39 then 4 else if c = 32 then 6
  else if c = 46 ∨ c = 44 ∨ c = 59 ∨ c = 58 ∨ c = 33 ∨ c = 63 ∨ c = 40 ∨ c = 41 ∨ c = 45 then 5 else 0

set_option maxHeartbeats 400000 in
theorem indexByte_any (s : ByteArray) (c : Int) (w : World) :
    Calls Tryd.prog 78 #[.string s, .int .u8 c] w fun e w' => e = .returned (.int .i64 (Lib.indexByte s.data.toList c.toNat.toUInt8)) ∧ w = w' := by
  go_enter Tryd.func78, Tryd.ntmps78
  go_wp2
  rw [run_callFunc_extern Tryd.func85 (by kernel_rfl) (by kernel_rfl) (by kernel_rfl) (e := Extern.BytealgIndexByte.indexByte) (by kernel_rfl), Lib.run_indexByteString]
  simp only [Result.andThen]
  rw [Oper.upon_value]
  go_wp2
  go_ret
  exact ⟨rfl, rfl⟩

def pIdx (c : Int) : Int := Lib.indexByte [46, 44, 59, 58, 33, 63, 40, 41, 45] c.toNat.toUInt8

theorem pIdx_pos (c : Int) (h0 : 0 ≤ c) (h1 : c ≤ 255) : 0 ≤ pIdx c ↔ (c = 46 ∨ c = 44 ∨ c = 59 ∨ c = 58 ∨ c = 33 ∨ c = 63 ∨ c = 40 ∨ c = 41 ∨ c = 45) := by
  obtain ⟨n, rfl⟩ := Int.eq_ofNat_of_zero_le h0
  have : ∀ n : Fin 256, 0 ≤ pIdx (n.val : Int) ↔ ((n.val : Int) = 46 ∨ (n.val : Int) = 44 ∨ (n.val : Int) = 59 ∨ (n.val : Int) = 58 ∨ (n.val : Int) = 33 ∨ (n.val : Int) = 63 ∨ (n.val : Int) = 40 ∨ (n.val : Int) = 41 ∨ (n.val : Int) = 45) := by decide +kernel
  exact this ⟨n, by omega⟩

theorem idxPunct_any (c : Int) (w : World) :
    Calls Tryd.prog 78 #[.string ⟨#[46, 44, 59, 58, 33, 63, 40, 41, 45]⟩, .int .u8 c] w fun e w' => e = .returned (.int .i64 (pIdx c)) ∧ w = w' := indexByte_any _ _ _

set_option maxHeartbeats 1000000 in
theorem kind_any (c : Int) (h0 : 0 ≤ c) (h1 : c ≤ 255) (w : World) :
    Calls Tryd.prog 71 #[.int .u8 c] w fun e w' => e = .returned (.int .i64 (kindI c)) ∧ w = w' := by
  have hp := pIdx_pos c h0 h1
  have HP := hid hp; clear hp
  go_enter Tryd.func71, Tryd.ntmps71
  go_wp2_with (go_at_call 78; refine (idxPunct_any _ _).mono ?_; rintro e w' ⟨rfl, rfl⟩)
  all_goals go_ret
  all_goals refine ⟨ret_int ?_, rfl⟩
  all_goals (have hp := HP.out; clear HP)
  all_goals first
    | rfl
    | ((try simp only [beq_iff_eq, beq_eq_false_iff_ne, bne_iff_ne, bne_eq_false_iff_eq, ne_eq] at *); unfold kindI; (repeat' split) <;> omega)

def isLet (c : UInt8) : Bool := kindI c.toNat == 1 || kindI c.toNat == 3
def lettersI (l : List UInt8) : Int := (l.filter isLet).length
theorem lettersI_le (l : List UInt8) : 0 ≤ lettersI l ∧ lettersI l ≤ l.length := by
  unfold lettersI; exact ⟨by omega, by have := List.length_filter_le isLet l; omega⟩
theorem take_snoc (s : ByteArray) (k : Nat) (h : k < s.size) : s.data.toList.take (k + 1) = s.data.toList.take k ++ [s[k]] := by
  rw [List.take_succ_eq_append_getElem (by simpa using h)]; rfl
theorem lettersI_snoc (l : List UInt8) (c : UInt8) : lettersI (l ++ [c]) = lettersI l + if isLet c = true then 1 else 0 := by
  unfold lettersI
  rw [List.filter_append]
  by_cases h : isLet c = true <;> simp [h]
set_option maxHeartbeats 400000 in
theorem letters_any (s : ByteArray) (w : World) (hs : s.size ≤ maxLen) :
    Calls Tryd.prog 61 #[.string s] w fun e w' => e = .returned (.int .i64 (lettersI s.data.toList)) ∧ w = w' := by
  unfold maxLen at hs
  go_enter Tryd.func61, Tryd.ntmps61
  go_wp2
  go_loop [3, 8] (fun n i => ∃ k : Nat, k ≤ s.size ∧ i = .int .i64 k ∧ n = .int .i64 (lettersI (s.data.toList.take k))) (fun _ i => s.size - (intOf i).toNat)
  case atStart => exact ⟨0, Nat.zero_le _, rfl, rfl⟩
  case round =>
    obtain ⟨k, hk, rfl, rfl⟩ := hrel
    have hd := lettersI_le (s.data.toList.take k)
    have hl : (s.data.toList.take k).length ≤ k := List.length_take_le _ _
    by_cases hlt : k < s.size
    · have hsn := lettersI_snoc (s.data.toList.take k) s[k]
      rw [← take_snoc s k hlt] at hsn
      have HS := hid hsn
      clear hsn
      have hu : 0 ≤ (s[k].toNat : Int) ∧ (s[k].toNat : Int) ≤ 255 := ⟨by omega, by have := UInt8.toNat_lt s[k]; omega⟩
      by_cases h1 : kindI s[k].toNat = 1
      · rw [if_pos (by simp [isLet, h1])] at HS
        have b1 := beq_iff_eq.2 h1
        clear h1
        go_wp2_with (go_at_call 71; refine (kind_any _ (by omega) (by omega) _).mono ?_; rintro e w' ⟨rfl, rfl⟩)
        go_round
        case rel => exact ⟨k + 1, by omega, by go_num, by rw [HS.out]⟩
        case measure => simp [intOf]; omega
      · have b1 := beq_eq_false_iff_ne.2 h1
        by_cases h3 : kindI s[k].toNat = 3
        · rw [if_pos (by simp [isLet, h3])] at HS
          have b3 := beq_iff_eq.2 h3
          clear h1 h3
          go_wp2_with (go_at_call 71; refine (kind_any _ (by omega) (by omega) _).mono ?_; rintro e w' ⟨rfl, rfl⟩)
          go_round
          case rel => exact ⟨k + 1, by omega, by go_num, by rw [HS.out]⟩
          case measure => simp [intOf]; omega
        · rw [if_neg (by simp [isLet, h1, h3])] at HS
          have b3 := beq_eq_false_iff_ne.2 h3
          clear h1 h3
          go_wp2_with (go_at_call 71; refine (kind_any _ (by omega) (by omega) _).mono ?_; rintro e w' ⟨rfl, rfl⟩)
          go_round
          case rel => exact ⟨k + 1, by omega, by go_num, by rw [HS.out]; go_num⟩
          case measure => simp [intOf]; omega
    · go_wp2
      go_ret
      exact ⟨ret_int (by rw [List.take_of_length_le (by simp; omega)]), rfl⟩
end Go.Proofs.YtigaflmhdbgmdaaDoor
