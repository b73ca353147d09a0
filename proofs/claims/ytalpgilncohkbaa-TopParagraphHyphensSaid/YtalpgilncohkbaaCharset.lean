/-
  The program's charset functions (Kind, Letters, IsName), each by a contract.
-/
import Derived.Test.YtalpgilncohkbaaJ01
import Derived.Test.YtalpgilncohkbaaRows
import Derived.WalkLawsBesides
import Derived.Deep.QuietTactic
import Derived.BigQuiet
import Derived.Lib.Bytealg
import Derived.Lib.Strings
import Derived.Laws.Strings3
import Derived.Shelf.Strings.Search1
namespace Go.Proofs.Ytalpgilncohkbaa
open Go.RowKit


def kindI (c : Int) : Int :=
  if (97 ≤ c ∧ c ≤ 122) ∨ (65 ≤ c ∧ c ≤ 90) then 1 else if c = 94 ∨ c = 126 ∨ c = 37 then 2 else if 48 ≤ c ∧ c ≤ 57 then 3 else if c = 39 then 4 else if c = 32 then 6
  else if c = 46 ∨ c = 44 ∨ c = 59 ∨ c = 58 ∨ c = 33 ∨ c = 63 ∨ c = 40 ∨ c = 41 ∨ c = 45 then 5 else 0

set_option maxHeartbeats 400000 in
set_option maxRecDepth 100000 in
theorem indexByte_any (s : ByteArray) (c : Int) (w : World) :
    Calls Try.prog 66 #[.string s, .int .u8 c] w fun e w' => e = .returned (.int .i64 (Lib.indexByte s.data.toList c.toNat.toUInt8)) ∧ w = w' := by
  go_enter Try.func66, Try.ntmps66
  go_wp2
  rw [run_callFunc_extern Try.func79 (by kernel_rfl) (by kernel_rfl) (by kernel_rfl) (e := Extern.BytealgIndexByte.indexByte) (by kernel_rfl), Lib.run_indexByteString]
  simp only [Result.andThen]
  rw [Oper.upon_value]
  go_wp2
  go_ret
  exact ⟨rfl, rfl⟩

def pIdx (c : Int) : Int := Lib.indexByte [46, 44, 59, 58, 33, 63, 40, 41, 45] c.toNat.toUInt8

theorem pIdx_pos (c : Int) (h0 : 0 ≤ c) (h1 : c ≤ 255) : 0 ≤ pIdx c ↔ (c = 46 ∨ c = 44 ∨ c = 59 ∨ c = 58 ∨ c = 33 ∨ c = 63 ∨ c = 40 ∨ c = 41 ∨ c = 45) := by
  obtain ⟨n, rfl⟩ := Int.eq_ofNat_of_zero_le h0
  have : ∀ n : Fin 256, 0 ≤ pIdx (n.val : Int) ↔ ((n.val : Int) = 46 ∨ (n.val : Int) = 44 ∨ (n.val : Int) = 59 ∨ (n.val : Int) = 58 ∨ (n.val : Int) = 33 ∨ (n.val : Int) = 63 ∨ (n.val : Int) = 40 ∨ (n.val : Int) = 41 ∨ (n.val : Int) = 45) := by decide +kernel
  exact this ⟨n, by omega⟩

theorem idxPunct_any (c : Int) (w : World) :
    Calls Try.prog 66 #[.string ⟨#[46, 44, 59, 58, 33, 63, 40, 41, 45]⟩, .int .u8 c] w fun e w' => e = .returned (.int .i64 (pIdx c)) ∧ w = w' := indexByte_any _ _ _

set_option maxHeartbeats 1000000 in
set_option maxRecDepth 100000 in
theorem kind_any (c : Int) (h0 : 0 ≤ c) (h1 : c ≤ 255) (w : World) :
    Calls Try.prog 48 #[.int .u8 c] w fun e w' => e = .returned (.int .i64 (kindI c)) ∧ w = w' := by
  have hp := pIdx_pos c h0 h1
  have HP := hid hp; clear hp
  go_enter Try.func48, Try.ntmps48
  go_wp2_with (go_at_call 66; refine (idxPunct_any _ _).mono ?_; rintro e w' ⟨rfl, rfl⟩)
  all_goals go_ret
  all_goals refine ⟨ret_int ?_, rfl⟩
  all_goals (have hp := HP.out; clear HP)
  all_goals first
    | rfl
    | ((try simp only [beq_iff_eq, beq_eq_false_iff_ne, bne_iff_ne, bne_eq_false_iff_eq, ne_eq] at *); unfold kindI; (repeat' split) <;> omega)

def isLet (c : UInt8) : Bool := kindI c.toNat == 1 || kindI c.toNat == 3
def lettersI (l : List UInt8) : Int := (l.filter isLet).length
theorem lettersI_le (l : List UInt8) : 0 ≤ lettersI l ∧ lettersI l ≤ l.length := by
  unfold lettersI; exact ⟨by omega, by have := List.length_filter_le isLet l; omega⟩
theorem take_snoc (s : ByteArray) (k : Nat) (h : k < s.size) : s.data.toList.take (k + 1) = s.data.toList.take k ++ [s[k]] := by
  rw [List.take_succ_eq_append_getElem (by simpa using h)]; rfl
theorem lettersI_snoc (l : List UInt8) (c : UInt8) : lettersI (l ++ [c]) = lettersI l + if isLet c = true then 1 else 0 := by
  unfold lettersI
  rw [List.filter_append]
  by_cases h : isLet c = true <;> simp [h]
end Go.Proofs.Ytalpgilncohkbaa
