/-
  The statements' own fine and chosen.
-/
import Derived.Test.YtigaflmhdbgmdaaDoorGreat
import Derived.Test.YtigaflmhdbgmdaaDoorAp
import Derived.Deep.QuietTactic
namespace Go.Proofs.YtigaflmhdbgmdaaDoor
open Go.RowKit

def fineB (names : List ByteArray) (gs : List Grp) : Bool := !greatB names gs && decide (checkI names gs = 0)

theorem bit_test8 (m k : Nat) (hm : m < 256) : (bits .and .u8 ((m : Int) / 2 ^ k) 1 == 1) = m.testBit k := by
  have e1 : (m : Int) / 2 ^ k = ((m / 2 ^ k : Nat) : Int) := by simp
  have hlt : m / 2 ^ k < 256 := Nat.lt_of_le_of_lt (Nat.div_le_self _ _) hm
  have e2 : bits .and .u8 ((m / 2 ^ k : Nat) : Int) ((1 : Nat) : Int) = ((m / 2 ^ k &&& 1 : Nat) : Int) := by
    generalize m / 2 ^ k = a at hlt
    have hx : a &&& 1 < 2 ^ 8 := Nat.and_lt_two_pow _ (by omega)
    have h1 : (BitVec.ofInt 8 (a : Int)).toNat = a := by
      rw [BitVec.ofInt_natCast, BitVec.toNat_ofNat]; exact Nat.mod_eq_of_lt (by omega)
    have h2 : (BitVec.ofInt 8 ((1 : Nat) : Int)).toNat = 1 := by decide
    show IntKind.u8.wrap ((BitVec.ofInt 8 (a : Int) &&& BitVec.ofInt 8 ((1 : Nat) : Int)).toNat : Int) = _
    rw [BitVec.toNat_and, h1, h2]
    have hw : ∀ z : Nat, z < 256 → IntKind.u8.wrap (z : Int) = (z : Int) := by
      intro z hz
      simp [IntKind.wrap, IntKind.signed, IntKind.bits]
      omega
    exact hw _ hx
  rw [e1, show (1 : Int) = ((1 : Nat) : Int) from rfl, e2, Nat.and_one_is_mod, Nat.testBit_eq_decide_div_mod_eq]
  generalize m / 2 ^ k % 2 = r
  rw [Bool.eq_iff_iff]; simp; omega

end Go.Proofs.YtigaflmhdbgmdaaDoor
