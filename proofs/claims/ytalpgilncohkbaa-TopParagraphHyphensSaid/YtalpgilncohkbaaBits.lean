/-
  Contracts: mask, members.
-/
import Derived.Test.YtalpgilncohkbaaCharset
import Derived.Test.YtalpgilncohkbaaJ01
import Derived.Test.YtalpgilncohkbaaPl
namespace Go.Proofs.Ytalpgilncohkbaa
open Go.RowKit

theorem bits_or_u64_nat (a b : Nat) (ha : a < 18446744073709551616) (hb : b < 18446744073709551616) : bits .or .u64 (a : Int) (b : Int) = ((a ||| b : Nat) : Int) := Go.bits_or_u64_nat a b ha hb

/-- A set as the bits of a number. -/
def maskN (l : List Int) : Nat := l.foldl (fun m x => m ||| 2 ^ x.toNat) 0

theorem maskN_snoc (l : List Int) (x : Int) : maskN (l ++ [x]) = maskN l ||| 2 ^ x.toNat := by simp [maskN, List.foldl_append]

theorem foldl_or_lt (n : Nat) (l : List Int) : ∀ m : Nat, m < 2 ^ n → (∀ x ∈ l, x.toNat < n) → l.foldl (fun m x => m ||| 2 ^ x.toNat) m < 2 ^ n := by
  induction l with
  | nil => intro m hm _; exact hm
  | cons a l ih =>
    intro m hm h
    rw [List.foldl_cons]
    exact ih _ (Nat.or_lt_two_pow hm (Nat.pow_lt_pow_right (by omega) (h a List.mem_cons_self))) (fun x hx => h x (List.mem_cons_of_mem _ hx))
theorem maskN_lt (n : Nat) (l : List Int) (h : ∀ x ∈ l, x.toNat < n) : maskN l < 2 ^ n := foldl_or_lt n l 0 (Nat.two_pow_pos n) h

theorem foldl_or_bit (l : List Int) (i : Nat) : ∀ m : Nat, (l.foldl (fun m x => m ||| 2 ^ x.toNat) m).testBit i = (m.testBit i || l.any fun x => decide (x.toNat = i)) := by
  induction l with
  | nil => intro m; simp
  | cons a l ih => intro m; rw [List.foldl_cons, ih, Nat.testBit_or, Nat.testBit_two_pow, List.any_cons, Bool.or_assoc]
theorem maskN_bit (l : List Int) (i : Nat) : (maskN l).testBit i = l.any fun x => decide (x.toNat = i) := by rw [maskN, foldl_or_bit]; simp

theorem or_pow (M : Nat) (x : Int) (hM : M < 18446744073709551616) (hx : 0 ≤ x) (hx1 : x < 64) : bits .or .u64 (M : Int) (IntKind.u64.wrap (2 ^ x.toNat)) = ((M ||| 2 ^ x.toNat : Nat) : Int) := by
  have h2 : (2 : Nat) ^ x.toNat < 18446744073709551616 := by
    have : (2 : Nat) ^ x.toNat < 2 ^ 64 := Nat.pow_lt_pow_right (by omega) (by omega)
    simpa using this
  have h3 : IntKind.u64.wrap (2 ^ x.toNat) = ((2 ^ x.toNat : Nat) : Int) := by
    rw [show (2 : Int) ^ x.toNat = ((2 ^ x.toNat : Nat) : Int) by simp]
    generalize 2 ^ x.toNat = p at *
    exact IntWalk.u64_in _ (by omega)
  rw [h3, bits_or_u64_nat _ _ hM h2]

/-- The places of the bits of a number. -/
def bitsL (m : Nat) : List Int := ((List.range 64).filter fun i => m.testBit i).map fun (i : Nat) => (i : Int)
def bitsTo (m k : Nat) : List Int := ((List.range k).filter fun i => m.testBit i).map fun (i : Nat) => (i : Int)

theorem bitsTo_succ (m k : Nat) : bitsTo m (k + 1) = bitsTo m k ++ if m.testBit k then [(k : Int)] else [] := by
  unfold bitsTo
  rw [List.range_succ, List.filter_append, List.map_append]
  by_cases h : m.testBit k <;> simp [h]
theorem bitsTo_len (m k : Nat) : (bitsTo m k).length ≤ k := by
  unfold bitsTo
  rw [List.length_map]
  have := List.length_filter_le (fun i => m.testBit i) (List.range k)
  simpa using this

theorem bit_test (m k : Nat) (hm : m < 18446744073709551616) : (bits .and .u64 ((m : Int) / 2 ^ k) 1 == 1) = m.testBit k := by
  have e1 : (m : Int) / 2 ^ k = ((m / 2 ^ k : Nat) : Int) := by simp
  have hlt : m / 2 ^ k < 18446744073709551616 := Nat.lt_of_le_of_lt (Nat.div_le_self _ _) hm
  have e2 := Go.bits_and_u64_nat (m / 2 ^ k) 1 hlt (by decide)
  rw [e1, show (1 : Int) = ((1 : Nat) : Int) from rfl, e2, Nat.and_one_is_mod, Nat.testBit_eq_decide_div_mod_eq]
  generalize m / 2 ^ k % 2 = r
  rw [Bool.eq_iff_iff]; simp; omega

/-- The bits of a that are not bits of b. -/
def andN (a b : Nat) : Nat := a &&& (18446744073709551615 - b)
theorem bits_andN (a b : Nat) (ha : a < 18446744073709551616) (hb : b < 18446744073709551616) : bits .andNot .u64 (a : Int) (b : Int) = (andN a b : Nat) := Go.u64_andNot_nat a b ha hb
theorem andN_lt (a b : Nat) (n : Nat) (ha : a < 2 ^ n) : andN a b < 2 ^ n := Nat.lt_of_le_of_lt Nat.and_le_left ha
theorem andN_bit (a b i : Nat) (hb : b < 18446744073709551616) (hi : i < 64) : (andN a b).testBit i = (a.testBit i && !b.testBit i) := by
  unfold andN
  have h := Nat.testBit_two_pow_sub_succ (x := b) (n := 64) hb i
  have h' : (18446744073709551615 - b).testBit i = (decide (i < 64) && !b.testBit i) := by
    rw [← h]; congr 1
    show 18446744073709551615 - b = 18446744073709551616 - (b + 1); omega
  rw [Nat.testBit_and, h']; simp [hi]

theorem infoStr : (Try.prog.info? 9).map (fun i => (i.zero, i.size, i.bytes)) = some (some (.string ⟨#[]⟩), 1, 16) := by kernel_rfl
theorem infoInt : (Try.prog.info? 3).map (fun i => (i.zero, i.size, i.bytes)) = some (some (.int .i64 0), 1, 8) := by kernel_rfl

theorem bitsL_lt {m n : Nat} (h : m < 2 ^ n) : ∀ x ∈ bitsL m, 0 ≤ x ∧ x < n ∧ x < 64 := by
  intro x hx
  unfold bitsL at hx
  simp only [List.mem_map, List.mem_filter, List.mem_range] at hx
  obtain ⟨i, ⟨h1, h2⟩, rfl⟩ := hx
  refine ⟨by omega, ?_, by omega⟩
  rcases Nat.lt_or_ge i n with hi | hi
  · omega
  · have : m.testBit i = false := Nat.testBit_lt_two_pow (Nat.lt_of_lt_of_le h (Nat.pow_le_pow_right (by omega) hi))
    rw [this] at h2; cases h2
end Go.Proofs.Ytalpgilncohkbaa
