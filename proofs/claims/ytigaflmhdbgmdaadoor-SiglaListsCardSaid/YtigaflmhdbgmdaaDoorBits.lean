/-
  Contracts: mask, members.
-/
import Derived.Test.YtigaflmhdbgmdaaDoorCharset
import Derived.Test.YtigaflmhdbgmdaaDoorLib
import Derived.Test.YtigaflmhdbgmdaaDoorPl
namespace Go.Proofs.YtigaflmhdbgmdaaDoor
open Go.RowKit

theorem bits_or_u64_nat (a b : Nat) (ha : a < 18446744073709551616) (hb : b < 18446744073709551616) : bits .or .u64 (a : Int) (b : Int) = ((a ||| b : Nat) : Int) := Go.bits_or_u64_nat a b ha hb

/-- A set as the bits of a number. -/
def maskN (l : List Int) : Nat := l.foldl (fun m x => m ||| 2 ^ x.toNat) 0

theorem maskN_snoc (l : List Int) (x : Int) : maskN (l ++ [x]) = maskN l ||| 2 ^ x.toNat := by simp [maskN, List.foldl_append]

theorem foldl_or_lt (n : Nat) (l : List Int) : ∀ m : Nat, m < 2 ^ n → (∀ x ∈ l, x.toNat < n) → l.foldl (fun m x => m ||| 2 ^ x.toNat) m < 2 ^ n := by
  induction l with
  | nil => intro m hm _; exact hm
  | cons a l ih =>
    intro m hm h
    rw [List.foldl_cons]
    exact ih _ (Nat.or_lt_two_pow hm (Nat.pow_lt_pow_right (by omega) (h a List.mem_cons_self))) (fun x hx => h x (List.mem_cons_of_mem _ hx))
theorem maskN_lt (n : Nat) (l : List Int) (h : ∀ x ∈ l, x.toNat < n) : maskN l < 2 ^ n := foldl_or_lt n l 0 (Nat.two_pow_pos n) h

theorem foldl_or_bit (l : List Int) (i : Nat) : ∀ m : Nat, (l.foldl (fun m x => m ||| 2 ^ x.toNat) m).testBit i = (m.testBit i || l.any fun x => decide (x.toNat = i)) := by
  induction l with
  | nil => intro m; simp
  | cons a l ih => intro m; rw [List.foldl_cons, ih, Nat.testBit_or, Nat.testBit_two_pow, List.any_cons, Bool.or_assoc]
theorem maskN_bit (l : List Int) (i : Nat) : (maskN l).testBit i = l.any fun x => decide (x.toNat = i) := by rw [maskN, foldl_or_bit]; simp

theorem or_pow (M : Nat) (x : Int) (hM : M < 18446744073709551616) (hx : 0 ≤ x) (hx1 : x < 64) : bits .or .u64 (M : Int) (IntKind.u64.wrap (2 ^ x.toNat)) = ((M ||| 2 ^ x.toNat : Nat) : Int) := by
  have h2 : (2 : Nat) ^ x.toNat < 18446744073709551616 := by
    have : (2 : Nat) ^ x.toNat < 2 ^ 64 := Nat.pow_lt_pow_right (by omega) (by omega)
    simpa using this
  have h3 : IntKind.u64.wrap (2 ^ x.toNat) = ((2 ^ x.toNat : Nat) : Int) := by
    rw [show (2 : Int) ^ x.toNat = ((2 ^ x.toNat : Nat) : Int) by simp]
    generalize 2 ^ x.toNat = p at *
    exact IntWalk.u64_in _ (by omega)
  rw [h3, bits_or_u64_nat _ _ hM h2]

set_option maxHeartbeats 400000 in
theorem mask_any (v : Value) (l : List Int) (w : World) (hr : RdI w v l) (hl : ∀ x ∈ l, 0 ≤ x ∧ x < 64) :
    Calls Tryd.prog 33 #[v] w fun e w' => e = .returned (.int .u64 (maskN l : Nat)) ∧ w = w' := by
  obtain ⟨a, cap, rfl, hlc, hcm, hcell⟩ := hr.open
  have HCell := hid hcell; clear hcell
  have HL := hid hl; clear hl
  go_enter Tryd.func33, Tryd.ntmps33
  go_wp2
  go_loop [3, 8] (fun m i => ∃ (k : Nat) (M : Nat), k ≤ l.length ∧ i = .int .i64 k ∧ m = .int .u64 M ∧ Hid (M = maskN (l.take k))) (fun _ i => l.length - (intOf i).toNat)
  case atStart => exact ⟨0, 0, Nat.zero_le _, rfl, rfl, by simp [Hid, maskN]⟩
  case round =>
    obtain ⟨k, M, hk, rfl, rfl, HM⟩ := hrel
    by_cases hlt : k < l.length
    · obtain ⟨x, b, off, hx, rfl, hc⟩ := HCell.out k hlt
      have hx2 := HL.out x (List.mem_of_getElem? hx)
      have HX := hid hx; clear hx
      obtain ⟨hx0, hx1⟩ := hx2
      have hM : M < 18446744073709551616 := by
        have := maskN_lt 64 (l.take k) (fun y hy => by have := HL.out y (List.mem_of_mem_take hy); omega)
        rw [HM.out]; simpa using this
      go_wp2
      go_round
      case rel => exact ⟨k + 1, M ||| 2 ^ x.toNat, by omega, by go_num, by rw [or_pow M x hM hx0 hx1], by rw [HM.out, List.take_add_one, HX.out]; exact (maskN_snoc _ _).symm⟩
      case measure => simp [intOf]; omega
    · go_wp2
      go_ret
      refine ⟨ret_int ?_, rfl⟩
      rw [HM.out, List.take_of_length_le (by omega)]

/-- The places of the bits of a number. -/
def bitsL (m : Nat) : List Int := ((List.range 64).filter fun i => m.testBit i).map fun (i : Nat) => (i : Int)
def bitsTo (m k : Nat) : List Int := ((List.range k).filter fun i => m.testBit i).map fun (i : Nat) => (i : Int)

theorem bitsTo_succ (m k : Nat) : bitsTo m (k + 1) = bitsTo m k ++ if m.testBit k then [(k : Int)] else [] := by
  unfold bitsTo
  rw [List.range_succ, List.filter_append, List.map_append]
  by_cases h : m.testBit k <;> simp [h]
theorem bitsTo_len (m k : Nat) : (bitsTo m k).length ≤ k := by
  unfold bitsTo
  rw [List.length_map]
  have := List.length_filter_le (fun i => m.testBit i) (List.range k)
  simpa using this

theorem bit_test (m k : Nat) (hm : m < 18446744073709551616) : (bits .and .u64 ((m : Int) / 2 ^ k) 1 == 1) = m.testBit k := by
  have e1 : (m : Int) / 2 ^ k = ((m / 2 ^ k : Nat) : Int) := by simp
  have hlt : m / 2 ^ k < 18446744073709551616 := Nat.lt_of_le_of_lt (Nat.div_le_self _ _) hm
  have e2 := Go.bits_and_u64_nat (m / 2 ^ k) 1 hlt (by decide)
  rw [e1, show (1 : Int) = ((1 : Nat) : Int) from rfl, e2, Nat.and_one_is_mod, Nat.testBit_eq_decide_div_mod_eq]
  generalize m / 2 ^ k % 2 = r
  rw [Bool.eq_iff_iff]; simp; omega

/-- The bits of a that are not bits of b. -/
def andN (a b : Nat) : Nat := a &&& (18446744073709551615 - b)
theorem bits_andN (a b : Nat) (ha : a < 18446744073709551616) (hb : b < 18446744073709551616) : bits .andNot .u64 (a : Int) (b : Int) = (andN a b : Nat) := Go.u64_andNot_nat a b ha hb
theorem andN_lt (a b : Nat) (n : Nat) (ha : a < 2 ^ n) : andN a b < 2 ^ n := Nat.lt_of_le_of_lt Nat.and_le_left ha
theorem andN_bit (a b i : Nat) (hb : b < 18446744073709551616) (hi : i < 64) : (andN a b).testBit i = (a.testBit i && !b.testBit i) := by
  unfold andN
  have h := Nat.testBit_two_pow_sub_succ (x := b) (n := 64) hb i
  have h' : (18446744073709551615 - b).testBit i = (decide (i < 64) && !b.testBit i) := by
    rw [← h]; congr 1
    show 18446744073709551615 - b = 18446744073709551616 - (b + 1); omega
  rw [Nat.testBit_and, h']; simp [hi]

theorem infoStr : (Tryd.prog.info? 9).map (fun i => (i.zero, i.size, i.bytes)) = some (some (.string ⟨#[]⟩), 1, 16) := by kernel_rfl
theorem infoInt : (Tryd.prog.info? 3).map (fun i => (i.zero, i.size, i.bytes)) = some (some (.int .i64 0), 1, 8) := by kernel_rfl

set_option maxHeartbeats 400000 in
set_option maxRecDepth 100000 in
theorem members_fresh (m : Nat) (w : World) (h1 : m < 18446744073709551616) :
    Calls Tryd.prog 34 #[.int .u64 m] w fun e w' => ∃ v, e = .returned v ∧ RdI w' v (bitsL m) ∧ (∀ k, v.ownBlock = some k → w.heap.size ≤ k ∧ k < w'.heap.size) ∧ Below w.heap.size w w' := by
  have HB := fun k => hid (bit_test m k h1)
  clear h1
  go_enter Tryd.func34, Tryd.ntmps34
  go_wp2
  go_loopw [3, 5] (fun v i wr => ∃ (k : Nat) (xs : List Int), k ≤ 64 ∧ i = .int .i64 k ∧ Hid (xs = bitsTo m k) ∧ xs.length ≤ k ∧ wr.ownsRow w.heap.size 3 1 v xs.length (xs.map (Value.int .i64)) ∧ Below w.heap.size w wr) (fun _ i _ => 64 - (intOf i).toNat)
  case atStart => exact ⟨0, [], by omega, rfl, rfl, by simp, World.ownsRow_nil _ _ _ _, Below.refl _ _⟩
  case round =>
    rename_i wr
    obtain ⟨k, xs, hk, rfl, HX, hl, hown, hB⟩ := hrel
    have hs := bitsTo_succ m k
    have hbt := (HB k).out
    by_cases hlt : k < 64
    · by_cases hb : m.testBit k = true
      · rw [hb] at hbt
        rw [hb, if_pos rfl] at hs
        have HS := hid hs; clear hs hb
        go_wp2_with (at_builtin; refine wpList_ap rfl _ _ 33 rfl w.heap.size 3 Tryd.underlying33 infoInt rfl (by decide) (by decide) _ _ _ rfl hown [.int .i64 k] rfl (by simp [Value.oneCell']) rfl (by simp) (by omega) hB.size ?_; intro v' w1 hown' hb1 _)
        go_roundw
        case rel => exact ⟨k + 1, xs ++ [(k : Int)], by omega, by go_num, by rw [HS.out, HX.out]; rfl, by simp; omega, by simpa using hown', hB.trans hb1⟩
        case measure => simp [intOf]; omega
      · have hb' : m.testBit k = false := by simpa using hb
        rw [hb'] at hbt
        rw [hb', if_neg (by simp)] at hs
        have HS := hid hs; clear hs hb hb'
        go_wp2
        go_roundw
        case rel => exact ⟨k + 1, xs, by omega, by go_num, by rw [HS.out, HX.out, List.append_nil]; rfl, by omega, hown, hB⟩
        case measure => simp [intOf]; omega
    · clear hs hbt
      obtain rfl : k = 64 := by omega
      go_wp2
      go_ret
      exact ⟨_, rfl, by rw [show bitsL m = xs from HX.out.symm]; exact Rd.of_own hown, hown.lt, hB⟩

theorem members_any (m : Nat) (w : World) (h1 : m < 18446744073709551616) :
    Calls Tryd.prog 34 #[.int .u64 m] w fun e w' => ∃ v, e = .returned v ∧ RdI w' v (bitsL m) ∧ Below w.heap.size w w' :=
  (members_fresh m w h1).mono fun _ _ ⟨v, a, b, _, c⟩ => ⟨v, a, b, c⟩

theorem bitsL_lt {m n : Nat} (h : m < 2 ^ n) : ∀ x ∈ bitsL m, 0 ≤ x ∧ x < n ∧ x < 64 := by
  intro x hx
  unfold bitsL at hx
  simp only [List.mem_map, List.mem_filter, List.mem_range] at hx
  obtain ⟨i, ⟨h1, h2⟩, rfl⟩ := hx
  refine ⟨by omega, ?_, by omega⟩
  rcases Nat.lt_or_ge i n with hi | hi
  · omega
  · have : m.testBit i = false := Nat.testBit_lt_two_pow (Nat.lt_of_lt_of_le h (Nat.pow_le_pow_right (by omega) hi))
    rw [this] at h2; cases h2
end Go.Proofs.YtigaflmhdbgmdaaDoor
