/-
  Joined: Pl Charset Sl Bits SigA RefA RefB Sl2 Cut Spl.
-/
import Derived.WalkKit
import Derived.Lib.Bytealg
import Derived.Test.YtlneimjenjpbnaaDoorJ01
import Derived.Test.YtlneimjenjpbnaaDoorRows
import Derived.WalkLawsBesides
import Derived.Deep.QuietTactic
import Derived.BigQuiet
import Derived.Lib.Strings
import Derived.Laws.Strings3
import Derived.Shelf.Strings.Search1
import Derived.BigCall
import Derived.Lib.SplitLaws
import Derived.Lib.Join
import Derived.Test.YtlneimjenjpbnaaDoorSplit
import Derived.Test.YtlneimjenjpbnaaDoorShelf
/-
  Plain lemmas on lists: first index, equality by places.
-/
namespace Go.Proofs.YtlneimjenjpbnaaDoor

def fIdx {α : Type} (p : α → Bool) (l : List α) : Int := match l.findIdx? p with | some i => (i : Int) | none => -1

theorem fIdx_none {α : Type} (p : α → Bool) (l : List α) (h : ∀ x ∈ l, p x = false) : fIdx p l = -1 := by
  unfold fIdx
  rw [List.findIdx?_eq_none_iff.2 h]

theorem fIdx_hit {α : Type} (p : α → Bool) (l : List α) (k : Nat) (x : α) (h : ∀ y ∈ l.take k, p y = false) (hx : l[k]? = some x) (hp : p x = true) : fIdx p l = k := by
  obtain ⟨hk, rfl⟩ := List.getElem?_eq_some_iff.1 hx
  unfold fIdx
  have : l.findIdx? p = some k := by
    rw [List.findIdx?_eq_some_iff_getElem]
    refine ⟨hk, hp, fun j hj => ?_⟩
    have := h l[j] (by rw [List.mem_take_iff_getElem]; exact ⟨j, by omega, rfl⟩)
    simp [this]
  rw [this]

theorem fIdx_pos {α : Type} (p : α → Bool) (l : List α) : decide (0 ≤ fIdx p l) = l.any p := by
  unfold fIdx
  cases h : l.findIdx? p with
  | none =>
    rw [List.findIdx?_eq_none_iff] at h
    have : l.any p = false := by rw [List.any_eq_false]; intro x hx; simp [h x hx]
    rw [this]; rfl
  | some i =>
    rw [List.findIdx?_eq_some_iff_getElem] at h
    obtain ⟨hi, hp, _⟩ := h
    have : l.any p = true := List.any_eq_true.2 ⟨l[i], List.getElem_mem hi, hp⟩
    rw [this]
    simp

theorem fIdx_lt {α : Type} (p : α → Bool) (l : List α) : fIdx p l < l.length := by
  unfold fIdx
  cases h : l.findIdx? p with
  | none => simp; omega
  | some i =>
    rw [List.findIdx?_eq_some_iff_getElem] at h
    obtain ⟨hi, _⟩ := h
    simp; exact hi

theorem take_none {α : Type} {p : α → Bool} {l : List α} {k : Nat} {x : α} (h : ∀ y ∈ l.take k, p y = false) (hx : l[k]? = some x) (hp : p x = false) : ∀ y ∈ l.take (k + 1), p y = false := by
  intro y hy
  rw [List.take_add_one, hx] at hy
  rcases List.mem_append.1 hy with hy | hy
  · exact h y hy
  · simp at hy; rw [hy]; exact hp

theorem ba_beq (s t : ByteArray) : (s.toList == t.toList) = decide (s = t) := by
  rw [ByteArray.toList_eq, ByteArray.toList_eq, Bool.eq_iff_iff]
  simp only [beq_iff_eq, decide_eq_true_eq, Array.toList_inj]
  constructor
  · intro h; cases s; cases t; simp_all
  · intro h; rw [h]

theorem take_eq_step {α : Type} {l m : List α} {k : Nat} {x y : α} (h : l.take k = m.take k) (hx : l[k]? = some x) (hy : m[k]? = some y) (e : x = y) : l.take (k + 1) = m.take (k + 1) := by
  rw [List.take_add_one, List.take_add_one, h, hx, hy, e]

theorem ne_of_at {α : Type} {l m : List α} {k : Nat} {x y : α} (hx : l[k]? = some x) (hy : m[k]? = some y) (e : x ≠ y) : l ≠ m := by
  intro h; rw [h, hy] at hx; exact e (Option.some.inj hx).symm


theorem fIdx_cases {α : Type} (p : α → Bool) (l : List α) : fIdx p l = -1 ∨ ∃ (k : Nat) (x : α), fIdx p l = (k : Int) ∧ l[k]? = some x ∧ k < l.length ∧ p x = true := by
  unfold fIdx
  cases h : l.findIdx? p with
  | none => left; rfl
  | some i =>
    right
    rw [List.findIdx?_eq_some_iff_getElem] at h
    obtain ⟨hi, hp, _⟩ := h
    exact ⟨i, l[i], rfl, by simp [hi], hi, hp⟩

end Go.Proofs.YtlneimjenjpbnaaDoor

/-
  The program's charset functions (Kind, Letters, IsName), each by a contract.
-/
namespace Go.Proofs.YtlneimjenjpbnaaDoor
open Go.RowKit


def kindI (c : Int) : Int :=
  if (97 ≤ c ∧ c ≤ 122) ∨ (65 ≤ c ∧ c ≤ 90) then 1 else if c = 94 ∨ c = 126 ∨ c = 37 then 2 else if 48 ≤ c ∧ c ≤ 57 then 3 else if c = 39 then 4 else if c = 32 then 6
  else if c = 46 ∨ c = 44 ∨ c = 59 ∨ c = 58 ∨ c = 33 ∨ c = 63 ∨ c = 40 ∨ c = 41 ∨ c = 45 then 5 else 0

set_option maxHeartbeats 400000 in
set_option maxRecDepth 100000 in
theorem indexByte_any (s : ByteArray) (c : Int) (w : World) :
    Calls Tryd.prog 69 #[.string s, .int .u8 c] w fun e w' => e = .returned (.int .i64 (Lib.indexByte s.data.toList c.toNat.toUInt8)) ∧ w = w' := by
  go_enter Tryd.func69, Tryd.ntmps69
  go_wp2
  rw [run_callFunc_extern Tryd.func75 (by kernel_rfl) (by kernel_rfl) (by kernel_rfl) (e := Extern.BytealgIndexByte.indexByte) (by kernel_rfl), Lib.run_indexByteString]
  simp only [Result.andThen]
  rw [Oper.upon_value]
  go_wp2
  go_ret
  exact ⟨rfl, rfl⟩

def pIdx (c : Int) : Int := Lib.indexByte [46, 44, 59, 58, 33, 63, 40, 41, 45] c.toNat.toUInt8

theorem pIdx_pos (c : Int) (h0 : 0 ≤ c) (h1 : c ≤ 255) : 0 ≤ pIdx c ↔ (c = 46 ∨ c = 44 ∨ c = 59 ∨ c = 58 ∨ c = 33 ∨ c = 63 ∨ c = 40 ∨ c = 41 ∨ c = 45) := by
  obtain ⟨n, rfl⟩ := Int.eq_ofNat_of_zero_le h0
  have : ∀ n : Fin 256, 0 ≤ pIdx (n.val : Int) ↔ ((n.val : Int) = 46 ∨ (n.val : Int) = 44 ∨ (n.val : Int) = 59 ∨ (n.val : Int) = 58 ∨ (n.val : Int) = 33 ∨ (n.val : Int) = 63 ∨ (n.val : Int) = 40 ∨ (n.val : Int) = 41 ∨ (n.val : Int) = 45) := by decide +kernel
  exact this ⟨n, by omega⟩

theorem idxPunct_any (c : Int) (w : World) :
    Calls Tryd.prog 69 #[.string ⟨#[46, 44, 59, 58, 33, 63, 40, 41, 45]⟩, .int .u8 c] w fun e w' => e = .returned (.int .i64 (pIdx c)) ∧ w = w' := indexByte_any _ _ _

set_option maxHeartbeats 1000000 in
set_option maxRecDepth 100000 in
theorem kind_any (c : Int) (h0 : 0 ≤ c) (h1 : c ≤ 255) (w : World) :
    Calls Tryd.prog 61 #[.int .u8 c] w fun e w' => e = .returned (.int .i64 (kindI c)) ∧ w = w' := by
  have hp := pIdx_pos c h0 h1
  have HP := hid hp; clear hp
  go_enter Tryd.func61, Tryd.ntmps61
  go_wp2_with (go_at_call 69; refine (idxPunct_any _ _).mono ?_; rintro e w' ⟨rfl, rfl⟩)
  all_goals go_ret
  all_goals refine ⟨ret_int ?_, rfl⟩
  all_goals (have hp := HP.out; clear HP)
  all_goals first
    | rfl
    | ((try simp only [beq_iff_eq, beq_eq_false_iff_ne, bne_iff_ne, bne_eq_false_iff_eq, ne_eq] at *); unfold kindI; (repeat' split) <;> omega)

def isLet (c : UInt8) : Bool := kindI c.toNat == 1 || kindI c.toNat == 3
def lettersI (l : List UInt8) : Int := (l.filter isLet).length
theorem lettersI_le (l : List UInt8) : 0 ≤ lettersI l ∧ lettersI l ≤ l.length := by
  unfold lettersI; exact ⟨by omega, by have := List.length_filter_le isLet l; omega⟩
theorem take_snoc (s : ByteArray) (k : Nat) (h : k < s.size) : s.data.toList.take (k + 1) = s.data.toList.take k ++ [s[k]] := by
  rw [List.take_succ_eq_append_getElem (by simpa using h)]; rfl
theorem lettersI_snoc (l : List UInt8) (c : UInt8) : lettersI (l ++ [c]) = lettersI l + if isLet c = true then 1 else 0 := by
  unfold lettersI
  rw [List.filter_append]
  by_cases h : isLet c = true <;> simp [h]
end Go.Proofs.YtlneimjenjpbnaaDoor

/-
  Contracts of the library's functions on slices, at this program's element types.
-/
namespace Go.Proofs.YtlneimjenjpbnaaDoor
open Go.RowKit

set_option maxHeartbeats 400000 in
theorem equalI_any (v u : Value) (l m : List Int) (w : World) (hr : RdI w v l) (hs : RdI w u m) :
    Calls Tryd.prog 17 #[v, u] w fun e w' => e = .returned (.bool (decide (l = m))) ∧ Below w.heap.size w w' := by
  obtain ⟨a, cap, rfl, hlc, hcm, hcell⟩ := hr.open
  obtain ⟨a2, cap2, rfl, hlc2, hcm2, hcell2⟩ := hs.open
  have HCell := hid hcell; clear hcell
  have HCell2 := hid hcell2; clear hcell2
  by_cases hlen : l.length = m.length
  · have b1 : ((l.length : Int) != (m.length : Int)) = false := by simp [hlen]
    have HL := hid hlen; clear hlen
    go_enter Tryd.func17, Tryd.ntmps17
    go_wp2
    go_loopw [13] (fun i wr => ∃ k : Nat, k ≤ l.length ∧ i = .int .i64 k ∧ Hid (l.take k = m.take k) ∧ Below w.heap.size w wr) (fun i _ => l.length - (intOf i).toNat)
    case atStart => exact ⟨0, Nat.zero_le _, rfl, by simp [Hid], Below.refl _ _⟩
    case round =>
      rename_i wr
      obtain ⟨k, hk, rfl, HK, hB⟩ := hrel
      by_cases hlt : k < l.length
      · obtain ⟨x, b, off, hx, rfl, hc0⟩ := HCell.out k hlt
        obtain ⟨y, b2, off2, hy, rfl, hd0⟩ := HCell2.out k (by have := HL.out; omega)
        have hc := Below.keeps hB _ _ hc0
        have hd := Below.keeps hB _ _ hd0
        clear hc0 hd0
        have HX := hid hx; clear hx
        have HY := hid hy; clear hy
        have hlt2 : k < m.length := by have := HL.out; omega
        by_cases he : x = y
        · have hb' : (x != y) = false := by simp [he]
          have HE := hid he; clear he
          go_wp2
          go_quiet (fail)
          go_wp2
          go_roundw
          case rel => exact ⟨k + 1, by omega, by go_num, take_eq_step HK.out HX.out HY.out HE.out, below_drewN hB _⟩
          case measure => simp [intOf]; omega
        · have hb' : (x != y) = true := by simpa using he
          have HE := hid he; clear he
          go_wp2
          go_quiet (fail)
          go_wp2
          go_ret
          exact ⟨ret_bool (decide_eq_false (ne_of_at HX.out HY.out HE.out)).symm, below_drewN hB _⟩
      · go_wp2
        go_ret
        refine ⟨ret_bool ?_, hB⟩
        have h := HK.out
        rw [List.take_of_length_le (by omega), List.take_of_length_le (by have := HL.out; omega)] at h
        exact (decide_eq_true h).symm
  · have b1 : ((l.length : Int) != (m.length : Int)) = true := by simpa using (fun e => hlen (Int.ofNat.inj e))
    go_enter Tryd.func17, Tryd.ntmps17
    go_wp2
    go_ret
    exact ⟨ret_bool (decide_eq_false (fun e => hlen (by rw [e]))).symm, Below.refl _ _⟩
def cmpI (a b : Int) : Int := if a < b then -1 else if b < a then 1 else 0

/-- lexicographic comparison -/
def lexI : List Int → List Int → Int
  | [], [] => 0
  | [], _ :: _ => -1
  | _ :: _, [] => 1
  | x :: l, y :: m => if cmpI x y = 0 then lexI l m else cmpI x y

theorem lexI_drop (l m : List Int) (k : Nat) (x y : Int) (hx : l[k]? = some x) (hy : m[k]? = some y) : lexI (l.drop k) (m.drop k) = if cmpI x y = 0 then lexI (l.drop (k + 1)) (m.drop (k + 1)) else cmpI x y := by
  obtain ⟨hk, rfl⟩ := List.getElem?_eq_some_iff.1 hx
  obtain ⟨hk2, rfl⟩ := List.getElem?_eq_some_iff.1 hy
  rw [List.drop_eq_getElem_cons hk, List.drop_eq_getElem_cons hk2]; rfl
theorem lexI_short (l m : List Int) (k : Nat) (hk : k < l.length) (hk2 : m.length ≤ k) : lexI (l.drop k) (m.drop k) = 1 := by
  rw [List.drop_eq_getElem_cons hk, List.drop_of_length_le hk2]; rfl
theorem lexI_end (l m : List Int) (k : Nat) (hk : l.length ≤ k) : lexI (l.drop k) (m.drop k) = if k < m.length then -1 else 0 := by
  rw [List.drop_of_length_le hk]
  split
  · next h => rw [List.drop_eq_getElem_cons h]; rfl
  · next h => rw [List.drop_of_length_le (by omega)]; rfl

def sortedB : List Int → Bool
  | x :: y :: l => decide (x ≤ y) && sortedB (y :: l)
  | _ => true

theorem sortedB_iff (l : List Int) : sortedB l = true ↔ ∀ (k : Nat) (x y : Int), l[k]? = some x → l[k + 1]? = some y → x ≤ y := by
  induction l with
  | nil => simp [sortedB]
  | cons a l ih =>
    cases l with
    | nil => simp [sortedB]
    | cons b l =>
      simp only [sortedB, Bool.and_eq_true, decide_eq_true_eq, ih]
      constructor
      · rintro ⟨h1, h2⟩ k x y hx hy
        cases k with
        | zero => simp at hx hy; omega
        | succ k => exact h2 k x y (by simpa using hx) (by simpa using hy)
      · intro h
        exact ⟨h 0 a b rfl rfl, fun k x y hx hy => h (k + 1) x y (by simpa using hx) (by simpa using hy)⟩

end Go.Proofs.YtlneimjenjpbnaaDoor

/-
  Contracts: mask, members.
-/
namespace Go.Proofs.YtlneimjenjpbnaaDoor
open Go.RowKit

theorem bits_or_u64_nat (a b : Nat) (ha : a < 18446744073709551616) (hb : b < 18446744073709551616) : bits .or .u64 (a : Int) (b : Int) = ((a ||| b : Nat) : Int) := Go.bits_or_u64_nat a b ha hb

/-- A set as the bits of a number. -/
def maskN (l : List Int) : Nat := l.foldl (fun m x => m ||| 2 ^ x.toNat) 0

theorem maskN_snoc (l : List Int) (x : Int) : maskN (l ++ [x]) = maskN l ||| 2 ^ x.toNat := by simp [maskN, List.foldl_append]

theorem foldl_or_lt (n : Nat) (l : List Int) : ∀ m : Nat, m < 2 ^ n → (∀ x ∈ l, x.toNat < n) → l.foldl (fun m x => m ||| 2 ^ x.toNat) m < 2 ^ n := by
  induction l with
  | nil => intro m hm _; exact hm
  | cons a l ih =>
    intro m hm h
    rw [List.foldl_cons]
    exact ih _ (Nat.or_lt_two_pow hm (Nat.pow_lt_pow_right (by omega) (h a List.mem_cons_self))) (fun x hx => h x (List.mem_cons_of_mem _ hx))
theorem maskN_lt (n : Nat) (l : List Int) (h : ∀ x ∈ l, x.toNat < n) : maskN l < 2 ^ n := foldl_or_lt n l 0 (Nat.two_pow_pos n) h

theorem foldl_or_bit (l : List Int) (i : Nat) : ∀ m : Nat, (l.foldl (fun m x => m ||| 2 ^ x.toNat) m).testBit i = (m.testBit i || l.any fun x => decide (x.toNat = i)) := by
  induction l with
  | nil => intro m; simp
  | cons a l ih => intro m; rw [List.foldl_cons, ih, Nat.testBit_or, Nat.testBit_two_pow, List.any_cons, Bool.or_assoc]
theorem maskN_bit (l : List Int) (i : Nat) : (maskN l).testBit i = l.any fun x => decide (x.toNat = i) := by rw [maskN, foldl_or_bit]; simp

theorem or_pow (M : Nat) (x : Int) (hM : M < 18446744073709551616) (hx : 0 ≤ x) (hx1 : x < 64) : bits .or .u64 (M : Int) (IntKind.u64.wrap (2 ^ x.toNat)) = ((M ||| 2 ^ x.toNat : Nat) : Int) := by
  have h2 : (2 : Nat) ^ x.toNat < 18446744073709551616 := by
    have : (2 : Nat) ^ x.toNat < 2 ^ 64 := Nat.pow_lt_pow_right (by omega) (by omega)
    simpa using this
  have h3 : IntKind.u64.wrap (2 ^ x.toNat) = ((2 ^ x.toNat : Nat) : Int) := by
    rw [show (2 : Int) ^ x.toNat = ((2 ^ x.toNat : Nat) : Int) by simp]
    generalize 2 ^ x.toNat = p at *
    exact IntWalk.u64_in _ (by omega)
  rw [h3, bits_or_u64_nat _ _ hM h2]

/-- The places of the bits of a number. -/
def bitsL (m : Nat) : List Int := ((List.range 64).filter fun i => m.testBit i).map fun (i : Nat) => (i : Int)
def bitsTo (m k : Nat) : List Int := ((List.range k).filter fun i => m.testBit i).map fun (i : Nat) => (i : Int)

theorem bitsTo_succ (m k : Nat) : bitsTo m (k + 1) = bitsTo m k ++ if m.testBit k then [(k : Int)] else [] := by
  unfold bitsTo
  rw [List.range_succ, List.filter_append, List.map_append]
  by_cases h : m.testBit k <;> simp [h]
theorem bitsTo_len (m k : Nat) : (bitsTo m k).length ≤ k := by
  unfold bitsTo
  rw [List.length_map]
  have := List.length_filter_le (fun i => m.testBit i) (List.range k)
  simpa using this

theorem bit_test (m k : Nat) (hm : m < 18446744073709551616) : (bits .and .u64 ((m : Int) / 2 ^ k) 1 == 1) = m.testBit k := by
  have e1 : (m : Int) / 2 ^ k = ((m / 2 ^ k : Nat) : Int) := by simp
  have hlt : m / 2 ^ k < 18446744073709551616 := Nat.lt_of_le_of_lt (Nat.div_le_self _ _) hm
  have e2 := Go.bits_and_u64_nat (m / 2 ^ k) 1 hlt (by decide)
  rw [e1, show (1 : Int) = ((1 : Nat) : Int) from rfl, e2, Nat.and_one_is_mod, Nat.testBit_eq_decide_div_mod_eq]
  generalize m / 2 ^ k % 2 = r
  rw [Bool.eq_iff_iff]; simp; omega

/-- The bits of a that are not bits of b. -/
def andN (a b : Nat) : Nat := a &&& (18446744073709551615 - b)
theorem bits_andN (a b : Nat) (ha : a < 18446744073709551616) (hb : b < 18446744073709551616) : bits .andNot .u64 (a : Int) (b : Int) = (andN a b : Nat) := Go.u64_andNot_nat a b ha hb
theorem andN_lt (a b : Nat) (n : Nat) (ha : a < 2 ^ n) : andN a b < 2 ^ n := Nat.lt_of_le_of_lt Nat.and_le_left ha
theorem andN_bit (a b i : Nat) (hb : b < 18446744073709551616) (hi : i < 64) : (andN a b).testBit i = (a.testBit i && !b.testBit i) := by
  unfold andN
  have h := Nat.testBit_two_pow_sub_succ (x := b) (n := 64) hb i
  have h' : (18446744073709551615 - b).testBit i = (decide (i < 64) && !b.testBit i) := by
    rw [← h]; congr 1
    show 18446744073709551615 - b = 18446744073709551616 - (b + 1); omega
  rw [Nat.testBit_and, h']; simp [hi]

theorem infoStr : (Tryd.prog.info? 9).map (fun i => (i.zero, i.size, i.bytes)) = some (some (.string ⟨#[]⟩), 1, 16) := by kernel_rfl
theorem infoInt : (Tryd.prog.info? 3).map (fun i => (i.zero, i.size, i.bytes)) = some (some (.int .i64 0), 1, 8) := by kernel_rfl

theorem bitsL_lt {m n : Nat} (h : m < 2 ^ n) : ∀ x ∈ bitsL m, 0 ≤ x ∧ x < n ∧ x < 64 := by
  intro x hx
  unfold bitsL at hx
  simp only [List.mem_map, List.mem_filter, List.mem_range] at hx
  obtain ⟨i, ⟨h1, h2⟩, rfl⟩ := hx
  refine ⟨by omega, ?_, by omega⟩
  rcases Nat.lt_or_ge i n with hi | hi
  · omega
  · have : m.testBit i = false := Nat.testBit_lt_two_pow (Nat.lt_of_lt_of_le h (Nat.pow_le_pow_right (by omega) hi))
    rw [this] at h2; cases h2
end Go.Proofs.YtlneimjenjpbnaaDoor

/-
  Contracts: IsName, CutSuffix, siglum, checkSet, mask, members.
-/
namespace Go.Proofs.YtlneimjenjpbnaaDoor
open Go.RowKit

def isNameB (s : ByteArray) : Bool := decide (s.size ≠ 0) && decide (s.size ≤ 16) && decide (lettersI s.data.toList = s.size)

def cutStar (s : ByteArray) : ByteArray × Bool := if 1 ≤ s.size ∧ (s.extract (s.size - 1) s.size).toList = [42] then (s.extract 0 (s.size - 1), true) else (s, false)

def sigB (s : ByteArray) : Bool := isNameB (cutStar s).1 && (!(cutStar s).2 || decide (s.size ≤ 16))

theorem cutStar_le (s : ByteArray) : (cutStar s).1.size ≤ s.size := by
  unfold cutStar; split
  · simp
  · exact Nat.le_refl _

/-- The error of a set of numbers below n, the last one before it known. -/
def ckSet (n : Int) : Option Int → List Int → Int
  | _, [] => 0
  | p, x :: r => if x < 0 ∨ n ≤ x then 2 else if (∃ q, p = some q ∧ x ≤ q) then 10 else ckSet n (some x) r

theorem ckSet_drop (n : Int) (l : List Int) (k : Nat) (x : Int) (h : l[k]? = some x) (p : Option Int) : ckSet n p (l.drop k) = if x < 0 ∨ n ≤ x then 2 else if (∃ q, p = some q ∧ x ≤ q) then 10 else ckSet n (some x) (l.drop (k + 1)) := by
  obtain ⟨hk, hx⟩ := List.getElem?_eq_some_iff.1 h
  rw [List.drop_eq_getElem_cons hk, hx]; rfl

end Go.Proofs.YtlneimjenjpbnaaDoor

/-
  The reference's charset functions: Kind, Letters, right, Check, IsWord, IsName.
-/
namespace Go.Proofs.YtlneimjenjpbnaaDoor
open Go.RowKit

end Go.Proofs.YtlneimjenjpbnaaDoor

/-
  The reference's charset functions: right, Check, IsWord, IsName.
-/
namespace Go.Proofs.YtlneimjenjpbnaaDoor
open Go.RowKit

/-! ### which marks stand right -/
def rgo : Int → Bool → List UInt8 → List Bool
  | _, _, [] => []
  | pk, pf, c :: r => (decide (kindI c.toNat = 2) && (decide (pk = 1) || pf)) :: rgo (kindI c.toNat) (decide (kindI c.toNat = 2) && (decide (pk = 1) || pf)) r
def rightL (l : List UInt8) : List Bool := rgo 0 false l

theorem rgo_len (l : List UInt8) : ∀ pk pf, (rgo pk pf l).length = l.length := by
  induction l with
  | nil => intro _ _; rfl
  | cons a l ih => intro _ _; simp [rgo, ih]
theorem rightL_len (l : List UInt8) : (rightL l).length = l.length := rgo_len l _ _

theorem rgo_succ (l : List UInt8) : ∀ (pk : Int) (pf : Bool) (k : Nat) (c d : UInt8) (f : Bool), l[k]? = some d → (rgo pk pf l)[k]? = some f → l[k + 1]? = some c →
    (rgo pk pf l)[k + 1]? = some (decide (kindI c.toNat = 2) && (decide (kindI d.toNat = 1) || f)) := by
  induction l with
  | nil => intro _ _ k _ _ _ h; simp at h
  | cons a l ih =>
    intro pk pf k c d f hd hf hc
    cases k with
    | zero =>
      simp only [List.getElem?_cons_zero, Option.some.injEq, rgo] at hd hf
      subst hd
      cases l with
      | nil => simp at hc
      | cons b l =>
        simp only [List.getElem?_cons_succ, List.getElem?_cons_zero, Option.some.injEq] at hc
        subst hc
        simp only [rgo, List.getElem?_cons_succ, List.getElem?_cons_zero, hf]
    | succ k =>
      simp only [List.getElem?_cons_succ, rgo] at hd hf hc ⊢
      exact ih _ _ k c d f hd hf hc
theorem rightL_zero (l : List UInt8) (c : UInt8) (h : l[0]? = some c) : (rightL l)[0]? = some false := by
  cases l with
  | nil => simp at h
  | cons a l => simp [rightL, rgo]
theorem rightL_succ (l : List UInt8) (k : Nat) (c d : UInt8) (f : Bool) (hd : l[k]? = some d) (hf : (rightL l)[k]? = some f) (hc : l[k + 1]? = some c) :
    (rightL l)[k + 1]? = some (decide (kindI c.toNat = 2) && (decide (kindI d.toNat = 1) || f)) := rgo_succ l _ _ k c d f hd hf hc

theorem infoBool : (Tryd.prog.info? 4).map (fun i => (i.zero, i.size, i.bytes)) = some (some (.bool false), 1, 1) := by kernel_rfl

theorem byte_at (s : ByteArray) (k : Nat) (h : k < s.size) : s.data.toList[k]? = some s[k] := by
  rw [List.getElem?_eq_getElem (by simpa using h)]; rfl
theorem byte_bd (c : UInt8) : 0 ≤ (c.toNat : Int) ∧ (c.toNat : Int) ≤ 255 := ⟨by omega, by have := UInt8.toNat_lt c; omega⟩

/-- Whether the character at a place is accepted. -/
def badAt (l : List UInt8) (k : Nat) : Bool := match l[k]?, (rightL l)[k]? with | some c, some f => decide (kindI c.toNat = 0) || (decide (kindI c.toNat = 2) && !f) | _, _ => false
def rcheckI (l : List UInt8) : Int := if 65536 < l.length then 4 else if (∃ k, k < l.length ∧ badAt l k = true) then 11 else 0
instance (l : List UInt8) : Decidable (∃ k, k < l.length ∧ badAt l k = true) := inferInstance

def highAt (l : List UInt8) : Bool := l.any fun c => decide (4 < kindI c.toNat)
def rwordB (l : List UInt8) : Bool := decide (1 ≤ l.length) && decide (l.length ≤ 64) && decide (rcheckI l = 0) && (match l with | [] => false | c :: _ => isLet c) && !highAt l

/-- Where all characters are letters or digits nothing is wrong. -/
theorem all_let {l : List UInt8} (h : lettersI l = l.length) : ∀ c ∈ l, isLet c = true := by
  unfold lettersI at h
  have h2 : (l.filter isLet).length = l.length := by omega
  exact List.length_filter_eq_length_iff.1 h2
theorem isLet_kind {c : UInt8} (h : isLet c = true) : kindI c.toNat = 1 ∨ kindI c.toNat = 3 := by simpa [isLet] using h

theorem rcheck_let {l : List UInt8} (hl : l.length ≤ 65536) (h : ∀ c ∈ l, isLet c = true) : rcheckI l = 0 := by
  unfold rcheckI
  rw [if_neg (by omega), if_neg]
  rintro ⟨k, hk, hb⟩
  unfold badAt at hb
  rw [List.getElem?_eq_getElem hk] at hb
  have := isLet_kind (h l[k] (List.getElem_mem hk))
  split at hb
  · next c f hc hf =>
    cases hc
    simp at hb; omega
  · cases hb

theorem rword_let {l : List UInt8} (h1 : 1 ≤ l.length) (h2 : l.length ≤ 64) (h : ∀ c ∈ l, isLet c = true) : rwordB l = true := by
  unfold rwordB
  have e1 : rcheckI l = 0 := rcheck_let (by omega) h
  have e2 : highAt l = false := by
    unfold highAt
    rw [List.any_eq_false]
    intro c hc
    have := isLet_kind (h c hc)
    simp; omega
  cases l with
  | nil => simp at h1
  | cons a l => simp only [e1, e2, h a List.mem_cons_self]; simp at h1 h2 ⊢; omega

def risNameB (s : ByteArray) : Bool := decide (s.size ≤ 16) && rwordB s.data.toList && decide (lettersI s.data.toList = s.size)
theorem risName_eq (s : ByteArray) : risNameB s = isNameB s := by
  unfold risNameB isNameB
  by_cases h16 : s.size ≤ 16
  · by_cases hl : lettersI s.data.toList = s.size
    · by_cases h0 : s.size = 0
      · have : rwordB s.data.toList = false := by unfold rwordB; simp [h0]
        simp [this, h0]
      · have : rwordB s.data.toList = true := rword_let (by simp; omega) (by simp; omega) (all_let (by rw [hl]; simp))
        simp [this, h0, h16, hl]
    · simp [hl]
  · simp [h16]

end Go.Proofs.YtlneimjenjpbnaaDoor

/-
  Contracts: closures on a group's name; IndexFunc, ContainsFunc; Clone; Concat.
-/
namespace Go.Proofs.YtlneimjenjpbnaaDoor
open Go.RowKit

set_option maxHeartbeats 400000 in
theorem indexFuncI_any (K : Nat) (eK : ∀ args w, (callFunc K args).run Tryd.prog w = .ok (.enter K args) w) (c : Value) (p : Int → Bool) (v : Value) (l : List Int) (w : World) (hr : RdI w v l)
    (hC : ∀ (x : Int) (W' : World), Below w.heap.size w W' → Calls Tryd.prog K #[.int .i64 x, c] W' fun e W'' => e = .returned (.bool (p x)) ∧ Below W'.heap.size W' W'') :
    Calls Tryd.prog 37 #[v, .func (.func K) #[] #[c]] w fun e w' => e = .returned (.int .i64 (fIdx p l)) ∧ Below w.heap.size w w' := by
  obtain ⟨a, cap, rfl, hlc, hcm, hcell⟩ := hr.open
  have HCell := hid hcell; clear hcell
  have HC := hid hC; clear hC
  go_enter Tryd.func37, Tryd.ntmps37
  go_wp2
  go_loopw [8] (fun i wr => ∃ k : Nat, k ≤ l.length ∧ i = .int .i64 k ∧ Hid (∀ y ∈ l.take k, p y = false) ∧ Below w.heap.size w wr) (fun i _ => l.length - (intOf i).toNat)
  case atStart => exact ⟨0, Nat.zero_le _, rfl, by simp [Hid], Below.refl _ _⟩
  case round =>
    rename_i wr
    obtain ⟨k, hk, rfl, HK, hB⟩ := hrel
    by_cases hlt : k < l.length
    · obtain ⟨x, b, off, hx, rfl, hc0⟩ := HCell.out k hlt
      have hc := Below.keeps hB _ _ hc0
      clear hc0
      have HX := hid hx; clear hx
      by_cases hp : p x = true
      · have HP := hid hp
        go_wp2_with (refine (HC.out _ _ hB).mono ?_; rintro e w' ⟨rfl, hB'⟩)
        go_ret
        exact ⟨ret_int (fIdx_hit _ l k x HK.out HX.out HP.out).symm, hB.trans (hB'.mono hB.size)⟩
      · have hp' : p x = false := by simpa using hp
        have HP := hid hp'
        clear hp
        go_wp2_with (refine (HC.out _ _ hB).mono ?_; rintro e w' ⟨rfl, hB'⟩)
        go_roundw
        case rel => exact ⟨k + 1, by omega, by go_num, take_none HK.out HX.out HP.out, hB.trans (hB'.mono hB.size)⟩
        case measure => simp [intOf]; omega
    · go_wp2
      go_ret
      refine ⟨ret_int ?_, hB⟩
      have h := HK.out
      rw [List.take_of_length_le (by omega)] at h
      exact (fIdx_none _ l h).symm

theorem containsFuncI_any (K : Nat) (eK : ∀ args w, (callFunc K args).run Tryd.prog w = .ok (.enter K args) w) (c : Value) (p : Int → Bool) (v : Value) (l : List Int) (w : World) (hr : RdI w v l)
    (hC : ∀ (x : Int) (W' : World), Below w.heap.size w W' → Calls Tryd.prog K #[.int .i64 x, c] W' fun e W'' => e = .returned (.bool (p x)) ∧ Below W'.heap.size W' W'') :
    Calls Tryd.prog 20 #[v, .func (.func K) #[] #[c]] w fun e w' => e = .returned (.bool (l.any p)) ∧ Below w.heap.size w w' := by
  have HI := indexFuncI_any K eK c p v l w hr hC
  have HF := hid (fIdx_pos p l)
  generalize fIdx p l = r at *
  have H2 := hid HI; clear HI hC
  go_enter Tryd.func20, Tryd.ntmps20
  go_wp2_with (go_at_call 37; refine H2.out.mono ?_; rintro e w' ⟨rfl, hB'⟩)
  go_ret
  exact ⟨ret_bool HF.out, hB'⟩
end Go.Proofs.YtlneimjenjpbnaaDoor

/-
  Cutting a list of bytes at a byte, and joining it again: plain laws.
-/
namespace Go.Proofs.YtlneimjenjpbnaaDoor

def cutL (c : UInt8) : List UInt8 → List (List UInt8)
  | [] => [[]]
  | b :: l => if b = c then [] :: cutL c l else match cutL c l with
    | [] => [[b]]
    | h :: t => (b :: h) :: t

theorem cutL_ne (c : UInt8) : ∀ l, cutL c l ≠ []
  | [] => by simp [cutL]
  | b :: l => by
    unfold cutL
    split
    · simp
    · split <;> simp
theorem cutL_none {c : UInt8} : ∀ {l : List UInt8}, c ∉ l → cutL c l = [l]
  | [], _ => rfl
  | b :: l, h => by
    have h1 : b ≠ c := fun e => h (by simp [e])
    have h2 := cutL_none (l := l) (c := c) fun e => h (by simp [e])
    rw [cutL, if_neg h1, h2]
theorem cutL_app {c : UInt8} (r : List UInt8) : ∀ {a : List UInt8}, c ∉ a → cutL c (a ++ c :: r) = a :: cutL c r
  | [], _ => by simp [cutL]
  | b :: a, h => by
    have h1 : b ≠ c := fun e => h (by simp [e])
    have h2 := cutL_app r (a := a) (c := c) fun e => h (by simp [e])
    rw [List.cons_append, cutL, if_neg h1, h2]
theorem cutL_no (c : UInt8) : ∀ (l : List UInt8), ∀ x ∈ cutL c l, c ∉ x
  | [], x, h => by simp [cutL] at h; simp [h]
  | b :: l, x, h => by
    have ih := cutL_no c l
    unfold cutL at h
    split at h
    · rcases List.mem_cons.1 h with rfl | h
      · simp
      · exact ih x h
    · rename_i hb
      split at h
      · rcases List.mem_cons.1 h with rfl | h
        · simpa using fun e : c = b => hb e.symm
        · cases h
      · rename_i y t e
        rcases List.mem_cons.1 h with rfl | h
        · have := ih y (by rw [e]; simp)
          simp only [List.mem_cons, not_or]
          exact ⟨fun e => hb e.symm, this⟩
        · exact ih x (by rw [e]; simp [h])
theorem cutL_len (c : UInt8) : ∀ l : List UInt8, (cutL c l).length ≤ l.length + 1
  | [] => by simp [cutL]
  | b :: l => by
    have ih := cutL_len c l
    unfold cutL
    split
    · simpa using ih
    · split
      · simp
      · rename_i e; rw [e] at ih; simp at ih ⊢; omega
theorem cutL_size (c : UInt8) : ∀ l : List UInt8, ∀ x ∈ cutL c l, x.length ≤ l.length
  | [], x, h => by simp [cutL] at h; simp [h]
  | b :: l, x, h => by
    have ih := cutL_size c l
    unfold cutL at h
    split at h
    · rcases List.mem_cons.1 h with rfl | h
      · simp
      · have := ih x h; simp; omega
    · split at h
      · rcases List.mem_cons.1 h with rfl | h
        · simp
        · cases h
      · rename_i y t e
        rcases List.mem_cons.1 h with rfl | h
        · have := ih y (by rw [e]; simp)
          simpa using this
        · have := ih x (by rw [e]; simp [h]); simp; omega
theorem join_cut (c : UInt8) : ∀ l : List UInt8, Lib.join (cutL c l) [c] = l
  | [] => by simp [cutL, Lib.join_one]
  | b :: l => by
    have ih := join_cut c l
    unfold cutL
    split
    · rename_i e
      cases h : cutL c l with
      | nil => exact absurd h (cutL_ne c l)
      | cons y t =>
        rw [h, Lib.join_cons] at ih
        rw [Lib.join_cons, Lib.joinTail, List.map_cons, List.flatten_cons]
        rw [Lib.joinTail] at ih
        subst e
        rw [List.nil_append, List.append_assoc, ih]; rfl
    · cases h : cutL c l with
      | nil => exact absurd h (cutL_ne c l)
      | cons y t =>
        rw [h, Lib.join_cons] at ih
        simp [Lib.join_cons, ih]
theorem cut_join {c : UInt8} : ∀ {x : List UInt8} {r : List (List UInt8)}, (∀ y ∈ x :: r, c ∉ y) → cutL c (Lib.join (x :: r) [c]) = x :: r
  | x, [], h => by rw [Lib.join_one]; exact cutL_none (h x (by simp))
  | x, y :: r, h => by
    have ih := cut_join (x := y) (r := r) (c := c) fun z hz => h z (by simp [hz])
    rw [Lib.join_cons, Lib.joinTail, List.map_cons, List.flatten_cons]
    rw [Lib.join_cons, Lib.joinTail] at ih
    rw [List.singleton_append, List.cons_append, cutL_app _ (h x (by simp)), ih]

theorem index_miss {c : UInt8} : ∀ {l : List UInt8}, Lib.index l [c] = -1 → c ∉ l
  | [], _ => by simp
  | b :: l, h => by
    unfold Lib.index at h
    split at h
    · cases h
    · rename_i hp
      have h1 : c ≠ b := fun e => hp (by simp [e])
      split at h
      · rename_i h2
        have := index_miss (by simpa using h2)
        simp [h1, this]
      · have := Lib.index_ge l [c]; omega
theorem index_at {c : UInt8} : ∀ {l : List UInt8} {i : Nat}, Lib.index l [c] = i → ∃ a r, l = a ++ c :: r ∧ a.length = i ∧ c ∉ a
  | [], i, h => by simp [Lib.index] at h
  | b :: l, i, h => by
    unfold Lib.index at h
    split at h
    · rename_i hp
      have : c = b := by simpa using hp
      exact ⟨[], l, by simp [this], by simp; omega, by simp⟩
    · rename_i hp
      have h1 : c ≠ b := fun e => hp (by simp [e])
      split at h
      · omega
      · rename_i h2
        have hge := Lib.index_ge l [c]
        have h3 : Lib.index l [c] ≠ -1 := fun e => h2 (by simp [e])
        obtain ⟨a, r, e, hl, hn⟩ := index_at (l := l) (i := i - 1) (c := c) (by omega)
        exact ⟨b :: a, r, by simp [e], by simp; omega, by simp [h1, hn]⟩
theorem split_cut (c : UInt8) : ∀ (n : Nat) (l : List UInt8), l.length ≤ n → Lib.splitK [c] 0 (Lib.count l [c]) l = cutL c l := by
  intro n
  induction n with
  | zero =>
    intro l h
    obtain rfl : l = [] := List.length_eq_zero_iff.1 (by omega)
    rw [Lib.count_miss (by rfl)]; rfl
  | succ n ih =>
    intro l h
    by_cases hm : Lib.index l [c] = -1
    · rw [Lib.count_miss hm, cutL_none (index_miss hm)]; rfl
    · have hge := Lib.index_ge l [c]
      have hi : Lib.index l [c] = ((Lib.index l [c]).toNat : Int) := by omega
      generalize (Lib.index l [c]).toNat = i at hi
      obtain ⟨a, r, rfl, hl, hn⟩ := index_at hi
      have h2 := ih r (by simp at h; omega)
      rw [Lib.count_hit (by simp) hi, cutL_app r hn, ← h2]
      have hd : (a ++ c :: r).drop (i + [c].length) = r := by
        rw [List.drop_append, List.drop_of_length_le (by simp; omega)]
        simp [show i + 1 - a.length = 1 by omega]
      have ht : (a ++ c :: r).take i = a := by rw [← hl]; simp
      rw [hd, show 1 + Lib.count r [c] = Lib.count r [c] + 1 by omega, Lib.splitK, if_neg (by rw [beq_iff_eq]; exact hm), hi]
      simp only [Int.toNat_natCast, Nat.add_zero]
      rw [ht, hd]

/-- The pieces of a string between spaces. -/
def splitS (s : ByteArray) : List ByteArray := Lib.splitB ⟨#[32]⟩ 0 (Lib.countB s ⟨#[32]⟩) s
theorem splitS_data (s : ByteArray) : (splitS s).map (·.data.toList) = cutL 32 s.data.toList := by
  unfold splitS
  rw [Lib.splitB_data]
  exact split_cut 32 _ _ (Nat.le_refl _)
theorem splitS_len (s : ByteArray) : (splitS s).length ≤ s.size + 1 := by
  have h := congrArg List.length (splitS_data s)
  rw [List.length_map] at h
  rw [h]
  exact cutL_len 32 _
theorem splitS_size (s : ByteArray) : ∀ x ∈ splitS s, x.size ≤ s.size := by
  intro x hx
  exact cutL_size 32 s.data.toList x.data.toList (by rw [← splitS_data]; exact List.mem_map_of_mem hx)
theorem splitS_count (s : ByteArray) : (splitS s).length = Lib.countB s ⟨#[32]⟩ + 1 := Lib.splitB_all ⟨#[32]⟩ (by decide) 0 _ s rfl

def joinB (l : List ByteArray) : ByteArray := ⟨(Lib.join (l.map (·.data.toList)) [32]).toArray⟩
def holeB (l : List ByteArray) : Bool := l.any fun x => decide ((⟨#[]⟩ : ByteArray) = x)
theorem splitS_szs (s : ByteArray) (h : s.size ≤ maxLen) : Szs (splitS s) := fun x hx => Nat.le_trans (splitS_size s x hx) h
theorem splitS_join (s : ByteArray) : Lib.join ((splitS s).map (·.data.toList)) [32] = s.data.toList := by rw [splitS_data]; exact join_cut 32 _
theorem joinB_split (s : ByteArray) : joinB (splitS s) = s := by
  unfold joinB
  rw [splitS_join]

theorem mt_ne {s : ByteArray} (h : ¬ s.size = 0) : s.toList.isEmpty = false := by
  rw [List.isEmpty_eq_false_iff]
  intro e; apply h
  rw [ByteArray.toList_eq] at e
  show s.data.size = 0
  rw [← Array.length_toList, e]; rfl
theorem ba_ext {a b : ByteArray} (h : a.data.toList = b.data.toList) : a = b := by
  cases a; cases b; simp only [ByteArray.mk.injEq]; exact Array.toList_inj.1 h
theorem map_data_inj {l m : List ByteArray} (h : l.map (·.data.toList) = m.map (·.data.toList)) : l = m := (List.map_inj_right fun _ _ e => ba_ext e).1 h
theorem hole_no {l : List ByteArray} (h : ∀ x ∈ l, x.size ≠ 0) : holeB l = false := by
  unfold holeB
  rw [List.any_eq_false]
  intro x hx e
  exact h x hx (by rw [← of_decide_eq_true e]; rfl)
theorem mt_app (x : ByteArray) : (⟨#[]⟩ : ByteArray) ++ x = x := by
  apply ba_ext; rw [ByteArray.data_append]; simp
/-- What a loop that joins has written before step k. -/
def joinTo (l : List ByteArray) (k : Nat) : ByteArray := joinB (l.take k)
theorem joinTo_one (l : List ByteArray) (x : ByteArray) (h : l[0]? = some x) : joinTo l 1 = x := by
  unfold joinTo joinB
  rw [List.take_add_one, h]
  simp [Lib.join_one]
theorem joinTo_succ (l : List ByteArray) (k : Nat) (x : ByteArray) (h : l[k + 1]? = some x) : joinTo l (k + 2) = (joinTo l (k + 1) ++ ⟨#[32]⟩) ++ x := by
  apply ba_ext
  cases l with
  | nil => cases h
  | cons y r =>
    unfold joinTo joinB
    rw [ByteArray.data_append, ByteArray.data_append, Array.toList_append, Array.toList_append]
    simp only [List.take_succ_cons, List.map_cons, Lib.join_cons]
    rw [List.getElem?_cons_succ] at h
    rw [List.map_take, List.map_take, Lib.joinTail_take_succ [32] (r.map (·.data.toList)) k x.data.toList (by simp [h])]
    simp [List.append_assoc]
/-- The state of the reference's Parse: the pieces ks are cut, the next one begins at f. -/
def CutAt (d : List UInt8) (ks : List ByteArray) (f i : Nat) : Prop :=
  (∀ x ∈ ks, x.size ≠ 0) ∧ ((i ≤ d.length ∧ f ≤ i ∧ cutL 32 d = ks.map (·.data.toList) ++ cutL 32 (d.drop f) ∧ (32 : UInt8) ∉ (d.drop f).take (i - f)) ∨ (i = d.length + 1 ∧ cutL 32 d = ks.map (·.data.toList)))
theorem CutAt.start (d : List UInt8) : CutAt d [] 0 0 := ⟨fun x h => (by cases h), .inl ⟨Nat.zero_le _, Nat.le_refl _, by simp, by simp⟩⟩
theorem CutAt.skip {d : List UInt8} {ks : List ByteArray} {f i : Nat} (h : CutAt d ks f i) (hi : i < d.length) (c : UInt8) (hc : d[i]? = some c) (hn : c ≠ 32) : CutAt d ks f (i + 1) := by
  obtain ⟨h1, h2⟩ := h
  refine ⟨h1, ?_⟩
  rcases h2 with ⟨_, hf, he, hm⟩ | ⟨e, _⟩
  · refine .inl ⟨by omega, by omega, he, ?_⟩
    rw [show i + 1 - f = (i - f) + 1 by omega, List.take_add_one, List.getElem?_drop, show f + (i - f) = i by omega, hc]
    simp only [Option.toList_some, List.mem_append, List.mem_singleton, not_or]
    exact ⟨hm, fun e => hn e.symm⟩
  · omega
theorem take_drop_piece (s : ByteArray) (f i : Nat) : (s.extract f i).data.toList = (s.data.toList.drop f).take (i - f) := by
  rw [ByteArray.data_extract, Array.toList_extract, List.extract_eq_take_drop]
theorem CutAt.split {s : ByteArray} {ks : List ByteArray} {f i : Nat} (h : CutAt s.data.toList ks f i) (hi : i < s.size) (hc : s.data.toList[i]? = some 32) (hne : i ≠ f) : CutAt s.data.toList (ks ++ [s.extract f i]) (i + 1) (i + 1) := by
  obtain ⟨h1, h2⟩ := h
  have hl : s.data.toList.length = s.size := rfl
  rcases h2 with ⟨_, hf, he, hm⟩ | ⟨e, _⟩
  · refine ⟨fun x hx => ?_, .inl ⟨by omega, Nat.le_refl _, ?_, by simp⟩⟩
    · rcases List.mem_append.1 hx with h | h
      · exact h1 x h
      · rw [List.mem_singleton] at h
        subst h
        rw [ByteArray.size_extract]; omega
    · rw [he, List.map_append, List.append_assoc]
      congr 1
      have e1 : s.data.toList.drop f = (s.data.toList.drop f).take (i - f) ++ 32 :: s.data.toList.drop (i + 1) := by
        have h3 := List.take_append_drop (i - f) (s.data.toList.drop f)
        rw [List.drop_drop, show f + (i - f) = i by omega] at h3
        have h4 : s.data.toList.drop i = 32 :: s.data.toList.drop (i + 1) := by
          obtain ⟨hlt, hx⟩ := List.getElem?_eq_some_iff.1 hc
          rw [List.drop_eq_getElem_cons hlt, hx]
        rw [h4] at h3
        exact h3.symm
      rw [e1, cutL_app _ hm, List.map_cons, List.map_nil, take_drop_piece]
      rfl
  · omega
theorem CutAt.last {s : ByteArray} {ks : List ByteArray} {f : Nat} (h : CutAt s.data.toList ks f s.size) (hne : s.size ≠ f) : CutAt s.data.toList (ks ++ [s.extract f s.size]) (s.size + 1) (s.size + 1) := by
  obtain ⟨h1, h2⟩ := h
  have hl : s.data.toList.length = s.size := rfl
  rcases h2 with ⟨_, hf, he, hm⟩ | ⟨e, _⟩
  · refine ⟨fun x hx => ?_, .inr ⟨by omega, ?_⟩⟩
    · rcases List.mem_append.1 hx with h | h
      · exact h1 x h
      · rw [List.mem_singleton] at h
        subst h
        rw [ByteArray.size_extract]; omega
    · rw [List.take_of_length_le (by rw [List.length_drop]; omega)] at hm
      rw [he, List.map_append, cutL_none hm, List.map_cons, List.map_nil, take_drop_piece, List.take_of_length_le (by rw [List.length_drop]; omega)]
  · omega
/-- An empty piece. -/
theorem CutAt.hole {s : ByteArray} {ks : List ByteArray} {i : Nat} (h : CutAt s.data.toList ks i i) (hc : i < s.size → s.data.toList[i]? = some 32) (hi : i ≤ s.size) : holeB (splitS s) = true := by
  obtain ⟨_, h2⟩ := h
  have hl : s.data.toList.length = s.size := rfl
  rcases h2 with ⟨_, hf, he, _⟩ | ⟨e, _⟩
  · have hm : [] ∈ cutL 32 s.data.toList := by
      rw [he]
      apply List.mem_append_right
      by_cases hlt : i < s.size
      · obtain ⟨hlt', hx⟩ := List.getElem?_eq_some_iff.1 (hc hlt)
        rw [List.drop_eq_getElem_cons hlt', hx]
        simp [cutL]
      · rw [List.drop_of_length_le (by omega)]; simp [cutL]
    rw [← splitS_data] at hm
    obtain ⟨x, hx, e⟩ := List.mem_map.1 hm
    exact List.any_eq_true.2 ⟨x, hx, decide_eq_true (ba_ext (by rw [e]))⟩
  · omega
theorem CutAt.done {s : ByteArray} {ks : List ByteArray} {f : Nat} (h : CutAt s.data.toList ks f (s.size + 1)) : splitS s = ks ∧ holeB (splitS s) = false := by
  obtain ⟨h1, h2⟩ := h
  have hl : s.data.toList.length = s.size := rfl
  rcases h2 with ⟨h, _⟩ | ⟨_, he⟩
  · omega
  · have e : splitS s = ks := map_data_inj (by rw [splitS_data, he])
    exact ⟨e, by rw [e]; exact hole_no h1⟩
theorem CutAt.bound {d : List UInt8} {ks : List ByteArray} {f i : Nat} (h : CutAt d ks f i) : ks.length ≤ d.length + 1 := by
  have hl := cutL_len 32 d
  obtain ⟨_, h2⟩ := h
  rcases h2 with ⟨_, _, he, _⟩ | ⟨_, he⟩ <;> (rw [he] at hl; simp at hl; omega)

theorem getL (s : ByteArray) (k : Nat) (h : k < s.size) : s.data.toList[k]? = some s[k] := by
  rw [List.getElem?_eq_getElem (show k < s.data.toList.length from h)]; rfl
theorem byte_ne {c : UInt8} (h : ¬ c = 32) : ((c.toNat : Int) == 32) = false := by
  rw [beq_eq_false_iff_ne]
  intro e; apply h; apply UInt8.toNat_inj.1
  have : c.toNat = 32 := by omega
  rw [this]; rfl
end Go.Proofs.YtlneimjenjpbnaaDoor

/-
  strings.Split at a space, strings.Join with a space, as contracts over lists.
-/
namespace Go.Proofs.YtlneimjenjpbnaaDoor
open Go.RowKit Go.Shelf

theorem split_any (s : ByteArray) (m : Int) (w : World) (hs : s.size < 4294967281) (hm : w.cell? ⟨0, 0, none⟩ = some (.int .i64 m)) :
    Calls Tryd.prog 43 #[.string s, .string ⟨#[32]⟩] w fun e w' => ∃ v, e = .returned v ∧ RdS w' v (splitS s) ∧ Below w.heap.size w w' := by
  refine (Go.Proofs.Any.strings_Split { Tryd.laysM146 with } Tryd.laysM146.i9 s ⟨#[32]⟩ m w hs hm (by decide)).mono ?_
  rintro e w' ⟨rfl, rfl⟩
  refine ⟨_, rfl, ?_, below_al _ _⟩
  refine ⟨some ⟨w.heap.size, 0, none⟩, (splitS s).length, by rw [splitS_count], Nat.le_refl _, ?_, fun i x hx => ⟨w.heap.size, 0, rfl, ?_⟩⟩
  · have := splitS_len s; unfold maxLen; omega
  · rw [Nat.zero_add]
    refine cell_nw w _ _ i ?_
    simp only [List.getElem?_toArray, List.getElem?_map]
    rw [show Lib.splitB ⟨#[32]⟩ 0 (Lib.countB s ⟨#[32]⟩) s = splitS s from rfl, hx]; rfl

/-- strings.Join with a space, of a list as it is read. -/
theorem join_any (v : Value) (l : List ByteArray) (w : World) (hr : RdS w v l) (hlen : l.length ≤ 140737488355328) (hj : (Lib.join (l.map (·.data.toList)) [32]).length ≤ 140737488355328) :
    Calls Tryd.prog 36 #[v, .string ⟨#[32]⟩] w fun e w' => e = .returned (.string (joinB l)) ∧ Below w.heap.size w w' := by
  obtain ⟨a, cap, rfl, hlc, hcm, hcell⟩ := hr.open
  by_cases h0 : l = []
  · subst h0
    refine (Tryd.strings_Join_none a cap (ByteArray.mk #[32]) w).mono ?_
    rintro e w' ⟨rfl, rfl⟩
    exact ⟨rfl, Below.refl _ _⟩
  · obtain ⟨x, b, off, hx, rfl, hc0⟩ := hcell 0 (by cases l with | nil => exact absurd rfl h0 | cons _ _ => simp)
    refine (Tryd.strings_Join b off cap l (ByteArray.mk #[32]) w (fun j y hy => by
          obtain ⟨x, b', off', hx', e, hc⟩ := hcell j (List.getElem?_eq_some_iff.1 hy).1
          cases e
          rw [hy] at hx'; cases hx'
          exact hc) (World.block_lt_of_cell? _ _ hc0) (by omega) hlc hj).mono ?_
    rintro e w' ⟨rfl, hB⟩
    exact ⟨rfl, hB⟩
end Go.Proofs.YtlneimjenjpbnaaDoor
