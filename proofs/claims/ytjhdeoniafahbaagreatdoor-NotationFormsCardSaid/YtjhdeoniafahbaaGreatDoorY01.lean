/-
  Joined, what is needed of: Clone J01 Conv J03.
-/
import Derived.Ground.Names2Prog
import Derived.Shelf.Slices.Clone
import Derived.Test.YtjhdeoniafahbaaGreatDoorProg
import Derived.WalkKit
import Derived.Lib.Bytealg
import Derived.Test.YtjhdeoniafahbaaGreatDoorRows
import Derived.WalkLawsBesides
import Derived.Deep.QuietTactic
import Derived.BigQuiet
import Derived.Lib.Strings
import Derived.Laws.Strings3
import Derived.Shelf.Strings.Search1
import Derived.WalkSpells
import Derived.OwnWalk
import Derived.Deep.Slices
import Derived.WalkSmall
import Derived.Maps.AppendAt
import Derived.ProofKit
import Derived.SliceStrings
import Derived.Deep.SlicePairs
import Derived.Carry
import Derived.BigCall
import Derived.Deep.AppendLies
import Derived.OwnWalkIn
import Derived.RangeFuncNested
import Derived.RangeFuncBound
import Derived.RangeFuncCalls
import Derived.RangeFuncLeaves
import Derived.RangeFuncBox
import Derived.TacticsInMore
import Derived.LoopNIn
import Derived.LoopIn
import Derived.Shelf.Small.Strs
import Derived.Shelf.Strconv.Atoi
import Derived.Shelf.Strconv.Itoa0
import Derived.Shelf.Strconv.Itoa1
import Derived.Shelf.LaysM
import Derived.Shelf.Strconv.Itoa2
import Derived.Shelf.Strconv.Itoa3
import Derived.Shelf.Strconv.AtoiErrFast
import Derived.Shelf.Strconv.ParseIntEmpty
import Derived.Shelf.Strconv.AtoiFail
import Derived.Shelf.Strconv.Clone
import Derived.Shelf.Strconv.SyntaxError
import Derived.Shelf.LaysC
import Derived.Shelf.Strconv.ToError
import Derived.Shelf.Strconv.Lower
import Derived.Shelf.Strconv.ParseUint10Any
import Derived.Shelf.Strconv.ParseInt10
import Derived.Shelf.Strconv.AtoiLong
import Derived.Shelf.Strconv.AtoiInnerAll
import Derived.Shelf.Strconv.RangeError
import Derived.Shelf.Strconv.ToErrorRange
import Derived.Shelf.Strconv.AtoiAll
import Derived.Shelf.Strconv.ErrVarAll
import Derived.Shelf.Strings.Prefix
import Derived.Deep.RegionLaw
import Derived.Lib.SmallJoins
import Derived.Lib.AppendIntMem
import Derived.Lib.AtoiErrMem
import Derived.Lib.AtoiAllCases
import Derived.Lib.Bytes2
namespace Go.Proofs
open Go.Shelf
def Tryz.laysNm216_ren : Go.Shelf.Ren := ⟨fun | 16 => 42 | n => n, fun | 24 => 23 | 9 => 9 | 4 => 4 | n => n, fun | n => n⟩
theorem Tryz.laysNm216 : Go.Proofs.Lays2.n16 Tryz.prog Tryz.laysNm216_ren := {
  mixed := by kernel_rfl
  f16 := Tryz.func42.trans (congrArg some (by kernel_rfl))
  t4 := Tryz.underlying4
  a4 := Tryz.isAgg4
  z4 := Tryz.sizeOf4
  v4 := Tryz.zeroValue4
  t9 := Tryz.underlying9
  a9 := Tryz.isAgg9
  z9 := Tryz.sizeOf9
  v9 := Tryz.zeroValue9
  t24 := Tryz.underlying23
  a24 := Tryz.isAgg23
  z24 := Tryz.sizeOf23
  v24 := Tryz.zeroValue23
  i9 := by kernel_rfl }
open Go.RowKit Go.Lib in
/-- slices.Clone at []string: "Clone returns a copy of the slice. The elements are copied using assignment, so this is a shallow clone. The result may have additional unused capacity. The result preserves the nilness of s.": OF A SLICE THAT IS NOT nil IT RETURNS A SLICE THAT IS NOT nil, OF THE SAME ELEMENTS, IN MEMORY OF THE CALL's OWN: in the how-to's words (6f): 'w'.ownsRow B e 1 v' n cells': v' begins at the head of a row among the blocks from B on (B: the heap's size at the call), not frozen, whose first cells are the elements · 'Below B w w'': below B all is as it was. The capacity is whatever the run-time gives. 'zs': what the cells behind the slice's address hold; 'zs.take n': its elements. (LAID: no walk: one application.) -/
theorem Tryz.slices_Clone_string (b off n c : Nat) (zs : List ByteArray) (w : World) (hz : n ≤ zs.length) (hbig : n * 16 ≤ 140737488355328) (hc : ∀ j, j < zs.length → w.cell? ⟨b, off + j, none⟩ = some (.string (zs.getD j ByteArray.empty))) :
    Calls Tryz.prog 42 #[.slice (some ⟨b, off, none⟩) n c] w fun e w' => ∃ v', e = .returned v' ∧ w'.ownsRow w.heap.size 9 1 v' n ((zs.take n).map (Value.string)) ∧ v' ≠ .slice none 0 0 ∧ Below w.heap.size w w' := Any.slices_Clone_string Tryz.laysNm216 b off n c zs w hz hbig hc
open Go.RowKit Go.Lib in
/-- The same at nil: nil comes back; the world is as it was. (LAID: no walk: one application.) -/
theorem Tryz.slices_Clone_string_nil (n c : Nat) (w : World) :
    Calls Tryz.prog 42 #[.slice none n c] w fun e w' => e = .returned (.slice none 0 0) ∧ w' = w := Any.slices_Clone_string_nil Tryz.laysNm216 n c w
open Go.RowKit Go.Lib in
/-- The same at a slice of length 0 that is not nil, WHATEVER ITS ADDRESS (no cell is asked for): a slice that is not nil and owns nothing comes back. (LAID: no walk: one application.) -/
theorem Tryz.slices_Clone_string_zero (a : Addr) (c : Nat) (w : World) :
    Calls Tryz.prog 42 #[.slice (some a) 0 c] w fun e w' => ∃ v', e = .returned v' ∧ w'.ownsRow w.heap.size 9 1 v' 0 [] ∧ v' ≠ .slice none 0 0 ∧ Below w.heap.size w w' := Any.slices_Clone_string_zero Tryz.laysNm216 a c w
end Go.Proofs
namespace Go.Proofs.YtjhdeoniafahbaaGreatDoor
open Go.RowKit
theorem hid {p : Prop} (h : p) : Hid p := h
theorem ret_int {k : IntKind} {a b : Int} (h : a = b) : Ending.returned (.int k a) = .returned (.int k b) := by rw [h]
theorem ret_bool {a b : Bool} (h : a = b) : Ending.returned (.bool a) = .returned (.bool b) := by rw [h]
end Go.Proofs.YtjhdeoniafahbaaGreatDoor
namespace Go.Proofs.YtjhdeoniafahbaaGreatDoor
def fIdx {α : Type} (p : α → Bool) (l : List α) : Int := match l.findIdx? p with | some i => (i : Int) | none => -1
theorem fIdx_none {α : Type} (p : α → Bool) (l : List α) (h : ∀ x ∈ l, p x = false) : fIdx p l = -1 := by
  unfold fIdx
  rw [List.findIdx?_eq_none_iff.2 h]
theorem fIdx_hit {α : Type} (p : α → Bool) (l : List α) (k : Nat) (x : α) (h : ∀ y ∈ l.take k, p y = false) (hx : l[k]? = some x) (hp : p x = true) : fIdx p l = k := by
  obtain ⟨hk, rfl⟩ := List.getElem?_eq_some_iff.1 hx
  unfold fIdx
  have : l.findIdx? p = some k := by
    rw [List.findIdx?_eq_some_iff_getElem]
    refine ⟨hk, hp, fun j hj => ?_⟩
    have := h l[j] (by rw [List.mem_take_iff_getElem]; exact ⟨j, by omega, rfl⟩)
    simp [this]
  rw [this]
theorem fIdx_pos {α : Type} (p : α → Bool) (l : List α) : decide (0 ≤ fIdx p l) = l.any p := by
  unfold fIdx
  cases h : l.findIdx? p with
  | none =>
    rw [List.findIdx?_eq_none_iff] at h
    have : l.any p = false := by rw [List.any_eq_false]; intro x hx; simp [h x hx]
    rw [this]; rfl
  | some i =>
    rw [List.findIdx?_eq_some_iff_getElem] at h
    obtain ⟨hi, hp, _⟩ := h
    have : l.any p = true := List.any_eq_true.2 ⟨l[i], List.getElem_mem hi, hp⟩
    rw [this]
    simp
theorem fIdx_lt {α : Type} (p : α → Bool) (l : List α) : fIdx p l < l.length := by
  unfold fIdx
  cases h : l.findIdx? p with
  | none => simp; omega
  | some i =>
    rw [List.findIdx?_eq_some_iff_getElem] at h
    obtain ⟨hi, _⟩ := h
    simp; exact hi
theorem take_none {α : Type} {p : α → Bool} {l : List α} {k : Nat} {x : α} (h : ∀ y ∈ l.take k, p y = false) (hx : l[k]? = some x) (hp : p x = false) : ∀ y ∈ l.take (k + 1), p y = false := by
  intro y hy
  rw [List.take_add_one, hx] at hy
  rcases List.mem_append.1 hy with hy | hy
  · exact h y hy
  · simp at hy; rw [hy]; exact hp
theorem ba_beq (s t : ByteArray) : (s.toList == t.toList) = decide (s = t) := by
  rw [ByteArray.toList_eq, ByteArray.toList_eq, Bool.eq_iff_iff]
  simp only [beq_iff_eq, decide_eq_true_eq, Array.toList_inj]
  constructor
  · intro h; cases s; cases t; simp_all
  · intro h; rw [h]
theorem take_eq_step {α : Type} {l m : List α} {k : Nat} {x y : α} (h : l.take k = m.take k) (hx : l[k]? = some x) (hy : m[k]? = some y) (e : x = y) : l.take (k + 1) = m.take (k + 1) := by
  rw [List.take_add_one, List.take_add_one, h, hx, hy, e]
theorem ne_of_at {α : Type} {l m : List α} {k : Nat} {x y : α} (hx : l[k]? = some x) (hy : m[k]? = some y) (e : x ≠ y) : l ≠ m := by
  intro h; rw [h, hy] at hx; exact e (Option.some.inj hx).symm
theorem fIdx_cases {α : Type} (p : α → Bool) (l : List α) : fIdx p l = -1 ∨ ∃ (k : Nat) (x : α), fIdx p l = (k : Int) ∧ l[k]? = some x ∧ k < l.length ∧ p x = true := by
  unfold fIdx
  cases h : l.findIdx? p with
  | none => left; rfl
  | some i =>
    right
    rw [List.findIdx?_eq_some_iff_getElem] at h
    obtain ⟨hi, hp, _⟩ := h
    exact ⟨i, l[i], rfl, by simp [hi], hi, hp⟩
end Go.Proofs.YtjhdeoniafahbaaGreatDoor
namespace Go.Proofs.YtjhdeoniafahbaaGreatDoor
open Go.RowKit
def kindI (c : Int) : Int :=
  if (97 ≤ c ∧ c ≤ 122) ∨ (65 ≤ c ∧ c ≤ 90) then 1 else if c = 94 ∨ c = 126 ∨ c = 37 then 2 else if 48 ≤ c ∧ c ≤ 57 then 3 else if c = 39 then 4 else if c = 32 then 6
  else if c = 46 ∨ c = 44 ∨ c = 59 ∨ c = 58 ∨ c = 33 ∨ c = 63 ∨ c = 40 ∨ c = 41 ∨ c = 45 then 5 else 0
set_option maxHeartbeats 400000 in
set_option maxRecDepth 100000 in
theorem indexByte_any (s : ByteArray) (c : Int) (w : World) :
    Calls Tryz.prog 159 #[.string s, .int .u8 c] w fun e w' => e = .returned (.int .i64 (Lib.indexByte s.data.toList c.toNat.toUInt8)) ∧ w = w' := by
  go_enter Tryz.func159, Tryz.ntmps159
  go_wp2
  rw [run_callFunc_extern Tryz.func147 (by kernel_rfl) (by kernel_rfl) (by kernel_rfl) (e := Extern.BytealgIndexByte.indexByte) (by kernel_rfl), Lib.run_indexByteString]
  simp only [Result.andThen]
  rw [Oper.upon_value]
  go_wp2
  go_ret
  exact ⟨rfl, rfl⟩
def pIdx (c : Int) : Int := Lib.indexByte [46, 44, 59, 58, 33, 63, 40, 41, 45] c.toNat.toUInt8
theorem pIdx_pos (c : Int) (h0 : 0 ≤ c) (h1 : c ≤ 255) : 0 ≤ pIdx c ↔ (c = 46 ∨ c = 44 ∨ c = 59 ∨ c = 58 ∨ c = 33 ∨ c = 63 ∨ c = 40 ∨ c = 41 ∨ c = 45) := by
  obtain ⟨n, rfl⟩ := Int.eq_ofNat_of_zero_le h0
  have : ∀ n : Fin 256, 0 ≤ pIdx (n.val : Int) ↔ ((n.val : Int) = 46 ∨ (n.val : Int) = 44 ∨ (n.val : Int) = 59 ∨ (n.val : Int) = 58 ∨ (n.val : Int) = 33 ∨ (n.val : Int) = 63 ∨ (n.val : Int) = 40 ∨ (n.val : Int) = 41 ∨ (n.val : Int) = 45) := by decide +kernel
  exact this ⟨n, by omega⟩
theorem idxPunct_any (c : Int) (w : World) :
    Calls Tryz.prog 159 #[.string ⟨#[46, 44, 59, 58, 33, 63, 40, 41, 45]⟩, .int .u8 c] w fun e w' => e = .returned (.int .i64 (pIdx c)) ∧ w = w' := indexByte_any _ _ _
set_option maxHeartbeats 1000000 in
set_option maxRecDepth 100000 in
theorem kind_any (c : Int) (h0 : 0 ≤ c) (h1 : c ≤ 255) (w : World) :
    Calls Tryz.prog 135 #[.int .u8 c] w fun e w' => e = .returned (.int .i64 (kindI c)) ∧ w = w' := by
  have hp := pIdx_pos c h0 h1
  have HP := hid hp; clear hp
  go_enter Tryz.func135, Tryz.ntmps135
  go_wp2_with (go_at_call 159; refine (idxPunct_any _ _).mono ?_; rintro e w' ⟨rfl, rfl⟩)
  all_goals go_ret
  all_goals refine ⟨ret_int ?_, rfl⟩
  all_goals (have hp := HP.out; clear HP)
  all_goals first
    | rfl
    | ((try simp only [beq_iff_eq, beq_eq_false_iff_ne, bne_iff_ne, bne_eq_false_iff_eq, ne_eq] at *); unfold kindI; (repeat' split) <;> omega)
def isLet (c : UInt8) : Bool := kindI c.toNat == 1 || kindI c.toNat == 3
def lettersI (l : List UInt8) : Int := (l.filter isLet).length
theorem lettersI_le (l : List UInt8) : 0 ≤ lettersI l ∧ lettersI l ≤ l.length := by
  unfold lettersI; exact ⟨by omega, by have := List.length_filter_le isLet l; omega⟩
theorem take_snoc (s : ByteArray) (k : Nat) (h : k < s.size) : s.data.toList.take (k + 1) = s.data.toList.take k ++ [s[k]] := by
  rw [List.take_succ_eq_append_getElem (by simpa using h)]; rfl
theorem lettersI_snoc (l : List UInt8) (c : UInt8) : lettersI (l ++ [c]) = lettersI l + if isLet c = true then 1 else 0 := by
  unfold lettersI
  rw [List.filter_append]
  by_cases h : isLet c = true <;> simp [h]
set_option maxHeartbeats 400000 in
theorem letters_any (s : ByteArray) (w : World) (hs : s.size ≤ maxLen) :
    Calls Tryz.prog 138 #[.string s] w fun e w' => e = .returned (.int .i64 (lettersI s.data.toList)) ∧ w = w' := by
  unfold maxLen at hs
  go_enter Tryz.func138, Tryz.ntmps138
  go_wp2
  go_loop [3, 8] (fun n i => ∃ k : Nat, k ≤ s.size ∧ i = .int .i64 k ∧ n = .int .i64 (lettersI (s.data.toList.take k))) (fun _ i => s.size - (intOf i).toNat)
  case atStart => exact ⟨0, Nat.zero_le _, rfl, rfl⟩
  case round =>
    obtain ⟨k, hk, rfl, rfl⟩ := hrel
    have hd := lettersI_le (s.data.toList.take k)
    have hl : (s.data.toList.take k).length ≤ k := List.length_take_le _ _
    by_cases hlt : k < s.size
    · have hsn := lettersI_snoc (s.data.toList.take k) s[k]
      rw [← take_snoc s k hlt] at hsn
      have HS := hid hsn
      clear hsn
      have hu : 0 ≤ (s[k].toNat : Int) ∧ (s[k].toNat : Int) ≤ 255 := ⟨by omega, by have := UInt8.toNat_lt s[k]; omega⟩
      by_cases h1 : kindI s[k].toNat = 1
      · rw [if_pos (by simp [isLet, h1])] at HS
        have b1 := beq_iff_eq.2 h1
        clear h1
        go_wp2_with (go_at_call 135; refine (kind_any _ (by omega) (by omega) _).mono ?_; rintro e w' ⟨rfl, rfl⟩)
        go_round
        case rel => exact ⟨k + 1, by omega, by go_num, by rw [HS.out]⟩
        case measure => simp [intOf]; omega
      · have b1 := beq_eq_false_iff_ne.2 h1
        by_cases h3 : kindI s[k].toNat = 3
        · rw [if_pos (by simp [isLet, h3])] at HS
          have b3 := beq_iff_eq.2 h3
          clear h1 h3
          go_wp2_with (go_at_call 135; refine (kind_any _ (by omega) (by omega) _).mono ?_; rintro e w' ⟨rfl, rfl⟩)
          go_round
          case rel => exact ⟨k + 1, by omega, by go_num, by rw [HS.out]⟩
          case measure => simp [intOf]; omega
        · rw [if_neg (by simp [isLet, h1, h3])] at HS
          have b3 := beq_eq_false_iff_ne.2 h3
          clear h1 h3
          go_wp2_with (go_at_call 135; refine (kind_any _ (by omega) (by omega) _).mono ?_; rintro e w' ⟨rfl, rfl⟩)
          go_round
          case rel => exact ⟨k + 1, by omega, by go_num, by rw [HS.out]; go_num⟩
          case measure => simp [intOf]; omega
    · go_wp2
      go_ret
      exact ⟨ret_int (by rw [List.take_of_length_le (by simp; omega)]), rfl⟩
end Go.Proofs.YtjhdeoniafahbaaGreatDoor
namespace Go.Proofs.YtjhdeoniafahbaaGreatDoor
open Go.RowKit
/-- The slice value v reads in W as the list l, one cell an element. -/
def Rd {α : Type} (enc : α → Value) (W : World) (v : Value) (l : List α) : Prop :=
  ∃ a cap, v = .slice a l.length cap ∧ l.length ≤ cap ∧ cap ≤ maxLen ∧ ∀ i x, l[i]? = some x → ∃ b off, a = some ⟨b, off, none⟩ ∧ W.cell? ⟨b, off + i, none⟩ = some (enc x)
abbrev RdI (W : World) (v : Value) (l : List Int) : Prop := Rd (Value.int .i64) W v l
abbrev RdS (W : World) (v : Value) (l : List ByteArray) : Prop := Rd Value.string W v l
structure Grp where
  name : ByteArray
  mem : List Int
theorem Below.keeps {W W' : World} (h : Below W.heap.size W W') : ∀ p x, W.cell? p = some x → W'.cell? p = some x :=
  fun p _ hx => (h.cell (World.block_lt_of_cell? W p hx)).trans hx
theorem cell_al {W : World} {p : Addr} {x : Value} (h : W.cell? p = some x) (o : Obj) : (W.alloc o).cell? p = some x := Below.keeps ((Below.refl _ W).alloc (Nat.le_refl _) o) p x h
theorem cell_nw (W : World) (cs : Array Value) (t : TypeId) (i : Nat) {x : Value} (h : cs[i]? = some x) : (W.alloc (.cells cs t)).cell? ⟨W.heap.size, i, none⟩ = some x := by
  rw [cell_of_row _ W.heap.size i cs t (0, 0) (heap_alloc_new W _)]; exact h
theorem below_al (W : World) (o : Obj) : Below W.heap.size W (W.alloc o) := (Below.refl _ W).alloc (Nat.le_refl _) o
theorem below_tr {W W1 W2 : World} (h : Below W.heap.size W W1) (k : Below W1.heap.size W1 W2) : Below W.heap.size W W2 := h.trans (k.mono h.size)
theorem Rd.mono {α : Type} {enc : α → Value} {W W' : World} {v : Value} {l : List α} (h : Rd enc W v l) (hk : ∀ p x, W.cell? p = some x → W'.cell? p = some x) : Rd enc W' v l := by
  obtain ⟨a, cap, h1, h2, h3, h4⟩ := h
  exact ⟨a, cap, h1, h2, h3, fun i x hx => let ⟨b, off, e, hc⟩ := h4 i x hx; ⟨b, off, e, hk _ _ hc⟩⟩
theorem Rd.below {α : Type} {enc : α → Value} {W W' : World} {v : Value} {l : List α} (h : Rd enc W v l) (hb : Below W.heap.size W W') : Rd enc W' v l := h.mono (Below.keeps hb)
theorem Rd.drewN {α : Type} {enc : α → Value} {W : World} {v : Value} {l : List α} (h : Rd enc W v l) (n : Nat) : Rd enc (W.drewN n) v l := h.below (below_drewN (Below.refl _ _) n)
theorem Rd.nil {α : Type} {enc : α → Value} (W : World) : Rd enc W (.slice none 0 0) [] := ⟨none, 0, rfl, Nat.le_refl _, by unfold maxLen; omega, fun i x h => by simp at h⟩
/-- The open form: v written out, the length bound, the elements' cells. -/
theorem Rd.open {α : Type} {enc : α → Value} {W : World} {v : Value} {l : List α} (h : Rd enc W v l) : ∃ a cap, v = .slice a l.length cap ∧ l.length ≤ cap ∧ cap ≤ 9223372036854775807 ∧ ∀ i, i < l.length → ∃ x b off, l[i]? = some x ∧ a = some ⟨b, off, none⟩ ∧ W.cell? ⟨b, off + i, none⟩ = some (enc x) := by
  obtain ⟨a, cap, h1, h2, h3, h4⟩ := h
  exact ⟨a, cap, h1, h2, h3, fun i hi => let ⟨b, off, e, hc⟩ := h4 i l[i] (by simp [hi]); ⟨l[i], b, off, by simp [hi], e, hc⟩⟩
/-- 'out = append(out, x)', out the call's own from block base on, one element of 'size' cells. -/
theorem wpList_ap {P : Program} {ops : Array Oper} {rest : List Oper} {o : Oper} {a : Act} {Q : Exit → Act → World → Prop} {W : World} (hgd : o.guard = none) (s x : Operand) (t : TypeId)
    (ho : o.op = .call { callee := .builtin .append, args := #[s, x], argTypes := #[t, t] })
    (base : Nat) (e : TypeId) {z : Value} {size bytes : Nat} (ht : P.underlying t = some (.slice e)) (hi : (P.info? e).map (fun i => (i.zero, i.size, i.bytes)) = some (some z, size, bytes))
    (hzs : z.cells.size = size) (hsz : 0 < size) (hby : bytes ≤ 64)
    (v : Value) (n : Nat) (xs : List Value) (hs : a.eval s = v) (hown : W.ownsRow base e size v n xs) (news : List Value) (hl : news.length = size) (h1 : ∀ u ∈ news, u.oneCell' = true)
    {N : Nat} (hx : a.eval x = .slice (some ⟨N, 0, none⟩) 1 1) (hN : N = W.heap.size) (hn : n + 1 ≤ 4294967296) (hbase : base ≤ W.heap.size)
    (h : ∀ v' w', w'.ownsRow base e size v' (n + 1) (xs ++ news) → Below base W w' → W.grownBy w' v.ownBlock → wpList P ops Q rest (a.put o.dst v') w') :
    wpList P ops Q (o :: rest) a (W.alloc (.cells news.toArray e)) := by
  obtain ⟨i, hi1, hi2, hi3, hi4⟩ := info_parts hi
  subst hN
  refine wpList_append_own _ hgd s x t ho base e i z size bytes ht hi1 hi2 hi3 hi4 hzs hsz v n xs hs (hown.alloc _) ⟨W.heap.size, 0, none⟩ 1 1 news hx (by omega) ?_ h1 (by unfold maxLen; omega) ?_ (by simp; omega) ?_
  · intro j u hj
    have hlt := (List.getElem?_eq_some_iff.1 hj).1
    have hadd : (⟨W.heap.size, 0, none⟩ : Addr).add j = ⟨W.heap.size, j, none⟩ := by unfold Addr.add; split <;> simp_all
    rw [hadd, cell_of_row _ W.heap.size j news.toArray e (0, 0) (heap_alloc_new W _)]
    simpa using hj
  · have : (n + 1) * bytes ≤ 4294967296 * 64 := Nat.mul_le_mul hn hby
    omega
  · intro v' w' ho' hg' _
    have hg : W.grownBy w' v.ownBlock := ⟨hg'.os, hg'.tape, hg'.output, Nat.le_trans (by simp) hg'.size, fun k hk hne => (hg'.block k (by simp; omega) hne).trans (Below.heap_alloc W _ k hk)⟩
    exact h v' w' ho' ((Below.refl _ _).grown hg hbase (fun k hk => (hown.lt k hk).1)) hg
/-- An owned row reads as its list. -/
theorem Rd.of_own {α : Type} {enc : α → Value} {W : World} {base : Nat} {e : TypeId} {v : Value} {l : List α} (h : W.ownsRow base e 1 v l.length (l.map enc)) : Rd enc W v l := by
  obtain ⟨_, h2⟩ := h
  rcases h2 with ⟨rfl, hn⟩ | ⟨g, cap, cur, rfl, hb, hh, hc, hm, hs, ht⟩
  · have : l = [] := List.eq_nil_of_length_eq_zero hn
    subst this
    exact Rd.nil W
  · refine ⟨some ⟨g, 0, none⟩, cap, rfl, hc, hm, fun i x hx => ⟨g, 0, rfl, ?_⟩⟩
    have hi := (List.getElem?_eq_some_iff.1 hx).1
    rw [Nat.zero_add, cell_of_row _ g i cur e (0, 0) hh]
    have : (l.map enc)[i]? = some (enc x) := by rw [List.getElem?_map, hx]; rfl
    rw [← ht, List.getElem?_take, if_pos (by omega)] at this
    simpa using this
theorem Rd.take {α : Type} {enc : α → Value} {W : World} {a : Option Addr} {n cap : Nat} {l : List α} (h : Rd enc W (.slice a n cap) l) (k : Nat) (hk : k ≤ l.length) : Rd enc W (.slice a k cap) (l.take k) := by
  obtain ⟨a', cap', h1, h2, h3, h4⟩ := h
  cases h1
  exact ⟨a, cap, by rw [List.length_take, Nat.min_eq_left hk], by rw [List.length_take]; omega, h3, fun i x hx => h4 i x (by rw [List.getElem?_take] at hx; split at hx; exact hx; cases hx)⟩
def Szs (l : List ByteArray) : Prop := ∀ s ∈ l, s.size ≤ maxLen
/-- What lies in no block of a row that was written stays. -/
theorem grown_cell {W w' : World} {row : Option Nat} (hg : W.grownBy w' row) {p : Addr} {x : Value} (h : W.cell? p = some x) (hne : some p.block ≠ row) : w'.cell? p = some x := hg.cell h hne
end Go.Proofs.YtjhdeoniafahbaaGreatDoor
namespace Go.Proofs.YtjhdeoniafahbaaGreatDoor
open Go.RowKit
/-- A slice that was just built of constants. -/
theorem Rd.lit {α : Type} {enc : α → Value} (W : World) (l : List α) (cs : Array Value) (t : TypeId) (n : Nat) (hc : cs = (l.map enc).toArray) (hn : n = l.length) (hm : n ≤ maxLen) :
    Rd enc (W.alloc (.cells cs t)) (.slice (some ⟨W.heap.size, 0, none⟩) n n) l := by
  subst hn
  refine ⟨some ⟨W.heap.size, 0, none⟩, l.length, rfl, Nat.le_refl _, hm, fun i x hx => ⟨W.heap.size, 0, rfl, ?_⟩⟩
  rw [Nat.zero_add]
  exact cell_nw W cs t i (by subst hc; simp [hx])
end Go.Proofs.YtjhdeoniafahbaaGreatDoor
namespace Go.Proofs.YtjhdeoniafahbaaGreatDoor
open Go.RowKit
def isNameB (s : ByteArray) : Bool := decide (s.size ≠ 0) && decide (s.size ≤ 16) && decide (lettersI s.data.toList = s.size)
set_option maxHeartbeats 400000 in
theorem isName_any (s : ByteArray) (w : World) (hs : s.size ≤ maxLen) :
    Calls Tryz.prog 117 #[.string s] w fun e w' => e = .returned (.bool (isNameB s)) ∧ w = w' := by
  have hs' := hs
  unfold maxLen at hs
  go_enter Tryz.func117, Tryz.ntmps117
  go_wp2_with (go_at_call 138; refine (letters_any _ _ hs').mono ?_; rintro e w' ⟨rfl, rfl⟩)
  all_goals go_ret
  all_goals refine ⟨ret_bool ?_, rfl⟩
  all_goals (have hl := lettersI_le s.data.toList; have hz : s.toList = [] ↔ s.size = 0 := by rw [ByteArray.toList_eq, ← List.length_eq_zero_iff]; simp)
  · have h : s.toList = [] := by assumption
    simp [isNameB, hz.1 h]
  · have h : ¬ s.toList = [] := by assumption
    have h16 : (s.size : Int) ≤ 16 := by assumption
    have h0 : s.size ≠ 0 := fun e => h (hz.2 e)
    have h16' : s.size ≤ 16 := by omega
    have he : s.toList.isEmpty = false := by simpa using h
    rw [he, Bool.eq_iff_iff]; simp [isNameB, h0, h16']
  · have h16 : 16 < (s.size : Int) := by assumption
    simp [isNameB]; omega
def cutStar (s : ByteArray) : ByteArray × Bool := if 1 ≤ s.size ∧ (s.extract (s.size - 1) s.size).toList = [42] then (s.extract 0 (s.size - 1), true) else (s, false)
set_option maxHeartbeats 400000 in
theorem cutStar_any (s : ByteArray) (w : World) (hs : s.size ≤ maxLen) :
    Calls Tryz.prog 116 #[.string s, .string ⟨#[42]⟩] w fun e w' => e = .returned (.tuple #[.string (cutStar s).1, .bool (cutStar s).2]) ∧ w = w' := by
  unfold maxLen at hs
  go_enter Tryz.func116, Tryz.ntmps116
  go_wp2
  all_goals go_ret2
  all_goals refine ⟨?_, rfl⟩
  · have h : (!(s.extract (s.size - 1) s.size).toList == [42]) = true := by assumption
    have h' : ¬ (s.extract (s.size - 1) s.size).toList = [42] := by simpa using h
    simp [cutStar, h']
  · have h : (!(s.extract (s.size - 1) s.size).toList == [42]) = false := by assumption
    have h1 : 1 ≤ (s.size : Int) := by assumption
    have h' : (s.extract (s.size - 1) s.size).toList = [42] := by simpa using h
    have h1' : 1 ≤ s.size := by omega
    simp [cutStar, h', h1']
  · have h1 : (s.size : Int) < 1 := by assumption
    have h1' : ¬ 1 ≤ s.size := by omega
    simp [cutStar, h1']
def sigB (s : ByteArray) : Bool := isNameB (cutStar s).1 && (!(cutStar s).2 || decide (s.size ≤ 16))
theorem cutStar_le (s : ByteArray) : (cutStar s).1.size ≤ s.size := by
  unfold cutStar; split
  · simp
  · exact Nat.le_refl _
end Go.Proofs.YtjhdeoniafahbaaGreatDoor
namespace Go.Proofs.YtjhdeoniafahbaaGreatDoor
open Go.RowKit
theorem infoStr : (Tryz.prog.info? 9).map (fun i => (i.zero, i.size, i.bytes)) = some (some (.string ⟨#[]⟩), 1, 16) := by kernel_rfl
end Go.Proofs.YtjhdeoniafahbaaGreatDoor
namespace Go.Proofs.YtjhdeoniafahbaaGreatDoor
open Go.RowKit
set_option maxHeartbeats 2000000 in
theorem rkind_any (c : Int) (h0 : 0 ≤ c) (h1 : c ≤ 255) (w : World) :
    Calls Tryz.prog 150 #[.int .u8 c] w fun e w' => e = .returned (.int .i64 (kindI c)) ∧ w = w' := by
  have hcs : (c = 94 ∨ c = 126 ∨ c = 37 ∨ c = 39 ∨ c = 32 ∨ c = 46 ∨ c = 44 ∨ c = 59 ∨ c = 58 ∨ c = 33 ∨ c = 63 ∨ c = 40 ∨ c = 41 ∨ c = 45) ∨
      ((97 ≤ c ∧ c ≤ 122) ∨ (65 ≤ c ∧ c ≤ 90)) ∨ (48 ≤ c ∧ c ≤ 57) ∨
      (¬ ((97 ≤ c ∧ c ≤ 122) ∨ (65 ≤ c ∧ c ≤ 90)) ∧ ¬ (48 ≤ c ∧ c ≤ 57) ∧ (c ≠ 94 ∧ c ≠ 126 ∧ c ≠ 37 ∧ c ≠ 39 ∧ c ≠ 32 ∧ c ≠ 46 ∧ c ≠ 44 ∧ c ≠ 59 ∧ c ≠ 58 ∧ c ≠ 33 ∧ c ≠ 63 ∧ c ≠ 40 ∧ c ≠ 41 ∧ c ≠ 45)) := by omega
  rcases hcs with h | h | h | h
  · rcases h with rfl | rfl | rfl | rfl | rfl | rfl | rfl | rfl | rfl | rfl | rfl | rfl | rfl | rfl
    all_goals
      go_enter Tryz.func150, Tryz.ntmps150
      go_wp2
      go_ret
      exact ⟨rfl, rfl⟩
  · have HK : Hid (kindI c = 1) := by unfold kindI; rw [if_pos h]; rfl
    rcases h with ⟨ha, hb⟩ | ⟨ha, hb⟩
    · go_enter Tryz.func150, Tryz.ntmps150
      go_wp2
      go_ret
      exact ⟨ret_int HK.out.symm, rfl⟩
    · go_enter Tryz.func150, Tryz.ntmps150
      go_wp2
      go_ret
      exact ⟨ret_int HK.out.symm, rfl⟩
  · have HK : Hid (kindI c = 3) := by unfold kindI; rw [if_neg (by omega), if_neg (by omega), if_pos h]; rfl
    obtain ⟨ha, hb⟩ := h
    have hb1 : (c == 94) = false := beq_eq_false_iff_ne.2 (by omega)
    have hb2 : (c == 126) = false := beq_eq_false_iff_ne.2 (by omega)
    have hb3 : (c == 37) = false := beq_eq_false_iff_ne.2 (by omega)
    go_enter Tryz.func150, Tryz.ntmps150
    go_wp2
    go_ret
    exact ⟨ret_int HK.out.symm, rfl⟩
  · obtain ⟨hl, hd, n1, n2, n3, n4, n5, n6, n7, n8, n9, n10, n11, n12, n13, n14⟩ := h
    have HK : Hid (kindI c = 0) := by unfold kindI; rw [if_neg hl, if_neg (by omega), if_neg hd, if_neg n4, if_neg n5, if_neg (by omega)]; rfl
    have b1 := beq_eq_false_iff_ne.2 n1; have b2 := beq_eq_false_iff_ne.2 n2; have b3 := beq_eq_false_iff_ne.2 n3; have b4 := beq_eq_false_iff_ne.2 n4
    have b5 := beq_eq_false_iff_ne.2 n5; have b6 := beq_eq_false_iff_ne.2 n6; have b7 := beq_eq_false_iff_ne.2 n7; have b8 := beq_eq_false_iff_ne.2 n8
    have b9 := beq_eq_false_iff_ne.2 n9; have b10 := beq_eq_false_iff_ne.2 n10; have b11 := beq_eq_false_iff_ne.2 n11; have b12 := beq_eq_false_iff_ne.2 n12
    have b13 := beq_eq_false_iff_ne.2 n13; have b14 := beq_eq_false_iff_ne.2 n14
    clear n1 n2 n3 n4 n5 n6 n7 n8 n9 n10 n11 n12 n13 n14
    have hcase : (c < 48 ∨ (57 < c ∧ c < 65)) ∨ (90 < c ∧ c < 97) ∨ 122 < c := by omega
    clear hl hd
    rcases hcase with (h | ⟨h, h'⟩) | ⟨h, h'⟩ | h
    all_goals
      go_enter Tryz.func150, Tryz.ntmps150
      go_wp2
      go_ret
      exact ⟨ret_int HK.out.symm, rfl⟩
set_option maxHeartbeats 400000 in
theorem rletters_any (s : ByteArray) (w : World) (hs : s.size ≤ maxLen) :
    Calls Tryz.prog 155 #[.string s] w fun e w' => e = .returned (.int .i64 (lettersI s.data.toList)) ∧ w = w' := by
  unfold maxLen at hs
  go_enter Tryz.func155, Tryz.ntmps155
  go_wp2
  go_loop [3, 4] (fun n i => ∃ k : Nat, k ≤ s.size ∧ i = .int .i64 k ∧ n = .int .i64 (lettersI (s.data.toList.take k))) (fun _ i => s.size - (intOf i).toNat)
  case atStart => exact ⟨0, Nat.zero_le _, rfl, rfl⟩
  case round =>
    obtain ⟨k, hk, rfl, rfl⟩ := hrel
    have hd := lettersI_le (s.data.toList.take k)
    have hl : (s.data.toList.take k).length ≤ k := List.length_take_le _ _
    by_cases hlt : k < s.size
    · have hsn := lettersI_snoc (s.data.toList.take k) s[k]
      rw [← take_snoc s k hlt] at hsn
      have HS := hid hsn
      clear hsn
      have hu : 0 ≤ (s[k].toNat : Int) ∧ (s[k].toNat : Int) ≤ 255 := ⟨by omega, by have := UInt8.toNat_lt s[k]; omega⟩
      by_cases h1 : kindI s[k].toNat = 1
      · rw [if_pos (by simp [isLet, h1])] at HS
        have b1 := beq_iff_eq.2 h1
        clear h1
        go_wp2_with (go_at_call 150; refine (rkind_any _ (by omega) (by omega) _).mono ?_; rintro e w' ⟨rfl, rfl⟩)
        go_round
        case rel => exact ⟨k + 1, by omega, by go_num, by rw [HS.out]⟩
        case measure => simp [intOf]; omega
      · have b1 := beq_eq_false_iff_ne.2 h1
        by_cases h3 : kindI s[k].toNat = 3
        · rw [if_pos (by simp [isLet, h3])] at HS
          have b3 := beq_iff_eq.2 h3
          clear h1 h3
          go_wp2_with (go_at_call 150; refine (rkind_any _ (by omega) (by omega) _).mono ?_; rintro e w' ⟨rfl, rfl⟩)
          go_round
          case rel => exact ⟨k + 1, by omega, by go_num, by rw [HS.out]⟩
          case measure => simp [intOf]; omega
        · rw [if_neg (by simp [isLet, h1, h3])] at HS
          have b3 := beq_eq_false_iff_ne.2 h3
          clear h1 h3
          go_wp2_with (go_at_call 150; refine (rkind_any _ (by omega) (by omega) _).mono ?_; rintro e w' ⟨rfl, rfl⟩)
          go_round
          case rel => exact ⟨k + 1, by omega, by go_num, by rw [HS.out]; go_num⟩
          case measure => simp [intOf]; omega
    · go_wp2
      go_ret
      exact ⟨ret_int (by rw [List.take_of_length_le (by simp; omega)]), rfl⟩
end Go.Proofs.YtjhdeoniafahbaaGreatDoor
namespace Go.Proofs.YtjhdeoniafahbaaGreatDoor
open Go.ChangeShapes Go.WideShapes Go.ChangeAt Go.RowKit Go.Deep
section
variable {H : Type} {enc : TypeId × Value → H} {P : Program} {W : World} {base : Nat} {spare : Nat → Bool} {held : Bool}
theorem spot_of {b off : Nat} {spot : Option Nat} {y : Value} (h : W.cell? ((⟨b, off, spot⟩ : Addr).add 0) = some y) : spot = none := by
  have h1 := World.cell?_spot h
  simpa [Addr.add] using h1
theorem plain_of {b off i : Nat} {x : Value} (h : W.cell? ((⟨b, off, none⟩ : Addr).add i) = some x) : W.cell? ⟨b, off + i, none⟩ = some x := by
  rwa [Go.WideShapes.add_plain] at h
theorem rdS_of {t e : TypeId} {fuel : Nat} {v : Value} {x : DataW H × List MemPlace} (ht : P.underlying t = some (.slice e)) (he : P.underlying e = some .string) (hc : P.cellsOf e = 1)
    (hf : DataW.trod enc P W base spare held fuel t [v] = some x) : ∃ l, RdS W v l ∧ Szs l := by
  rcases open_strings ht he hc hf with ⟨hcs, _⟩ | ⟨a, len, cap, ss, hcs, _, hl, hm, hz, _, hcell, hsz⟩
  · simp only [List.cons.injEq, and_true] at hcs
    subst hcs
    exact ⟨[], Rd.nil W, fun s h => by cases h⟩
  · simp only [List.cons.injEq, and_true] at hcs
    subst hcs
    have hlen : len ≤ ss.length := by rw [hz]; split <;> omega
    have hlt : (ss.take len).length = len := by rw [List.length_take]; omega
    obtain ⟨b, off, spot⟩ := a
    refine ⟨ss.take len, ⟨some ⟨b, off, spot⟩, cap, by rw [hlt], by rw [hlt]; exact hl, hm, fun i x hx => ?_⟩, fun s hs => hsz s (List.mem_of_mem_take hs)⟩
    have hi : i < len := by have := (List.getElem?_eq_some_iff.1 hx).1; omega
    obtain rfl := spot_of (hcell 0 (by omega))
    refine ⟨b, off, rfl, ?_⟩
    rw [plain_of (hcell i (by omega))]
    rw [List.getElem?_take_of_lt hi] at hx
    simp [List.getD, hx]
instance : Inhabited Grp := ⟨⟨ByteArray.empty, []⟩⟩
end
end Go.Proofs.YtjhdeoniafahbaaGreatDoor
namespace Go.Proofs.YtjhdeoniafahbaaGreatDoor
open Go.ChangeShapes Go.WideShapes Go.ChangeAt Go.RowKit Go.Deep
section
variable {H : Type} {enc : TypeId × Value → H} {P : Program} {w : World} {base : Nat} {spare : Nat → Bool} {held : Bool}
end
end Go.Proofs.YtjhdeoniafahbaaGreatDoor
namespace Go.Proofs.YtjhdeoniafahbaaGreatDoor
open Go.RowKit
set_option maxHeartbeats 400000 in
theorem equalS_any (v u : Value) (l m : List ByteArray) (w : World) (hr : RdS w v l) (hs : RdS w u m) :
    Calls Tryz.prog 35 #[v, u] w fun e w' => e = .returned (.bool (decide (l = m))) ∧ Below w.heap.size w w' := by
  obtain ⟨a, cap, rfl, hlc, hcm, hcell⟩ := hr.open
  obtain ⟨a2, cap2, rfl, hlc2, hcm2, hcell2⟩ := hs.open
  have HCell := hid hcell; clear hcell
  have HCell2 := hid hcell2; clear hcell2
  by_cases hlen : l.length = m.length
  · have b1 : ((l.length : Int) != (m.length : Int)) = false := by simp [hlen]
    have HL := hid hlen; clear hlen
    go_enter Tryz.func35, Tryz.ntmps35
    go_wp2
    go_loopw [13] (fun i wr => ∃ k : Nat, k ≤ l.length ∧ i = .int .i64 k ∧ Hid (l.take k = m.take k) ∧ Below w.heap.size w wr) (fun i _ => l.length - (intOf i).toNat)
    case atStart => exact ⟨0, Nat.zero_le _, rfl, by simp [Hid], Below.refl _ _⟩
    case round =>
      rename_i wr
      obtain ⟨k, hk, rfl, HK, hB⟩ := hrel
      by_cases hlt : k < l.length
      · obtain ⟨x, b, off, hx, rfl, hc0⟩ := HCell.out k hlt
        obtain ⟨y, b2, off2, hy, rfl, hd0⟩ := HCell2.out k (by have := HL.out; omega)
        have hc := Below.keeps hB _ _ hc0
        have hd := Below.keeps hB _ _ hd0
        clear hc0 hd0
        have HX := hid hx; clear hx
        have HY := hid hy; clear hy
        have hlt2 : k < m.length := by have := HL.out; omega
        by_cases he : x = y
        · have hb' : (!x.toList == y.toList) = false := by rw [ba_beq]; simp [he]
          have HE := hid he; clear he
          go_wp2
          go_quiet (fail)
          go_wp2
          go_roundw
          case rel => exact ⟨k + 1, by omega, by go_num, take_eq_step HK.out HX.out HY.out HE.out, below_drewN hB _⟩
          case measure => simp [intOf]; omega
        · have hb' : (!x.toList == y.toList) = true := by rw [ba_beq]; simpa using he
          have HE := hid he; clear he
          go_wp2
          go_quiet (fail)
          go_wp2
          go_ret
          exact ⟨ret_bool (decide_eq_false (ne_of_at HX.out HY.out HE.out)).symm, below_drewN hB _⟩
      · go_wp2
        go_ret
        refine ⟨ret_bool ?_, hB⟩
        have h := HK.out
        rw [List.take_of_length_le (by omega), List.take_of_length_le (by have := HL.out; omega)] at h
        exact (decide_eq_true h).symm
  · have b1 : ((l.length : Int) != (m.length : Int)) = true := by simpa using (fun e => hlen (Int.ofNat.inj e))
    go_enter Tryz.func35, Tryz.ntmps35
    go_wp2
    go_ret
    exact ⟨ret_bool (decide_eq_false (fun e => hlen (by rw [e]))).symm, Below.refl _ _⟩
end Go.Proofs.YtjhdeoniafahbaaGreatDoor
namespace Go.Proofs.YtjhdeoniafahbaaGreatDoor
open Go.RowKit
end Go.Proofs.YtjhdeoniafahbaaGreatDoor
namespace Go.Proofs.YtjhdeoniafahbaaGreatDoor
open Go.RowKit
theorem run_ap {P : Program} {W : World} (t ty : TypeId) (base : Nat) (e : TypeId) {z : Value} {size bytes : Nat} (ht : P.underlying t = some (.slice e)) (hi : (P.info? e).map (fun i => (i.zero, i.size, i.bytes)) = some (some z, size, bytes))
    (hzs : z.cells.size = size) (hsz : 0 < size) (hby : bytes ≤ 64)
    (v : Value) (n : Nat) (xs : List Value) (hown : W.ownsRow base e size v n xs) (news : List Value) (hl : news.length = size) (h1 : ∀ u ∈ news, u.oneCell' = true)
    (hn : n + 1 ≤ 4294967296) (hbase : base ≤ W.heap.size) :
    ∃ g cap w', (Builtin.append_ #[t, t] ty #[v, .slice (some ⟨W.heap.size, 0, none⟩) 1 1]).run P (W.alloc (.cells news.toArray e)) = .ok (.slice (some ⟨g, 0, none⟩) (n + 1) cap) w' ∧
      w'.ownsRow base e size (.slice (some ⟨g, 0, none⟩) (n + 1) cap) (n + 1) (xs ++ news) ∧ Below base W w' ∧ W.grownBy w' v.ownBlock ∧ (v.ownBlock = some g ∨ W.heap.size < g) ∧ g < w'.heap.size := by
  obtain ⟨i, hi1, hi2, hi3, hi4⟩ := info_parts hi
  have hbb : (n + 1) * bytes ≤ 140737488355328 := by
    have : (n + 1) * bytes ≤ 4294967296 * 64 := Nat.mul_le_mul hn hby
    omega
  obtain ⟨g, cap, w', hr, ho', hg', hat, hlt⟩ := run_append_lies (P := P) (W.alloc (.cells news.toArray e)) t ty base e i z size bytes ht hi1 hi2 hi3 hi4 hzs hsz v n xs (hown.alloc _) ⟨W.heap.size, 0, none⟩ 1 1 news (by omega)
    (by
      intro j u hj
      have hlt := (List.getElem?_eq_some_iff.1 hj).1
      have hadd : (⟨W.heap.size, 0, none⟩ : Addr).add j = ⟨W.heap.size, j, none⟩ := by unfold Addr.add; split <;> simp_all
      rw [hadd, cell_of_row _ W.heap.size j news.toArray e (0, 0) (heap_alloc_new W _)]
      simpa using hj) h1 (by omega) (by unfold maxLen; omega) hbb (by simp; omega) (W.heap.size + 1) (by simp)
  have hg : W.grownBy w' v.ownBlock := ⟨hg'.os, hg'.tape, hg'.output, Nat.le_trans (by simp) hg'.size, fun k hk hne => (hg'.block k (by simp; omega) hne).trans (Below.heap_alloc W _ k hk)⟩
  exact ⟨g, cap, w', hr, ho', (Below.refl _ _).grown hg hbase (fun k hk => (hown.lt k hk).1), hg, hat.imp id (fun h => by omega), hlt⟩
theorem wpList_ap2 {P : Program} {ops : Array Oper} {rest : List Oper} {o : Oper} {a : Act} {Q : Exit → Act → World → Prop} {W : World} (hgd : o.guard = none) (s x : Operand) (t : TypeId)
    (ho : o.op = .call { callee := .builtin .append, args := #[s, x], argTypes := #[t, t] })
    (base : Nat) (e : TypeId) {z : Value} {size bytes : Nat} (ht : P.underlying t = some (.slice e)) (hi : (P.info? e).map (fun i => (i.zero, i.size, i.bytes)) = some (some z, size, bytes))
    (hzs : z.cells.size = size) (hsz : 0 < size) (hby : bytes ≤ 64)
    (v : Value) (n : Nat) (xs : List Value) (hs : a.eval s = v) (hown : W.ownsRow base e size v n xs) (news : List Value) (hl : news.length = size) (h1 : ∀ u ∈ news, u.oneCell' = true)
    {N : Nat} (hx : a.eval x = .slice (some ⟨N, 0, none⟩) 1 1) (hN : N = W.heap.size) (hn : n + 1 ≤ 4294967296) (hbase : base ≤ W.heap.size)
    (h : ∀ g cap w', w'.ownsRow base e size (.slice (some ⟨g, 0, none⟩) (n + 1) cap) (n + 1) (xs ++ news) → Below base W w' → W.grownBy w' v.ownBlock → (v.ownBlock = some g ∨ W.heap.size < g) → g < w'.heap.size →
      wpList P ops Q rest (a.put o.dst (.slice (some ⟨g, 0, none⟩) (n + 1) cap)) w') :
    wpList P ops Q (o :: rest) a (W.alloc (.cells news.toArray e)) := by
  subst hN
  refine wpList_plain hgd fun K hK => ?_
  obtain ⟨g, cap, w', hr, h2, h3, h4, h5, h6⟩ := run_ap (P := P) t o.type base e ht hi hzs hsz hby v n xs hown news hl h1 hn hbase
  unfold Oper.wp execOp
  simp only [ho, resolve, invoke, builtin, Sem.run_bind, Sem.run_pure, Result.andThen_ok, List.map_toArray, List.map_cons, List.map_nil, hs, hx, hr]
  exact hK _ _ (h g cap w' h2 h3 h4 h5 h6)
theorem wpListIn_ap2 {F : Fence} {m : Nat} {P : Program} {ops : Array Oper} {rest : List Oper} {o : Oper} {a : Act} {Q : Exit → Act → World → Prop} {W : World} (hgd : o.guard = none) (s x : Operand) (t : TypeId)
    (ho : o.op = .call { callee := .builtin .append, args := #[s, x], argTypes := #[t, t] })
    (base : Nat) (e : TypeId) {z : Value} {size bytes : Nat} (ht : P.underlying t = some (.slice e)) (hi : (P.info? e).map (fun i => (i.zero, i.size, i.bytes)) = some (some z, size, bytes))
    (hzs : z.cells.size = size) (hsz : 0 < size) (hby : bytes ≤ 64)
    (v : Value) (n : Nat) (xs : List Value) (hs : a.eval s = v) (hown : W.ownsRow base e size v n xs) (news : List Value) (hl : news.length = size) (h1 : ∀ u ∈ news, u.oneCell' = true)
    {N : Nat} (hx : a.eval x = .slice (some ⟨N, 0, none⟩) 1 1) (hN : N = W.heap.size) (hn : n + 1 ≤ 4294967296) (hbase : base ≤ W.heap.size)
    (h : ∀ g cap w', w'.ownsRow base e size (.slice (some ⟨g, 0, none⟩) (n + 1) cap) (n + 1) (xs ++ news) → Below base W w' → W.grownBy w' v.ownBlock → (v.ownBlock = some g ∨ W.heap.size < g) → g < w'.heap.size →
      wpListIn F m P ops Q rest (a.put o.dst (.slice (some ⟨g, 0, none⟩) (n + 1) cap)) w') :
    wpListIn F m P ops Q (o :: rest) a (W.alloc (.cells news.toArray e)) := by
  subst hN
  refine wpListIn_plain hgd fun K hK' => ?_
  obtain ⟨g, cap, w', hr, h2, h3, h4, h5, h6⟩ := run_ap (P := P) t o.type base e ht hi hzs hsz hby v n xs hown news hl h1 hn hbase
  unfold Oper.wpIn
  refine ⟨?_, ?_⟩
  · simp [Oper.about, ho, resolve, Target.leads, Sem.run_pure]
  · rw [Oper.semAt_plain F _ _ (by rw [ho]; intro c hc'; cases hc')]
    simp [execOp, ho, resolve, invoke, builtin, hs, hx, hr, Result.andThen]
    exact hK' _ _ (h g cap w' h2 h3 h4 h5 h6)
/-- What lies in another block than the row that was written stays. -/
theorem Rd.grown {α : Type} {enc : α → Value} {W W' : World} {v : Value} {l : List α} {row : Option Nat} (h : Rd enc W v l) (hg : W.grownBy W' row) (hne : ∀ k, v.ownBlock = some k → row ≠ some k) : Rd enc W' v l := by
  obtain ⟨a, cap, rfl, h2, h3, h4⟩ := h
  refine ⟨a, cap, rfl, h2, h3, fun i x hx => ?_⟩
  obtain ⟨b, off, rfl, hc⟩ := h4 i x hx
  exact ⟨b, off, rfl, hg.cell hc (fun e => hne b rfl e.symm)⟩
end Go.Proofs.YtjhdeoniafahbaaGreatDoor
namespace Go.Proofs.YtjhdeoniafahbaaGreatDoor
open Go.RowKit
theorem frozen_nw (W : World) (cs : Array Value) (t : TypeId) (i : Nat) {x : Value} (_ : cs[i]? = some x) : (W.alloc (.cells cs t)).frozen? ⟨W.heap.size, i, none⟩ = false := by
  have := heap_alloc_new W (.cells cs t)
  unfold World.frozen?
  rw [this]; simp
theorem frozen_al {W : World} {p : Addr} (h : W.frozen? p = false) (hp : p.block < W.heap.size) (o : Obj) : (W.alloc o).frozen? p = false := ((below_al W o).frozen hp).trans h
/-- What the rounds keep: all that lay below n₀, but for two blocks. -/
def KpX (n₀ b1 b2 : Nat) (A B : World) : Prop := A.heap.size ≤ B.heap.size ∧ ∀ k, k < n₀ → k ≠ b1 → k ≠ b2 → B.heap[k]? = A.heap[k]?
theorem KpX.tr {n₀ b1 b2 : Nat} {A B C : World} (h : KpX n₀ b1 b2 A B) (k : KpX n₀ b1 b2 B C) : KpX n₀ b1 b2 A C :=
  ⟨Nat.le_trans h.1 k.1, fun i h1 h2 h3 => (k.2 i h1 h2 h3).trans (h.2 i h1 h2 h3)⟩
theorem KpX.put {n₀ b1 b2 m : Nat} (hn : n₀ ≤ m) (W : World) (l : Nat) (o o' : Obj) (hl : m ≤ l) (_ : W.heap[l]? = some o) (_ : o.isCells = false) (_ : o.isWalk = false) : KpX n₀ b1 b2 W (W.putObj l o') :=
  ⟨by simp [World.putObj], fun k hk _ _ => World.putObj_heap_other (by omega)⟩
theorem KpX.cell {n₀ b1 b2 : Nat} {A B : World} (h : KpX n₀ b1 b2 A B) {p : Addr} {x : Value} (hx : A.cell? p = some x) (h1 : p.block < n₀) (h2 : p.block ≠ b1) (h3 : p.block ≠ b2) : B.cell? p = some x :=
  (World.cell?_of_block (h.2 p.block h1 h2 h3)).trans hx
theorem Rd.blk {α : Type} {enc : α → Value} {W W' : World} {v : Value} {l : List α} (h : Rd enc W v l) (hk : ∀ k, v.ownBlock = some k → W'.heap[k]? = W.heap[k]?) : Rd enc W' v l := by
  obtain ⟨a, cap, rfl, h2, h3, h4⟩ := h
  refine ⟨a, cap, rfl, h2, h3, fun i x hx => ?_⟩
  obtain ⟨b, off, rfl, hc⟩ := h4 i x hx
  exact ⟨b, off, rfl, (World.cell?_of_block (hk b rfl)).trans hc⟩
theorem keepsFrom_below {n : Nat} {W W' : World} (h : Below W.heap.size W W') : KeepsFrom n W W' :=
  ⟨h.size, fun k _ _ hk _ => (h.block k (Array.getElem?_eq_some_iff.1 hk).1).trans hk⟩
theorem kpX_below {n b1 b2 : Nat} {W W' : World} (h : Below W.heap.size W W') (hn : n ≤ W.heap.size) : KpX n b1 b2 W W' := ⟨h.size, fun k hk _ _ => h.block k (by omega)⟩
theorem own_below {W W' : World} {base : Nat} {e : TypeId} {size : Nat} {v : Value} {n : Nat} {xs : List Value} (h : W.ownsRow base e size v n xs) (hb : Below W.heap.size W W') : W'.ownsRow base e size v n xs :=
  h.kept (row := none) ⟨hb.os, hb.tape, hb.output, hb.size, fun k hk _ => hb.block k hk⟩ (by cases v.ownBlock <;> simp)
theorem own_cells {W : World} {base : Nat} {e : TypeId} {size : Nat} {v : Value} {n : Nat} {xs : List Value} (h : W.ownsRow base e size v n xs) : ∀ r, v.ownBlock = some r → ∃ o : Obj, W.heap[r]? = some o ∧ o.isCells = true := by
  intro r hr
  rcases h.2 with ⟨rfl, _⟩ | ⟨g, cap, cur, rfl, _, hgb, _⟩
  · cases hr
  · cases hr; exact ⟨_, hgb, rfl⟩
end Go.Proofs.YtjhdeoniafahbaaGreatDoor
namespace Go.Proofs.YtjhdeoniafahbaaGreatDoor
open Go.RowKit
end Go.Proofs.YtjhdeoniafahbaaGreatDoor
namespace Go.Proofs
open Go.Shelf
def Tryz.laysM171_ren : Go.Shelf.Ren := ⟨fun | 171 => 90 | 243 => 115 | 246 => 136 | 283 => 160 | 284 => 161 | 285 => 162 | 286 => 163 | 129 => 173 | 317 => 172 | 318 => 174 | 319 => 175 | 320 => 176 | 337 => 181 | 338 => 182 | n => n, fun | 3 => 3 | 9 => 9 | 2 => 2 | 4 => 4 | 171 => 168 | 0 => 0 | 53 => 169 | 37 => 98 | 5 => 5 | 173 => 172 | 212 => 187 | 51 => 161 | 20 => 20 | 213 => 188 | 46 => 140 | 232 => 201 | 233 => 202 | n => n, fun | 17 => 3 | 18 => 6 | 19 => 7 | n => n⟩
theorem Tryz.laysM171 : Go.Proofs.LaysM.n171 Tryz.prog Tryz.laysM171_ren := {
  mixed := by kernel_rfl
  f129 := Tryz.func173.trans (congrArg some (by kernel_rfl))
  f171 := Tryz.func90.trans (congrArg some (by kernel_rfl))
  f243 := Tryz.func115.trans (congrArg some (by kernel_rfl))
  f246 := Tryz.func136.trans (congrArg some (by kernel_rfl))
  f283 := Tryz.func160.trans (congrArg some (by kernel_rfl))
  f284 := Tryz.func161.trans (congrArg some (by kernel_rfl))
  f285 := Tryz.func162.trans (congrArg some (by kernel_rfl))
  f286 := Tryz.func163.trans (congrArg some (by kernel_rfl))
  f317 := Tryz.func172.trans (congrArg some (by kernel_rfl))
  f318 := Tryz.func174.trans (congrArg some (by kernel_rfl))
  f319 := Tryz.func175.trans (congrArg some (by kernel_rfl))
  f320 := Tryz.func176.trans (congrArg some (by kernel_rfl))
  f337 := Tryz.func181.trans (congrArg some (by kernel_rfl))
  f338 := Tryz.func182.trans (congrArg some (by kernel_rfl))
  t0 := Tryz.underlying0
  a0 := Tryz.isAgg0
  z0 := Tryz.sizeOf0
  v0 := Tryz.zeroValue0
  t2 := Tryz.underlying2
  a2 := Tryz.isAgg2
  z2 := Tryz.sizeOf2
  v2 := Tryz.zeroValue2
  t3 := Tryz.underlying3
  a3 := Tryz.isAgg3
  z3 := Tryz.sizeOf3
  v3 := Tryz.zeroValue3
  t4 := Tryz.underlying4
  a4 := Tryz.isAgg4
  z4 := Tryz.sizeOf4
  v4 := Tryz.zeroValue4
  t5 := Tryz.underlying5
  a5 := Tryz.isAgg5
  z5 := Tryz.sizeOf5
  v5 := Tryz.zeroValue5
  t9 := Tryz.underlying9
  a9 := Tryz.isAgg9
  z9 := Tryz.sizeOf9
  v9 := Tryz.zeroValue9
  t20 := Tryz.underlying20
  a20 := Tryz.isAgg20
  z20 := Tryz.sizeOf20
  v20 := Tryz.zeroValue20
  t37 := Tryz.underlying98
  a37 := Tryz.isAgg98
  z37 := Tryz.sizeOf98
  v37 := Tryz.zeroValue98
  t46 := Tryz.underlying140
  a46 := Tryz.isAgg140
  z46 := Tryz.sizeOf140
  v46 := Tryz.zeroValue140
  t51 := Tryz.underlying161
  a51 := Tryz.isAgg161
  z51 := Tryz.sizeOf161
  v51 := Tryz.zeroValue161
  t53 := Tryz.underlying169
  a53 := Tryz.isAgg169
  z53 := Tryz.sizeOf169
  v53 := Tryz.zeroValue169
  t171 := Tryz.underlying168
  a171 := Tryz.isAgg168
  z171 := Tryz.sizeOf168
  v171 := Tryz.zeroValue168
  t173 := Tryz.underlying172
  a173 := Tryz.isAgg172
  z173 := Tryz.sizeOf172
  v173 := Tryz.zeroValue172
  t212 := Tryz.underlying187
  a212 := Tryz.isAgg187
  z212 := Tryz.sizeOf187
  v212 := Tryz.zeroValue187
  t213 := Tryz.underlying188
  a213 := Tryz.isAgg188
  z213 := Tryz.sizeOf188
  t232 := Tryz.underlying201
  a232 := Tryz.isAgg201
  z232 := Tryz.sizeOf201
  v232 := Tryz.zeroValue201
  t233 := Tryz.underlying202
  a233 := Tryz.isAgg202
  z233 := Tryz.sizeOf202
  v233 := Tryz.zeroValue202
  g17 := by kernel_rfl
  g18 := by kernel_rfl
  g19 := by kernel_rfl
  i0 := by kernel_rfl
  i2 := by kernel_rfl
  i3 := by kernel_rfl
  i4 := by kernel_rfl
  i5 := by kernel_rfl
  i9 := by kernel_rfl
  i20 := by kernel_rfl
  i37 := by kernel_rfl
  i46 := by kernel_rfl
  i51 := by kernel_rfl
  i53 := by kernel_rfl
  i171 := by kernel_rfl
  i173 := by kernel_rfl
  i212 := by kernel_rfl
  i232 := by kernel_rfl
  i233 := by kernel_rfl
  m17 := by kernel_rfl
  m18 := by kernel_rfl
  m19 := by kernel_rfl }
open Go.RowKit Go.Sort Go.Lib in
/-- strconv.Itoa: "Itoa is equivalent to FormatInt(int64(i), 10).": i's DECIMAL NUMERAL ('Lib.itoa': a '-' where i is negative, then the digits), FOR EVERY int. The world behind the call: the world before it, new blocks behind the heap (the library's 'var a [24]byte'), draws. (LAID: no walk: one application.) -/
theorem Tryz.strconv_Itoa (n : Int) (h0 : -9223372036854775808 ≤ n) (h1 : n ≤ 9223372036854775807) (w : World) (htab : Lib.TabIs Tryz.prog w "internal/strconv.uint64pow10" .u64 Lib.pow10Tab) :
    Calls Tryz.prog 90 #[.int .i64 n] w fun e w' => e = .returned (.string ⟨(Lib.itoa n).toArray⟩) ∧ ∃ k os, w' = grow (w.drewN k) os := Any.strconv_Itoa Tryz.laysM171 n h0 h1 w htab
def Tryz.laysC172_ren : Go.Shelf.Ren := ⟨fun | 172 => 97 | 244 => 119 | 245 => 120 | 247 => 140 | 279 => 141 | 280 => 142 | 281 => 143 | 282 => 144 | 287 => 166 | 316 => 167 | 171 => 90 | 205 => 168 | 321 => 177 | 322 => 178 | 243 => 115 | 246 => 136 | 283 => 160 | 284 => 161 | 285 => 162 | 286 => 163 | 129 => 173 | 317 => 172 | 318 => 174 | 319 => 175 | 320 => 176 | 337 => 181 | 338 => 182 | n => n, fun | 9 => 9 | 3 => 3 | 75 => 103 | 76 => 104 | 4 => 4 | 5 => 5 | 167 => 155 | 37 => 98 | 0 => 0 | 85 => 156 | 2 => 2 | 168 => 158 | 53 => 169 | 175 => 174 | 46 => 140 | 210 => 178 | 127 => 127 | 145 => 197 | 143 => 195 | 21 => 21 | 171 => 168 | 173 => 172 | 212 => 187 | 51 => 161 | 20 => 20 | 213 => 188 | 232 => 201 | 233 => 202 | 80 => 106 | n => n, fun | 15 => 1 | 16 => 2 | 17 => 3 | 18 => 6 | 19 => 7 | n => n⟩
theorem Tryz.laysC172 : Go.Proofs.LaysC.n172 Tryz.prog Tryz.laysC172_ren := {
  mixed := by kernel_rfl
  f129 := Tryz.func173.trans (congrArg some (by kernel_rfl))
  f171 := Tryz.func90.trans (congrArg some (by kernel_rfl))
  f172 := Tryz.func97.trans (congrArg some (by kernel_rfl))
  f205 := Tryz.func168.trans (congrArg some (by kernel_rfl))
  f243 := Tryz.func115.trans (congrArg some (by kernel_rfl))
  f244 := Tryz.func119.trans (congrArg some (by kernel_rfl))
  f245 := Tryz.func120.trans (congrArg some (by kernel_rfl))
  f246 := Tryz.func136.trans (congrArg some (by kernel_rfl))
  f247 := Tryz.func140.trans (congrArg some (by kernel_rfl))
  f279 := Tryz.func141.trans (congrArg some (by kernel_rfl))
  f280 := Tryz.func142.trans (congrArg some (by kernel_rfl))
  f281 := Tryz.func143.trans (congrArg some (by kernel_rfl))
  f282 := Tryz.func144.trans (congrArg some (by kernel_rfl))
  f283 := Tryz.func160.trans (congrArg some (by kernel_rfl))
  f284 := Tryz.func161.trans (congrArg some (by kernel_rfl))
  f285 := Tryz.func162.trans (congrArg some (by kernel_rfl))
  f286 := Tryz.func163.trans (congrArg some (by kernel_rfl))
  f287 := Tryz.func166.trans (congrArg some (by kernel_rfl))
  f316 := Tryz.func167.trans (congrArg some (by kernel_rfl))
  f317 := Tryz.func172.trans (congrArg some (by kernel_rfl))
  f318 := Tryz.func174.trans (congrArg some (by kernel_rfl))
  f319 := Tryz.func175.trans (congrArg some (by kernel_rfl))
  f320 := Tryz.func176.trans (congrArg some (by kernel_rfl))
  f321 := Tryz.func177.trans (congrArg some (by kernel_rfl))
  f322 := Tryz.func178.trans (congrArg some (by kernel_rfl))
  f337 := Tryz.func181.trans (congrArg some (by kernel_rfl))
  f338 := Tryz.func182.trans (congrArg some (by kernel_rfl))
  t0 := Tryz.underlying0
  a0 := Tryz.isAgg0
  z0 := Tryz.sizeOf0
  v0 := Tryz.zeroValue0
  t2 := Tryz.underlying2
  a2 := Tryz.isAgg2
  z2 := Tryz.sizeOf2
  v2 := Tryz.zeroValue2
  t3 := Tryz.underlying3
  a3 := Tryz.isAgg3
  z3 := Tryz.sizeOf3
  v3 := Tryz.zeroValue3
  t4 := Tryz.underlying4
  a4 := Tryz.isAgg4
  z4 := Tryz.sizeOf4
  v4 := Tryz.zeroValue4
  t5 := Tryz.underlying5
  a5 := Tryz.isAgg5
  z5 := Tryz.sizeOf5
  v5 := Tryz.zeroValue5
  t9 := Tryz.underlying9
  a9 := Tryz.isAgg9
  z9 := Tryz.sizeOf9
  v9 := Tryz.zeroValue9
  t20 := Tryz.underlying20
  a20 := Tryz.isAgg20
  z20 := Tryz.sizeOf20
  v20 := Tryz.zeroValue20
  t21 := Tryz.underlying21
  a21 := Tryz.isAgg21
  z21 := Tryz.sizeOf21
  v21 := Tryz.zeroValue21
  t37 := Tryz.underlying98
  a37 := Tryz.isAgg98
  z37 := Tryz.sizeOf98
  v37 := Tryz.zeroValue98
  t46 := Tryz.underlying140
  a46 := Tryz.isAgg140
  z46 := Tryz.sizeOf140
  v46 := Tryz.zeroValue140
  t51 := Tryz.underlying161
  a51 := Tryz.isAgg161
  z51 := Tryz.sizeOf161
  v51 := Tryz.zeroValue161
  t53 := Tryz.underlying169
  a53 := Tryz.isAgg169
  z53 := Tryz.sizeOf169
  v53 := Tryz.zeroValue169
  t75 := Tryz.underlying103
  a75 := Tryz.isAgg103
  z75 := Tryz.sizeOf103
  v75 := Tryz.zeroValue103
  t76 := Tryz.underlying104
  a76 := Tryz.isAgg104
  z76 := Tryz.sizeOf104
  v76 := Tryz.zeroValue104
  t85 := Tryz.underlying156
  a85 := Tryz.isAgg156
  z85 := Tryz.sizeOf156
  v85 := Tryz.zeroValue156
  t127 := Tryz.underlying127
  a127 := Tryz.isAgg127
  z127 := Tryz.sizeOf127
  v127 := Tryz.zeroValue127
  t143 := Tryz.underlying195
  a143 := Tryz.isAgg195
  z143 := Tryz.sizeOf195
  v143 := Tryz.zeroValue195
  t145 := Tryz.underlying197
  a145 := Tryz.isAgg197
  z145 := Tryz.sizeOf197
  v145 := Tryz.zeroValue197
  t167 := Tryz.underlying155
  a167 := Tryz.isAgg155
  z167 := Tryz.sizeOf155
  v167 := Tryz.zeroValue155
  t168 := Tryz.underlying158
  a168 := Tryz.isAgg158
  z168 := Tryz.sizeOf158
  v168 := Tryz.zeroValue158
  t171 := Tryz.underlying168
  a171 := Tryz.isAgg168
  z171 := Tryz.sizeOf168
  v171 := Tryz.zeroValue168
  t173 := Tryz.underlying172
  a173 := Tryz.isAgg172
  z173 := Tryz.sizeOf172
  v173 := Tryz.zeroValue172
  t175 := Tryz.underlying174
  a175 := Tryz.isAgg174
  z175 := Tryz.sizeOf174
  v175 := Tryz.zeroValue174
  t210 := Tryz.underlying178
  a210 := Tryz.isAgg178
  z210 := Tryz.sizeOf178
  v210 := Tryz.zeroValue178
  t212 := Tryz.underlying187
  a212 := Tryz.isAgg187
  z212 := Tryz.sizeOf187
  v212 := Tryz.zeroValue187
  t213 := Tryz.underlying188
  a213 := Tryz.isAgg188
  z213 := Tryz.sizeOf188
  t232 := Tryz.underlying201
  a232 := Tryz.isAgg201
  z232 := Tryz.sizeOf201
  v232 := Tryz.zeroValue201
  t233 := Tryz.underlying202
  a233 := Tryz.isAgg202
  z233 := Tryz.sizeOf202
  v233 := Tryz.zeroValue202
  g15 := by kernel_rfl
  g16 := by kernel_rfl
  g17 := by kernel_rfl
  g18 := by kernel_rfl
  g19 := by kernel_rfl
  t80 := Tryz.underlying106
  a80 := Tryz.isAgg106
  z80 := Tryz.sizeOf106
  v80 := Tryz.zeroValue106
  i0 := by kernel_rfl
  i2 := by kernel_rfl
  i3 := by kernel_rfl
  i4 := by kernel_rfl
  i5 := by kernel_rfl
  i9 := by kernel_rfl
  i20 := by kernel_rfl
  i21 := by kernel_rfl
  i37 := by kernel_rfl
  i46 := by kernel_rfl
  i51 := by kernel_rfl
  i53 := by kernel_rfl
  i75 := by kernel_rfl
  i76 := by kernel_rfl
  i80 := by kernel_rfl
  i85 := by kernel_rfl
  i127 := by kernel_rfl
  i143 := by kernel_rfl
  i145 := by kernel_rfl
  i167 := by kernel_rfl
  i168 := by kernel_rfl
  i171 := by kernel_rfl
  i173 := by kernel_rfl
  i175 := by kernel_rfl
  i210 := by kernel_rfl
  i212 := by kernel_rfl
  i232 := by kernel_rfl
  i233 := by kernel_rfl
  m15 := by kernel_rfl
  m16 := by kernel_rfl
  m17 := by kernel_rfl
  m18 := by kernel_rfl
  m19 := by kernel_rfl
  c0 := by kernel_rfl
  c2 := by kernel_rfl
  c3 := by kernel_rfl
  c4 := by kernel_rfl
  c5 := by kernel_rfl
  c9 := by kernel_rfl
  c20 := by kernel_rfl
  c21 := by kernel_rfl
  c37 := by kernel_rfl
  c46 := by kernel_rfl
  c51 := by kernel_rfl
  c53 := by kernel_rfl
  c75 := by kernel_rfl
  c76 := by kernel_rfl
  c80 := by kernel_rfl
  c85 := by kernel_rfl
  c127 := by kernel_rfl
  c143 := by kernel_rfl
  c145 := by kernel_rfl
  c167 := by kernel_rfl
  c168 := by kernel_rfl
  c171 := by kernel_rfl
  c173 := by kernel_rfl
  c175 := by kernel_rfl
  c210 := by kernel_rfl
  c212 := by kernel_rfl
  c213 := by kernel_rfl
  c232 := by kernel_rfl
  c233 := by kernel_rfl }
open Go.RowKit in
/-- strconv.Atoi, AT EVERY STRING THAT SPELLS AN int ('Lib.atoiAll .. = .ok v'; of whatever length: leading zeros count): v, AND NO ERROR. The world: as it was, or with the one new row that '[]byte(..)' lays. (LAID: no walk: one application.) -/
theorem Tryz.strconv_Atoi_ok (s : ByteArray) (hmax : s.size ≤ 9223372036854775806) (v : Int) (h : Lib.atoiAll s.data.toList = .ok v) (w : World) :
    Calls Tryz.prog 97 #[.string s] w fun e w' => e = .returned (.tuple #[.int .i64 v, .nilIface]) ∧ (w' = w ∨ ∃ t, w' = Lib.bytesWorld w 5 t) := Any.strconv_Atoi_ok Tryz.laysC172 s hmax v h w
open Go.RowKit in
theorem Tryz.strconv_Atoi_bad (s : ByteArray) (hlim : s.size ≤ 281474976710656) (h1 : ∀ v, Lib.atoiAll s.data.toList ≠ .ok v) (h2 : Lib.atoiAll s.data.toList ≠ .range) (ev : Value) (w : World) (hv : w.cell? ⟨1, 0, none⟩ = some ev) (hev : ev = .nilIface ∨ ∃ te pe, ev = .iface te pe) :
    Calls Tryz.prog 97 #[.string s] w fun e w' => ∃ N, e = .returned (.tuple #[.int .i64 (0), .iface 158 (.pointer (some ⟨N, 0, none⟩))]) ∧ w.heap.size ≤ N ∧ w'.heap[N]? = some (.cells #[.string ⟨#[65, 116, 111, 105]⟩, .string s, ev] 178 (0, 0)) ∧ Below w.heap.size w w' := by
  cases hA : Lib.atoiAll s.data.toList with
  | ok v => exact absurd hA (h1 v)
  | range => exact absurd hA h2
  | _ => exact Any.strconv_Atoi_syntax Tryz.laysC172 s hlim hA ev w hv hev
open Go.RowKit in
/-- strconv.Atoi, AT EVERY NUMERAL THAT NO int HOLDS ('.range'): THE GREATEST OR THE LEAST int, BY THE SIGN ('Lib.atoiSat'), AND AN ERROR THAT IS NOT nil: a *NumError in a new block N: {Func: "Atoi", Num: s's bytes, Err: what the variable ErrRange holds}. Of what was there nothing has turned. (LAID: no walk: one application.) -/
theorem Tryz.strconv_Atoi_range (s : ByteArray) (hlim : s.size ≤ 281474976710656) (h : Lib.atoiAll s.data.toList = .range) (ev : Value) (w : World) (hv : w.cell? ⟨2, 0, none⟩ = some ev) (hev : ev = .nilIface ∨ ∃ te pe, ev = .iface te pe) :
    Calls Tryz.prog 97 #[.string s] w fun e w' => ∃ N, e = .returned (.tuple #[.int .i64 (Lib.atoiSat s.data.toList), .iface 158 (.pointer (some ⟨N, 0, none⟩))]) ∧ w.heap.size ≤ N ∧ w'.heap[N]? = some (.cells #[.string ⟨#[65, 116, 111, 105]⟩, .string s, ev] 178 (0, 0)) ∧ Below w.heap.size w w' := Any.strconv_Atoi_range Tryz.laysC172 s hlim h ev w hv hev
def Tryz.lays206_ren : Go.Shelf.Ren := ⟨fun | 206 => 145 | n => n, fun | 9 => 9 | 4 => 4 | 3 => 3 | n => n, fun | n => n⟩
theorem Tryz.lays206 : Go.Proofs.Lays.n206 Tryz.prog Tryz.lays206_ren := {
  mixed := by kernel_rfl
  f206 := Tryz.func145.trans (congrArg some (by kernel_rfl))
  t3 := Tryz.underlying3
  a3 := Tryz.isAgg3
  z3 := Tryz.sizeOf3
  v3 := Tryz.zeroValue3
  t4 := Tryz.underlying4
  a4 := Tryz.isAgg4
  z4 := Tryz.sizeOf4
  v4 := Tryz.zeroValue4
  t9 := Tryz.underlying9
  a9 := Tryz.isAgg9
  z9 := Tryz.sizeOf9
  v9 := Tryz.zeroValue9 }
open Go.RowKit Go.Lib in
/-- internal/stringslite.HasPrefix (what strings.HasPrefix calls). (LAID: no walk: one application.) -/
theorem Tryz.stringslite_HasPrefix (s p : ByteArray) (w : World) :
    Calls Tryz.prog 145 #[.string s, .string p] w fun e w' => e = .returned (.bool (Lib.hasPrefix s.data.toList p.data.toList)) ∧ w' = w := Any.stringslite_HasPrefix Tryz.lays206 s p w
def Tryz.lays99_ren : Go.Shelf.Ren := ⟨fun | 99 => 121 | 206 => 145 | n => n, fun | 9 => 9 | 4 => 4 | 3 => 3 | n => n, fun | n => n⟩
theorem Tryz.lays99 : Go.Proofs.Lays.n99 Tryz.prog Tryz.lays99_ren := {
  mixed := by kernel_rfl
  f99 := Tryz.func121.trans (congrArg some (by kernel_rfl))
  f206 := Tryz.func145.trans (congrArg some (by kernel_rfl))
  t3 := Tryz.underlying3
  a3 := Tryz.isAgg3
  z3 := Tryz.sizeOf3
  v3 := Tryz.zeroValue3
  t4 := Tryz.underlying4
  a4 := Tryz.isAgg4
  z4 := Tryz.sizeOf4
  v4 := Tryz.zeroValue4
  t9 := Tryz.underlying9
  a9 := Tryz.isAgg9
  z9 := Tryz.sizeOf9
  v9 := Tryz.zeroValue9 }
open Go.RowKit Go.Lib in
/-- strings.HasPrefix: "HasPrefix reports whether the string s begins with prefix.": IT RETURNS 'Lib.hasPrefix s prefix'; the world is as it was. (LAID: no walk: one application.) -/
theorem Tryz.strings_HasPrefix (s p : ByteArray) (w : World) :
    Calls Tryz.prog 121 #[.string s, .string p] w fun e w' => e = .returned (.bool (Lib.hasPrefix s.data.toList p.data.toList)) ∧ w' = w := Any.strings_HasPrefix Tryz.lays99 s p w
def Tryz.lays207_ren : Go.Shelf.Ren := ⟨fun | 207 => 164 | n => n, fun | 9 => 9 | 4 => 4 | 3 => 3 | n => n, fun | n => n⟩
theorem Tryz.lays207 : Go.Proofs.Lays.n207 Tryz.prog Tryz.lays207_ren := {
  mixed := by kernel_rfl
  f207 := Tryz.func164.trans (congrArg some (by kernel_rfl))
  t3 := Tryz.underlying3
  a3 := Tryz.isAgg3
  z3 := Tryz.sizeOf3
  v3 := Tryz.zeroValue3
  t4 := Tryz.underlying4
  a4 := Tryz.isAgg4
  z4 := Tryz.sizeOf4
  v4 := Tryz.zeroValue4
  t9 := Tryz.underlying9
  a9 := Tryz.isAgg9
  z9 := Tryz.sizeOf9
  v9 := Tryz.zeroValue9 }
open Go.RowKit Go.Lib in
/-- internal/stringslite.HasSuffix (what strings.HasSuffix calls). (LAID: no walk: one application.) -/
theorem Tryz.stringslite_HasSuffix (s p : ByteArray) (w : World) (hs : s.size ≤ 9223372036854775807) :
    Calls Tryz.prog 164 #[.string s, .string p] w fun e w' => e = .returned (.bool (Lib.hasSuffix s.data.toList p.data.toList)) ∧ w' = w := Any.stringslite_HasSuffix Tryz.lays207 s p w hs
end Go.Proofs
namespace Go.Proofs.YtjhdeoniafahbaaGreatDoor
open Go.RowKit
/-- A list of strings in a row of the call's own. -/
def OwS (W : World) (v : Value) (l : List ByteArray) : Prop := W.ownsRow 0 9 1 v l.length (l.map Value.string)
theorem own_zero {W : World} {base size n : Nat} {e : TypeId} {v : Value} {xs : List Value} (h : W.ownsRow base e size v n xs) : W.ownsRow 0 e size v n xs := by
  refine ⟨h.1, ?_⟩
  rcases h.2 with h | ⟨g, cap, cur, h1, h2, h3⟩
  · exact .inl h
  · exact .inr ⟨g, cap, cur, h1, Nat.zero_le _, h3⟩
theorem OwS.rd {W : World} {v : Value} {l : List ByteArray} (h : OwS W v l) : RdS W v l := Rd.of_own h
theorem OwS.below {W W' : World} {v : Value} {l : List ByteArray} (h : OwS W v l) (hb : Below W.heap.size W W') : OwS W' v l :=
  h.kept (row := none) ⟨hb.os, hb.tape, hb.output, hb.size, fun k hk _ => hb.block k hk⟩ (by cases v.ownBlock <;> simp)
theorem OwS.form {W : World} {v : Value} {l : List ByteArray} (h : OwS W v l) : ∃ ad c, v = .slice ad l.length c := by
  rcases h.2 with ⟨rfl, hn⟩ | ⟨g, cap, cur, rfl, _⟩
  · exact ⟨none, 0, by rw [hn]⟩
  · exact ⟨_, cap, rfl⟩
theorem OwS.nil (W : World) : OwS W (.slice none 0 0) [] := World.ownsRow_nil _ _ _ _
/-- Two rows of different types lie in different blocks. -/
theorem own_two {W : World} {b1 b2 s1 s2 n1 n2 : Nat} {e1 e2 : TypeId} {v1 v2 : Value} {x1 x2 : List Value} (h1 : W.ownsRow b1 e1 s1 v1 n1 x1) (h2 : W.ownsRow b2 e2 s2 v2 n2 x2) (hte : e1 ≠ e2) : v1.ownBlock = none ∨ v1.ownBlock ≠ v2.ownBlock := by
  rcases h1.2 with ⟨rfl, _⟩ | ⟨g, cap, cur, rfl, _, hh, _⟩
  · exact .inl rfl
  · refine .inr ?_
    rcases h2.2 with ⟨rfl, _⟩ | ⟨g2, cap2, cur2, rfl, _, hh2, _⟩
    · simp [Value.ownBlock]
    · intro e
      have : g = g2 := by simpa [Value.ownBlock] using e
      subst this
      rw [hh] at hh2
      injection hh2 with hh2
      injection hh2 with _ q
      exact hte q
theorem OwS.grown {W W' : World} {v v2 : Value} {l : List ByteArray} {b s n : Nat} {e : TypeId} {xs : List Value} (h : OwS W v l) (h2 : W.ownsRow b e s v2 n xs) (hte : 9 ≠ e) (hg : W.grownBy W' v2.ownBlock) : OwS W' v l := h.kept hg (own_two h h2 hte)
theorem own_setR {W : World} {base : Nat} {e : TypeId} {s n : Nat} {v : Value} {xs : List Value} (h : W.ownsRow base e s v n xs) (p : Addr) (u : Value) (hp : v.ownBlock ≠ some p.block) : (W.setCell p u).ownsRow base e s v n xs := by
  refine h.kept (row := some p.block) ⟨rfl, rfl, rfl, by simp [World.setCell], fun k _ hk => Below.heap_setCell _ _ _ _ (by rintro rfl; exact hk rfl)⟩ (.inr hp)
theorem cloneF_any (v : Value) (l : List ByteArray) (w : World) (hr : RdS w v l) (hl : l.length ≤ 100000) :
    Calls Tryz.prog 42 #[v] w fun e w' => ∃ ad c, e = .returned (.slice ad l.length c) ∧ OwS w' (.slice ad l.length c) l ∧ Below w.heap.size w w' := by
  have hown : ∀ (w' : World) (v' : Value) (m : List ByteArray), w'.ownsRow w.heap.size 9 1 v' m.length (m.map Value.string) → ∃ ad c, v' = .slice ad m.length c ∧ OwS w' (.slice ad m.length c) m := by
    intro w' v' m ho
    have h0 : OwS w' v' m := own_zero ho
    obtain ⟨ad, c, rfl⟩ := h0.form
    exact ⟨ad, c, rfl, h0⟩
  obtain ⟨a, cap, rfl, hlc, hcm, hcell⟩ := hr.open
  cases l with
  | nil =>
    cases a with
    | none =>
      refine (Tryz.slices_Clone_string_nil 0 cap w).mono ?_
      rintro e w' ⟨rfl, rfl⟩
      exact ⟨none, 0, rfl, OwS.nil _, Below.refl _ _⟩
    | some a =>
      refine (Tryz.slices_Clone_string_zero a cap w).mono ?_
      rintro e w' ⟨v', rfl, h1, _, h2⟩
      obtain ⟨ad, c, rfl, h3⟩ := hown w' v' [] h1
      exact ⟨ad, c, rfl, h3, h2⟩
  | cons x l =>
    obtain ⟨y, b, off, hy, rfl, hc⟩ := hcell 0 (by simp)
    refine (Tryz.slices_Clone_string b off (x :: l).length cap (x :: l) w (Nat.le_refl _) (by omega) (fun j hj => ?_)).mono ?_
    · obtain ⟨z, b', off', hz, e, hcz⟩ := hcell j hj
      cases e
      rw [hcz, List.getD_eq_getElem?_getD, hz]; rfl
    · rintro e w' ⟨v', rfl, h1, _, h2⟩
      rw [List.take_length] at h1
      obtain ⟨ad, c, rfl, h3⟩ := hown w' v' (x :: l) h1
      exact ⟨ad, c, rfl, h3, h2⟩
end Go.Proofs.YtjhdeoniafahbaaGreatDoor
namespace Go.Proofs.YtjhdeoniafahbaaGreatDoor
open Go.RowKit
theorem step_call1 {P : Program} {ops : Array Oper} {o : Oper} {a : Act} {w : World} {K : Act → World → Prop} {Q : Exit → Act → World → Prop} {E : Prop}
    (hg : o.guard = none) (f : Nat) (ef : ∀ args w, (callFunc f args).run P w = .ok (.enter f args) w) (x : Operand) (ts : Array TypeId) (hop : o.op = Op.call { callee := Callee.value (Operand.func f), args := #[x], argTypes := ts }) (v : Value) (hx : a.eval x = v)
    {R : Value → World → Prop} (hc : Calls P f #[v] w fun e w' => ∃ r, e = .returned r ∧ R r w') (hK : ∀ r w', R r w' → K (a.put o.dst r) w') :
    if Region.wanted o (yielded ops a.tmps) = true then Oper.wp P o a w K Q else E := by
  have hw : Region.wanted o (yielded ops a.tmps) = true := by simp [Region.wanted, hg]
  rw [if_pos hw]
  have hrun : (execOp a.eval o).run P w = .ok (.enter f #[v]) w := by
    simp [execOp, hop, resolve, invoke, go_sem, ef]
    rw [← hx]
    cases x <;> first | rfl | simp [go_sem]
  unfold Oper.wp
  rw [hrun, Oper.upon_enter]
  refine hc.mono ?_
  rintro e w' ⟨r, rfl, hr⟩
  exact hK r w' hr
theorem step_callB {P : Program} {ops : Array Oper} {o : Oper} {a : Act} {w : World} {K : Act → World → Prop} {Q : Exit → Act → World → Prop} {E : Prop}
    (hg : o.guard = none) (f : Nat) (ef : ∀ args w, (callFunc f args).run P w = .ok (.enter f args) w) (x : Operand) (ts : Array TypeId) (hop : o.op = Op.call { callee := Callee.value (Operand.func f), args := #[x], argTypes := ts }) (v : Value) (hx : a.eval x = v) (r : Value)
    (hc : Calls P f #[v] w fun e w' => e = .returned r ∧ Below w.heap.size w w') (hK : ∀ w', Below w.heap.size w w' → K (a.put o.dst r) w') :
    if Region.wanted o (yielded ops a.tmps) = true then Oper.wp P o a w K Q else E :=
  step_call1 hg f ef x ts hop v hx (R := fun r' w' => r' = r ∧ Below w.heap.size w w') (hc.mono fun e w' h => ⟨r, h.1, rfl, h.2⟩) fun r' w' h => by rw [h.1]; exact hK w' h.2
/-- A call that gives a list of strings in a row of its own. -/
theorem step_callC {P : Program} {ops : Array Oper} {o : Oper} {a : Act} {w : World} {K : Act → World → Prop} {Q : Exit → Act → World → Prop} {E : Prop}
    (hg : o.guard = none) (f : Nat) (ef : ∀ args w, (callFunc f args).run P w = .ok (.enter f args) w) (x : Operand) (ts : Array TypeId) (hop : o.op = Op.call { callee := Callee.value (Operand.func f), args := #[x], argTypes := ts }) (v : Value) (hx : a.eval x = v) (l : List ByteArray)
    (hc : Calls P f #[v] w fun e w' => ∃ ad c, e = .returned (.slice ad l.length c) ∧ OwS w' (.slice ad l.length c) l ∧ Below w.heap.size w w')
    (hK : ∀ (ad : Option Addr) (c : Nat) (w' : World), OwS w' (.slice ad l.length c) l → Below w.heap.size w w' → K (a.put o.dst (.slice ad l.length c)) w') :
    if Region.wanted o (yielded ops a.tmps) = true then Oper.wp P o a w K Q else E :=
  step_call1 hg f ef x ts hop v hx (R := fun r' w' => ∃ ad c, r' = .slice ad l.length c ∧ OwS w' (.slice ad l.length c) l ∧ Below w.heap.size w w') (hc.mono fun e w' ⟨ad, c, h1, h2⟩ => ⟨_, h1, ad, c, rfl, h2⟩) fun r' w' ⟨ad, c, h1, h2, h3⟩ => by
    subst h1
    exact hK ad c w' h2 h3
theorem step_ap {P : Program} {ops : Array Oper} {o : Oper} {a : Act} {W : World} {K : Act → World → Prop} {Q : Exit → Act → World → Prop} {E : Prop}
    (hgd : o.guard = none) (s x : Operand) (t : TypeId) (ho : o.op = .call { callee := .builtin .append, args := #[s, x], argTypes := #[t, t] })
    (base : Nat) (e : TypeId) {z : Value} {size bytes : Nat} (ht : P.underlying t = some (.slice e)) (hi : (P.info? e).map (fun i => (i.zero, i.size, i.bytes)) = some (some z, size, bytes))
    (hzs : z.cells.size = size) (hsz : 0 < size) (hby : bytes ≤ 64)
    (v : Value) (n : Nat) (xs : List Value) (hs : a.eval s = v) (hown : W.ownsRow base e size v n xs) (m : Nat) (hm : 0 < m) (news : List Value) (hl : news.length = m * size) (h1 : ∀ u ∈ news, u.oneCell' = true)
    (N : Nat) (hx : a.eval x = .slice (some ⟨N, 0, none⟩) m m) (hc : ∀ j u, news[j]? = some u → W.cell? ⟨N, j, none⟩ = some u) (hn : n + m ≤ 4294967296) (hbase : base ≤ W.heap.size)
    (h : ∀ g cap w', w'.ownsRow base e size (.slice (some ⟨g, 0, none⟩) (n + m) cap) (n + m) (xs ++ news) → Below base W w' → W.grownBy w' v.ownBlock → (v.ownBlock = some g ∨ W.heap.size ≤ g) →
      K (a.put o.dst (.slice (some ⟨g, 0, none⟩) (n + m) cap)) w') :
    if Region.wanted o (yielded ops a.tmps) = true then Oper.wp P o a W K Q else E := by
  have hw : Region.wanted o (yielded ops a.tmps) = true := by simp [Region.wanted, hgd]
  rw [if_pos hw]
  obtain ⟨i, hi1, hi2, hi3, hi4⟩ := info_parts hi
  have hbb : (n + m) * bytes ≤ 140737488355328 := by
    have : (n + m) * bytes ≤ 4294967296 * 64 := Nat.mul_le_mul hn hby
    omega
  obtain ⟨g, cap, w', hr, ho', hg', hat, hlt⟩ := run_append_lies (P := P) W t o.type base e i z size bytes ht hi1 hi2 hi3 hi4 hzs hsz v n xs hown ⟨N, 0, none⟩ m m news hl
    (by
      intro j u hj
      have hadd : (⟨N, 0, none⟩ : Addr).add j = ⟨N, j, none⟩ := by unfold Addr.add; split <;> simp_all
      rw [hadd]; exact hc j u hj) h1 hm (by unfold maxLen; omega) hbb hbase W.heap.size rfl
  unfold Oper.wp execOp
  simp only [ho, resolve, invoke, builtin, Sem.run_bind, Sem.run_pure, Result.andThen_ok, List.map_toArray, List.map_cons, List.map_nil, hs, hx, hr]
  exact h g cap w' ho' ((Below.refl _ _).grown hg' hbase (fun k hk => (hown.lt k hk).1)) hg' (hat.imp id (fun h => by omega))
end Go.Proofs.YtjhdeoniafahbaaGreatDoor
namespace Go.Proofs.YtjhdeoniafahbaaGreatDoor
open Go.RowKit
/-- What the world must hold: the two errors of strconv, and its table of powers. -/
structure Env (w : World) : Prop where
  e1 : ∃ t p, w.cell? ⟨1, 0, none⟩ = some (.iface t p)
  e2 : ∃ t p, w.cell? ⟨2, 0, none⟩ = some (.iface t p)
  tab : Lib.TabIs Tryz.prog w "internal/strconv.uint64pow10" .u64 Lib.pow10Tab
theorem Env.below {w w' : World} (h : Env w) (hb : Below w.heap.size w w') : Env w' := by
  obtain ⟨⟨t1, p1, h1⟩, ⟨t2, p2, h2⟩, h3⟩ := h
  exact ⟨⟨t1, p1, Below.keeps hb _ _ h1⟩, ⟨t2, p2, Below.keeps hb _ _ h2⟩, Go.Joins.tab_stays (g := 3) (by kernel_rfl) h3 hb (Nat.le_refl _)⟩
def itoaB (v : Int) : ByteArray := ⟨(Lib.itoa v).toArray⟩
def decV (s : ByteArray) : Int := match Lib.atoiAll s.data.toList with
  | .ok v => v
  | .range => Lib.atoiSat s.data.toList
  | _ => 0
def decB (s : ByteArray) : Bool := match Lib.atoiAll s.data.toList with
  | .ok v => decide (1 ≤ v) && decide (s.size ≤ 9) && decide (itoaB v = s)
  | _ => false
theorem itoa_b (v : Int) (w : World) (he : Env w) (h0 : -9223372036854775808 ≤ v) (h1 : v ≤ 9223372036854775807) :
    Calls Tryz.prog 90 #[.int .i64 v] w fun e w' => e = .returned (.string (itoaB v)) ∧ Below w.heap.size w w' :=
  (Tryz.strconv_Itoa v h0 h1 w he.tab).mono fun e w' ⟨h, k, os, hw⟩ => ⟨h, by rw [hw]; exact Lib.below_grow _ w (Nat.le_refl _) k os⟩
set_option maxHeartbeats 1000000 in
theorem decimal_any (s : ByteArray) (w : World) (he : Env w) (hs : s.size ≤ 1048576) :
    Calls Tryz.prog 123 #[.string s] w fun e w' => e = .returned (.tuple #[.int .i64 (decV s), .bool (decB s)]) ∧ Below w.heap.size w w' := by
  cases hA : Lib.atoiAll s.data.toList with
  | ok v =>
    have hv := Lib.atoiAll_bounds hA
    have HV : Hid (decV s = v) := by unfold Hid decV; rw [hA]
    have HB : Hid (decB s = (decide (1 ≤ v) && decide (s.size ≤ 9) && decide (itoaB v = s))) := by unfold Hid decB; rw [hA]
    have HA := hid (Tryz.strconv_Atoi_ok s (by omega) v hA w)
    have HI := fun w' (h : Below w.heap.size w w') => hid (itoa_b v w' (he.below h) (by omega) (by omega))
    have hb := ba_beq (itoaB v) s
    have h0 : ∀ w', (w' = w ∨ ∃ t, w' = Lib.bytesWorld w 5 t) → Below w.heap.size w w' := by
      rintro w' (rfl | ⟨t, rfl⟩)
      · exact Below.refl _ _
      · exact Lib.bytesWorld_below _ _ _
    clear hA
    generalize itoaB v = iv at *
    by_cases h1 : 1 ≤ v
    · by_cases h9 : s.size ≤ 9
      · go_enter Tryz.func123, Tryz.ntmps123
        go_wp2_with fail
        refine HA.out.mono ?_
        rintro e w1 ⟨rfl, hw1⟩
        have HB1 := hid (h0 _ hw1)
        clear hw1
        have h9' : (s.size : Int) ≤ 9 := by omega
        go_wp2_with fail
        refine (HI _ HB1.out).out.mono ?_
        rintro e w2 ⟨rfl, hB2⟩
        go_wp2
        go_ret2
        exact ⟨by rw [HV.out, HB.out, decide_eq_true h1, decide_eq_true h9]; simp, below_tr HB1.out hB2⟩
      · go_enter Tryz.func123, Tryz.ntmps123
        go_wp2_with fail
        refine HA.out.mono ?_
        rintro e w1 ⟨rfl, hw1⟩
        have HB1 := hid (h0 _ hw1)
        clear hw1
        have h9' : ¬ (s.size : Int) ≤ 9 := by omega
        go_wp2
        go_ret2
        exact ⟨by rw [HV.out, HB.out, decide_eq_false h9]; simp, HB1.out⟩
    · go_enter Tryz.func123, Tryz.ntmps123
      go_wp2_with fail
      refine HA.out.mono ?_
      rintro e w1 ⟨rfl, hw1⟩
      have HB1 := hid (h0 _ hw1)
      clear hw1
      go_wp2
      go_ret2
      exact ⟨by rw [HV.out, HB.out, decide_eq_false (by omega)]; simp, HB1.out⟩
  | range =>
    have HV : Hid (decV s = Lib.atoiSat s.data.toList) := by unfold Hid decV; rw [hA]
    have HB : Hid (decB s = false) := by unfold Hid decB; rw [hA]
    obtain ⟨t, p, h1⟩ := he.e2
    have HA := hid (Tryz.strconv_Atoi_range s (by omega) hA (.iface t p) w h1 (.inr ⟨_, _, rfl⟩))
    clear hA h1
    generalize Lib.atoiSat s.data.toList = sv at *
    go_enter Tryz.func123, Tryz.ntmps123
    go_wp2_with fail
    refine HA.out.mono ?_
    rintro e w1 ⟨N, rfl, _, _, hB⟩
    go_wp2
    go_ret2
    exact ⟨by rw [HV.out, HB.out]; rfl, hB⟩
  | _ =>
    have HV : Hid (decV s = 0) := by unfold Hid decV; rw [hA]
    have HB : Hid (decB s = false) := by unfold Hid decB; rw [hA]
    obtain ⟨t, p, h1⟩ := he.e1
    have HA := hid (Tryz.strconv_Atoi_bad s (by omega) (by rw [hA]; intro v h; cases h) (by rw [hA]; intro h; cases h) (.iface t p) w h1 (.inr ⟨_, _, rfl⟩))
    clear hA h1
    go_enter Tryz.func123, Tryz.ntmps123
    go_wp2_with fail
    refine HA.out.mono ?_
    rintro e w1 ⟨N, rfl, _, _, hB⟩
    go_wp2
    go_ret2
    exact ⟨by rw [HV.out, HB.out]; rfl, hB⟩
def cutPB (s p : ByteArray) : Bool := Lib.hasPrefix s.data.toList p.data.toList
def cutPS (s p : ByteArray) : ByteArray := if cutPB s p = true then s.extract p.size s.size else s
set_option maxHeartbeats 1000000 in
theorem cutP_in (s p : ByteArray) (w : World) (_ : s.size ≤ 1048576) :
    Calls Tryz.prog 146 #[.string s, .string p] w fun e w' => e = .returned (.tuple #[.string (cutPS s p), .bool (cutPB s p)]) ∧ w = w' := by
  have HP := fun w' => hid (Tryz.stringslite_HasPrefix s p w')
  cases hp : Lib.hasPrefix s.data.toList p.data.toList with
  | true =>
    have hle : p.size ≤ s.size := by
      have := Lib.hasPrefix_le hp
      simpa using this
    have HS : Hid (cutPS s p = s.extract p.size s.size) := by unfold Hid cutPS cutPB; rw [hp]; rfl
    have HB : Hid (cutPB s p = true) := hp
    rw [hp] at HP
    clear hp
    go_enter Tryz.func146, Tryz.ntmps146
    go_wp2_with (go_at_call 145; refine (HP _).out.mono ?_; rintro e w' ⟨rfl, rfl⟩)
    go_ret2
    exact ⟨by rw [HS.out, HB.out]; rfl, rfl⟩
  | false =>
    have HS : Hid (cutPS s p = s) := by unfold Hid cutPS cutPB; rw [hp]; rfl
    have HB : Hid (cutPB s p = false) := hp
    rw [hp] at HP
    clear hp
    go_enter Tryz.func146, Tryz.ntmps146
    go_wp2_with (go_at_call 145; refine (HP _).out.mono ?_; rintro e w' ⟨rfl, rfl⟩)
    go_ret2
    exact ⟨by rw [HS.out, HB.out]; rfl, rfl⟩
set_option maxHeartbeats 1000000 in
theorem cutP_any (s p : ByteArray) (w : World) (hs : s.size ≤ 1048576) :
    Calls Tryz.prog 122 #[.string s, .string p] w fun e w' => e = .returned (.tuple #[.string (cutPS s p), .bool (cutPB s p)]) ∧ w = w' := by
  have H := hid (cutP_in s p w hs)
  generalize cutPS s p = a at *
  generalize cutPB s p = b at *
  go_enter Tryz.func122, Tryz.ntmps122
  go_wp2_with (go_at_call 146; refine H.out.mono ?_; rintro e w' ⟨rfl, rfl⟩)
  go_ret2
  exact ⟨rfl, rfl⟩
def cutXB (s p : ByteArray) : Bool := Lib.hasSuffix s.data.toList p.data.toList
def cutXS (s p : ByteArray) : ByteArray := if cutXB s p = true then s.extract 0 (s.size - p.size) else s
set_option maxHeartbeats 1000000 in
theorem cutX_in (s p : ByteArray) (w : World) (hs : s.size ≤ 1048576) :
    Calls Tryz.prog 137 #[.string s, .string p] w fun e w' => e = .returned (.tuple #[.string (cutXS s p), .bool (cutXB s p)]) ∧ w = w' := by
  have HP := fun w' => hid (Tryz.stringslite_HasSuffix s p w' (by omega))
  cases hp : Lib.hasSuffix s.data.toList p.data.toList with
  | true =>
    have hle : p.size ≤ s.size := by
      have := Lib.hasSuffix_le hp
      simpa using this
    have HS : Hid (cutXS s p = s.extract 0 (s.size - p.size)) := by unfold Hid cutXS cutXB; rw [hp]; rfl
    have HB : Hid (cutXB s p = true) := hp
    rw [hp] at HP
    clear hp
    go_enter Tryz.func137, Tryz.ntmps137
    go_wp2_with (go_at_call 164; refine (HP _).out.mono ?_; rintro e w' ⟨rfl, rfl⟩)
    go_ret2
    exact ⟨by rw [HS.out, HB.out]; rfl, rfl⟩
  | false =>
    have HS : Hid (cutXS s p = s) := by unfold Hid cutXS cutXB; rw [hp]; rfl
    have HB : Hid (cutXB s p = false) := hp
    rw [hp] at HP
    clear hp
    go_enter Tryz.func137, Tryz.ntmps137
    go_wp2_with (go_at_call 164; refine (HP _).out.mono ?_; rintro e w' ⟨rfl, rfl⟩)
    go_ret2
    exact ⟨by rw [HS.out, HB.out]; rfl, rfl⟩
set_option maxHeartbeats 1000000 in
theorem cutX_any (s p : ByteArray) (w : World) (hs : s.size ≤ 1048576) :
    Calls Tryz.prog 116 #[.string s, .string p] w fun e w' => e = .returned (.tuple #[.string (cutXS s p), .bool (cutXB s p)]) ∧ w = w' := by
  have H := hid (cutX_in s p w hs)
  generalize cutXS s p = a at *
  generalize cutXB s p = b at *
  go_enter Tryz.func116, Tryz.ntmps116
  go_wp2_with (go_at_call 137; refine H.out.mono ?_; rintro e w' ⟨rfl, rfl⟩)
  go_ret2
  exact ⟨rfl, rfl⟩
end Go.Proofs.YtjhdeoniafahbaaGreatDoor
