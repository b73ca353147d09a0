/-
  Joined: Hid Pl Charset Lib Lit SigA Bits RefA Args Args5 Sl Sl2 Ap Box Wide.
-/
import Derived.WalkKit
import Derived.Lib.Bytealg
import Derived.Test.YtjhdeoniafahbaaGreatDoorRows
import Derived.WalkLawsBesides
import Derived.Deep.QuietTactic
import Derived.BigQuiet
import Derived.Lib.Strings
import Derived.Laws.Strings3
import Derived.Shelf.Strings.Search1
import Derived.WalkSpells
import Derived.OwnWalk
import Derived.Deep.Slices
import Derived.WalkSmall
import Derived.Maps.AppendAt
import Derived.ProofKit
import Derived.SliceStrings
import Derived.Deep.SlicePairs
import Derived.Carry
import Derived.BigCall
import Derived.Deep.AppendLies
import Derived.OwnWalkIn
import Derived.RangeFuncNested
import Derived.RangeFuncBound
import Derived.RangeFuncCalls
import Derived.RangeFuncLeaves
import Derived.RangeFuncBox
import Derived.TacticsInMore
import Derived.LoopNIn
import Derived.LoopIn
/-
  A fact kept from the walk; equations on endings.
-/
namespace Go.Proofs.YtjhdeoniafahbaaGreatDoor
open Go.RowKit
theorem hid {p : Prop} (h : p) : Hid p := h
theorem ret_int {k : IntKind} {a b : Int} (h : a = b) : Ending.returned (.int k a) = .returned (.int k b) := by rw [h]
theorem ret_bool {a b : Bool} (h : a = b) : Ending.returned (.bool a) = .returned (.bool b) := by rw [h]
end Go.Proofs.YtjhdeoniafahbaaGreatDoor

/-
  Plain lemmas on lists: first index, equality by places.
-/
namespace Go.Proofs.YtjhdeoniafahbaaGreatDoor

def fIdx {α : Type} (p : α → Bool) (l : List α) : Int := match l.findIdx? p with | some i => (i : Int) | none => -1

theorem fIdx_none {α : Type} (p : α → Bool) (l : List α) (h : ∀ x ∈ l, p x = false) : fIdx p l = -1 := by
  unfold fIdx
  rw [List.findIdx?_eq_none_iff.2 h]

theorem fIdx_hit {α : Type} (p : α → Bool) (l : List α) (k : Nat) (x : α) (h : ∀ y ∈ l.take k, p y = false) (hx : l[k]? = some x) (hp : p x = true) : fIdx p l = k := by
  obtain ⟨hk, rfl⟩ := List.getElem?_eq_some_iff.1 hx
  unfold fIdx
  have : l.findIdx? p = some k := by
    rw [List.findIdx?_eq_some_iff_getElem]
    refine ⟨hk, hp, fun j hj => ?_⟩
    have := h l[j] (by rw [List.mem_take_iff_getElem]; exact ⟨j, by omega, rfl⟩)
    simp [this]
  rw [this]

theorem fIdx_pos {α : Type} (p : α → Bool) (l : List α) : decide (0 ≤ fIdx p l) = l.any p := by
  unfold fIdx
  cases h : l.findIdx? p with
  | none =>
    rw [List.findIdx?_eq_none_iff] at h
    have : l.any p = false := by rw [List.any_eq_false]; intro x hx; simp [h x hx]
    rw [this]; rfl
  | some i =>
    rw [List.findIdx?_eq_some_iff_getElem] at h
    obtain ⟨hi, hp, _⟩ := h
    have : l.any p = true := List.any_eq_true.2 ⟨l[i], List.getElem_mem hi, hp⟩
    rw [this]
    simp

theorem fIdx_lt {α : Type} (p : α → Bool) (l : List α) : fIdx p l < l.length := by
  unfold fIdx
  cases h : l.findIdx? p with
  | none => simp; omega
  | some i =>
    rw [List.findIdx?_eq_some_iff_getElem] at h
    obtain ⟨hi, _⟩ := h
    simp; exact hi

theorem take_none {α : Type} {p : α → Bool} {l : List α} {k : Nat} {x : α} (h : ∀ y ∈ l.take k, p y = false) (hx : l[k]? = some x) (hp : p x = false) : ∀ y ∈ l.take (k + 1), p y = false := by
  intro y hy
  rw [List.take_add_one, hx] at hy
  rcases List.mem_append.1 hy with hy | hy
  · exact h y hy
  · simp at hy; rw [hy]; exact hp

theorem ba_beq (s t : ByteArray) : (s.toList == t.toList) = decide (s = t) := by
  rw [ByteArray.toList_eq, ByteArray.toList_eq, Bool.eq_iff_iff]
  simp only [beq_iff_eq, decide_eq_true_eq, Array.toList_inj]
  constructor
  · intro h; cases s; cases t; simp_all
  · intro h; rw [h]

theorem take_eq_step {α : Type} {l m : List α} {k : Nat} {x y : α} (h : l.take k = m.take k) (hx : l[k]? = some x) (hy : m[k]? = some y) (e : x = y) : l.take (k + 1) = m.take (k + 1) := by
  rw [List.take_add_one, List.take_add_one, h, hx, hy, e]

theorem ne_of_at {α : Type} {l m : List α} {k : Nat} {x y : α} (hx : l[k]? = some x) (hy : m[k]? = some y) (e : x ≠ y) : l ≠ m := by
  intro h; rw [h, hy] at hx; exact e (Option.some.inj hx).symm


theorem fIdx_cases {α : Type} (p : α → Bool) (l : List α) : fIdx p l = -1 ∨ ∃ (k : Nat) (x : α), fIdx p l = (k : Int) ∧ l[k]? = some x ∧ k < l.length ∧ p x = true := by
  unfold fIdx
  cases h : l.findIdx? p with
  | none => left; rfl
  | some i =>
    right
    rw [List.findIdx?_eq_some_iff_getElem] at h
    obtain ⟨hi, hp, _⟩ := h
    exact ⟨i, l[i], rfl, by simp [hi], hi, hp⟩

end Go.Proofs.YtjhdeoniafahbaaGreatDoor

/-
  The program's charset functions (Kind, Letters, IsName), each by a contract.
-/
namespace Go.Proofs.YtjhdeoniafahbaaGreatDoor
open Go.RowKit


def kindI (c : Int) : Int :=
  if (97 ≤ c ∧ c ≤ 122) ∨ (65 ≤ c ∧ c ≤ 90) then 1 else if c = 94 ∨ c = 126 ∨ c = 37 then 2 else if 48 ≤ c ∧ c ≤ 57 then 3 else if c = 39 then 4 else if c = 32 then 6
  else if c = 46 ∨ c = 44 ∨ c = 59 ∨ c = 58 ∨ c = 33 ∨ c = 63 ∨ c = 40 ∨ c = 41 ∨ c = 45 then 5 else 0

set_option maxHeartbeats 400000 in
set_option maxRecDepth 100000 in
theorem indexByte_any (s : ByteArray) (c : Int) (w : World) :
    Calls Tryz.prog 159 #[.string s, .int .u8 c] w fun e w' => e = .returned (.int .i64 (Lib.indexByte s.data.toList c.toNat.toUInt8)) ∧ w = w' := by
  go_enter Tryz.func159, Tryz.ntmps159
  go_wp2
  rw [run_callFunc_extern Tryz.func147 (by kernel_rfl) (by kernel_rfl) (by kernel_rfl) (e := Extern.BytealgIndexByte.indexByte) (by kernel_rfl), Lib.run_indexByteString]
  simp only [Result.andThen]
  rw [Oper.upon_value]
  go_wp2
  go_ret
  exact ⟨rfl, rfl⟩

def pIdx (c : Int) : Int := Lib.indexByte [46, 44, 59, 58, 33, 63, 40, 41, 45] c.toNat.toUInt8

theorem pIdx_pos (c : Int) (h0 : 0 ≤ c) (h1 : c ≤ 255) : 0 ≤ pIdx c ↔ (c = 46 ∨ c = 44 ∨ c = 59 ∨ c = 58 ∨ c = 33 ∨ c = 63 ∨ c = 40 ∨ c = 41 ∨ c = 45) := by
  obtain ⟨n, rfl⟩ := Int.eq_ofNat_of_zero_le h0
  have : ∀ n : Fin 256, 0 ≤ pIdx (n.val : Int) ↔ ((n.val : Int) = 46 ∨ (n.val : Int) = 44 ∨ (n.val : Int) = 59 ∨ (n.val : Int) = 58 ∨ (n.val : Int) = 33 ∨ (n.val : Int) = 63 ∨ (n.val : Int) = 40 ∨ (n.val : Int) = 41 ∨ (n.val : Int) = 45) := by decide +kernel
  exact this ⟨n, by omega⟩

theorem idxPunct_any (c : Int) (w : World) :
    Calls Tryz.prog 159 #[.string ⟨#[46, 44, 59, 58, 33, 63, 40, 41, 45]⟩, .int .u8 c] w fun e w' => e = .returned (.int .i64 (pIdx c)) ∧ w = w' := indexByte_any _ _ _

set_option maxHeartbeats 1000000 in
set_option maxRecDepth 100000 in
theorem kind_any (c : Int) (h0 : 0 ≤ c) (h1 : c ≤ 255) (w : World) :
    Calls Tryz.prog 135 #[.int .u8 c] w fun e w' => e = .returned (.int .i64 (kindI c)) ∧ w = w' := by
  have hp := pIdx_pos c h0 h1
  have HP := hid hp; clear hp
  go_enter Tryz.func135, Tryz.ntmps135
  go_wp2_with (go_at_call 159; refine (idxPunct_any _ _).mono ?_; rintro e w' ⟨rfl, rfl⟩)
  all_goals go_ret
  all_goals refine ⟨ret_int ?_, rfl⟩
  all_goals (have hp := HP.out; clear HP)
  all_goals first
    | rfl
    | ((try simp only [beq_iff_eq, beq_eq_false_iff_ne, bne_iff_ne, bne_eq_false_iff_eq, ne_eq] at *); unfold kindI; (repeat' split) <;> omega)

def isLet (c : UInt8) : Bool := kindI c.toNat == 1 || kindI c.toNat == 3
def lettersI (l : List UInt8) : Int := (l.filter isLet).length
theorem lettersI_le (l : List UInt8) : 0 ≤ lettersI l ∧ lettersI l ≤ l.length := by
  unfold lettersI; exact ⟨by omega, by have := List.length_filter_le isLet l; omega⟩
theorem take_snoc (s : ByteArray) (k : Nat) (h : k < s.size) : s.data.toList.take (k + 1) = s.data.toList.take k ++ [s[k]] := by
  rw [List.take_succ_eq_append_getElem (by simpa using h)]; rfl
theorem lettersI_snoc (l : List UInt8) (c : UInt8) : lettersI (l ++ [c]) = lettersI l + if isLet c = true then 1 else 0 := by
  unfold lettersI
  rw [List.filter_append]
  by_cases h : isLet c = true <;> simp [h]
set_option maxHeartbeats 400000 in
theorem letters_any (s : ByteArray) (w : World) (hs : s.size ≤ maxLen) :
    Calls Tryz.prog 138 #[.string s] w fun e w' => e = .returned (.int .i64 (lettersI s.data.toList)) ∧ w = w' := by
  unfold maxLen at hs
  go_enter Tryz.func138, Tryz.ntmps138
  go_wp2
  go_loop [3, 8] (fun n i => ∃ k : Nat, k ≤ s.size ∧ i = .int .i64 k ∧ n = .int .i64 (lettersI (s.data.toList.take k))) (fun _ i => s.size - (intOf i).toNat)
  case atStart => exact ⟨0, Nat.zero_le _, rfl, rfl⟩
  case round =>
    obtain ⟨k, hk, rfl, rfl⟩ := hrel
    have hd := lettersI_le (s.data.toList.take k)
    have hl : (s.data.toList.take k).length ≤ k := List.length_take_le _ _
    by_cases hlt : k < s.size
    · have hsn := lettersI_snoc (s.data.toList.take k) s[k]
      rw [← take_snoc s k hlt] at hsn
      have HS := hid hsn
      clear hsn
      have hu : 0 ≤ (s[k].toNat : Int) ∧ (s[k].toNat : Int) ≤ 255 := ⟨by omega, by have := UInt8.toNat_lt s[k]; omega⟩
      by_cases h1 : kindI s[k].toNat = 1
      · rw [if_pos (by simp [isLet, h1])] at HS
        have b1 := beq_iff_eq.2 h1
        clear h1
        go_wp2_with (go_at_call 135; refine (kind_any _ (by omega) (by omega) _).mono ?_; rintro e w' ⟨rfl, rfl⟩)
        go_round
        case rel => exact ⟨k + 1, by omega, by go_num, by rw [HS.out]⟩
        case measure => simp [intOf]; omega
      · have b1 := beq_eq_false_iff_ne.2 h1
        by_cases h3 : kindI s[k].toNat = 3
        · rw [if_pos (by simp [isLet, h3])] at HS
          have b3 := beq_iff_eq.2 h3
          clear h1 h3
          go_wp2_with (go_at_call 135; refine (kind_any _ (by omega) (by omega) _).mono ?_; rintro e w' ⟨rfl, rfl⟩)
          go_round
          case rel => exact ⟨k + 1, by omega, by go_num, by rw [HS.out]⟩
          case measure => simp [intOf]; omega
        · rw [if_neg (by simp [isLet, h1, h3])] at HS
          have b3 := beq_eq_false_iff_ne.2 h3
          clear h1 h3
          go_wp2_with (go_at_call 135; refine (kind_any _ (by omega) (by omega) _).mono ?_; rintro e w' ⟨rfl, rfl⟩)
          go_round
          case rel => exact ⟨k + 1, by omega, by go_num, by rw [HS.out]; go_num⟩
          case measure => simp [intOf]; omega
    · go_wp2
      go_ret
      exact ⟨ret_int (by rw [List.take_of_length_le (by simp; omega)]), rfl⟩
end Go.Proofs.YtjhdeoniafahbaaGreatDoor

/-
  Plain words on how slices read in memory, and lemmas on them. No program is named here.
-/
namespace Go.Proofs.YtjhdeoniafahbaaGreatDoor
open Go.RowKit

/-- The slice value v reads in W as the list l, one cell an element. -/
def Rd {α : Type} (enc : α → Value) (W : World) (v : Value) (l : List α) : Prop :=
  ∃ a cap, v = .slice a l.length cap ∧ l.length ≤ cap ∧ cap ≤ maxLen ∧ ∀ i x, l[i]? = some x → ∃ b off, a = some ⟨b, off, none⟩ ∧ W.cell? ⟨b, off + i, none⟩ = some (enc x)

abbrev RdI (W : World) (v : Value) (l : List Int) : Prop := Rd (Value.int .i64) W v l
abbrev RdU (W : World) (v : Value) (l : List Int) : Prop := Rd (Value.int .u64) W v l
abbrev RdS (W : World) (v : Value) (l : List ByteArray) : Prop := Rd Value.string W v l

structure Grp where
  name : ByteArray
  mem : List Int

/-- .. of groups: two cells an element, the second a slice of numbers. -/
def RdG (W : World) (v : Value) (l : List Grp) : Prop :=
  ∃ a cap, v = .slice a l.length cap ∧ l.length ≤ cap ∧ cap ≤ maxLen ∧ ∀ i x, l[i]? = some x → ∃ b off m, a = some ⟨b, off, none⟩ ∧ W.cell? ⟨b, off + i * 2, none⟩ = some (.string x.name) ∧
    W.cell? ⟨b, off + i * 2 + 1, none⟩ = some m ∧ RdI W m x.mem

theorem Below.keeps {W W' : World} (h : Below W.heap.size W W') : ∀ p x, W.cell? p = some x → W'.cell? p = some x :=
  fun p _ hx => (h.cell (World.block_lt_of_cell? W p hx)).trans hx

theorem cell_al {W : World} {p : Addr} {x : Value} (h : W.cell? p = some x) (o : Obj) : (W.alloc o).cell? p = some x := Below.keeps ((Below.refl _ W).alloc (Nat.le_refl _) o) p x h

theorem cell_nw (W : World) (cs : Array Value) (t : TypeId) (i : Nat) {x : Value} (h : cs[i]? = some x) : (W.alloc (.cells cs t)).cell? ⟨W.heap.size, i, none⟩ = some x := by
  rw [cell_of_row _ W.heap.size i cs t (0, 0) (heap_alloc_new W _)]; exact h
theorem below_al (W : World) (o : Obj) : Below W.heap.size W (W.alloc o) := (Below.refl _ W).alloc (Nat.le_refl _) o
theorem below_tr {W W1 W2 : World} (h : Below W.heap.size W W1) (k : Below W1.heap.size W1 W2) : Below W.heap.size W W2 := h.trans (k.mono h.size)

theorem Rd.mono {α : Type} {enc : α → Value} {W W' : World} {v : Value} {l : List α} (h : Rd enc W v l) (hk : ∀ p x, W.cell? p = some x → W'.cell? p = some x) : Rd enc W' v l := by
  obtain ⟨a, cap, h1, h2, h3, h4⟩ := h
  exact ⟨a, cap, h1, h2, h3, fun i x hx => let ⟨b, off, e, hc⟩ := h4 i x hx; ⟨b, off, e, hk _ _ hc⟩⟩
theorem RdG.mono {W W' : World} {v : Value} {l : List Grp} (h : RdG W v l) (hk : ∀ p x, W.cell? p = some x → W'.cell? p = some x) : RdG W' v l := by
  obtain ⟨a, cap, h1, h2, h3, h4⟩ := h
  exact ⟨a, cap, h1, h2, h3, fun i x hx => let ⟨b, off, m, e, hc, hd, hr⟩ := h4 i x hx; ⟨b, off, m, e, hk _ _ hc, hk _ _ hd, hr.mono hk⟩⟩
theorem Rd.below {α : Type} {enc : α → Value} {W W' : World} {v : Value} {l : List α} (h : Rd enc W v l) (hb : Below W.heap.size W W') : Rd enc W' v l := h.mono (Below.keeps hb)
theorem RdG.below {W W' : World} {v : Value} {l : List Grp} (h : RdG W v l) (hb : Below W.heap.size W W') : RdG W' v l := h.mono (Below.keeps hb)

theorem Rd.drewN {α : Type} {enc : α → Value} {W : World} {v : Value} {l : List α} (h : Rd enc W v l) (n : Nat) : Rd enc (W.drewN n) v l := h.below (below_drewN (Below.refl _ _) n)
theorem RdG.drewN {W : World} {v : Value} {l : List Grp} (h : RdG W v l) (n : Nat) : RdG (W.drewN n) v l := h.below (below_drewN (Below.refl _ _) n)

theorem Rd.nil {α : Type} {enc : α → Value} (W : World) : Rd enc W (.slice none 0 0) [] := ⟨none, 0, rfl, Nat.le_refl _, by unfold maxLen; omega, fun i x h => by simp at h⟩
theorem RdG.nil (W : World) : RdG W (.slice none 0 0) [] := ⟨none, 0, rfl, Nat.le_refl _, by unfold maxLen; omega, fun i x h => by simp at h⟩

/-- The open form: v written out, the length bound, the elements' cells. -/
theorem Rd.open {α : Type} {enc : α → Value} {W : World} {v : Value} {l : List α} (h : Rd enc W v l) : ∃ a cap, v = .slice a l.length cap ∧ l.length ≤ cap ∧ cap ≤ 9223372036854775807 ∧ ∀ i, i < l.length → ∃ x b off, l[i]? = some x ∧ a = some ⟨b, off, none⟩ ∧ W.cell? ⟨b, off + i, none⟩ = some (enc x) := by
  obtain ⟨a, cap, h1, h2, h3, h4⟩ := h
  exact ⟨a, cap, h1, h2, h3, fun i hi => let ⟨b, off, e, hc⟩ := h4 i l[i] (by simp [hi]); ⟨l[i], b, off, by simp [hi], e, hc⟩⟩

theorem RdG.open {W : World} {v : Value} {l : List Grp} (h : RdG W v l) : ∃ a cap, v = .slice a l.length cap ∧ l.length ≤ cap ∧ cap ≤ 9223372036854775807 ∧ ∀ i, i < l.length → ∃ x b off m, l[i]? = some x ∧ a = some ⟨b, off, none⟩ ∧ W.cell? ⟨b, off + i * 2, none⟩ = some (.string x.name) ∧ W.cell? ⟨b, off + i * 2 + 1, none⟩ = some m ∧ RdI W m x.mem := by
  obtain ⟨a, cap, h1, h2, h3, h4⟩ := h
  exact ⟨a, cap, h1, h2, h3, fun i hi => let ⟨b, off, m, e, hc, hd, hr⟩ := h4 i l[i] (by simp [hi]); ⟨l[i], b, off, m, by simp [hi], e, hc, hd, hr⟩⟩

/-- 'out = append(out, x)', out the call's own from block base on, one element of 'size' cells. -/
theorem wpList_ap {P : Program} {ops : Array Oper} {rest : List Oper} {o : Oper} {a : Act} {Q : Exit → Act → World → Prop} {W : World} (hgd : o.guard = none) (s x : Operand) (t : TypeId)
    (ho : o.op = .call { callee := .builtin .append, args := #[s, x], argTypes := #[t, t] })
    (base : Nat) (e : TypeId) {z : Value} {size bytes : Nat} (ht : P.underlying t = some (.slice e)) (hi : (P.info? e).map (fun i => (i.zero, i.size, i.bytes)) = some (some z, size, bytes))
    (hzs : z.cells.size = size) (hsz : 0 < size) (hby : bytes ≤ 64)
    (v : Value) (n : Nat) (xs : List Value) (hs : a.eval s = v) (hown : W.ownsRow base e size v n xs) (news : List Value) (hl : news.length = size) (h1 : ∀ u ∈ news, u.oneCell' = true)
    {N : Nat} (hx : a.eval x = .slice (some ⟨N, 0, none⟩) 1 1) (hN : N = W.heap.size) (hn : n + 1 ≤ 4294967296) (hbase : base ≤ W.heap.size)
    (h : ∀ v' w', w'.ownsRow base e size v' (n + 1) (xs ++ news) → Below base W w' → W.grownBy w' v.ownBlock → wpList P ops Q rest (a.put o.dst v') w') :
    wpList P ops Q (o :: rest) a (W.alloc (.cells news.toArray e)) := by
  obtain ⟨i, hi1, hi2, hi3, hi4⟩ := info_parts hi
  subst hN
  refine wpList_append_own _ hgd s x t ho base e i z size bytes ht hi1 hi2 hi3 hi4 hzs hsz v n xs hs (hown.alloc _) ⟨W.heap.size, 0, none⟩ 1 1 news hx (by omega) ?_ h1 (by unfold maxLen; omega) ?_ (by simp; omega) ?_
  · intro j u hj
    have hlt := (List.getElem?_eq_some_iff.1 hj).1
    have hadd : (⟨W.heap.size, 0, none⟩ : Addr).add j = ⟨W.heap.size, j, none⟩ := by unfold Addr.add; split <;> simp_all
    rw [hadd, cell_of_row _ W.heap.size j news.toArray e (0, 0) (heap_alloc_new W _)]
    simpa using hj
  · have : (n + 1) * bytes ≤ 4294967296 * 64 := Nat.mul_le_mul hn hby
    omega
  · intro v' w' ho' hg' _
    have hg : W.grownBy w' v.ownBlock := ⟨hg'.os, hg'.tape, hg'.output, Nat.le_trans (by simp) hg'.size, fun k hk hne => (hg'.block k (by simp; omega) hne).trans (Below.heap_alloc W _ k hk)⟩
    exact h v' w' ho' ((Below.refl _ _).grown hg hbase (fun k hk => (hown.lt k hk).1)) hg

/-- An owned row reads as its list. -/
theorem Rd.of_own {α : Type} {enc : α → Value} {W : World} {base : Nat} {e : TypeId} {v : Value} {l : List α} (h : W.ownsRow base e 1 v l.length (l.map enc)) : Rd enc W v l := by
  obtain ⟨_, h2⟩ := h
  rcases h2 with ⟨rfl, hn⟩ | ⟨g, cap, cur, rfl, hb, hh, hc, hm, hs, ht⟩
  · have : l = [] := List.eq_nil_of_length_eq_zero hn
    subst this
    exact Rd.nil W
  · refine ⟨some ⟨g, 0, none⟩, cap, rfl, hc, hm, fun i x hx => ⟨g, 0, rfl, ?_⟩⟩
    have hi := (List.getElem?_eq_some_iff.1 hx).1
    rw [Nat.zero_add, cell_of_row _ g i cur e (0, 0) hh]
    have : (l.map enc)[i]? = some (enc x) := by rw [List.getElem?_map, hx]; rfl
    rw [← ht, List.getElem?_take, if_pos (by omega)] at this
    simpa using this

theorem Rd.take {α : Type} {enc : α → Value} {W : World} {a : Option Addr} {n cap : Nat} {l : List α} (h : Rd enc W (.slice a n cap) l) (k : Nat) (hk : k ≤ l.length) : Rd enc W (.slice a k cap) (l.take k) := by
  obtain ⟨a', cap', h1, h2, h3, h4⟩ := h
  cases h1
  exact ⟨a, cap, by rw [List.length_take, Nat.min_eq_left hk], by rw [List.length_take]; omega, h3, fun i x hx => h4 i x (by rw [List.getElem?_take] at hx; split at hx; exact hx; cases hx)⟩
theorem RdG.take {W : World} {a : Option Addr} {n cap : Nat} {l : List Grp} (h : RdG W (.slice a n cap) l) (k : Nat) (hk : k ≤ l.length) : RdG W (.slice a k cap) (l.take k) := by
  obtain ⟨a', cap', h1, h2, h3, h4⟩ := h
  cases h1
  exact ⟨a, cap, by rw [List.length_take, Nat.min_eq_left hk], by rw [List.length_take]; omega, h3, fun i x hx => h4 i x (by rw [List.getElem?_take] at hx; split at hx; exact hx; cases hx)⟩

def Szs (l : List ByteArray) : Prop := ∀ s ∈ l, s.size ≤ maxLen
def SzG (l : List Grp) : Prop := ∀ g ∈ l, g.name.size ≤ maxLen

/-- What lies in no block of a row that was written stays. -/
theorem grown_cell {W w' : World} {row : Option Nat} (hg : W.grownBy w' row) {p : Addr} {x : Value} (h : W.cell? p = some x) (hne : some p.block ≠ row) : w'.cell? p = some x := hg.cell h hne

end Go.Proofs.YtjhdeoniafahbaaGreatDoor

/-
  A slice that was just built of constants reads as its list.
-/
namespace Go.Proofs.YtjhdeoniafahbaaGreatDoor
open Go.RowKit

/-- A slice that was just built of constants. -/
theorem Rd.lit {α : Type} {enc : α → Value} (W : World) (l : List α) (cs : Array Value) (t : TypeId) (n : Nat) (hc : cs = (l.map enc).toArray) (hn : n = l.length) (hm : n ≤ maxLen) :
    Rd enc (W.alloc (.cells cs t)) (.slice (some ⟨W.heap.size, 0, none⟩) n n) l := by
  subst hn
  refine ⟨some ⟨W.heap.size, 0, none⟩, l.length, rfl, Nat.le_refl _, hm, fun i x hx => ⟨W.heap.size, 0, rfl, ?_⟩⟩
  rw [Nat.zero_add]
  exact cell_nw W cs t i (by subst hc; simp [hx])
end Go.Proofs.YtjhdeoniafahbaaGreatDoor

/-
  Contracts: IsName, CutSuffix, siglum, checkSet, mask, members.
-/
namespace Go.Proofs.YtjhdeoniafahbaaGreatDoor
open Go.RowKit

def isNameB (s : ByteArray) : Bool := decide (s.size ≠ 0) && decide (s.size ≤ 16) && decide (lettersI s.data.toList = s.size)

set_option maxHeartbeats 400000 in
theorem isName_any (s : ByteArray) (w : World) (hs : s.size ≤ maxLen) :
    Calls Tryz.prog 117 #[.string s] w fun e w' => e = .returned (.bool (isNameB s)) ∧ w = w' := by
  have hs' := hs
  unfold maxLen at hs
  go_enter Tryz.func117, Tryz.ntmps117
  go_wp2_with (go_at_call 138; refine (letters_any _ _ hs').mono ?_; rintro e w' ⟨rfl, rfl⟩)
  all_goals go_ret
  all_goals refine ⟨ret_bool ?_, rfl⟩
  all_goals (have hl := lettersI_le s.data.toList; have hz : s.toList = [] ↔ s.size = 0 := by rw [ByteArray.toList_eq, ← List.length_eq_zero_iff]; simp)
  · have h : s.toList = [] := by assumption
    simp [isNameB, hz.1 h]
  · have h : ¬ s.toList = [] := by assumption
    have h16 : (s.size : Int) ≤ 16 := by assumption
    have h0 : s.size ≠ 0 := fun e => h (hz.2 e)
    have h16' : s.size ≤ 16 := by omega
    have he : s.toList.isEmpty = false := by simpa using h
    rw [he, Bool.eq_iff_iff]; simp [isNameB, h0, h16']
  · have h16 : 16 < (s.size : Int) := by assumption
    simp [isNameB]; omega

def cutStar (s : ByteArray) : ByteArray × Bool := if 1 ≤ s.size ∧ (s.extract (s.size - 1) s.size).toList = [42] then (s.extract 0 (s.size - 1), true) else (s, false)

set_option maxHeartbeats 400000 in
theorem cutStar_any (s : ByteArray) (w : World) (hs : s.size ≤ maxLen) :
    Calls Tryz.prog 116 #[.string s, .string ⟨#[42]⟩] w fun e w' => e = .returned (.tuple #[.string (cutStar s).1, .bool (cutStar s).2]) ∧ w = w' := by
  unfold maxLen at hs
  go_enter Tryz.func116, Tryz.ntmps116
  go_wp2
  all_goals go_ret2
  all_goals refine ⟨?_, rfl⟩
  · have h : (!(s.extract (s.size - 1) s.size).toList == [42]) = true := by assumption
    have h' : ¬ (s.extract (s.size - 1) s.size).toList = [42] := by simpa using h
    simp [cutStar, h']
  · have h : (!(s.extract (s.size - 1) s.size).toList == [42]) = false := by assumption
    have h1 : 1 ≤ (s.size : Int) := by assumption
    have h' : (s.extract (s.size - 1) s.size).toList = [42] := by simpa using h
    have h1' : 1 ≤ s.size := by omega
    simp [cutStar, h', h1']
  · have h1 : (s.size : Int) < 1 := by assumption
    have h1' : ¬ 1 ≤ s.size := by omega
    simp [cutStar, h1']

def sigB (s : ByteArray) : Bool := isNameB (cutStar s).1 && (!(cutStar s).2 || decide (s.size ≤ 16))

theorem cutStar_le (s : ByteArray) : (cutStar s).1.size ≤ s.size := by
  unfold cutStar; split
  · simp
  · exact Nat.le_refl _

/-- The error of a set of numbers below n, the last one before it known. -/
def ckSet (n : Int) : Option Int → List Int → Int
  | _, [] => 0
  | p, x :: r => if x < 0 ∨ n ≤ x then 2 else if (∃ q, p = some q ∧ x ≤ q) then 10 else ckSet n (some x) r

theorem ckSet_drop (n : Int) (l : List Int) (k : Nat) (x : Int) (h : l[k]? = some x) (p : Option Int) : ckSet n p (l.drop k) = if x < 0 ∨ n ≤ x then 2 else if (∃ q, p = some q ∧ x ≤ q) then 10 else ckSet n (some x) (l.drop (k + 1)) := by
  obtain ⟨hk, hx⟩ := List.getElem?_eq_some_iff.1 h
  rw [List.drop_eq_getElem_cons hk, hx]; rfl

end Go.Proofs.YtjhdeoniafahbaaGreatDoor

/-
  Contracts: mask, members.
-/
namespace Go.Proofs.YtjhdeoniafahbaaGreatDoor
open Go.RowKit

theorem bits_or_u64_nat (a b : Nat) (ha : a < 18446744073709551616) (hb : b < 18446744073709551616) : bits .or .u64 (a : Int) (b : Int) = ((a ||| b : Nat) : Int) := Go.bits_or_u64_nat a b ha hb

/-- A set as the bits of a number. -/
def maskN (l : List Int) : Nat := l.foldl (fun m x => m ||| 2 ^ x.toNat) 0

theorem maskN_snoc (l : List Int) (x : Int) : maskN (l ++ [x]) = maskN l ||| 2 ^ x.toNat := by simp [maskN, List.foldl_append]

theorem foldl_or_lt (n : Nat) (l : List Int) : ∀ m : Nat, m < 2 ^ n → (∀ x ∈ l, x.toNat < n) → l.foldl (fun m x => m ||| 2 ^ x.toNat) m < 2 ^ n := by
  induction l with
  | nil => intro m hm _; exact hm
  | cons a l ih =>
    intro m hm h
    rw [List.foldl_cons]
    exact ih _ (Nat.or_lt_two_pow hm (Nat.pow_lt_pow_right (by omega) (h a List.mem_cons_self))) (fun x hx => h x (List.mem_cons_of_mem _ hx))
theorem maskN_lt (n : Nat) (l : List Int) (h : ∀ x ∈ l, x.toNat < n) : maskN l < 2 ^ n := foldl_or_lt n l 0 (Nat.two_pow_pos n) h

theorem foldl_or_bit (l : List Int) (i : Nat) : ∀ m : Nat, (l.foldl (fun m x => m ||| 2 ^ x.toNat) m).testBit i = (m.testBit i || l.any fun x => decide (x.toNat = i)) := by
  induction l with
  | nil => intro m; simp
  | cons a l ih => intro m; rw [List.foldl_cons, ih, Nat.testBit_or, Nat.testBit_two_pow, List.any_cons, Bool.or_assoc]
theorem maskN_bit (l : List Int) (i : Nat) : (maskN l).testBit i = l.any fun x => decide (x.toNat = i) := by rw [maskN, foldl_or_bit]; simp

theorem or_pow (M : Nat) (x : Int) (hM : M < 18446744073709551616) (hx : 0 ≤ x) (hx1 : x < 64) : bits .or .u64 (M : Int) (IntKind.u64.wrap (2 ^ x.toNat)) = ((M ||| 2 ^ x.toNat : Nat) : Int) := by
  have h2 : (2 : Nat) ^ x.toNat < 18446744073709551616 := by
    have : (2 : Nat) ^ x.toNat < 2 ^ 64 := Nat.pow_lt_pow_right (by omega) (by omega)
    simpa using this
  have h3 : IntKind.u64.wrap (2 ^ x.toNat) = ((2 ^ x.toNat : Nat) : Int) := by
    rw [show (2 : Int) ^ x.toNat = ((2 ^ x.toNat : Nat) : Int) by simp]
    generalize 2 ^ x.toNat = p at *
    exact IntWalk.u64_in _ (by omega)
  rw [h3, bits_or_u64_nat _ _ hM h2]

/-- The places of the bits of a number. -/
def bitsL (m : Nat) : List Int := ((List.range 64).filter fun i => m.testBit i).map fun (i : Nat) => (i : Int)
def bitsTo (m k : Nat) : List Int := ((List.range k).filter fun i => m.testBit i).map fun (i : Nat) => (i : Int)

theorem bitsTo_succ (m k : Nat) : bitsTo m (k + 1) = bitsTo m k ++ if m.testBit k then [(k : Int)] else [] := by
  unfold bitsTo
  rw [List.range_succ, List.filter_append, List.map_append]
  by_cases h : m.testBit k <;> simp [h]
theorem bitsTo_len (m k : Nat) : (bitsTo m k).length ≤ k := by
  unfold bitsTo
  rw [List.length_map]
  have := List.length_filter_le (fun i => m.testBit i) (List.range k)
  simpa using this

theorem bit_test (m k : Nat) (hm : m < 18446744073709551616) : (bits .and .u64 ((m : Int) / 2 ^ k) 1 == 1) = m.testBit k := by
  have e1 : (m : Int) / 2 ^ k = ((m / 2 ^ k : Nat) : Int) := by simp
  have hlt : m / 2 ^ k < 18446744073709551616 := Nat.lt_of_le_of_lt (Nat.div_le_self _ _) hm
  have e2 := Go.bits_and_u64_nat (m / 2 ^ k) 1 hlt (by decide)
  rw [e1, show (1 : Int) = ((1 : Nat) : Int) from rfl, e2, Nat.and_one_is_mod, Nat.testBit_eq_decide_div_mod_eq]
  generalize m / 2 ^ k % 2 = r
  rw [Bool.eq_iff_iff]; simp; omega

/-- The bits of a that are not bits of b. -/
def andN (a b : Nat) : Nat := a &&& (18446744073709551615 - b)
theorem bits_andN (a b : Nat) (ha : a < 18446744073709551616) (hb : b < 18446744073709551616) : bits .andNot .u64 (a : Int) (b : Int) = (andN a b : Nat) := Go.u64_andNot_nat a b ha hb
theorem andN_lt (a b : Nat) (n : Nat) (ha : a < 2 ^ n) : andN a b < 2 ^ n := Nat.lt_of_le_of_lt Nat.and_le_left ha
theorem andN_bit (a b i : Nat) (hb : b < 18446744073709551616) (hi : i < 64) : (andN a b).testBit i = (a.testBit i && !b.testBit i) := by
  unfold andN
  have h := Nat.testBit_two_pow_sub_succ (x := b) (n := 64) hb i
  have h' : (18446744073709551615 - b).testBit i = (decide (i < 64) && !b.testBit i) := by
    rw [← h]; congr 1
    show 18446744073709551615 - b = 18446744073709551616 - (b + 1); omega
  rw [Nat.testBit_and, h']; simp [hi]

theorem infoStr : (Tryz.prog.info? 9).map (fun i => (i.zero, i.size, i.bytes)) = some (some (.string ⟨#[]⟩), 1, 16) := by kernel_rfl
theorem infoInt : (Tryz.prog.info? 3).map (fun i => (i.zero, i.size, i.bytes)) = some (some (.int .i64 0), 1, 8) := by kernel_rfl

theorem bitsL_lt {m n : Nat} (h : m < 2 ^ n) : ∀ x ∈ bitsL m, 0 ≤ x ∧ x < n ∧ x < 64 := by
  intro x hx
  unfold bitsL at hx
  simp only [List.mem_map, List.mem_filter, List.mem_range] at hx
  obtain ⟨i, ⟨h1, h2⟩, rfl⟩ := hx
  refine ⟨by omega, ?_, by omega⟩
  rcases Nat.lt_or_ge i n with hi | hi
  · omega
  · have : m.testBit i = false := Nat.testBit_lt_two_pow (Nat.lt_of_lt_of_le h (Nat.pow_le_pow_right (by omega) hi))
    rw [this] at h2; cases h2
end Go.Proofs.YtjhdeoniafahbaaGreatDoor

/-
  The reference's charset functions: Kind, Letters, right, Check, IsWord, IsName.
-/
namespace Go.Proofs.YtjhdeoniafahbaaGreatDoor
open Go.RowKit

set_option maxHeartbeats 2000000 in
theorem rkind_any (c : Int) (h0 : 0 ≤ c) (h1 : c ≤ 255) (w : World) :
    Calls Tryz.prog 150 #[.int .u8 c] w fun e w' => e = .returned (.int .i64 (kindI c)) ∧ w = w' := by
  have hcs : (c = 94 ∨ c = 126 ∨ c = 37 ∨ c = 39 ∨ c = 32 ∨ c = 46 ∨ c = 44 ∨ c = 59 ∨ c = 58 ∨ c = 33 ∨ c = 63 ∨ c = 40 ∨ c = 41 ∨ c = 45) ∨
      ((97 ≤ c ∧ c ≤ 122) ∨ (65 ≤ c ∧ c ≤ 90)) ∨ (48 ≤ c ∧ c ≤ 57) ∨
      (¬ ((97 ≤ c ∧ c ≤ 122) ∨ (65 ≤ c ∧ c ≤ 90)) ∧ ¬ (48 ≤ c ∧ c ≤ 57) ∧ (c ≠ 94 ∧ c ≠ 126 ∧ c ≠ 37 ∧ c ≠ 39 ∧ c ≠ 32 ∧ c ≠ 46 ∧ c ≠ 44 ∧ c ≠ 59 ∧ c ≠ 58 ∧ c ≠ 33 ∧ c ≠ 63 ∧ c ≠ 40 ∧ c ≠ 41 ∧ c ≠ 45)) := by omega
  rcases hcs with h | h | h | h
  · rcases h with rfl | rfl | rfl | rfl | rfl | rfl | rfl | rfl | rfl | rfl | rfl | rfl | rfl | rfl
    all_goals
      go_enter Tryz.func150, Tryz.ntmps150
      go_wp2
      go_ret
      exact ⟨rfl, rfl⟩
  · have HK : Hid (kindI c = 1) := by unfold kindI; rw [if_pos h]; rfl
    rcases h with ⟨ha, hb⟩ | ⟨ha, hb⟩
    · go_enter Tryz.func150, Tryz.ntmps150
      go_wp2
      go_ret
      exact ⟨ret_int HK.out.symm, rfl⟩
    · go_enter Tryz.func150, Tryz.ntmps150
      go_wp2
      go_ret
      exact ⟨ret_int HK.out.symm, rfl⟩
  · have HK : Hid (kindI c = 3) := by unfold kindI; rw [if_neg (by omega), if_neg (by omega), if_pos h]; rfl
    obtain ⟨ha, hb⟩ := h
    have hb1 : (c == 94) = false := beq_eq_false_iff_ne.2 (by omega)
    have hb2 : (c == 126) = false := beq_eq_false_iff_ne.2 (by omega)
    have hb3 : (c == 37) = false := beq_eq_false_iff_ne.2 (by omega)
    go_enter Tryz.func150, Tryz.ntmps150
    go_wp2
    go_ret
    exact ⟨ret_int HK.out.symm, rfl⟩
  · obtain ⟨hl, hd, n1, n2, n3, n4, n5, n6, n7, n8, n9, n10, n11, n12, n13, n14⟩ := h
    have HK : Hid (kindI c = 0) := by unfold kindI; rw [if_neg hl, if_neg (by omega), if_neg hd, if_neg n4, if_neg n5, if_neg (by omega)]; rfl
    have b1 := beq_eq_false_iff_ne.2 n1; have b2 := beq_eq_false_iff_ne.2 n2; have b3 := beq_eq_false_iff_ne.2 n3; have b4 := beq_eq_false_iff_ne.2 n4
    have b5 := beq_eq_false_iff_ne.2 n5; have b6 := beq_eq_false_iff_ne.2 n6; have b7 := beq_eq_false_iff_ne.2 n7; have b8 := beq_eq_false_iff_ne.2 n8
    have b9 := beq_eq_false_iff_ne.2 n9; have b10 := beq_eq_false_iff_ne.2 n10; have b11 := beq_eq_false_iff_ne.2 n11; have b12 := beq_eq_false_iff_ne.2 n12
    have b13 := beq_eq_false_iff_ne.2 n13; have b14 := beq_eq_false_iff_ne.2 n14
    clear n1 n2 n3 n4 n5 n6 n7 n8 n9 n10 n11 n12 n13 n14
    have hcase : (c < 48 ∨ (57 < c ∧ c < 65)) ∨ (90 < c ∧ c < 97) ∨ 122 < c := by omega
    clear hl hd
    rcases hcase with (h | ⟨h, h'⟩) | ⟨h, h'⟩ | h
    all_goals
      go_enter Tryz.func150, Tryz.ntmps150
      go_wp2
      go_ret
      exact ⟨ret_int HK.out.symm, rfl⟩

set_option maxHeartbeats 400000 in
theorem rletters_any (s : ByteArray) (w : World) (hs : s.size ≤ maxLen) :
    Calls Tryz.prog 155 #[.string s] w fun e w' => e = .returned (.int .i64 (lettersI s.data.toList)) ∧ w = w' := by
  unfold maxLen at hs
  go_enter Tryz.func155, Tryz.ntmps155
  go_wp2
  go_loop [3, 4] (fun n i => ∃ k : Nat, k ≤ s.size ∧ i = .int .i64 k ∧ n = .int .i64 (lettersI (s.data.toList.take k))) (fun _ i => s.size - (intOf i).toNat)
  case atStart => exact ⟨0, Nat.zero_le _, rfl, rfl⟩
  case round =>
    obtain ⟨k, hk, rfl, rfl⟩ := hrel
    have hd := lettersI_le (s.data.toList.take k)
    have hl : (s.data.toList.take k).length ≤ k := List.length_take_le _ _
    by_cases hlt : k < s.size
    · have hsn := lettersI_snoc (s.data.toList.take k) s[k]
      rw [← take_snoc s k hlt] at hsn
      have HS := hid hsn
      clear hsn
      have hu : 0 ≤ (s[k].toNat : Int) ∧ (s[k].toNat : Int) ≤ 255 := ⟨by omega, by have := UInt8.toNat_lt s[k]; omega⟩
      by_cases h1 : kindI s[k].toNat = 1
      · rw [if_pos (by simp [isLet, h1])] at HS
        have b1 := beq_iff_eq.2 h1
        clear h1
        go_wp2_with (go_at_call 150; refine (rkind_any _ (by omega) (by omega) _).mono ?_; rintro e w' ⟨rfl, rfl⟩)
        go_round
        case rel => exact ⟨k + 1, by omega, by go_num, by rw [HS.out]⟩
        case measure => simp [intOf]; omega
      · have b1 := beq_eq_false_iff_ne.2 h1
        by_cases h3 : kindI s[k].toNat = 3
        · rw [if_pos (by simp [isLet, h3])] at HS
          have b3 := beq_iff_eq.2 h3
          clear h1 h3
          go_wp2_with (go_at_call 150; refine (rkind_any _ (by omega) (by omega) _).mono ?_; rintro e w' ⟨rfl, rfl⟩)
          go_round
          case rel => exact ⟨k + 1, by omega, by go_num, by rw [HS.out]⟩
          case measure => simp [intOf]; omega
        · rw [if_neg (by simp [isLet, h1, h3])] at HS
          have b3 := beq_eq_false_iff_ne.2 h3
          clear h1 h3
          go_wp2_with (go_at_call 150; refine (rkind_any _ (by omega) (by omega) _).mono ?_; rintro e w' ⟨rfl, rfl⟩)
          go_round
          case rel => exact ⟨k + 1, by omega, by go_num, by rw [HS.out]; go_num⟩
          case measure => simp [intOf]; omega
    · go_wp2
      go_ret
      exact ⟨ret_int (by rw [List.take_of_length_le (by simp; omega)]), rfl⟩
end Go.Proofs.YtjhdeoniafahbaaGreatDoor

/-
  Arguments that came in, read as lists.
-/
namespace Go.Proofs.YtjhdeoniafahbaaGreatDoor
open Go.ChangeShapes Go.WideShapes Go.ChangeAt Go.RowKit Go.Deep

section
variable {H : Type} {enc : TypeId × Value → H} {P : Program} {W : World} {base : Nat} {spare : Nat → Bool} {held : Bool}

theorem spot_of {b off : Nat} {spot : Option Nat} {y : Value} (h : W.cell? ((⟨b, off, spot⟩ : Addr).add 0) = some y) : spot = none := by
  have h1 := World.cell?_spot h
  simpa [Addr.add] using h1
theorem plain_of {b off i : Nat} {x : Value} (h : W.cell? ((⟨b, off, none⟩ : Addr).add i) = some x) : W.cell? ⟨b, off + i, none⟩ = some x := by
  rwa [Go.WideShapes.add_plain] at h

theorem rdS_of {t e : TypeId} {fuel : Nat} {v : Value} {x : DataW H × List MemPlace} (ht : P.underlying t = some (.slice e)) (he : P.underlying e = some .string) (hc : P.cellsOf e = 1)
    (hf : DataW.trod enc P W base spare held fuel t [v] = some x) : ∃ l, RdS W v l ∧ Szs l := by
  rcases open_strings ht he hc hf with ⟨hcs, _⟩ | ⟨a, len, cap, ss, hcs, _, hl, hm, hz, _, hcell, hsz⟩
  · simp only [List.cons.injEq, and_true] at hcs
    subst hcs
    exact ⟨[], Rd.nil W, fun s h => by cases h⟩
  · simp only [List.cons.injEq, and_true] at hcs
    subst hcs
    have hlen : len ≤ ss.length := by rw [hz]; split <;> omega
    have hlt : (ss.take len).length = len := by rw [List.length_take]; omega
    obtain ⟨b, off, spot⟩ := a
    refine ⟨ss.take len, ⟨some ⟨b, off, spot⟩, cap, by rw [hlt], by rw [hlt]; exact hl, hm, fun i x hx => ?_⟩, fun s hs => hsz s (List.mem_of_mem_take hs)⟩
    have hi : i < len := by have := (List.getElem?_eq_some_iff.1 hx).1; omega
    obtain rfl := spot_of (hcell 0 (by omega))
    refine ⟨b, off, rfl, ?_⟩
    rw [plain_of (hcell i (by omega))]
    rw [List.getElem?_take_of_lt hi] at hx
    simp [List.getD, hx]

theorem rdI_of {t e : TypeId} {fuel : Nat} {v : Value} {x : DataW H × List MemPlace} (ht : P.underlying t = some (.slice e)) (he : P.underlying e = some (.int .i64)) (hc : P.cellsOf e = 1)
    (hf : DataW.trod enc P W base spare held fuel t [v] = some x) : ∃ l, RdI W v l := by
  rcases open_slice1 ht hc hf with ⟨hcs, _⟩ | ⟨a, len, cap, m, n, V, D, Pl, hcs, _, hl, hm, hmm, _, hcell⟩
  · simp only [List.cons.injEq, and_true] at hcs
    subst hcs
    exact ⟨[], Rd.nil W⟩
  · simp only [List.cons.injEq, and_true] at hcs
    subst hcs
    have hlen : len ≤ m := by rw [hmm]; split <;> omega
    obtain ⟨b, off, spot⟩ := a
    have hex : ∀ i, i < len → ∃ z : Int, W.cell? ((⟨b, off, spot⟩ : Addr).add i) = some (.int .i64 z) := by
      intro i hi
      obtain ⟨h1, h2⟩ := hcell i (by omega)
      obtain ⟨z, hz, _⟩ := DataW.trod_int he h2
      simp only [List.cons.injEq, and_true] at hz
      exact ⟨z, by rw [h1, hz]⟩
    obtain ⟨f, hf⟩ := choose_lt hex
    refine ⟨(List.range len).map f, ⟨some ⟨b, off, spot⟩, cap, by simp, by simpa using hl, hm, fun i x hx => ?_⟩⟩
    have hi : i < len := by have := (List.getElem?_eq_some_iff.1 hx).1; simpa using this
    obtain rfl := spot_of (hf 0 (by omega))
    refine ⟨b, off, rfl, ?_⟩
    rw [plain_of (hf i hi)]
    simp only [List.getElem?_map, List.getElem?_range hi, Option.map_some, Option.some.injEq] at hx
    rw [hx]

instance : Inhabited Grp := ⟨⟨ByteArray.empty, []⟩⟩

theorem rdG_of {t e : TypeId} {f0 f1 : Field} {q : TypeId} {fuel : Nat} {v : Value} {x : DataW H × List MemPlace} (ht : P.underlying t = some (.slice e)) (he : P.underlying e = some (.struct #[f0, f1]))
    (ce : P.cellsOf e = 2) (o0 : f0.offset = 0) (o1 : f1.offset = 1) (c0 : P.cellsOf f0.type = 1) (c1 : P.cellsOf f1.type = 1)
    (h0 : P.underlying f0.type = some .string) (h1 : P.underlying f1.type = some (.slice q)) (hq : P.underlying q = some (.int .i64)) (cq : P.cellsOf q = 1)
    (hf : DataW.trod enc P W base spare held fuel t [v] = some x) : ∃ l, RdG W v l ∧ SzG l := by
  rcases open_slice_pairs ht he ce o0 o1 c0 c1 hf with ⟨hcs, _⟩ | ⟨a, len, cap, m, n, V0, V1, D0, D1, P0, P1, hcs, _, hl, hm, hmm, _, hcell⟩
  · simp only [List.cons.injEq, and_true] at hcs
    subst hcs
    exact ⟨[], RdG.nil W, fun s h => by cases h⟩
  · simp only [List.cons.injEq, and_true] at hcs
    subst hcs
    have hlen : len ≤ m := by rw [hmm]; split <;> omega
    obtain ⟨b, off, spot⟩ := a
    have hex : ∀ i, i < len → ∃ g : Grp, W.cell? ((⟨b, off, spot⟩ : Addr).add (i * 2)) = some (.string g.name) ∧ W.cell? ((⟨b, off, spot⟩ : Addr).add (i * 2 + 1)) = some (V1 i) ∧ RdI W (V1 i) g.mem ∧ g.name.size ≤ maxLen := by
      intro i hi
      obtain ⟨a0, a1, b0, b1⟩ := hcell i (by omega)
      obtain ⟨s, hs, _, hw⟩ := DataW.trod_string h0 b0
      simp only [List.cons.injEq, and_true] at hs
      obtain ⟨l, hl⟩ := rdI_of h1 hq cq b1
      exact ⟨⟨s, l⟩, by rw [a0, hs], a1, hl, hw⟩
    obtain ⟨f, hf⟩ := choose_lt hex
    refine ⟨(List.range len).map f, ⟨some ⟨b, off, spot⟩, cap, by simp, by simpa using hl, hm, fun i x hx => ?_⟩, fun g hg => ?_⟩
    · have hi : i < len := by have := (List.getElem?_eq_some_iff.1 hx).1; simpa using this
      obtain ⟨a0, a1, a2, _⟩ := hf i hi
      obtain rfl := spot_of (by simpa using (hf 0 (by omega)).1)
      have e0 := plain_of a0
      have e1 := plain_of a1
      simp only [List.getElem?_map, List.getElem?_range hi, Option.map_some, Option.some.injEq] at hx
      subst hx
      exact ⟨b, off, V1 i, rfl, e0, by rw [Nat.add_assoc]; exact e1, a2⟩
    · obtain ⟨i, hi, rfl⟩ := List.mem_map.1 hg
      exact (hf i (List.mem_range.1 hi)).2.2.2
end
end Go.Proofs.YtjhdeoniafahbaaGreatDoor

/-
  Five arguments that came in.
-/
namespace Go.Proofs.YtjhdeoniafahbaaGreatDoor
open Go.ChangeShapes Go.WideShapes Go.ChangeAt Go.RowKit Go.Deep

section
variable {H : Type} {enc : TypeId × Value → H} {P : Program} {w : World} {base : Nat} {spare : Nat → Bool} {held : Bool}
theorem trodAll_five {t0 t1 t2 t3 t4 : TypeId} {args : Array Value} {ds : List (DataW H)} {ps : List MemPlace} (h : DataW.TrodAll enc P w base spare held [t0, t1, t2, t3, t4] args.toList ds ps) :
    ∃ v0 v1 v2 v3 v4 d0 d1 d2 d3 d4 p0 p1 p2 p3 p4, args = #[v0, v1, v2, v3, v4] ∧ ds = [d0, d1, d2, d3, d4] ∧ ps = p0 ++ p1 ++ p2 ++ p3 ++ p4 ∧ DataW.Trod enc P w base spare held t0 v0 d0 p0 ∧ DataW.Trod enc P w base spare held t1 v1 d1 p1 ∧ DataW.Trod enc P w base spare held t2 v2 d2 p2 ∧
      DataW.Trod enc P w base spare held t3 v3 d3 p3 ∧ DataW.Trod enc P w base spare held t4 v4 d4 p4 := by
  obtain ⟨v0, vs0, d0, ds0, p0, q0, hargs, rfl, rfl, h0, hr0⟩ := trodAll_cons h
  obtain ⟨v1, vs1, d1, ds1, p1, q1, rfl, rfl, rfl, h1, hr1⟩ := trodAll_cons hr0
  obtain ⟨v2, vs2, d2, ds2, p2, q2, rfl, rfl, rfl, h2, hr2⟩ := trodAll_cons hr1
  obtain ⟨v3, vs3, d3, ds3, p3, q3, rfl, rfl, rfl, h3, hr3⟩ := trodAll_cons hr2
  obtain ⟨v4, vs4, d4, ds4, p4, q4, rfl, rfl, rfl, h4, hr4⟩ := trodAll_cons hr3
  obtain ⟨rfl, rfl, rfl⟩ := trodAll_nil hr4
  exact ⟨v0, v1, v2, v3, v4, d0, d1, d2, d3, d4, p0, p1, p2, p3, p4, by cases args; simp_all, rfl, by simp, h0, h1, h2, h3, h4⟩
theorem trodAll_mk5 {t0 t1 t2 t3 t4 : TypeId} {v0 v1 v2 v3 v4 : Value} {d0 d1 d2 d3 d4 : DataW H} {p0 p1 p2 p3 p4 : List MemPlace} (h0 : DataW.Trod enc P w base spare held t0 v0 d0 p0) (h1 : DataW.Trod enc P w base spare held t1 v1 d1 p1)
    (h2 : DataW.Trod enc P w base spare held t2 v2 d2 p2) (h3 : DataW.Trod enc P w base spare held t3 v3 d3 p3) (h4 : DataW.Trod enc P w base spare held t4 v4 d4 p4) :
    DataW.TrodAll enc P w base spare held [t0, t1, t2, t3, t4] [v0, v1, v2, v3, v4] [d0, d1, d2, d3, d4] (p0 ++ (p1 ++ (p2 ++ (p3 ++ p4)))) := ⟨p0, p1 ++ (p2 ++ (p3 ++ p4)), h0, trodAll_mk4 h1 h2 h3 h4, rfl⟩
end
end Go.Proofs.YtjhdeoniafahbaaGreatDoor

/-
  Contracts of the library's functions on slices, at this program's element types.
-/
namespace Go.Proofs.YtjhdeoniafahbaaGreatDoor
open Go.RowKit

set_option maxHeartbeats 400000 in
theorem indexS_any (v : Value) (l : List ByteArray) (s : ByteArray) (w : World) (hr : RdS w v l) :
    Calls Tryz.prog 102 #[v, .string s] w fun e w' => e = .returned (.int .i64 (fIdx (fun x => decide (s = x)) l)) ∧ w = w' := by
  obtain ⟨a, cap, rfl, hlc, hcm, hcell⟩ := hr.open
  have HCell := hid hcell; clear hcell
  go_enter Tryz.func102, Tryz.ntmps102
  go_wp2
  go_loop [8] (fun i => ∃ k : Nat, k ≤ l.length ∧ i = .int .i64 k ∧ Hid (∀ y ∈ l.take k, decide (s = y) = false)) (fun i => l.length - (intOf i).toNat)
  case atStart => exact ⟨0, Nat.zero_le _, rfl, by simp [Hid]⟩
  case round =>
    obtain ⟨k, hk, rfl, HK⟩ := hrel
    by_cases hlt : k < l.length
    · obtain ⟨x, b, off, hx, rfl, hc⟩ := HCell.out k hlt
      have HX := hid hx; clear hx
      have hb := ba_beq s x
      by_cases he : s = x
      · have hb' : (s.toList == x.toList) = true := by rw [hb]; simpa using he
        clear hb
        have HE := hid he; clear he
        go_wp2
        go_ret
        exact ⟨ret_int (fIdx_hit _ l k x HK.out HX.out (decide_eq_true HE.out)).symm, rfl⟩
      · have hb' : (s.toList == x.toList) = false := by rw [hb]; simpa using he
        clear hb
        have HE := hid he; clear he
        go_wp2
        go_round
        case rel => exact ⟨k + 1, by omega, by go_num, take_none HK.out HX.out (decide_eq_false HE.out)⟩
        case measure => simp [intOf]; omega
    · go_wp2
      go_ret
      refine ⟨ret_int ?_, rfl⟩
      have h := HK.out
      rw [List.take_of_length_le (by omega)] at h
      exact (fIdx_none _ l h).symm

set_option maxHeartbeats 400000 in
theorem equalS_any (v u : Value) (l m : List ByteArray) (w : World) (hr : RdS w v l) (hs : RdS w u m) :
    Calls Tryz.prog 35 #[v, u] w fun e w' => e = .returned (.bool (decide (l = m))) ∧ Below w.heap.size w w' := by
  obtain ⟨a, cap, rfl, hlc, hcm, hcell⟩ := hr.open
  obtain ⟨a2, cap2, rfl, hlc2, hcm2, hcell2⟩ := hs.open
  have HCell := hid hcell; clear hcell
  have HCell2 := hid hcell2; clear hcell2
  by_cases hlen : l.length = m.length
  · have b1 : ((l.length : Int) != (m.length : Int)) = false := by simp [hlen]
    have HL := hid hlen; clear hlen
    go_enter Tryz.func35, Tryz.ntmps35
    go_wp2
    go_loopw [13] (fun i wr => ∃ k : Nat, k ≤ l.length ∧ i = .int .i64 k ∧ Hid (l.take k = m.take k) ∧ Below w.heap.size w wr) (fun i _ => l.length - (intOf i).toNat)
    case atStart => exact ⟨0, Nat.zero_le _, rfl, by simp [Hid], Below.refl _ _⟩
    case round =>
      rename_i wr
      obtain ⟨k, hk, rfl, HK, hB⟩ := hrel
      by_cases hlt : k < l.length
      · obtain ⟨x, b, off, hx, rfl, hc0⟩ := HCell.out k hlt
        obtain ⟨y, b2, off2, hy, rfl, hd0⟩ := HCell2.out k (by have := HL.out; omega)
        have hc := Below.keeps hB _ _ hc0
        have hd := Below.keeps hB _ _ hd0
        clear hc0 hd0
        have HX := hid hx; clear hx
        have HY := hid hy; clear hy
        have hlt2 : k < m.length := by have := HL.out; omega
        by_cases he : x = y
        · have hb' : (!x.toList == y.toList) = false := by rw [ba_beq]; simp [he]
          have HE := hid he; clear he
          go_wp2
          go_quiet (fail)
          go_wp2
          go_roundw
          case rel => exact ⟨k + 1, by omega, by go_num, take_eq_step HK.out HX.out HY.out HE.out, below_drewN hB _⟩
          case measure => simp [intOf]; omega
        · have hb' : (!x.toList == y.toList) = true := by rw [ba_beq]; simpa using he
          have HE := hid he; clear he
          go_wp2
          go_quiet (fail)
          go_wp2
          go_ret
          exact ⟨ret_bool (decide_eq_false (ne_of_at HX.out HY.out HE.out)).symm, below_drewN hB _⟩
      · go_wp2
        go_ret
        refine ⟨ret_bool ?_, hB⟩
        have h := HK.out
        rw [List.take_of_length_le (by omega), List.take_of_length_le (by have := HL.out; omega)] at h
        exact (decide_eq_true h).symm
  · have b1 : ((l.length : Int) != (m.length : Int)) = true := by simpa using (fun e => hlen (Int.ofNat.inj e))
    go_enter Tryz.func35, Tryz.ntmps35
    go_wp2
    go_ret
    exact ⟨ret_bool (decide_eq_false (fun e => hlen (by rw [e]))).symm, Below.refl _ _⟩

def cmpI (a b : Int) : Int := if a < b then -1 else if b < a then 1 else 0

/-- lexicographic comparison -/
def lexI : List Int → List Int → Int
  | [], [] => 0
  | [], _ :: _ => -1
  | _ :: _, [] => 1
  | x :: l, y :: m => if cmpI x y = 0 then lexI l m else cmpI x y

theorem lexI_drop (l m : List Int) (k : Nat) (x y : Int) (hx : l[k]? = some x) (hy : m[k]? = some y) : lexI (l.drop k) (m.drop k) = if cmpI x y = 0 then lexI (l.drop (k + 1)) (m.drop (k + 1)) else cmpI x y := by
  obtain ⟨hk, rfl⟩ := List.getElem?_eq_some_iff.1 hx
  obtain ⟨hk2, rfl⟩ := List.getElem?_eq_some_iff.1 hy
  rw [List.drop_eq_getElem_cons hk, List.drop_eq_getElem_cons hk2]; rfl
theorem lexI_short (l m : List Int) (k : Nat) (hk : k < l.length) (hk2 : m.length ≤ k) : lexI (l.drop k) (m.drop k) = 1 := by
  rw [List.drop_eq_getElem_cons hk, List.drop_of_length_le hk2]; rfl
theorem lexI_end (l m : List Int) (k : Nat) (hk : l.length ≤ k) : lexI (l.drop k) (m.drop k) = if k < m.length then -1 else 0 := by
  rw [List.drop_of_length_le hk]
  split
  · next h => rw [List.drop_eq_getElem_cons h]; rfl
  · next h => rw [List.drop_of_length_le (by omega)]; rfl

def sortedB : List Int → Bool
  | x :: y :: l => decide (x ≤ y) && sortedB (y :: l)
  | _ => true

theorem sortedB_iff (l : List Int) : sortedB l = true ↔ ∀ (k : Nat) (x y : Int), l[k]? = some x → l[k + 1]? = some y → x ≤ y := by
  induction l with
  | nil => simp [sortedB]
  | cons a l ih =>
    cases l with
    | nil => simp [sortedB]
    | cons b l =>
      simp only [sortedB, Bool.and_eq_true, decide_eq_true_eq, ih]
      constructor
      · rintro ⟨h1, h2⟩ k x y hx hy
        cases k with
        | zero => simp at hx hy; omega
        | succ k => exact h2 k x y (by simpa using hx) (by simpa using hy)
      · intro h
        exact ⟨h 0 a b rfl rfl, fun k x y hx hy => h (k + 1) x y (by simpa using hx) (by simpa using hy)⟩

end Go.Proofs.YtjhdeoniafahbaaGreatDoor

/-
  Contracts: closures on a group's name; IndexFunc, ContainsFunc; Clone; Concat.
-/
namespace Go.Proofs.YtjhdeoniafahbaaGreatDoor
open Go.RowKit

set_option maxHeartbeats 400000 in
theorem indexFuncI_any (K : Nat) (eK : ∀ args w, (callFunc K args).run Tryz.prog w = .ok (.enter K args) w) (c : Value) (p : Int → Bool) (v : Value) (l : List Int) (w : World) (hr : RdI w v l)
    (hC : ∀ (x : Int) (W' : World), Below w.heap.size w W' → Calls Tryz.prog K #[.int .i64 x, c] W' fun e W'' => e = .returned (.bool (p x)) ∧ Below W'.heap.size W' W'') :
    Calls Tryz.prog 84 #[v, .func (.func K) #[] #[c]] w fun e w' => e = .returned (.int .i64 (fIdx p l)) ∧ Below w.heap.size w w' := by
  obtain ⟨a, cap, rfl, hlc, hcm, hcell⟩ := hr.open
  have HCell := hid hcell; clear hcell
  have HC := hid hC; clear hC
  go_enter Tryz.func84, Tryz.ntmps84
  go_wp2
  go_loopw [8] (fun i wr => ∃ k : Nat, k ≤ l.length ∧ i = .int .i64 k ∧ Hid (∀ y ∈ l.take k, p y = false) ∧ Below w.heap.size w wr) (fun i _ => l.length - (intOf i).toNat)
  case atStart => exact ⟨0, Nat.zero_le _, rfl, by simp [Hid], Below.refl _ _⟩
  case round =>
    rename_i wr
    obtain ⟨k, hk, rfl, HK, hB⟩ := hrel
    by_cases hlt : k < l.length
    · obtain ⟨x, b, off, hx, rfl, hc0⟩ := HCell.out k hlt
      have hc := Below.keeps hB _ _ hc0
      clear hc0
      have HX := hid hx; clear hx
      by_cases hp : p x = true
      · have HP := hid hp
        go_wp2_with (refine (HC.out _ _ hB).mono ?_; rintro e w' ⟨rfl, hB'⟩)
        go_ret
        exact ⟨ret_int (fIdx_hit _ l k x HK.out HX.out HP.out).symm, hB.trans (hB'.mono hB.size)⟩
      · have hp' : p x = false := by simpa using hp
        have HP := hid hp'
        clear hp
        go_wp2_with (refine (HC.out _ _ hB).mono ?_; rintro e w' ⟨rfl, hB'⟩)
        go_roundw
        case rel => exact ⟨k + 1, by omega, by go_num, take_none HK.out HX.out HP.out, hB.trans (hB'.mono hB.size)⟩
        case measure => simp [intOf]; omega
    · go_wp2
      go_ret
      refine ⟨ret_int ?_, hB⟩
      have h := HK.out
      rw [List.take_of_length_le (by omega)] at h
      exact (fIdx_none _ l h).symm

end Go.Proofs.YtjhdeoniafahbaaGreatDoor

/-
  'out = append(out, x)' of one element, and where the new slice lies; in a round's frame too.
-/
namespace Go.Proofs.YtjhdeoniafahbaaGreatDoor
open Go.RowKit

theorem run_ap {P : Program} {W : World} (t ty : TypeId) (base : Nat) (e : TypeId) {z : Value} {size bytes : Nat} (ht : P.underlying t = some (.slice e)) (hi : (P.info? e).map (fun i => (i.zero, i.size, i.bytes)) = some (some z, size, bytes))
    (hzs : z.cells.size = size) (hsz : 0 < size) (hby : bytes ≤ 64)
    (v : Value) (n : Nat) (xs : List Value) (hown : W.ownsRow base e size v n xs) (news : List Value) (hl : news.length = size) (h1 : ∀ u ∈ news, u.oneCell' = true)
    (hn : n + 1 ≤ 4294967296) (hbase : base ≤ W.heap.size) :
    ∃ g cap w', (Builtin.append_ #[t, t] ty #[v, .slice (some ⟨W.heap.size, 0, none⟩) 1 1]).run P (W.alloc (.cells news.toArray e)) = .ok (.slice (some ⟨g, 0, none⟩) (n + 1) cap) w' ∧
      w'.ownsRow base e size (.slice (some ⟨g, 0, none⟩) (n + 1) cap) (n + 1) (xs ++ news) ∧ Below base W w' ∧ W.grownBy w' v.ownBlock ∧ (v.ownBlock = some g ∨ W.heap.size < g) ∧ g < w'.heap.size := by
  obtain ⟨i, hi1, hi2, hi3, hi4⟩ := info_parts hi
  have hbb : (n + 1) * bytes ≤ 140737488355328 := by
    have : (n + 1) * bytes ≤ 4294967296 * 64 := Nat.mul_le_mul hn hby
    omega
  obtain ⟨g, cap, w', hr, ho', hg', hat, hlt⟩ := run_append_lies (P := P) (W.alloc (.cells news.toArray e)) t ty base e i z size bytes ht hi1 hi2 hi3 hi4 hzs hsz v n xs (hown.alloc _) ⟨W.heap.size, 0, none⟩ 1 1 news (by omega)
    (by
      intro j u hj
      have hlt := (List.getElem?_eq_some_iff.1 hj).1
      have hadd : (⟨W.heap.size, 0, none⟩ : Addr).add j = ⟨W.heap.size, j, none⟩ := by unfold Addr.add; split <;> simp_all
      rw [hadd, cell_of_row _ W.heap.size j news.toArray e (0, 0) (heap_alloc_new W _)]
      simpa using hj) h1 (by omega) (by unfold maxLen; omega) hbb (by simp; omega) (W.heap.size + 1) (by simp)
  have hg : W.grownBy w' v.ownBlock := ⟨hg'.os, hg'.tape, hg'.output, Nat.le_trans (by simp) hg'.size, fun k hk hne => (hg'.block k (by simp; omega) hne).trans (Below.heap_alloc W _ k hk)⟩
  exact ⟨g, cap, w', hr, ho', (Below.refl _ _).grown hg hbase (fun k hk => (hown.lt k hk).1), hg, hat.imp id (fun h => by omega), hlt⟩

theorem wpList_ap2 {P : Program} {ops : Array Oper} {rest : List Oper} {o : Oper} {a : Act} {Q : Exit → Act → World → Prop} {W : World} (hgd : o.guard = none) (s x : Operand) (t : TypeId)
    (ho : o.op = .call { callee := .builtin .append, args := #[s, x], argTypes := #[t, t] })
    (base : Nat) (e : TypeId) {z : Value} {size bytes : Nat} (ht : P.underlying t = some (.slice e)) (hi : (P.info? e).map (fun i => (i.zero, i.size, i.bytes)) = some (some z, size, bytes))
    (hzs : z.cells.size = size) (hsz : 0 < size) (hby : bytes ≤ 64)
    (v : Value) (n : Nat) (xs : List Value) (hs : a.eval s = v) (hown : W.ownsRow base e size v n xs) (news : List Value) (hl : news.length = size) (h1 : ∀ u ∈ news, u.oneCell' = true)
    {N : Nat} (hx : a.eval x = .slice (some ⟨N, 0, none⟩) 1 1) (hN : N = W.heap.size) (hn : n + 1 ≤ 4294967296) (hbase : base ≤ W.heap.size)
    (h : ∀ g cap w', w'.ownsRow base e size (.slice (some ⟨g, 0, none⟩) (n + 1) cap) (n + 1) (xs ++ news) → Below base W w' → W.grownBy w' v.ownBlock → (v.ownBlock = some g ∨ W.heap.size < g) → g < w'.heap.size →
      wpList P ops Q rest (a.put o.dst (.slice (some ⟨g, 0, none⟩) (n + 1) cap)) w') :
    wpList P ops Q (o :: rest) a (W.alloc (.cells news.toArray e)) := by
  subst hN
  refine wpList_plain hgd fun K hK => ?_
  obtain ⟨g, cap, w', hr, h2, h3, h4, h5, h6⟩ := run_ap (P := P) t o.type base e ht hi hzs hsz hby v n xs hown news hl h1 hn hbase
  unfold Oper.wp execOp
  simp only [ho, resolve, invoke, builtin, Sem.run_bind, Sem.run_pure, Result.andThen_ok, List.map_toArray, List.map_cons, List.map_nil, hs, hx, hr]
  exact hK _ _ (h g cap w' h2 h3 h4 h5 h6)

theorem wpListIn_ap2 {F : Fence} {m : Nat} {P : Program} {ops : Array Oper} {rest : List Oper} {o : Oper} {a : Act} {Q : Exit → Act → World → Prop} {W : World} (hgd : o.guard = none) (s x : Operand) (t : TypeId)
    (ho : o.op = .call { callee := .builtin .append, args := #[s, x], argTypes := #[t, t] })
    (base : Nat) (e : TypeId) {z : Value} {size bytes : Nat} (ht : P.underlying t = some (.slice e)) (hi : (P.info? e).map (fun i => (i.zero, i.size, i.bytes)) = some (some z, size, bytes))
    (hzs : z.cells.size = size) (hsz : 0 < size) (hby : bytes ≤ 64)
    (v : Value) (n : Nat) (xs : List Value) (hs : a.eval s = v) (hown : W.ownsRow base e size v n xs) (news : List Value) (hl : news.length = size) (h1 : ∀ u ∈ news, u.oneCell' = true)
    {N : Nat} (hx : a.eval x = .slice (some ⟨N, 0, none⟩) 1 1) (hN : N = W.heap.size) (hn : n + 1 ≤ 4294967296) (hbase : base ≤ W.heap.size)
    (h : ∀ g cap w', w'.ownsRow base e size (.slice (some ⟨g, 0, none⟩) (n + 1) cap) (n + 1) (xs ++ news) → Below base W w' → W.grownBy w' v.ownBlock → (v.ownBlock = some g ∨ W.heap.size < g) → g < w'.heap.size →
      wpListIn F m P ops Q rest (a.put o.dst (.slice (some ⟨g, 0, none⟩) (n + 1) cap)) w') :
    wpListIn F m P ops Q (o :: rest) a (W.alloc (.cells news.toArray e)) := by
  subst hN
  refine wpListIn_plain hgd fun K hK' => ?_
  obtain ⟨g, cap, w', hr, h2, h3, h4, h5, h6⟩ := run_ap (P := P) t o.type base e ht hi hzs hsz hby v n xs hown news hl h1 hn hbase
  unfold Oper.wpIn
  refine ⟨?_, ?_⟩
  · simp [Oper.about, ho, resolve, Target.leads, Sem.run_pure]
  · rw [Oper.semAt_plain F _ _ (by rw [ho]; intro c hc'; cases hc')]
    simp [execOp, ho, resolve, invoke, builtin, hs, hx, hr, Result.andThen]
    exact hK' _ _ (h g cap w' h2 h3 h4 h5 h6)

/-- What lies in another block than the row that was written stays. -/
theorem Rd.grown {α : Type} {enc : α → Value} {W W' : World} {v : Value} {l : List α} {row : Option Nat} (h : Rd enc W v l) (hg : W.grownBy W' row) (hne : ∀ k, v.ownBlock = some k → row ≠ some k) : Rd enc W' v l := by
  obtain ⟨a, cap, rfl, h2, h3, h4⟩ := h
  refine ⟨a, cap, rfl, h2, h3, fun i x hx => ?_⟩
  obtain ⟨b, off, rfl, hc⟩ := h4 i x hx
  exact ⟨b, off, rfl, hg.cell hc (fun e => hne b rfl e.symm)⟩
theorem ownB_some {g n cap : Nat} : (Value.slice (some ⟨g, 0, none⟩) n cap).ownBlock = some g := rfl
theorem Rd.blk_lt {α : Type} {enc : α → Value} {W : World} {v : Value} {l : List α} (h : Rd enc W v l) (hne : l ≠ []) : ∀ b, v.ownBlock = some b → b < W.heap.size := by
  obtain ⟨a, cap, rfl, _, _, hc⟩ := h.open
  obtain ⟨x, b, off, _, rfl, hx⟩ := hc 0 (List.length_pos_iff.2 hne)
  intro k hk
  cases hk
  exact World.block_lt_of_cell? _ _ hx
theorem Rd.grown2 {α : Type} {enc : α → Value} {W W' : World} {v : Value} {l : List α} {row : Option Nat} (h : Rd enc W v l) (hg : W.grownBy W' row) (hne : l ≠ [] → ∀ k, v.ownBlock = some k → row ≠ some k) : Rd enc W' v l := by
  by_cases h0 : l = []
  · subst h0
    obtain ⟨a, cap, rfl, h2, h3, _⟩ := h
    exact ⟨a, cap, rfl, h2, h3, fun i x hx => by simp at hx⟩
  · exact h.grown hg (hne h0)

/-- The row o is written; what v leads to is not in it. -/
def Apart {α : Type} (l : List α) (v o : Value) : Prop := l ≠ [] → ∀ b, v.ownBlock = some b → o.ownBlock ≠ some b
theorem Apart.app {α : Type} {enc : α → Value} {W : World} {l : List α} {v o : Value} {g n cap : Nat} (h : Apart l v o) (hr : Rd enc W v l) (hg : o.ownBlock = some g ∨ W.heap.size < g) : Apart l v (.slice (some ⟨g, 0, none⟩) n cap) := by
  intro hne b hb
  have h1 := h hne b hb
  have h2 := hr.blk_lt hne b hb
  intro e
  have e' : g = b := Option.some.inj e
  subst e'
  rcases hg with h3 | h3
  · exact h1 h3
  · omega

end Go.Proofs.YtjhdeoniafahbaaGreatDoor

/-
  For loops over a function whose body collects into a variable that lies in a box.
-/
namespace Go.Proofs.YtjhdeoniafahbaaGreatDoor
open Go.RowKit

theorem frozen_nw (W : World) (cs : Array Value) (t : TypeId) (i : Nat) {x : Value} (_ : cs[i]? = some x) : (W.alloc (.cells cs t)).frozen? ⟨W.heap.size, i, none⟩ = false := by
  have := heap_alloc_new W (.cells cs t)
  unfold World.frozen?
  rw [this]; simp
theorem frozen_al {W : World} {p : Addr} (h : W.frozen? p = false) (hp : p.block < W.heap.size) (o : Obj) : (W.alloc o).frozen? p = false := ((below_al W o).frozen hp).trans h

/-- What the rounds keep: all that lay below n₀, but for two blocks. -/
def KpX (n₀ b1 b2 : Nat) (A B : World) : Prop := A.heap.size ≤ B.heap.size ∧ ∀ k, k < n₀ → k ≠ b1 → k ≠ b2 → B.heap[k]? = A.heap[k]?
theorem KpX.tr {n₀ b1 b2 : Nat} {A B C : World} (h : KpX n₀ b1 b2 A B) (k : KpX n₀ b1 b2 B C) : KpX n₀ b1 b2 A C :=
  ⟨Nat.le_trans h.1 k.1, fun i h1 h2 h3 => (k.2 i h1 h2 h3).trans (h.2 i h1 h2 h3)⟩
theorem KpX.put {n₀ b1 b2 m : Nat} (hn : n₀ ≤ m) (W : World) (l : Nat) (o o' : Obj) (hl : m ≤ l) (_ : W.heap[l]? = some o) (_ : o.isCells = false) (_ : o.isWalk = false) : KpX n₀ b1 b2 W (W.putObj l o') :=
  ⟨by simp [World.putObj], fun k hk _ _ => World.putObj_heap_other (by omega)⟩
theorem KpX.cell {n₀ b1 b2 : Nat} {A B : World} (h : KpX n₀ b1 b2 A B) {p : Addr} {x : Value} (hx : A.cell? p = some x) (h1 : p.block < n₀) (h2 : p.block ≠ b1) (h3 : p.block ≠ b2) : B.cell? p = some x :=
  (World.cell?_of_block (h.2 p.block h1 h2 h3)).trans hx
theorem Rd.blk {α : Type} {enc : α → Value} {W W' : World} {v : Value} {l : List α} (h : Rd enc W v l) (hk : ∀ k, v.ownBlock = some k → W'.heap[k]? = W.heap[k]?) : Rd enc W' v l := by
  obtain ⟨a, cap, rfl, h2, h3, h4⟩ := h
  refine ⟨a, cap, rfl, h2, h3, fun i x hx => ?_⟩
  obtain ⟨b, off, rfl, hc⟩ := h4 i x hx
  exact ⟨b, off, rfl, (World.cell?_of_block (hk b rfl)).trans hc⟩

theorem keepsFrom_below {n : Nat} {W W' : World} (h : Below W.heap.size W W') : KeepsFrom n W W' :=
  ⟨h.size, fun k _ _ hk _ => (h.block k (Array.getElem?_eq_some_iff.1 hk).1).trans hk⟩
theorem kpX_below {n b1 b2 : Nat} {W W' : World} (h : Below W.heap.size W W') (hn : n ≤ W.heap.size) : KpX n b1 b2 W W' := ⟨h.size, fun k hk _ _ => h.block k (by omega)⟩
theorem own_below {W W' : World} {base : Nat} {e : TypeId} {size : Nat} {v : Value} {n : Nat} {xs : List Value} (h : W.ownsRow base e size v n xs) (hb : Below W.heap.size W W') : W'.ownsRow base e size v n xs :=
  h.kept (row := none) ⟨hb.os, hb.tape, hb.output, hb.size, fun k hk _ => hb.block k hk⟩ (by cases v.ownBlock <;> simp)
theorem leave2 {F : Fence} {n : Nat} {P : Program} {fn : Func} {tmps : Array Value} {R : Ending → World → Prop} {w : World} {t u : Tmp} (h : fn.results = #[.tmp t, .tmp u])
    (hR : R (.returned (.tuple #[tmps.getD t undef, tmps.getD u undef])) w) : LeavesInM F n P fn tmps R [] .returning w := ⟨_, results_tmp2 h _ _ _, hR⟩

theorem leave1 {F : Fence} {n : Nat} {P : Program} {fn : Func} {tmps : Array Value} {R : Ending → World → Prop} {w : World} {t : Tmp} (h : fn.results = #[.tmp t])
    (hR : R (.returned (tmps.getD t undef)) w) : LeavesInM F n P fn tmps R [] .returning w := ⟨_, results_tmp h _ _ _, hR⟩

/-- Between two rounds: the box B holds a slice that owns its row of strings, made behind the block n₁. -/
def InvA (wr : World) (n₁ B : Nat) (t e : TypeId) (ks : List ByteArray) (W : World) : Prop :=
  (∃ v, Boxed W B t v ∧ W.ownsRow n₁ e 1 v ks.length (ks.map Value.string)) ∧ Below wr.heap.size wr W ∧ n₁ ≤ W.heap.size
theorem InvA.own {β : Type} (wr : World) (n₁ B : Nat) (t e : TypeId) (B' : Nat) (f : β → List ByteArray) (hw : wr.heap.size ≤ B') : OwnFrom B' (fun s W => InvA wr n₁ B t e (f s) W) := by
  intro s W W' row hs hg hr
  obtain ⟨⟨v, h1, h2⟩, h7, h8⟩ := hs
  obtain ⟨v', h1', h2', _⟩ := holdsRow_own n₁ B t e 1 (fun s => (f s).length) (fun s => (f s).map Value.string) (fun _ _ => True) s W W' row ⟨v, h1, h2, trivial⟩ hg (fun r e => (hr r e).2)
  exact ⟨⟨v', h1', h2'⟩, h7.grown hg h7.size (fun k e => Nat.le_trans hw (hr k e).1), Nat.le_trans h8 hg.size⟩
theorem InvA.below {wr : World} {n₁ B : Nat} {t e : TypeId} {ks : List ByteArray} {W W' : World} (h : InvA wr n₁ B t e ks W) (hb : Below W.heap.size W W') : InvA wr n₁ B t e ks W' := by
  obtain ⟨⟨v, h1, h2⟩, h7, h8⟩ := h
  exact ⟨⟨v, (hb.block B h1.lt).trans h1, own_below h2 hb⟩, h7.trans (hb.mono h7.size), Nat.le_trans h8 hb.size⟩
theorem keeps_box {n B : Nat} {W w1 : World} {row : Option Nat} (hg : W.grownBy w1 row) (hrow : ∀ r, row = some r → n ≤ r) (hc : ∀ r, row = some r → ∃ o : Obj, W.heap[r]? = some o ∧ o.isCells = true) (hB : B < n) (hn : n ≤ W.heap.size) (v' : Value) :
    KeepsFrom n W (w1.setCell ⟨B, 0, none⟩ v') ∧ KpX n B B W (w1.setCell ⟨B, 0, none⟩ v') := by
  have hsz : (w1.setCell ⟨B, 0, none⟩ v').heap.size = w1.heap.size := by simp [World.setCell]
  refine ⟨⟨by rw [hsz]; exact hg.size, fun k o hB' hk ho => ?_⟩, ⟨by rw [hsz]; exact hg.size, fun k hk hk1 _ => ?_⟩⟩
  · rw [Below.heap_setCell _ _ _ _ (by simp; omega)]
    refine (hg.block k (Array.getElem?_eq_some_iff.1 hk).1 (fun e => ?_)).trans hk
    obtain ⟨o', ho', hc'⟩ := hc k e.symm
    rw [hk] at ho'; cases ho'; rw [ho] at hc'; cases hc'
  · rw [Below.heap_setCell _ _ _ _ (by simpa using hk1)]
    exact hg.block k (by omega) (fun e => by have := hrow k e.symm; omega)
theorem own_cells {W : World} {base : Nat} {e : TypeId} {size : Nat} {v : Value} {n : Nat} {xs : List Value} (h : W.ownsRow base e size v n xs) : ∀ r, v.ownBlock = some r → ∃ o : Obj, W.heap[r]? = some o ∧ o.isCells = true := by
  intro r hr
  rcases h.2 with ⟨rfl, _⟩ | ⟨g, cap, cur, rfl, _, hgb, _⟩
  · cases hr
  · cases hr; exact ⟨_, hgb, rfl⟩
/-- What a round leaves. -/
def bodyA (wr : World) (n₁ B : Nat) (t e : TypeId) (ks : List ByteArray) (W : World) : Exit → Act → World → Prop
  | .normal, _, W' => KeepsFrom n₁ W W' ∧ KpX n₁ B B W W' ∧ InvA wr n₁ B t e ks W'
  | _, _, _ => False
/-- Behind 'out = append(out, x)'. -/
theorem InvA.push {wr : World} {n₁ B : Nat} {t e : TypeId} {ks : List ByteArray} {W w1 : World} {v : Value} {g cap : Nat} {x : ByteArray} (hbx : Boxed W B t v) (hte : t ≠ e) (hown : W.ownsRow n₁ e 1 v ks.length (ks.map Value.string)) (hBw : Below wr.heap.size wr W) (hn : n₁ ≤ W.heap.size)
    (hB : B < n₁) (hwB : wr.heap.size ≤ B) (hown' : w1.ownsRow n₁ e 1 (.slice (some ⟨g, 0, none⟩) (ks.length + 1) cap) (ks.length + 1) (ks.map Value.string ++ [.string x])) (hgr : W.grownBy w1 v.ownBlock) :
    KeepsFrom n₁ W (w1.setCell ⟨B, 0, none⟩ (.slice (some ⟨g, 0, none⟩) (ks.length + 1) cap)) ∧ KpX n₁ B B W (w1.setCell ⟨B, 0, none⟩ (.slice (some ⟨g, 0, none⟩) (ks.length + 1) cap)) ∧
      InvA wr n₁ B t e (ks ++ [x]) (w1.setCell ⟨B, 0, none⟩ (.slice (some ⟨g, 0, none⟩) (ks.length + 1) cap)) := by
  have hv1 : Boxed w1 B t v := hbx.kept hgr (hbx.not_row hte hown)
  obtain ⟨k1, k2⟩ := keeps_box hgr (fun r hr => (hown.lt r hr).1) (own_cells hown) hB hn (.slice (some ⟨g, 0, none⟩) (ks.length + 1) cap)
  refine ⟨k1, k2, ⟨_, hv1.set _, ?_⟩, ?_, ?_⟩
  · have h := hown'.kept (grownBy_setCell' w1 B (.slice (some ⟨g, 0, none⟩) (ks.length + 1) cap)) (.inr (hv1.not_row hte hown').symm)
    simpa using h
  · exact (hBw.grown hgr hBw.size (fun k e => by have := (hown.lt k e).1; omega)).setCell (p := ⟨B, 0, none⟩) hwB _
  · have := hgr.size
    simp [World.setCell]; omega
end Go.Proofs.YtjhdeoniafahbaaGreatDoor

/-
  A loop over a function that writes a variable of its own between two rounds, in a box that was laid ahead of the loop; the body never leaves the loop.
-/
namespace Go.Proofs.YtjhdeoniafahbaaGreatDoor
open Go.RowKit

/-- What the iterator is shown to do, for every promise J that also abides its own writing to the box Bs. -/
def Yields {α : Type} (F : Fence) (n : Nat) (P : Program) (g : Nat) (lb : Array Value) (encs : α → Array Value) (Kp : World → World → Prop) (S : List α → Prop) (N Bs : Nat) (w : World) : Prop :=
  ∀ (l : Nat) (J : List α → World → Prop) (W : World), Below w.heap.size w W → AbidesFrom W.heap.size J → (∀ pre W1 v, J pre W1 → J pre (W1.setCell ⟨Bs, 0, none⟩ v)) →
    (∀ pre x W1, J pre W1 → pre.length < N → YieldAt F (n - 1) P l (encs x) W1 fun e W' => e = .returned (.bool true) ∧ J (pre ++ [x]) W' ∧ Kp W1 W') →
    J [] W → CallsIn F n P g (#[.func (.yield l) #[] #[]] ++ lb) W fun e W' => (∃ v, e = .returned v) ∧ ∃ xs, S xs ∧ J xs W'

/-- What a round of the body leaves: it goes on, always. -/
def goesOn {α : Type} (B : Nat) (Kp : World → World → Prop) (I : List α → World → Prop) (xs : List α) (W : World) : Exit → Act → World → Prop
  | .normal, _, W' => KeepsFrom B W W' ∧ Kp W W' ∧ I xs W'
  | _, _, _ => False

set_option maxHeartbeats 1000000 in
theorem wpIn_rangeFunc_box {F : Fence} {n : Nat} {P : Program} {α : Type} {g : Operand} {ps : Array Tmp} {assign body : Code} {Q : Exit → Act → World → Prop} {a : Act} {w : World}
    (hro : F.round = none) (h1 : 1 ≤ n) {gf : Nat} {lb : Array Value} (hg : a.eval g = .func (.func gf) #[] lb) (hFg : F.fn gf) (eg : ∀ args w, (callFunc gf args).run P w = .ok (.enter gf args) w)
    {encs : α → Array Value} {Kp : World → World → Prop} {S : List α → Prop} {N Bs : Nat} (hseq : Yields F (n - 1) P gf lb encs Kp S N Bs w) (hBs : Bs < w.heap.size)
    (hKt : ∀ {A B C : World}, Kp A B → Kp B C → Kp A C) (hKb : ∀ (W : World) (l : Nat) (o o' : Obj), w.heap.size ≤ l → W.heap[l]? = some o → o.isCells = false → o.isWalk = false → Kp W (W.putObj l o')) (hps : ∀ x, (encs x).size = ps.size)
    (I : List α → World → Prop) (hI : OwnFrom w.heap.size I) (hIs : ∀ pre W v, I pre W → I pre (W.setCell ⟨Bs, 0, none⟩ v)) (h0 : I [] w) (a₁ : α → Act)
    (hassign : ∀ (l : Nat) (x : α) (W : World) (K : Act → World → Prop), K (a₁ x) W →
      assign.wpIn (F.inRound l) (n - 1 - 1) P (Exit.then K (fun _ _ _ => False)) { tmps := (ps.zip (encs x)).foldl (fun t (p, v) => t.setIfInBounds p v) a.tmps, defers := [] } W)
    (hbody : ∀ (l : Nat) (pre : List α) (x : α) (W : World), I pre W → pre.length < N → body.wpIn (F.inRound l) (n - 1 - 1) P (goesOn w.heap.size Kp I (pre ++ [x]) W) (a₁ x) W)
    (hdone : ∀ (D : Nat) (xs : List α) (W : World), w.heap.size ≤ D → S xs → I xs W → W.heap[D]? = some (.deferred (some [])) → Q .normal { a with defers := { target := .collected D, args := #[] } :: a.defers } W) :
    (Code.rangeFunc g ps assign body).wpIn F n P Q a w := by
  refine wpIn_rangeFunc fun fn hfn => ?_
  rw [hro]
  let R : LoopState → Option Code → Loop := fun st pe => { state := st, pending := pe, fn, tmps := a.tmps, params := ps, assign, body, defers := w.heap.size }
  have szD : (w.alloc (.deferred (some []))).heap.size = w.heap.size + 1 := World.size_alloc _ _
  obtain ⟨V, hV⟩ : ∃ V, V = (w.alloc (.deferred (some []))).alloc (.loop (R .ready none)) := ⟨_, rfl⟩
  have szV : V.heap.size = w.heap.size + 2 := by rw [hV, World.size_alloc, szD]
  have atL : V.heap[w.heap.size + 1]? = some (.loop (R .ready none)) := by rw [hV, ← szD]; exact World.alloc_heap_new _ _
  have atD : V.heap[w.heap.size]? = some (.deferred (some [])) := by rw [hV]; exact (Below.heap_alloc _ _ _ (by simp)).trans (World.alloc_heap_new w _)
  have bV : Below w.heap.size w V := by rw [hV]; exact ((Below.refl _ w).alloc (Nat.le_refl _) _).alloc (by simp) _
  have iV : I [] V := by rw [hV]; exact hI.alloc _ (hI.alloc _ h0)
  refine ⟨w.heap.size + 1, [{ target := .collected w.heap.size, args := #[] }], V, { target := .fn (.func gf) lb, args := #[.func (.yield (w.heap.size + 1)) #[] #[]] }, V, gf,
    #[.func (.yield (w.heap.size + 1)) #[] #[]] ++ lb, V, ?_, ?_, ?_, ?_, fun _ => h1, ?_⟩
  · rw [hV]; exact run_enterLoop_outer _ _ _ _ _
  · simp only [resolve, hg]
    simp [go_sem]
  · intro f' hf'; simp [Target.leads] at hf'; subst hf'; exact hFg
  · simp [invoke, go_sem, eg]
  -- the two blocks of the loop's book-keeping stand beside I
  let J : List α → World → Prop := fun pre W => I pre W ∧ W.heap[w.heap.size + 1]? = some (.loop (R .ready none)) ∧ W.heap[w.heap.size]? = some (.deferred (some []))
  have jA : AbidesFrom V.heap.size J := by
    intro pre A B row hj hgr hr
    have keep : ∀ (k : Nat) (o : Obj), A.heap[k]? = some o → o.isWalk = false → B.heap[k]? = some o := fun k o hk ho => (grownBy_keeps hgr (fun r e => (hr r e).2) hk ho).trans hk
    refine ⟨hI pre A B row hj.1 hgr (fun r e => ?_), keep _ _ hj.2.1 rfl, keep _ _ hj.2.2 rfl⟩
    obtain ⟨hge, o, ho, hw⟩ := hr r e
    exact ⟨by omega, o, ho, Obj.not_cells_of_walk hw⟩
  have jS : ∀ pre W1 v, J pre W1 → J pre (W1.setCell ⟨Bs, 0, none⟩ v) := by
    intro pre W1 v hj
    refine ⟨hIs pre W1 v hj.1, ?_, ?_⟩
    · rw [Below.heap_setCell _ _ _ _ (by simp; omega)]; exact hj.2.1
    · rw [Below.heap_setCell _ _ _ _ (by simp; omega)]; exact hj.2.2
  refine (hseq (w.heap.size + 1) J V bV jA jS ?_ ⟨iV, atL, atD⟩).mono ?_
  · rintro pre x W ⟨hi, hl, hd⟩ hlen
    have lt : w.heap.size + 1 < W.heap.size := (Array.getElem?_eq_some_iff.1 hl).1
    refine ⟨fn, _, assign, body, run_yield (P := P) (args := encs x) hl (hps x), roundIn_of_wpIn hfn (hassign _ x W _ ⟨_, run_beginRound hl rfl, ?_⟩)⟩
    let U := W.putObj (w.heap.size + 1) (.loop { R .ready none with state := .busy })
    have uL : U.heap[w.heap.size + 1]? = some (.loop { R .ready none with state := .busy }) := World.putObj_heap_same lt
    have uD : U.heap[w.heap.size]? = some (.deferred (some [])) := (World.putObj_heap_other (by omega)).trans hd
    have uK : Kp W U := hKb _ _ _ _ (by omega) hl rfl rfl
    refine wpIn_mono (hbody _ pre x U (hI.putObj _ hi (by omega) hl rfl) hlen) ?_
    rintro e a3 W3 hp
    cases e with
    | normal =>
      obtain ⟨k3, p3, i3⟩ := hp
      have l3 := k3.same _ _ (by omega) uL rfl
      have d3 := k3.same _ _ (Nat.le_refl _) uD rfl
      refine ⟨_, _, run_endRound (P := P) none l3, rfl, ⟨hI.putObj _ i3 (by omega) l3 rfl, World.putObj_heap_same (Array.getElem?_eq_some_iff.1 l3).1, (World.putObj_heap_other (by omega)).trans d3⟩, ?_⟩
      exact hKt (hKt uK p3) (hKb _ _ _ _ (by omega) l3 rfl rfl)
    | _ => exact hp.elim
  · rintro e W2 ⟨⟨v, rfl⟩, xs, hS, hi, hl, hd⟩
    exact ⟨none, _, run_endLoop (P := P) hl (by simp [R]), hdone _ xs _ (Nat.le_refl _) hS (hI.putObj _ hi (by omega) hl rfl) ((World.putObj_heap_other (by omega)).trans hd)⟩
end Go.Proofs.YtjhdeoniafahbaaGreatDoor
