/-
  The reference of layer 42: places.
-/
import Derived.Test.YtigaflmhdbgmdaaDoorFormA
import Derived.Test.YtigaflmhdbgmdaaDoorAp
namespace Go.Proofs.YtigaflmhdbgmdaaDoor
open Go.RowKit

theorem bit_testS (m k : Nat) (hm : m < 65536) : (bits .and .i64 ((m : Int) / 2 ^ k) 1 == 0) = !m.testBit k := by
  have e1 : (m : Int) / 2 ^ k = ((m / 2 ^ k : Nat) : Int) := by simp
  have hlt : m / 2 ^ k < 65536 := Nat.lt_of_le_of_lt (Nat.div_le_self _ _) hm
  have e2 : bits .and .i64 ((m / 2 ^ k : Nat) : Int) ((1 : Nat) : Int) = ((m / 2 ^ k &&& 1 : Nat) : Int) := by
    generalize m / 2 ^ k = a at hlt
    have hx : a &&& 1 < 2 ^ 16 := Nat.and_lt_two_pow _ (by omega)
    have h1 : (BitVec.ofInt 64 (a : Int)).toNat = a := by
      rw [BitVec.ofInt_natCast, BitVec.toNat_ofNat]; exact Nat.mod_eq_of_lt (by omega)
    have h2 : (BitVec.ofInt 64 ((1 : Nat) : Int)).toNat = 1 := by decide
    show IntKind.i64.wrap ((BitVec.ofInt 64 (a : Int) &&& BitVec.ofInt 64 ((1 : Nat) : Int)).toNat : Int) = _
    rw [BitVec.toNat_and, h1, h2]
    have hw : ∀ z : Nat, z < 65536 → IntKind.i64.wrap (z : Int) = (z : Int) := by
      intro z hz
      simp [IntKind.wrap, IntKind.signed, IntKind.bits]
      omega
    exact hw _ hx
  rw [e1, show (1 : Int) = ((1 : Nat) : Int) from rfl, e2, Nat.and_one_is_mod, Nat.testBit_eq_decide_div_mod_eq]
  have hr2 : m / 2 ^ k % 2 < 2 := Nat.mod_lt _ (by omega)
  clear hlt e1 e2
  generalize m / 2 ^ k % 2 = r at *
  rw [Bool.eq_iff_iff]; simp; omega

/-- The groups of a choice: the first k. -/
def outTo (us : List Int) (c k : Nat) : List Int := (bitsTo c k).map fun j => us.getD j.toNat 0
/-- What the first k groups of a choice leave of a list. -/
def restTo (gs : List Grp) (us : List Int) (c : Nat) (l : List Int) : Nat → List Int
  | 0 => l
  | k + 1 => if c.testBit k then (restTo gs us c l k).filter fun x => !(memAt gs (us.getD k 0)).any fun y => decide (y = x) else restTo gs us c l k
def placesL (gs : List Grp) (us : List Int) (c : Nat) (l : List Int) : List Int := outTo us c us.length ++ (restTo gs us c l us.length).map fun x => (gs.length : Int) + x

theorem outTo_succ (us : List Int) (c k : Nat) (u : Int) (h : us[k]? = some u) : outTo us c (k + 1) = outTo us c k ++ if c.testBit k then [u] else [] := by
  unfold outTo
  rw [bitsTo_succ, List.map_append]
  congr 1
  cases c.testBit k with
  | false => rfl
  | true => simp [h]
theorem restTo_sub (gs : List Grp) (us : List Int) (c : Nat) (l : List Int) : ∀ k, ∀ x ∈ restTo gs us c l k, x ∈ l := by
  intro k
  induction k with
  | zero => intro x hx; exact hx
  | succ k ih =>
    intro x hx
    unfold restTo at hx
    split at hx
    · exact ih x (List.mem_filter.1 hx).1
    · exact ih x hx
theorem filter_take {p : Int → Bool} {l : List Int} {k : Nat} {x : Int} (h : l[k]? = some x) : (l.take (k + 1)).filter p = (l.take k).filter p ++ if p x then [x] else [] := by
  rw [List.take_add_one, h, List.filter_append]
  cases hp : p x <;> simp [hp]

theorem Rd.blk_lt {α : Type} {enc : α → Value} {W : World} {v : Value} {l : List α} (h : Rd enc W v l) (hne : l ≠ []) : ∀ b, v.ownBlock = some b → b < W.heap.size := by
  obtain ⟨a, cap, rfl, _, _, hc⟩ := h.open
  obtain ⟨x, b, off, _, rfl, hx⟩ := hc 0 (List.length_pos_iff.2 hne)
  intro k hk
  cases hk
  exact World.block_lt_of_cell? _ _ hx
theorem Rd.grown2 {α : Type} {enc : α → Value} {W W' : World} {v : Value} {l : List α} {row : Option Nat} (h : Rd enc W v l) (hg : W.grownBy W' row) (hne : l ≠ [] → ∀ k, v.ownBlock = some k → row ≠ some k) : Rd enc W' v l := by
  by_cases h0 : l = []
  · subst h0
    obtain ⟨a, cap, rfl, h2, h3, _⟩ := h
    exact ⟨a, cap, rfl, h2, h3, fun i x hx => by simp at hx⟩
  · exact h.grown hg (hne h0)

/-- The row o is written; what v leads to is not in it. -/
def Apart {α : Type} (l : List α) (v o : Value) : Prop := l ≠ [] → ∀ b, v.ownBlock = some b → o.ownBlock ≠ some b
theorem Apart.app {α : Type} {enc : α → Value} {W : World} {l : List α} {v o : Value} {g n cap : Nat} (h : Apart l v o) (hr : Rd enc W v l) (hg : o.ownBlock = some g ∨ W.heap.size < g) : Apart l v (.slice (some ⟨g, 0, none⟩) n cap) := by
  intro hne b hb
  have h1 := h hne b hb
  have h2 := hr.blk_lt hne b hb
  intro e
  have e' : g = b := Option.some.inj e
  subst e'
  rcases hg with h3 | h3
  · exact h1 h3
  · omega

end Go.Proofs.YtigaflmhdbgmdaaDoor
