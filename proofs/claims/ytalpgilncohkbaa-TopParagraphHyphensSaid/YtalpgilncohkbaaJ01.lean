/-
  Joined: Hid Lib Rws Mat0 Ap OwM OwG Box Wide Wid2 Mks.
-/
import Derived.WalkKit
import Derived.WalkSpells
import Derived.OwnWalk
import Derived.Deep.Slices
import Derived.WalkSmall
import Derived.Deep.QuietTactic
import Derived.Maps.AppendAt
import Derived.Deep.AppendLies
import Derived.OwnWalkIn
import Derived.RangeFuncNested
import Derived.RangeFuncBound
import Derived.RangeFuncCalls
import Derived.RangeFuncLeaves
import Derived.RangeFuncBox
import Derived.TacticsInMore
import Derived.LoopNIn
import Derived.LoopIn
import Derived.RangeFuncWrites
/-
  A fact kept from the walk; equations on endings.
-/
namespace Go.Proofs.Ytalpgilncohkbaa
open Go.RowKit
theorem hid {p : Prop} (h : p) : Hid p := h
theorem ret_int {k : IntKind} {a b : Int} (h : a = b) : Ending.returned (.int k a) = .returned (.int k b) := by rw [h]
theorem ret_bool {a b : Bool} (h : a = b) : Ending.returned (.bool a) = .returned (.bool b) := by rw [h]
end Go.Proofs.Ytalpgilncohkbaa

/-
  Plain words on how slices read in memory, and lemmas on them. No program is named here.
-/
namespace Go.Proofs.Ytalpgilncohkbaa
open Go.RowKit

/-- The slice value v reads in W as the list l, one cell an element. -/
def Rd {α : Type} (enc : α → Value) (W : World) (v : Value) (l : List α) : Prop :=
  ∃ a cap, v = .slice a l.length cap ∧ l.length ≤ cap ∧ cap ≤ maxLen ∧ ∀ i x, l[i]? = some x → ∃ b off, a = some ⟨b, off, none⟩ ∧ W.cell? ⟨b, off + i, none⟩ = some (enc x)

abbrev RdI (W : World) (v : Value) (l : List Int) : Prop := Rd (Value.int .i64) W v l
abbrev RdU (W : World) (v : Value) (l : List Int) : Prop := Rd (Value.int .u64) W v l
abbrev RdS (W : World) (v : Value) (l : List ByteArray) : Prop := Rd Value.string W v l

structure Grp where
  name : ByteArray
  mem : List Int

/-- .. of groups: two cells an element, the second a slice of numbers. -/
def RdG (W : World) (v : Value) (l : List Grp) : Prop :=
  ∃ a cap, v = .slice a l.length cap ∧ l.length ≤ cap ∧ cap ≤ maxLen ∧ ∀ i x, l[i]? = some x → ∃ b off m, a = some ⟨b, off, none⟩ ∧ W.cell? ⟨b, off + i * 2, none⟩ = some (.string x.name) ∧
    W.cell? ⟨b, off + i * 2 + 1, none⟩ = some m ∧ RdI W m x.mem

theorem Below.keeps {W W' : World} (h : Below W.heap.size W W') : ∀ p x, W.cell? p = some x → W'.cell? p = some x :=
  fun p _ hx => (h.cell (World.block_lt_of_cell? W p hx)).trans hx

theorem cell_al {W : World} {p : Addr} {x : Value} (h : W.cell? p = some x) (o : Obj) : (W.alloc o).cell? p = some x := Below.keeps ((Below.refl _ W).alloc (Nat.le_refl _) o) p x h

theorem cell_nw (W : World) (cs : Array Value) (t : TypeId) (i : Nat) {x : Value} (h : cs[i]? = some x) : (W.alloc (.cells cs t)).cell? ⟨W.heap.size, i, none⟩ = some x := by
  rw [cell_of_row _ W.heap.size i cs t (0, 0) (heap_alloc_new W _)]; exact h
theorem below_al (W : World) (o : Obj) : Below W.heap.size W (W.alloc o) := (Below.refl _ W).alloc (Nat.le_refl _) o
theorem below_tr {W W1 W2 : World} (h : Below W.heap.size W W1) (k : Below W1.heap.size W1 W2) : Below W.heap.size W W2 := h.trans (k.mono h.size)

theorem Rd.mono {α : Type} {enc : α → Value} {W W' : World} {v : Value} {l : List α} (h : Rd enc W v l) (hk : ∀ p x, W.cell? p = some x → W'.cell? p = some x) : Rd enc W' v l := by
  obtain ⟨a, cap, h1, h2, h3, h4⟩ := h
  exact ⟨a, cap, h1, h2, h3, fun i x hx => let ⟨b, off, e, hc⟩ := h4 i x hx; ⟨b, off, e, hk _ _ hc⟩⟩
theorem RdG.mono {W W' : World} {v : Value} {l : List Grp} (h : RdG W v l) (hk : ∀ p x, W.cell? p = some x → W'.cell? p = some x) : RdG W' v l := by
  obtain ⟨a, cap, h1, h2, h3, h4⟩ := h
  exact ⟨a, cap, h1, h2, h3, fun i x hx => let ⟨b, off, m, e, hc, hd, hr⟩ := h4 i x hx; ⟨b, off, m, e, hk _ _ hc, hk _ _ hd, hr.mono hk⟩⟩
theorem Rd.below {α : Type} {enc : α → Value} {W W' : World} {v : Value} {l : List α} (h : Rd enc W v l) (hb : Below W.heap.size W W') : Rd enc W' v l := h.mono (Below.keeps hb)
theorem RdG.below {W W' : World} {v : Value} {l : List Grp} (h : RdG W v l) (hb : Below W.heap.size W W') : RdG W' v l := h.mono (Below.keeps hb)

theorem Rd.drewN {α : Type} {enc : α → Value} {W : World} {v : Value} {l : List α} (h : Rd enc W v l) (n : Nat) : Rd enc (W.drewN n) v l := h.below (below_drewN (Below.refl _ _) n)
theorem RdG.drewN {W : World} {v : Value} {l : List Grp} (h : RdG W v l) (n : Nat) : RdG (W.drewN n) v l := h.below (below_drewN (Below.refl _ _) n)

theorem Rd.nil {α : Type} {enc : α → Value} (W : World) : Rd enc W (.slice none 0 0) [] := ⟨none, 0, rfl, Nat.le_refl _, by unfold maxLen; omega, fun i x h => by simp at h⟩
theorem RdG.nil (W : World) : RdG W (.slice none 0 0) [] := ⟨none, 0, rfl, Nat.le_refl _, by unfold maxLen; omega, fun i x h => by simp at h⟩

/-- The open form: v written out, the length bound, the elements' cells. -/
theorem Rd.open {α : Type} {enc : α → Value} {W : World} {v : Value} {l : List α} (h : Rd enc W v l) : ∃ a cap, v = .slice a l.length cap ∧ l.length ≤ cap ∧ cap ≤ 9223372036854775807 ∧ ∀ i, i < l.length → ∃ x b off, l[i]? = some x ∧ a = some ⟨b, off, none⟩ ∧ W.cell? ⟨b, off + i, none⟩ = some (enc x) := by
  obtain ⟨a, cap, h1, h2, h3, h4⟩ := h
  exact ⟨a, cap, h1, h2, h3, fun i hi => let ⟨b, off, e, hc⟩ := h4 i l[i] (by simp [hi]); ⟨l[i], b, off, by simp [hi], e, hc⟩⟩

theorem RdG.open {W : World} {v : Value} {l : List Grp} (h : RdG W v l) : ∃ a cap, v = .slice a l.length cap ∧ l.length ≤ cap ∧ cap ≤ 9223372036854775807 ∧ ∀ i, i < l.length → ∃ x b off m, l[i]? = some x ∧ a = some ⟨b, off, none⟩ ∧ W.cell? ⟨b, off + i * 2, none⟩ = some (.string x.name) ∧ W.cell? ⟨b, off + i * 2 + 1, none⟩ = some m ∧ RdI W m x.mem := by
  obtain ⟨a, cap, h1, h2, h3, h4⟩ := h
  exact ⟨a, cap, h1, h2, h3, fun i hi => let ⟨b, off, m, e, hc, hd, hr⟩ := h4 i l[i] (by simp [hi]); ⟨l[i], b, off, m, by simp [hi], e, hc, hd, hr⟩⟩

/-- 'out = append(out, x)', out the call's own from block base on, one element of 'size' cells. -/
theorem wpList_ap {P : Program} {ops : Array Oper} {rest : List Oper} {o : Oper} {a : Act} {Q : Exit → Act → World → Prop} {W : World} (hgd : o.guard = none) (s x : Operand) (t : TypeId)
    (ho : o.op = .call { callee := .builtin .append, args := #[s, x], argTypes := #[t, t] })
    (base : Nat) (e : TypeId) {z : Value} {size bytes : Nat} (ht : P.underlying t = some (.slice e)) (hi : (P.info? e).map (fun i => (i.zero, i.size, i.bytes)) = some (some z, size, bytes))
    (hzs : z.cells.size = size) (hsz : 0 < size) (hby : bytes ≤ 64)
    (v : Value) (n : Nat) (xs : List Value) (hs : a.eval s = v) (hown : W.ownsRow base e size v n xs) (news : List Value) (hl : news.length = size) (h1 : ∀ u ∈ news, u.oneCell' = true)
    {N : Nat} (hx : a.eval x = .slice (some ⟨N, 0, none⟩) 1 1) (hN : N = W.heap.size) (hn : n + 1 ≤ 4294967296) (hbase : base ≤ W.heap.size)
    (h : ∀ v' w', w'.ownsRow base e size v' (n + 1) (xs ++ news) → Below base W w' → W.grownBy w' v.ownBlock → wpList P ops Q rest (a.put o.dst v') w') :
    wpList P ops Q (o :: rest) a (W.alloc (.cells news.toArray e)) := by
  obtain ⟨i, hi1, hi2, hi3, hi4⟩ := info_parts hi
  subst hN
  refine wpList_append_own _ hgd s x t ho base e i z size bytes ht hi1 hi2 hi3 hi4 hzs hsz v n xs hs (hown.alloc _) ⟨W.heap.size, 0, none⟩ 1 1 news hx (by omega) ?_ h1 (by unfold maxLen; omega) ?_ (by simp; omega) ?_
  · intro j u hj
    have hlt := (List.getElem?_eq_some_iff.1 hj).1
    have hadd : (⟨W.heap.size, 0, none⟩ : Addr).add j = ⟨W.heap.size, j, none⟩ := by unfold Addr.add; split <;> simp_all
    rw [hadd, cell_of_row _ W.heap.size j news.toArray e (0, 0) (heap_alloc_new W _)]
    simpa using hj
  · have : (n + 1) * bytes ≤ 4294967296 * 64 := Nat.mul_le_mul hn hby
    omega
  · intro v' w' ho' hg' _
    have hg : W.grownBy w' v.ownBlock := ⟨hg'.os, hg'.tape, hg'.output, Nat.le_trans (by simp) hg'.size, fun k hk hne => (hg'.block k (by simp; omega) hne).trans (Below.heap_alloc W _ k hk)⟩
    exact h v' w' ho' ((Below.refl _ _).grown hg hbase (fun k hk => (hown.lt k hk).1)) hg

/-- An owned row reads as its list. -/
theorem Rd.of_own {α : Type} {enc : α → Value} {W : World} {base : Nat} {e : TypeId} {v : Value} {l : List α} (h : W.ownsRow base e 1 v l.length (l.map enc)) : Rd enc W v l := by
  obtain ⟨_, h2⟩ := h
  rcases h2 with ⟨rfl, hn⟩ | ⟨g, cap, cur, rfl, hb, hh, hc, hm, hs, ht⟩
  · have : l = [] := List.eq_nil_of_length_eq_zero hn
    subst this
    exact Rd.nil W
  · refine ⟨some ⟨g, 0, none⟩, cap, rfl, hc, hm, fun i x hx => ⟨g, 0, rfl, ?_⟩⟩
    have hi := (List.getElem?_eq_some_iff.1 hx).1
    rw [Nat.zero_add, cell_of_row _ g i cur e (0, 0) hh]
    have : (l.map enc)[i]? = some (enc x) := by rw [List.getElem?_map, hx]; rfl
    rw [← ht, List.getElem?_take, if_pos (by omega)] at this
    simpa using this

theorem Rd.take {α : Type} {enc : α → Value} {W : World} {a : Option Addr} {n cap : Nat} {l : List α} (h : Rd enc W (.slice a n cap) l) (k : Nat) (hk : k ≤ l.length) : Rd enc W (.slice a k cap) (l.take k) := by
  obtain ⟨a', cap', h1, h2, h3, h4⟩ := h
  cases h1
  exact ⟨a, cap, by rw [List.length_take, Nat.min_eq_left hk], by rw [List.length_take]; omega, h3, fun i x hx => h4 i x (by rw [List.getElem?_take] at hx; split at hx; exact hx; cases hx)⟩
theorem RdG.take {W : World} {a : Option Addr} {n cap : Nat} {l : List Grp} (h : RdG W (.slice a n cap) l) (k : Nat) (hk : k ≤ l.length) : RdG W (.slice a k cap) (l.take k) := by
  obtain ⟨a', cap', h1, h2, h3, h4⟩ := h
  cases h1
  exact ⟨a, cap, by rw [List.length_take, Nat.min_eq_left hk], by rw [List.length_take]; omega, h3, fun i x hx => h4 i x (by rw [List.getElem?_take] at hx; split at hx; exact hx; cases hx)⟩

def Szs (l : List ByteArray) : Prop := ∀ s ∈ l, s.size ≤ maxLen
def SzG (l : List Grp) : Prop := ∀ g ∈ l, g.name.size ≤ maxLen

/-- What lies in no block of a row that was written stays. -/
theorem grown_cell {W w' : World} {row : Option Nat} (hg : W.grownBy w' row) {p : Addr} {x : Value} (h : W.cell? p = some x) (hne : some p.block ≠ row) : w'.cell? p = some x := hg.cell h hne

end Go.Proofs.Ytalpgilncohkbaa

/-
  A block that holds a row of cells.
-/
namespace Go.Proofs.Ytalpgilncohkbaa
open Go.RowKit

/-- Block B holds the cells cs. -/
def Row (W : World) (B : Nat) (cs : Array Value) (t : TypeId) : Prop := W.heap[B]? = some (.cells cs t (0, 0))
theorem Row.cell {W : World} {B : Nat} {cs : Array Value} {t : TypeId} (h : Row W B cs t) (i : Nat) {x : Value} (hx : cs[i]? = some x) : W.cell? ⟨B, i, none⟩ = some x := by rw [cell_of_row W B i cs t (0, 0) h]; exact hx
theorem Row.frozen {W : World} {B : Nat} {cs : Array Value} {t : TypeId} (h : Row W B cs t) (i : Nat) : W.frozen? ⟨B, i, none⟩ = false := frozen_of_row W B i cs t h
theorem Row.set {W : World} {B : Nat} {cs : Array Value} {t : TypeId} (h : Row W B cs t) (i : Nat) (v : Value) : Row (W.setCell ⟨B, i, none⟩ v) B (cs.setIfInBounds i v) t := heap_setCell_same W B i cs t v h
theorem Row.other {W : World} {B : Nat} {cs : Array Value} {t : TypeId} (h : Row W B cs t) (p : Addr) (v : Value) (hp : B ≠ p.block) : Row (W.setCell p v) B cs t := (Below.heap_setCell W p v B hp).trans h
theorem Row.below {W W' : World} {B : Nat} {cs : Array Value} {t : TypeId} (h : Row W B cs t) (hb : Below W.heap.size W W') : Row W' B cs t := (hb.block B (Array.getElem?_eq_some_iff.1 h).1).trans h
theorem Row.lt {W : World} {B : Nat} {cs : Array Value} {t : TypeId} (h : Row W B cs t) : B < W.heap.size := (Array.getElem?_eq_some_iff.1 h).1
theorem row_nw (W : World) (cs : Array Value) (t : TypeId) {n : Nat} (hn : n = W.heap.size) : Row (W.alloc (.cells cs t)) n cs t := by subst hn; exact heap_alloc_new W _
theorem Row.al {W : World} {B : Nat} {cs : Array Value} {t : TypeId} (h : Row W B cs t) (o : Obj) : Row (W.alloc o) B cs t := h.below (below_al W o)
end Go.Proofs.Ytalpgilncohkbaa

/-
  A slice of slices of numbers.
-/
namespace Go.Proofs.Ytalpgilncohkbaa
open Go.RowKit

/-- The slice value v reads as a matrix. -/
def RdM (W : World) (v : Value) (M : List (List Int)) : Prop :=
  ∃ a cap, v = .slice a M.length cap ∧ M.length ≤ cap ∧ cap ≤ maxLen ∧ ∀ i row, M[i]? = some row → ∃ b off u, a = some ⟨b, off, none⟩ ∧ W.cell? ⟨b, off + i, none⟩ = some u ∧ RdI W u row
theorem RdM.below {W W' : World} {v : Value} {M : List (List Int)} (h : RdM W v M) (hb : Below W.heap.size W W') : RdM W' v M := by
  obtain ⟨a, cap, h1, h2, h3, h4⟩ := h
  refine ⟨a, cap, h1, h2, h3, fun i row hi => ?_⟩
  obtain ⟨b, off, u, e, hc, hr⟩ := h4 i row hi
  exact ⟨b, off, u, e, Below.keeps hb _ _ hc, hr.below hb⟩
theorem RdM.nil (W : World) : RdM W (.slice none 0 0) [] := ⟨none, 0, rfl, Nat.le_refl _, by unfold maxLen; omega, fun i x h => by simp at h⟩
theorem RdM.open {W : World} {v : Value} {M : List (List Int)} (h : RdM W v M) : ∃ a cap, v = .slice a M.length cap ∧ M.length ≤ cap ∧ cap ≤ 9223372036854775807 ∧ ∀ i, i < M.length → ∃ row b off u, M[i]? = some row ∧ a = some ⟨b, off, none⟩ ∧ W.cell? ⟨b, off + i, none⟩ = some u ∧ RdI W u row := by
  obtain ⟨a, cap, h1, h2, h3, h4⟩ := h
  refine ⟨a, cap, h1, h2, h3, fun i hi => ?_⟩
  obtain ⟨b, off, u, e, hc, hr⟩ := h4 i M[i] (by simp [hi])
  exact ⟨M[i], b, off, u, by simp [hi], e, hc, hr⟩

/-- Block G holds the rows' slices, the blocks rs the rows, all made from block base on. -/
structure MatR (W : World) (base G B : Nat) (rs : List Nat) (M : List (List Int)) : Prop where
  len : rs.length = M.length
  nodup : rs.Nodup
  hG : base ≤ G
  hr : ∀ r ∈ rs, base ≤ r ∧ r ≠ G
  outer : ∃ cur, W.heap[G]? = some (.cells cur 38 (0, 0)) ∧ ∀ (i r : Nat), rs[i]? = some r → cur[i]? = some (Value.slice (some ⟨r, 0, none⟩) B B)
  inner : ∀ (i r : Nat) (row : List Int), rs[i]? = some r → M[i]? = some row → row.length = B ∧ W.heap[r]? = some (.cells (row.map (Value.int .i64)).toArray 3 (0, 0))
theorem MatR.Glt {W : World} {base G B : Nat} {rs : List Nat} {M : List (List Int)} (h : MatR W base G B rs M) : G < W.heap.size := by
  obtain ⟨cur, h1, _⟩ := h.outer
  exact (Array.getElem?_eq_some_iff.1 h1).1
theorem MatR.rlt {W : World} {base G B : Nat} {rs : List Nat} {M : List (List Int)} (h : MatR W base G B rs M) : ∀ r ∈ rs, r < W.heap.size := by
  intro r hr
  obtain ⟨i, hi, rfl⟩ := List.getElem_of_mem hr
  obtain ⟨row, hrow⟩ : ∃ row, M[i]? = some row := ⟨M[i]'(by rw [← h.len]; exact hi), List.getElem?_eq_getElem _⟩
  exact (Array.getElem?_eq_some_iff.1 (h.inner i _ row (List.getElem?_eq_getElem hi) hrow).2).1
theorem MatR.below {W W' : World} {base G B : Nat} {rs : List Nat} {M : List (List Int)} (h : MatR W base G B rs M) (hb : Below W.heap.size W W') : MatR W' base G B rs M := by
  refine ⟨h.len, h.nodup, h.hG, h.hr, ?_, fun i r row hi hrow => ?_⟩
  · obtain ⟨cur, h1, h2⟩ := h.outer
    exact ⟨cur, (hb.block G h.Glt).trans h1, h2⟩
  · have h1 := h.inner i r row hi hrow
    exact ⟨h1.1, (hb.block r (h.rlt r (List.mem_of_getElem? hi))).trans h1.2⟩
theorem MatR.rowCell {W : World} {base G B : Nat} {rs : List Nat} {M : List (List Int)} (h : MatR W base G B rs M) {i : Nat} {row : List Int} (hi : M[i]? = some row) : ∃ r, rs[i]? = some r ∧ W.cell? ⟨G, i, none⟩ = some (.slice (some ⟨r, 0, none⟩) B B) ∧ (∀ (j : Nat) (n : Int), row[j]? = some n → W.cell? ⟨r, j, none⟩ = some (.int .i64 n)) ∧ (∀ j : Nat, W.frozen? ⟨r, j, none⟩ = false) ∧ row.length = B ∧ base ≤ r := by
  have hlt : i < rs.length := by rw [h.len]; exact (List.getElem?_eq_some_iff.1 hi).1
  obtain ⟨cur, h1, h2⟩ := h.outer
  have hr : rs[i]? = some rs[i] := List.getElem?_eq_getElem hlt
  have h3 := h.inner i _ row hr hi
  refine ⟨rs[i], hr, ?_, fun j n hj => ?_, fun j => ?_, h3.1, (h.hr _ (List.getElem_mem hlt)).1⟩
  · rw [cell_of_row W G i cur _ _ h1]; exact h2 i _ hr
  · rw [cell_of_row W _ j _ _ _ h3.2]
    simp [hj]
  · unfold World.frozen?
    rw [h3.2]; simp
/-- A number of the matrix is written. -/
theorem MatR.set {W : World} {base G B : Nat} {rs : List Nat} {M : List (List Int)} (h : MatR W base G B rs M) {i r j : Nat} {row : List Int} (hr : rs[i]? = some r) (hi : M[i]? = some row) (n : Int) : MatR (W.setCell ⟨r, j, none⟩ (.int .i64 n)) base G B rs (M.set i (row.set j n)) := by
  have hrm := h.hr r (List.mem_of_getElem? hr)
  refine ⟨by rw [List.length_set]; exact h.len, h.nodup, h.hG, h.hr, ?_, fun k q row' hk hrow => ?_⟩
  · obtain ⟨cur, h1, h2⟩ := h.outer
    exact ⟨cur, (Below.heap_setCell _ _ _ _ (by simpa using hrm.2.symm)).trans h1, h2⟩
  · have h0 := h.inner i r row hr hi
    rw [List.getElem?_set] at hrow
    by_cases e : i = k
    · subst e
      rw [hr] at hk
      cases hk
      rw [if_pos rfl] at hrow
      split at hrow
      · cases hrow
        refine ⟨by rw [List.length_set]; exact h0.1, ?_⟩
        rw [Go.heap_setCell_same W r j _ _ _ h0.2]
        congr 2
        rw [List.map_set]
        simp
      · cases hrow
    · rw [if_neg e] at hrow
      have h1 := h.inner k q row' hk hrow
      have hne : q ≠ r := fun e2 => by
        subst e2
        obtain ⟨k1, k2⟩ := List.getElem?_eq_some_iff.1 hr
        obtain ⟨k3, k4⟩ := List.getElem?_eq_some_iff.1 hk
        rcases Nat.lt_or_gt_of_ne e with h5 | h5
        · exact List.pairwise_iff_getElem.1 h.nodup i k k1 k3 h5 (k2.trans k4.symm)
        · exact List.pairwise_iff_getElem.1 h.nodup k i k3 k1 h5 (k4.trans k2.symm)
      exact ⟨h1.1, (Below.heap_setCell _ _ _ _ (by simpa using hne)).trans h1.2⟩
/-- A row is put behind the others. -/
theorem MatR.rd {W : World} {base G B : Nat} {rs : List Nat} {M : List (List Int)} (h : MatR W base G B rs M) {cap : Nat} (hc : M.length ≤ cap) (hm : cap ≤ maxLen) (hB : B ≤ maxLen) : RdM W (.slice (some ⟨G, 0, none⟩) M.length cap) M := by
  refine ⟨some ⟨G, 0, none⟩, cap, rfl, hc, hm, fun i row hi => ?_⟩
  obtain ⟨r, h1, h2, h3, _, h5, _⟩ := h.rowCell hi
  refine ⟨G, 0, _, rfl, by rw [Nat.zero_add]; exact h2, some ⟨r, 0, none⟩, B, by rw [h5], by rw [h5]; exact Nat.le_refl _, hB, fun j n hj => ⟨r, 0, rfl, by rw [Nat.zero_add]; exact h3 j n hj⟩⟩
theorem own_full {W : World} {base : Nat} {e : TypeId} {g n : Nat} {xs : List Value} (h : W.ownsRow base e 1 (.slice (some ⟨g, 0, none⟩) n n) n xs) : W.heap[g]? = some (.cells xs.toArray e (0, 0)) ∧ base ≤ g := by
  rcases h.2 with ⟨h1, _⟩ | ⟨g', cap, cur, h1, hb, hh, hc, hm, hs, ht⟩
  · cases h1
  · simp only [Value.slice.injEq, Option.some.injEq, Addr.mk.injEq, and_true, true_and] at h1
    obtain ⟨rfl, rfl⟩ := h1
    refine ⟨?_, hb⟩
    rw [hh, ← ht, List.take_of_length_le (by rw [Array.length_toList, hs]; exact Nat.le_refl _)]
theorem madeZero (n : Nat) : (madeCells #[Value.int .i64 0] (n * 1)).toList = (List.replicate n (0 : Int)).map (Value.int .i64) := by
  rw [Nat.mul_one, toList_madeCells_one, List.map_replicate]
end Go.Proofs.Ytalpgilncohkbaa

/-
  'out = append(out, x)' of one element, and where the new slice lies; in a round's frame too.
-/
namespace Go.Proofs.Ytalpgilncohkbaa
open Go.RowKit

theorem run_ap {P : Program} {W : World} (t ty : TypeId) (base : Nat) (e : TypeId) {z : Value} {size bytes : Nat} (ht : P.underlying t = some (.slice e)) (hi : (P.info? e).map (fun i => (i.zero, i.size, i.bytes)) = some (some z, size, bytes))
    (hzs : z.cells.size = size) (hsz : 0 < size) (hby : bytes ≤ 64)
    (v : Value) (n : Nat) (xs : List Value) (hown : W.ownsRow base e size v n xs) (news : List Value) (hl : news.length = size) (h1 : ∀ u ∈ news, u.oneCell' = true)
    (hn : n + 1 ≤ 4294967296) (hbase : base ≤ W.heap.size) :
    ∃ g cap w', (Builtin.append_ #[t, t] ty #[v, .slice (some ⟨W.heap.size, 0, none⟩) 1 1]).run P (W.alloc (.cells news.toArray e)) = .ok (.slice (some ⟨g, 0, none⟩) (n + 1) cap) w' ∧
      w'.ownsRow base e size (.slice (some ⟨g, 0, none⟩) (n + 1) cap) (n + 1) (xs ++ news) ∧ Below base W w' ∧ W.grownBy w' v.ownBlock ∧ (v.ownBlock = some g ∨ W.heap.size < g) ∧ g < w'.heap.size := by
  obtain ⟨i, hi1, hi2, hi3, hi4⟩ := info_parts hi
  have hbb : (n + 1) * bytes ≤ 140737488355328 := by
    have : (n + 1) * bytes ≤ 4294967296 * 64 := Nat.mul_le_mul hn hby
    omega
  obtain ⟨g, cap, w', hr, ho', hg', hat, hlt⟩ := run_append_lies (P := P) (W.alloc (.cells news.toArray e)) t ty base e i z size bytes ht hi1 hi2 hi3 hi4 hzs hsz v n xs (hown.alloc _) ⟨W.heap.size, 0, none⟩ 1 1 news (by omega)
    (by
      intro j u hj
      have hlt := (List.getElem?_eq_some_iff.1 hj).1
      have hadd : (⟨W.heap.size, 0, none⟩ : Addr).add j = ⟨W.heap.size, j, none⟩ := by unfold Addr.add; split <;> simp_all
      rw [hadd, cell_of_row _ W.heap.size j news.toArray e (0, 0) (heap_alloc_new W _)]
      simpa using hj) h1 (by omega) (by unfold maxLen; omega) hbb (by simp; omega) (W.heap.size + 1) (by simp)
  have hg : W.grownBy w' v.ownBlock := ⟨hg'.os, hg'.tape, hg'.output, Nat.le_trans (by simp) hg'.size, fun k hk hne => (hg'.block k (by simp; omega) hne).trans (Below.heap_alloc W _ k hk)⟩
  exact ⟨g, cap, w', hr, ho', (Below.refl _ _).grown hg hbase (fun k hk => (hown.lt k hk).1), hg, hat.imp id (fun h => by omega), hlt⟩

theorem wpList_ap2 {P : Program} {ops : Array Oper} {rest : List Oper} {o : Oper} {a : Act} {Q : Exit → Act → World → Prop} {W : World} (hgd : o.guard = none) (s x : Operand) (t : TypeId)
    (ho : o.op = .call { callee := .builtin .append, args := #[s, x], argTypes := #[t, t] })
    (base : Nat) (e : TypeId) {z : Value} {size bytes : Nat} (ht : P.underlying t = some (.slice e)) (hi : (P.info? e).map (fun i => (i.zero, i.size, i.bytes)) = some (some z, size, bytes))
    (hzs : z.cells.size = size) (hsz : 0 < size) (hby : bytes ≤ 64)
    (v : Value) (n : Nat) (xs : List Value) (hs : a.eval s = v) (hown : W.ownsRow base e size v n xs) (news : List Value) (hl : news.length = size) (h1 : ∀ u ∈ news, u.oneCell' = true)
    {N : Nat} (hx : a.eval x = .slice (some ⟨N, 0, none⟩) 1 1) (hN : N = W.heap.size) (hn : n + 1 ≤ 4294967296) (hbase : base ≤ W.heap.size)
    (h : ∀ g cap w', w'.ownsRow base e size (.slice (some ⟨g, 0, none⟩) (n + 1) cap) (n + 1) (xs ++ news) → Below base W w' → W.grownBy w' v.ownBlock → (v.ownBlock = some g ∨ W.heap.size < g) → g < w'.heap.size →
      wpList P ops Q rest (a.put o.dst (.slice (some ⟨g, 0, none⟩) (n + 1) cap)) w') :
    wpList P ops Q (o :: rest) a (W.alloc (.cells news.toArray e)) := by
  subst hN
  refine wpList_plain hgd fun K hK => ?_
  obtain ⟨g, cap, w', hr, h2, h3, h4, h5, h6⟩ := run_ap (P := P) t o.type base e ht hi hzs hsz hby v n xs hown news hl h1 hn hbase
  unfold Oper.wp execOp
  simp only [ho, resolve, invoke, builtin, Sem.run_bind, Sem.run_pure, Result.andThen_ok, List.map_toArray, List.map_cons, List.map_nil, hs, hx, hr]
  exact hK _ _ (h g cap w' h2 h3 h4 h5 h6)

theorem wpListIn_ap2 {F : Fence} {m : Nat} {P : Program} {ops : Array Oper} {rest : List Oper} {o : Oper} {a : Act} {Q : Exit → Act → World → Prop} {W : World} (hgd : o.guard = none) (s x : Operand) (t : TypeId)
    (ho : o.op = .call { callee := .builtin .append, args := #[s, x], argTypes := #[t, t] })
    (base : Nat) (e : TypeId) {z : Value} {size bytes : Nat} (ht : P.underlying t = some (.slice e)) (hi : (P.info? e).map (fun i => (i.zero, i.size, i.bytes)) = some (some z, size, bytes))
    (hzs : z.cells.size = size) (hsz : 0 < size) (hby : bytes ≤ 64)
    (v : Value) (n : Nat) (xs : List Value) (hs : a.eval s = v) (hown : W.ownsRow base e size v n xs) (news : List Value) (hl : news.length = size) (h1 : ∀ u ∈ news, u.oneCell' = true)
    {N : Nat} (hx : a.eval x = .slice (some ⟨N, 0, none⟩) 1 1) (hN : N = W.heap.size) (hn : n + 1 ≤ 4294967296) (hbase : base ≤ W.heap.size)
    (h : ∀ g cap w', w'.ownsRow base e size (.slice (some ⟨g, 0, none⟩) (n + 1) cap) (n + 1) (xs ++ news) → Below base W w' → W.grownBy w' v.ownBlock → (v.ownBlock = some g ∨ W.heap.size < g) → g < w'.heap.size →
      wpListIn F m P ops Q rest (a.put o.dst (.slice (some ⟨g, 0, none⟩) (n + 1) cap)) w') :
    wpListIn F m P ops Q (o :: rest) a (W.alloc (.cells news.toArray e)) := by
  subst hN
  refine wpListIn_plain hgd fun K hK' => ?_
  obtain ⟨g, cap, w', hr, h2, h3, h4, h5, h6⟩ := run_ap (P := P) t o.type base e ht hi hzs hsz hby v n xs hown news hl h1 hn hbase
  unfold Oper.wpIn
  refine ⟨?_, ?_⟩
  · simp [Oper.about, ho, resolve, Target.leads, Sem.run_pure]
  · rw [Oper.semAt_plain F _ _ (by rw [ho]; intro c hc'; cases hc')]
    simp [execOp, ho, resolve, invoke, builtin, hs, hx, hr, Result.andThen]
    exact hK' _ _ (h g cap w' h2 h3 h4 h5 h6)

/-- What lies in another block than the row that was written stays. -/
theorem Rd.grown {α : Type} {enc : α → Value} {W W' : World} {v : Value} {l : List α} {row : Option Nat} (h : Rd enc W v l) (hg : W.grownBy W' row) (hne : ∀ k, v.ownBlock = some k → row ≠ some k) : Rd enc W' v l := by
  obtain ⟨a, cap, rfl, h2, h3, h4⟩ := h
  refine ⟨a, cap, rfl, h2, h3, fun i x hx => ?_⟩
  obtain ⟨b, off, rfl, hc⟩ := h4 i x hx
  exact ⟨b, off, rfl, hg.cell hc (fun e => hne b rfl e.symm)⟩
theorem ownB_some {g n cap : Nat} : (Value.slice (some ⟨g, 0, none⟩) n cap).ownBlock = some g := rfl
theorem Rd.blk_lt {α : Type} {enc : α → Value} {W : World} {v : Value} {l : List α} (h : Rd enc W v l) (hne : l ≠ []) : ∀ b, v.ownBlock = some b → b < W.heap.size := by
  obtain ⟨a, cap, rfl, _, _, hc⟩ := h.open
  obtain ⟨x, b, off, _, rfl, hx⟩ := hc 0 (List.length_pos_iff.2 hne)
  intro k hk
  cases hk
  exact World.block_lt_of_cell? _ _ hx
theorem Rd.grown2 {α : Type} {enc : α → Value} {W W' : World} {v : Value} {l : List α} {row : Option Nat} (h : Rd enc W v l) (hg : W.grownBy W' row) (hne : l ≠ [] → ∀ k, v.ownBlock = some k → row ≠ some k) : Rd enc W' v l := by
  by_cases h0 : l = []
  · subst h0
    obtain ⟨a, cap, rfl, h2, h3, _⟩ := h
    exact ⟨a, cap, rfl, h2, h3, fun i x hx => by simp at hx⟩
  · exact h.grown hg (hne h0)

/-- The row o is written; what v leads to is not in it. -/
def Apart {α : Type} (l : List α) (v o : Value) : Prop := l ≠ [] → ∀ b, v.ownBlock = some b → o.ownBlock ≠ some b
theorem Apart.app {α : Type} {enc : α → Value} {W : World} {l : List α} {v o : Value} {g n cap : Nat} (h : Apart l v o) (hr : Rd enc W v l) (hg : o.ownBlock = some g ∨ W.heap.size < g) : Apart l v (.slice (some ⟨g, 0, none⟩) n cap) := by
  intro hne b hb
  have h1 := h hne b hb
  have h2 := hr.blk_lt hne b hb
  intro e
  have e' : g = b := Option.some.inj e
  subst e'
  rcases hg with h3 | h3
  · exact h1 h3
  · omega

end Go.Proofs.Ytalpgilncohkbaa

/-
  A slice of slices of numbers whose rows the call grows.
-/
namespace Go.Proofs.Ytalpgilncohkbaa
open Go.RowKit

theorem own_setX {W : World} {base : Nat} {e : TypeId} {s n : Nat} {v : Value} {xs : List Value} (h : W.ownsRow base e s v n xs) (p : Addr) (u : Value) (hp : v.ownBlock ≠ some p.block) : (W.setCell p u).ownsRow base e s v n xs := by
  have hg : W.grownBy (W.setCell p u) (some p.block) := ⟨rfl, rfl, rfl, by simp [World.setCell], fun k _ hk => Below.heap_setCell W p u k (fun e => hk (by rw [e]))⟩
  exact h.kept hg (by cases hv : v.ownBlock with
    | none => exact .inl rfl
    | some k => right; rw [hv] at hp; exact hp)
theorem row_own_neX {W : World} {k base size n : Nat} {cs : Array Value} {t e : TypeId} {v : Value} {xs : List Value} (h : Row W k cs t) (ho : W.ownsRow base e size v n xs) (hte : t ≠ e) : v.ownBlock ≠ some k := by
  intro hv
  rcases ho.2 with ⟨rfl, _⟩ | ⟨g, cap, cur, rfl, _, hg, _⟩
  · cases hv
  · cases hv
    have h1 : W.heap[g]? = _ := h
    rw [hg] at h1
    cases h1
    exact hte rfl
/-- Block G holds the slices vs, each of which owns its row of M, made from block base on. -/
structure OwM (W : World) (base G : Nat) (vs : List Value) (M : List (List Int)) : Prop where
  outer : Row W G vs.toArray 38
  len : vs.length = M.length
  rows : ∀ (i : Nat) (v : Value) (row : List Int), vs[i]? = some v → M[i]? = some row → W.ownsRow base 3 1 v row.length (row.map (Value.int .i64))
  apart : ∀ (i j : Nat) (v u : Value), i ≠ j → vs[i]? = some v → vs[j]? = some u → v.ownBlock = none ∨ v.ownBlock ≠ u.ownBlock
theorem own_lt {W : World} {base : Nat} {e : TypeId} {s n : Nat} {v : Value} {xs : List Value} (h : W.ownsRow base e s v n xs) {k : Nat} (hk : v.ownBlock = some k) : base ≤ k ∧ k < W.heap.size := h.lt k hk
theorem own_belowX {W W' : World} {base : Nat} {e : TypeId} {size : Nat} {v : Value} {n : Nat} {xs : List Value} (h : W.ownsRow base e size v n xs) (hb : Below W.heap.size W W') : W'.ownsRow base e size v n xs :=
  h.kept (row := none) ⟨hb.os, hb.tape, hb.output, hb.size, fun k hk _ => hb.block k hk⟩ (by cases v.ownBlock <;> simp)
theorem OwM.below {W W' : World} {base G : Nat} {vs : List Value} {M : List (List Int)} (h : OwM W base G vs M) (hb : Below W.heap.size W W') : OwM W' base G vs M :=
  ⟨h.outer.below hb, h.len, fun i v row hv hr => own_belowX (h.rows i v row hv hr) hb, h.apart⟩
/-- A row of another slice grows. -/
theorem OwM.grown {W W' : World} {base G : Nat} {vs : List Value} {M : List (List Int)} (h : OwM W base G vs M) {r : Option Nat} (hg : W.grownBy W' r) (hG : r ≠ some G) (hr : ∀ (i : Nat) (v : Value), vs[i]? = some v → v.ownBlock = none ∨ v.ownBlock ≠ r) : OwM W' base G vs M :=
  ⟨(hg.block G h.outer.lt (fun e => hG e.symm)).trans h.outer, h.len, fun i v row hv hrow => (h.rows i v row hv hrow).kept hg (hr i v hv), h.apart⟩
/-- A row is grown, or made anew, and its slice is stored. -/
theorem OwM.put {W W' : World} {base G i g n cap : Nat} {vs : List Value} {M : List (List Int)} {v : Value} {row row' : List Int} (h : OwM W base G vs M) (hv : vs[i]? = some v) (_hrow : M[i]? = some row) {r : Option Nat} (hg : W.grownBy W' r) (hr : r = none ∨ r = v.ownBlock)
    (ho : W'.ownsRow base 3 1 (.slice (some ⟨g, 0, none⟩) n cap) row'.length (row'.map (Value.int .i64))) (hat : v.ownBlock = some g ∨ W.heap.size ≤ g) :
    OwM (W'.setCell ⟨G, i, none⟩ (.slice (some ⟨g, 0, none⟩) n cap)) base G (vs.set i (.slice (some ⟨g, 0, none⟩) n cap)) (M.set i row') := by
  have hne : ∀ (j : Nat) (u : Value), vs[j]? = some u → u.ownBlock ≠ some G := fun j u hu => by
    have hj : j < M.length := by rw [← h.len]; exact (List.getElem?_eq_some_iff.1 hu).1
    exact row_own_neX h.outer (h.rows j u _ hu (List.getElem?_eq_getElem hj)) (by decide)
  have hrG : r ≠ some G := by
    rcases hr with rfl | rfl
    · simp
    · exact hne i v hv
  have hout : Row W' G vs.toArray 38 := (hg.block G h.outer.lt (fun e => hrG e.symm)).trans h.outer
  have hgG : g ≠ G := fun e => row_own_neX hout ho (by decide) (by rw [e]; rfl)
  have key : ∀ (j : Nat) (u : Value), j ≠ i → vs[j]? = some u → u.ownBlock = none ∨ u.ownBlock ≠ some g := fun j u hj hu => by
    rcases hat with ha | ha
    · rcases h.apart j i u v hj hu hv with h1 | h1
      · exact .inl h1
      · exact .inr (by rw [← ha]; exact h1)
    · cases hb : u.ownBlock with
      | none => exact .inl rfl
      | some k =>
        right
        intro e
        have hjl : j < M.length := by rw [← h.len]; exact (List.getElem?_eq_some_iff.1 hu).1
        have := (own_lt (h.rows j u _ hu (List.getElem?_eq_getElem hjl)) hb).2
        cases e
        omega
  refine ⟨?_, by rw [List.length_set, List.length_set]; exact h.len, fun j u rw' hu hrow' => ?_, fun j k u u' hjk hu hu' => ?_⟩
  · have h1 := hout.set i (.slice (some ⟨g, 0, none⟩) n cap)
    rw [show vs.toArray.setIfInBounds i (Value.slice (some ⟨g, 0, none⟩) n cap) = (vs.set i (.slice (some ⟨g, 0, none⟩) n cap)).toArray by simp] at h1
    exact h1
  · by_cases hji : i = j
    · subst hji
      have hil := (List.getElem?_eq_some_iff.1 hv).1
      rw [List.getElem?_set_self hil] at hu
      rw [List.getElem?_set_self (by rw [← h.len]; exact hil)] at hrow'
      cases hu
      cases hrow'
      exact own_setX ho _ _ (by simp only [Value.ownBlock]; intro e; cases e; exact hgG rfl)
    · rw [List.getElem?_set_ne hji] at hu hrow'
      refine own_setX ((h.rows j u rw' hu hrow').kept hg ?_) _ _ (hne j u hu)
      rcases hr with rfl | rfl
      · cases u.ownBlock <;> simp
      · exact h.apart j i u v (fun e => hji e.symm) hu hv
  · by_cases h1 : i = j
    · subst h1
      have hil := (List.getElem?_eq_some_iff.1 hv).1
      rw [List.getElem?_set_self hil] at hu
      rw [List.getElem?_set_ne hjk] at hu'
      cases hu
      right
      intro e
      rcases key k u' (fun e => hjk e.symm) hu' with h2 | h2
      · rw [h2] at e; cases e
      · exact h2 e.symm
    · rw [List.getElem?_set_ne h1] at hu
      by_cases h2 : i = k
      · subst h2
        have hil := (List.getElem?_eq_some_iff.1 hv).1
        rw [List.getElem?_set_self hil] at hu'
        cases hu'
        exact key j u (fun e => h1 e.symm) hu
      · rw [List.getElem?_set_ne h2] at hu'
        exact h.apart j k u u' hjk hu hu'
theorem OwM.rd {W : World} {base G : Nat} {vs : List Value} {M : List (List Int)} (h : OwM W base G vs M) {cap : Nat} (hc : M.length ≤ cap) (hm : cap ≤ maxLen) : RdM W (.slice (some ⟨G, 0, none⟩) M.length cap) M := by
  refine ⟨some ⟨G, 0, none⟩, cap, rfl, hc, hm, fun i row hi => ?_⟩
  have hl : i < vs.length := by rw [h.len]; exact (List.getElem?_eq_some_iff.1 hi).1
  have hv : vs[i]? = some vs[i] := List.getElem?_eq_getElem hl
  refine ⟨G, 0, vs[i], rfl, ?_, Rd.of_own (h.rows i _ row hv hi)⟩
  rw [Nat.zero_add]
  exact h.outer.cell i (by simp [hl])
theorem OwM.at {W : World} {base G : Nat} {vs : List Value} {M : List (List Int)} (h : OwM W base G vs M) {i : Nat} (hi : i < M.length) : ∃ v, vs[i]? = some v ∧ W.cell? ⟨G, i, none⟩ = some v ∧ W.frozen? ⟨G, i, none⟩ = false ∧ W.ownsRow base 3 1 v M[i].length (M[i].map (Value.int .i64)) := by
  have hl : i < vs.length := by rw [h.len]; exact hi
  exact ⟨vs[i], List.getElem?_eq_getElem hl, h.outer.cell i (by simp [hl]), h.outer.frozen i, h.rows i _ _ (List.getElem?_eq_getElem hl) (List.getElem?_eq_getElem hi)⟩
end Go.Proofs.Ytalpgilncohkbaa

/-
  A slice of slices whose rows the call grows, at any type of elements (OwM, of any number of cells an element); slices of elements of several cells.
-/
namespace Go.Proofs.Ytalpgilncohkbaa
open Go.RowKit

/-- The slice value v reads as the list l, s cells an element. -/
def RdC {α : Type} (s : Nat) (enc : α → List Value) (W : World) (v : Value) (l : List α) : Prop :=
  ∃ a cap, v = .slice a l.length cap ∧ l.length ≤ cap ∧ cap ≤ maxLen ∧ ∀ i x, l[i]? = some x → ∃ b off, a = some ⟨b, off, none⟩ ∧ ∀ j u, (enc x)[j]? = some u → W.cell? ⟨b, off + i * s + j, none⟩ = some u
theorem RdC.mono {α : Type} {s : Nat} {enc : α → List Value} {W W' : World} {v : Value} {l : List α} (h : RdC s enc W v l) (hk : ∀ p x, W.cell? p = some x → W'.cell? p = some x) : RdC s enc W' v l := by
  obtain ⟨a, cap, h1, h2, h3, h4⟩ := h
  exact ⟨a, cap, h1, h2, h3, fun i x hx => let ⟨b, off, e, hc⟩ := h4 i x hx; ⟨b, off, e, fun j u hj => hk _ _ (hc j u hj)⟩⟩
theorem RdC.below {α : Type} {s : Nat} {enc : α → List Value} {W W' : World} {v : Value} {l : List α} (h : RdC s enc W v l) (hb : Below W.heap.size W W') : RdC s enc W' v l := h.mono (Below.keeps hb)
theorem RdC.open {α : Type} {s : Nat} {enc : α → List Value} {W : World} {v : Value} {l : List α} (h : RdC s enc W v l) : ∃ a cap, v = .slice a l.length cap ∧ l.length ≤ cap ∧ cap ≤ 9223372036854775807 ∧ ∀ i x, l[i]? = some x → ∃ b off, a = some ⟨b, off, none⟩ ∧ ∀ j u, (enc x)[j]? = some u → W.cell? ⟨b, off + i * s + j, none⟩ = some u := h
theorem flat_at {α : Type} {s : Nat} {enc : α → List Value} (hs : ∀ x, (enc x).length = s) : ∀ (l : List α) (i : Nat) (x : α) (j : Nat) (u : Value), l[i]? = some x → (enc x)[j]? = some u → (l.flatMap enc)[i * s + j]? = some u
  | [], i, x, j, u, h, _ => by cases h
  | y :: t, 0, x, j, u, h, hu => by
    cases h
    rw [List.flatMap_cons, Nat.zero_mul, Nat.zero_add, List.getElem?_append_left (List.getElem?_eq_some_iff.1 hu).1]
    exact hu
  | y :: t, i + 1, x, j, u, h, hu => by
    rw [List.flatMap_cons, List.getElem?_append_right (by rw [hs, Nat.add_mul]; omega), hs, show (i + 1) * s + j - s = i * s + j by rw [Nat.add_mul]; omega]
    exact flat_at hs t i x j u h hu
theorem RdC.of_own {α : Type} {s : Nat} {enc : α → List Value} (hs : ∀ x, (enc x).length = s) {W : World} {base : Nat} {e : TypeId} {v : Value} {l : List α} (h : W.ownsRow base e s v l.length (l.flatMap enc)) : RdC s enc W v l := by
  obtain ⟨_, h2⟩ := h
  rcases h2 with ⟨rfl, hn⟩ | ⟨g, cap, cur, rfl, hb, hh, hc, hm, hsz, ht⟩
  · have : l = [] := List.eq_nil_of_length_eq_zero hn
    subst this
    exact ⟨none, 0, rfl, Nat.le_refl _, by unfold maxLen; omega, fun i x h => by simp at h⟩
  · refine ⟨some ⟨g, 0, none⟩, cap, rfl, hc, hm, fun i x hx => ⟨g, 0, rfl, fun j u hj => ?_⟩⟩
    have h3 := flat_at hs l i x j u hx hj
    have hr : Row W g cur e := hh
    rw [Nat.zero_add]
    refine hr.cell _ ?_
    rw [← ht, List.getElem?_take] at h3
    split at h3
    · rw [← Array.getElem?_toList]; exact h3
    · cases h3
/-- .. of slices of such elements. -/
def RdMC {α : Type} (s : Nat) (enc : α → List Value) (W : World) (v : Value) (M : List (List α)) : Prop :=
  ∃ a cap, v = .slice a M.length cap ∧ M.length ≤ cap ∧ cap ≤ maxLen ∧ ∀ i row, M[i]? = some row → ∃ b off u, a = some ⟨b, off, none⟩ ∧ W.cell? ⟨b, off + i, none⟩ = some u ∧ RdC s enc W u row
theorem RdMC.mono {α : Type} {s : Nat} {enc : α → List Value} {W W' : World} {v : Value} {M : List (List α)} (h : RdMC s enc W v M) (hk : ∀ p x, W.cell? p = some x → W'.cell? p = some x) : RdMC s enc W' v M := by
  obtain ⟨a, cap, h1, h2, h3, h4⟩ := h
  exact ⟨a, cap, h1, h2, h3, fun i x hx => let ⟨b, off, u, e, hc, hr⟩ := h4 i x hx; ⟨b, off, u, e, hk _ _ hc, hr.mono hk⟩⟩
theorem RdMC.below {α : Type} {s : Nat} {enc : α → List Value} {W W' : World} {v : Value} {M : List (List α)} (h : RdMC s enc W v M) (hb : Below W.heap.size W W') : RdMC s enc W' v M := h.mono (Below.keeps hb)

/-- Block G holds the slices vs (of type tO), each of which owns its row of M (elements of type e, s cells each), made from block base on. -/
structure OwG {α : Type} (tO e : TypeId) (s : Nat) (enc : α → List Value) (W : World) (base G : Nat) (vs : List Value) (M : List (List α)) : Prop where
  outer : Row W G vs.toArray tO
  len : vs.length = M.length
  rows : ∀ (i : Nat) (v : Value) (row : List α), vs[i]? = some v → M[i]? = some row → W.ownsRow base e s v row.length (row.flatMap enc)
  apart : ∀ (i j : Nat) (v u : Value), i ≠ j → vs[i]? = some v → vs[j]? = some u → v.ownBlock = none ∨ v.ownBlock ≠ u.ownBlock
variable {α : Type} {tO e : TypeId} {s : Nat} {enc : α → List Value}
theorem OwG.below {W W' : World} {base G : Nat} {vs : List Value} {M : List (List α)} (h : OwG tO e s enc W base G vs M) (hb : Below W.heap.size W W') : OwG tO e s enc W' base G vs M :=
  ⟨h.outer.below hb, h.len, fun i v row hv hr => own_belowX (h.rows i v row hv hr) hb, h.apart⟩
/-- A row is grown, or made anew, and its slice is stored. -/
theorem OwG.put (hte : tO ≠ e) {W W' : World} {base G i g n cap : Nat} {vs : List Value} {M : List (List α)} {v : Value} {row row' : List α} (h : OwG tO e s enc W base G vs M) (hv : vs[i]? = some v) (_hrow : M[i]? = some row) {r : Option Nat} (hg : W.grownBy W' r) (hr : r = none ∨ r = v.ownBlock)
    (ho : W'.ownsRow base e s (.slice (some ⟨g, 0, none⟩) n cap) row'.length (row'.flatMap enc)) (hat : v.ownBlock = some g ∨ W.heap.size ≤ g) :
    OwG tO e s enc (W'.setCell ⟨G, i, none⟩ (.slice (some ⟨g, 0, none⟩) n cap)) base G (vs.set i (.slice (some ⟨g, 0, none⟩) n cap)) (M.set i row') := by
  have hne : ∀ (j : Nat) (u : Value), vs[j]? = some u → u.ownBlock ≠ some G := fun j u hu => by
    have hj : j < M.length := by rw [← h.len]; exact (List.getElem?_eq_some_iff.1 hu).1
    exact row_own_neX h.outer (h.rows j u _ hu (List.getElem?_eq_getElem hj)) hte
  have hrG : r ≠ some G := by
    rcases hr with rfl | rfl
    · simp
    · exact hne i v hv
  have hout : Row W' G vs.toArray tO := (hg.block G h.outer.lt (fun e => hrG e.symm)).trans h.outer
  have hgG : g ≠ G := fun e => row_own_neX hout ho hte (by rw [e]; rfl)
  have key : ∀ (j : Nat) (u : Value), j ≠ i → vs[j]? = some u → u.ownBlock = none ∨ u.ownBlock ≠ some g := fun j u hj hu => by
    rcases hat with ha | ha
    · rcases h.apart j i u v hj hu hv with h1 | h1
      · exact .inl h1
      · exact .inr (by rw [← ha]; exact h1)
    · cases hb : u.ownBlock with
      | none => exact .inl rfl
      | some k =>
        right
        intro e
        have hjl : j < M.length := by rw [← h.len]; exact (List.getElem?_eq_some_iff.1 hu).1
        have := (own_lt (h.rows j u _ hu (List.getElem?_eq_getElem hjl)) hb).2
        cases e
        omega
  refine ⟨?_, by rw [List.length_set, List.length_set]; exact h.len, fun j u rw' hu hrow' => ?_, fun j k u u' hjk hu hu' => ?_⟩
  · have h1 := hout.set i (.slice (some ⟨g, 0, none⟩) n cap)
    rw [show vs.toArray.setIfInBounds i (Value.slice (some ⟨g, 0, none⟩) n cap) = (vs.set i (.slice (some ⟨g, 0, none⟩) n cap)).toArray by simp] at h1
    exact h1
  · by_cases hji : i = j
    · subst hji
      have hil := (List.getElem?_eq_some_iff.1 hv).1
      rw [List.getElem?_set_self hil] at hu
      rw [List.getElem?_set_self (by rw [← h.len]; exact hil)] at hrow'
      cases hu
      cases hrow'
      exact own_setX ho _ _ (by simp only [Value.ownBlock]; intro e; cases e; exact hgG rfl)
    · rw [List.getElem?_set_ne hji] at hu hrow'
      refine own_setX ((h.rows j u rw' hu hrow').kept hg ?_) _ _ (hne j u hu)
      rcases hr with rfl | rfl
      · cases u.ownBlock <;> simp
      · exact h.apart j i u v (fun e => hji e.symm) hu hv
  · by_cases h1 : i = j
    · subst h1
      have hil := (List.getElem?_eq_some_iff.1 hv).1
      rw [List.getElem?_set_self hil] at hu
      rw [List.getElem?_set_ne hjk] at hu'
      cases hu
      right
      intro e
      rcases key k u' (fun e => hjk e.symm) hu' with h2 | h2
      · rw [h2] at e; cases e
      · exact h2 e.symm
    · rw [List.getElem?_set_ne h1] at hu
      by_cases h2 : i = k
      · subst h2
        have hil := (List.getElem?_eq_some_iff.1 hv).1
        rw [List.getElem?_set_self hil] at hu'
        cases hu'
        exact key j u (fun e => h1 e.symm) hu
      · rw [List.getElem?_set_ne h2] at hu'
        exact h.apart j k u u' hjk hu hu'
theorem OwG.rd (hs : ∀ x, (enc x).length = s) {W : World} {base G : Nat} {vs : List Value} {M : List (List α)} (h : OwG tO e s enc W base G vs M) {cap : Nat} (hc : M.length ≤ cap) (hm : cap ≤ maxLen) : RdMC s enc W (.slice (some ⟨G, 0, none⟩) M.length cap) M := by
  refine ⟨some ⟨G, 0, none⟩, cap, rfl, hc, hm, fun i row hi => ?_⟩
  have hl : i < vs.length := by rw [h.len]; exact (List.getElem?_eq_some_iff.1 hi).1
  have hv : vs[i]? = some vs[i] := List.getElem?_eq_getElem hl
  refine ⟨G, 0, vs[i], rfl, ?_, RdC.of_own hs (h.rows i _ row hv hi)⟩
  rw [Nat.zero_add]
  exact h.outer.cell i (by simp [hl])
/-- All rows are nil. -/
theorem OwG.nil {W : World} {base G n : Nat} (hG : Row W G (List.replicate n (Value.slice none 0 0)).toArray tO) : OwG tO e s enc W base G (List.replicate n (.slice none 0 0)) (List.replicate n []) := by
  refine ⟨hG, by simp, fun i v row hv hr => ?_, fun i j v u _ hv _ => ?_⟩
  · obtain rfl := (List.mem_replicate.1 (List.mem_of_getElem? hv)).2
    obtain rfl := (List.mem_replicate.1 (List.mem_of_getElem? hr)).2
    exact World.ownsRow_nil _ _ _ _
  · obtain rfl := (List.mem_replicate.1 (List.mem_of_getElem? hv)).2
    exact .inl rfl
end Go.Proofs.Ytalpgilncohkbaa

/-
  For loops over a function whose body collects into a variable that lies in a box.
-/
namespace Go.Proofs.Ytalpgilncohkbaa
open Go.RowKit

theorem frozen_nw (W : World) (cs : Array Value) (t : TypeId) (i : Nat) {x : Value} (_ : cs[i]? = some x) : (W.alloc (.cells cs t)).frozen? ⟨W.heap.size, i, none⟩ = false := by
  have := heap_alloc_new W (.cells cs t)
  unfold World.frozen?
  rw [this]; simp
theorem frozen_al {W : World} {p : Addr} (h : W.frozen? p = false) (hp : p.block < W.heap.size) (o : Obj) : (W.alloc o).frozen? p = false := ((below_al W o).frozen hp).trans h

/-- What the rounds keep: all that lay below n₀, but for two blocks. -/
def KpX (n₀ b1 b2 : Nat) (A B : World) : Prop := A.heap.size ≤ B.heap.size ∧ ∀ k, k < n₀ → k ≠ b1 → k ≠ b2 → B.heap[k]? = A.heap[k]?
theorem KpX.tr {n₀ b1 b2 : Nat} {A B C : World} (h : KpX n₀ b1 b2 A B) (k : KpX n₀ b1 b2 B C) : KpX n₀ b1 b2 A C :=
  ⟨Nat.le_trans h.1 k.1, fun i h1 h2 h3 => (k.2 i h1 h2 h3).trans (h.2 i h1 h2 h3)⟩
theorem KpX.put {n₀ b1 b2 m : Nat} (hn : n₀ ≤ m) (W : World) (l : Nat) (o o' : Obj) (hl : m ≤ l) (_ : W.heap[l]? = some o) (_ : o.isCells = false) (_ : o.isWalk = false) : KpX n₀ b1 b2 W (W.putObj l o') :=
  ⟨by simp [World.putObj], fun k hk _ _ => World.putObj_heap_other (by omega)⟩
theorem KpX.cell {n₀ b1 b2 : Nat} {A B : World} (h : KpX n₀ b1 b2 A B) {p : Addr} {x : Value} (hx : A.cell? p = some x) (h1 : p.block < n₀) (h2 : p.block ≠ b1) (h3 : p.block ≠ b2) : B.cell? p = some x :=
  (World.cell?_of_block (h.2 p.block h1 h2 h3)).trans hx
theorem Rd.blk {α : Type} {enc : α → Value} {W W' : World} {v : Value} {l : List α} (h : Rd enc W v l) (hk : ∀ k, v.ownBlock = some k → W'.heap[k]? = W.heap[k]?) : Rd enc W' v l := by
  obtain ⟨a, cap, rfl, h2, h3, h4⟩ := h
  refine ⟨a, cap, rfl, h2, h3, fun i x hx => ?_⟩
  obtain ⟨b, off, rfl, hc⟩ := h4 i x hx
  exact ⟨b, off, rfl, (World.cell?_of_block (hk b rfl)).trans hc⟩

theorem keepsFrom_below {n : Nat} {W W' : World} (h : Below W.heap.size W W') : KeepsFrom n W W' :=
  ⟨h.size, fun k _ _ hk _ => (h.block k (Array.getElem?_eq_some_iff.1 hk).1).trans hk⟩
theorem kpX_below {n b1 b2 : Nat} {W W' : World} (h : Below W.heap.size W W') (hn : n ≤ W.heap.size) : KpX n b1 b2 W W' := ⟨h.size, fun k hk _ _ => h.block k (by omega)⟩
theorem own_below {W W' : World} {base : Nat} {e : TypeId} {size : Nat} {v : Value} {n : Nat} {xs : List Value} (h : W.ownsRow base e size v n xs) (hb : Below W.heap.size W W') : W'.ownsRow base e size v n xs :=
  h.kept (row := none) ⟨hb.os, hb.tape, hb.output, hb.size, fun k hk _ => hb.block k hk⟩ (by cases v.ownBlock <;> simp)
theorem leave2 {F : Fence} {n : Nat} {P : Program} {fn : Func} {tmps : Array Value} {R : Ending → World → Prop} {w : World} {t u : Tmp} (h : fn.results = #[.tmp t, .tmp u])
    (hR : R (.returned (.tuple #[tmps.getD t undef, tmps.getD u undef])) w) : LeavesInM F n P fn tmps R [] .returning w := ⟨_, results_tmp2 h _ _ _, hR⟩

theorem leave1 {F : Fence} {n : Nat} {P : Program} {fn : Func} {tmps : Array Value} {R : Ending → World → Prop} {w : World} {t : Tmp} (h : fn.results = #[.tmp t])
    (hR : R (.returned (tmps.getD t undef)) w) : LeavesInM F n P fn tmps R [] .returning w := ⟨_, results_tmp h _ _ _, hR⟩

/-- Between two rounds: the box B holds a slice that owns its row of strings, made behind the block n₁. -/
def InvA (wr : World) (n₁ B : Nat) (t e : TypeId) (ks : List ByteArray) (W : World) : Prop :=
  (∃ v, Boxed W B t v ∧ W.ownsRow n₁ e 1 v ks.length (ks.map Value.string)) ∧ Below wr.heap.size wr W ∧ n₁ ≤ W.heap.size
theorem InvA.own {β : Type} (wr : World) (n₁ B : Nat) (t e : TypeId) (B' : Nat) (f : β → List ByteArray) (hw : wr.heap.size ≤ B') : OwnFrom B' (fun s W => InvA wr n₁ B t e (f s) W) := by
  intro s W W' row hs hg hr
  obtain ⟨⟨v, h1, h2⟩, h7, h8⟩ := hs
  obtain ⟨v', h1', h2', _⟩ := holdsRow_own n₁ B t e 1 (fun s => (f s).length) (fun s => (f s).map Value.string) (fun _ _ => True) s W W' row ⟨v, h1, h2, trivial⟩ hg (fun r e => (hr r e).2)
  exact ⟨⟨v', h1', h2'⟩, h7.grown hg h7.size (fun k e => Nat.le_trans hw (hr k e).1), Nat.le_trans h8 hg.size⟩
theorem InvA.below {wr : World} {n₁ B : Nat} {t e : TypeId} {ks : List ByteArray} {W W' : World} (h : InvA wr n₁ B t e ks W) (hb : Below W.heap.size W W') : InvA wr n₁ B t e ks W' := by
  obtain ⟨⟨v, h1, h2⟩, h7, h8⟩ := h
  exact ⟨⟨v, (hb.block B h1.lt).trans h1, own_below h2 hb⟩, h7.trans (hb.mono h7.size), Nat.le_trans h8 hb.size⟩
theorem keeps_box {n B : Nat} {W w1 : World} {row : Option Nat} (hg : W.grownBy w1 row) (hrow : ∀ r, row = some r → n ≤ r) (hc : ∀ r, row = some r → ∃ o : Obj, W.heap[r]? = some o ∧ o.isCells = true) (hB : B < n) (hn : n ≤ W.heap.size) (v' : Value) :
    KeepsFrom n W (w1.setCell ⟨B, 0, none⟩ v') ∧ KpX n B B W (w1.setCell ⟨B, 0, none⟩ v') := by
  have hsz : (w1.setCell ⟨B, 0, none⟩ v').heap.size = w1.heap.size := by simp [World.setCell]
  refine ⟨⟨by rw [hsz]; exact hg.size, fun k o hB' hk ho => ?_⟩, ⟨by rw [hsz]; exact hg.size, fun k hk hk1 _ => ?_⟩⟩
  · rw [Below.heap_setCell _ _ _ _ (by simp; omega)]
    refine (hg.block k (Array.getElem?_eq_some_iff.1 hk).1 (fun e => ?_)).trans hk
    obtain ⟨o', ho', hc'⟩ := hc k e.symm
    rw [hk] at ho'; cases ho'; rw [ho] at hc'; cases hc'
  · rw [Below.heap_setCell _ _ _ _ (by simpa using hk1)]
    exact hg.block k (by omega) (fun e => by have := hrow k e.symm; omega)
theorem own_cells {W : World} {base : Nat} {e : TypeId} {size : Nat} {v : Value} {n : Nat} {xs : List Value} (h : W.ownsRow base e size v n xs) : ∀ r, v.ownBlock = some r → ∃ o : Obj, W.heap[r]? = some o ∧ o.isCells = true := by
  intro r hr
  rcases h.2 with ⟨rfl, _⟩ | ⟨g, cap, cur, rfl, _, hgb, _⟩
  · cases hr
  · cases hr; exact ⟨_, hgb, rfl⟩
/-- What a round leaves. -/
def bodyA (wr : World) (n₁ B : Nat) (t e : TypeId) (ks : List ByteArray) (W : World) : Exit → Act → World → Prop
  | .normal, _, W' => KeepsFrom n₁ W W' ∧ KpX n₁ B B W W' ∧ InvA wr n₁ B t e ks W'
  | _, _, _ => False
/-- Behind 'out = append(out, x)'. -/
theorem InvA.push {wr : World} {n₁ B : Nat} {t e : TypeId} {ks : List ByteArray} {W w1 : World} {v : Value} {g cap : Nat} {x : ByteArray} (hbx : Boxed W B t v) (hte : t ≠ e) (hown : W.ownsRow n₁ e 1 v ks.length (ks.map Value.string)) (hBw : Below wr.heap.size wr W) (hn : n₁ ≤ W.heap.size)
    (hB : B < n₁) (hwB : wr.heap.size ≤ B) (hown' : w1.ownsRow n₁ e 1 (.slice (some ⟨g, 0, none⟩) (ks.length + 1) cap) (ks.length + 1) (ks.map Value.string ++ [.string x])) (hgr : W.grownBy w1 v.ownBlock) :
    KeepsFrom n₁ W (w1.setCell ⟨B, 0, none⟩ (.slice (some ⟨g, 0, none⟩) (ks.length + 1) cap)) ∧ KpX n₁ B B W (w1.setCell ⟨B, 0, none⟩ (.slice (some ⟨g, 0, none⟩) (ks.length + 1) cap)) ∧
      InvA wr n₁ B t e (ks ++ [x]) (w1.setCell ⟨B, 0, none⟩ (.slice (some ⟨g, 0, none⟩) (ks.length + 1) cap)) := by
  have hv1 : Boxed w1 B t v := hbx.kept hgr (hbx.not_row hte hown)
  obtain ⟨k1, k2⟩ := keeps_box hgr (fun r hr => (hown.lt r hr).1) (own_cells hown) hB hn (.slice (some ⟨g, 0, none⟩) (ks.length + 1) cap)
  refine ⟨k1, k2, ⟨_, hv1.set _, ?_⟩, ?_, ?_⟩
  · have h := hown'.kept (grownBy_setCell' w1 B (.slice (some ⟨g, 0, none⟩) (ks.length + 1) cap)) (.inr (hv1.not_row hte hown').symm)
    simpa using h
  · exact (hBw.grown hgr hBw.size (fun k e => by have := (hown.lt k e).1; omega)).setCell (p := ⟨B, 0, none⟩) hwB _
  · have := hgr.size
    simp [World.setCell]; omega
end Go.Proofs.Ytalpgilncohkbaa

/-
  A loop over a function that writes a variable of its own between two rounds, in a box that was laid ahead of the loop; the body never leaves the loop.
-/
namespace Go.Proofs.Ytalpgilncohkbaa
open Go.RowKit

/-- What the iterator is shown to do, for every promise J that also abides its own writing to the box Bs. -/
def Yields {α : Type} (F : Fence) (n : Nat) (P : Program) (g : Nat) (lb : Array Value) (encs : α → Array Value) (Kp : World → World → Prop) (S : List α → Prop) (N Bs : Nat) (w : World) : Prop :=
  ∀ (l : Nat) (J : List α → World → Prop) (W : World), Below w.heap.size w W → AbidesFrom W.heap.size J → (∀ pre W1 v, J pre W1 → J pre (W1.setCell ⟨Bs, 0, none⟩ v)) →
    (∀ pre x W1, J pre W1 → pre.length < N → YieldAt F (n - 1) P l (encs x) W1 fun e W' => e = .returned (.bool true) ∧ J (pre ++ [x]) W' ∧ Kp W1 W') →
    J [] W → CallsIn F n P g (#[.func (.yield l) #[] #[]] ++ lb) W fun e W' => (∃ v, e = .returned v) ∧ ∃ xs, S xs ∧ J xs W'

/-- What a round of the body leaves: it goes on, always. -/
def goesOn {α : Type} (B : Nat) (Kp : World → World → Prop) (I : List α → World → Prop) (xs : List α) (W : World) : Exit → Act → World → Prop
  | .normal, _, W' => KeepsFrom B W W' ∧ Kp W W' ∧ I xs W'
  | _, _, _ => False

set_option maxHeartbeats 1000000 in
theorem wpIn_rangeFunc_box {F : Fence} {n : Nat} {P : Program} {α : Type} {g : Operand} {ps : Array Tmp} {assign body : Code} {Q : Exit → Act → World → Prop} {a : Act} {w : World}
    (hro : F.round = none) (h1 : 1 ≤ n) {gf : Nat} {lb : Array Value} (hg : a.eval g = .func (.func gf) #[] lb) (hFg : F.fn gf) (eg : ∀ args w, (callFunc gf args).run P w = .ok (.enter gf args) w)
    {encs : α → Array Value} {Kp : World → World → Prop} {S : List α → Prop} {N Bs : Nat} (hseq : Yields F (n - 1) P gf lb encs Kp S N Bs w) (hBs : Bs < w.heap.size)
    (hKt : ∀ {A B C : World}, Kp A B → Kp B C → Kp A C) (hKb : ∀ (W : World) (l : Nat) (o o' : Obj), w.heap.size ≤ l → W.heap[l]? = some o → o.isCells = false → o.isWalk = false → Kp W (W.putObj l o')) (hps : ∀ x, (encs x).size = ps.size)
    (I : List α → World → Prop) (hI : OwnFrom w.heap.size I) (hIs : ∀ pre W v, I pre W → I pre (W.setCell ⟨Bs, 0, none⟩ v)) (h0 : I [] w) (a₁ : α → Act)
    (hassign : ∀ (l : Nat) (x : α) (W : World) (K : Act → World → Prop), K (a₁ x) W →
      assign.wpIn (F.inRound l) (n - 1 - 1) P (Exit.then K (fun _ _ _ => False)) { tmps := (ps.zip (encs x)).foldl (fun t (p, v) => t.setIfInBounds p v) a.tmps, defers := [] } W)
    (hbody : ∀ (l : Nat) (pre : List α) (x : α) (W : World), I pre W → pre.length < N → body.wpIn (F.inRound l) (n - 1 - 1) P (goesOn w.heap.size Kp I (pre ++ [x]) W) (a₁ x) W)
    (hdone : ∀ (D : Nat) (xs : List α) (W : World), w.heap.size ≤ D → S xs → I xs W → W.heap[D]? = some (.deferred (some [])) → Q .normal { a with defers := { target := .collected D, args := #[] } :: a.defers } W) :
    (Code.rangeFunc g ps assign body).wpIn F n P Q a w := by
  refine wpIn_rangeFunc fun fn hfn => ?_
  rw [hro]
  let R : LoopState → Option Code → Loop := fun st pe => { state := st, pending := pe, fn, tmps := a.tmps, params := ps, assign, body, defers := w.heap.size }
  have szD : (w.alloc (.deferred (some []))).heap.size = w.heap.size + 1 := World.size_alloc _ _
  obtain ⟨V, hV⟩ : ∃ V, V = (w.alloc (.deferred (some []))).alloc (.loop (R .ready none)) := ⟨_, rfl⟩
  have szV : V.heap.size = w.heap.size + 2 := by rw [hV, World.size_alloc, szD]
  have atL : V.heap[w.heap.size + 1]? = some (.loop (R .ready none)) := by rw [hV, ← szD]; exact World.alloc_heap_new _ _
  have atD : V.heap[w.heap.size]? = some (.deferred (some [])) := by rw [hV]; exact (Below.heap_alloc _ _ _ (by simp)).trans (World.alloc_heap_new w _)
  have bV : Below w.heap.size w V := by rw [hV]; exact ((Below.refl _ w).alloc (Nat.le_refl _) _).alloc (by simp) _
  have iV : I [] V := by rw [hV]; exact hI.alloc _ (hI.alloc _ h0)
  refine ⟨w.heap.size + 1, [{ target := .collected w.heap.size, args := #[] }], V, { target := .fn (.func gf) lb, args := #[.func (.yield (w.heap.size + 1)) #[] #[]] }, V, gf,
    #[.func (.yield (w.heap.size + 1)) #[] #[]] ++ lb, V, ?_, ?_, ?_, ?_, fun _ => h1, ?_⟩
  · rw [hV]; exact run_enterLoop_outer _ _ _ _ _
  · simp only [resolve, hg]
    simp [go_sem]
  · intro f' hf'; simp [Target.leads] at hf'; subst hf'; exact hFg
  · simp [invoke, go_sem, eg]
  -- the two blocks of the loop's book-keeping stand beside I
  let J : List α → World → Prop := fun pre W => I pre W ∧ W.heap[w.heap.size + 1]? = some (.loop (R .ready none)) ∧ W.heap[w.heap.size]? = some (.deferred (some []))
  have jA : AbidesFrom V.heap.size J := by
    intro pre A B row hj hgr hr
    have keep : ∀ (k : Nat) (o : Obj), A.heap[k]? = some o → o.isWalk = false → B.heap[k]? = some o := fun k o hk ho => (grownBy_keeps hgr (fun r e => (hr r e).2) hk ho).trans hk
    refine ⟨hI pre A B row hj.1 hgr (fun r e => ?_), keep _ _ hj.2.1 rfl, keep _ _ hj.2.2 rfl⟩
    obtain ⟨hge, o, ho, hw⟩ := hr r e
    exact ⟨by omega, o, ho, Obj.not_cells_of_walk hw⟩
  have jS : ∀ pre W1 v, J pre W1 → J pre (W1.setCell ⟨Bs, 0, none⟩ v) := by
    intro pre W1 v hj
    refine ⟨hIs pre W1 v hj.1, ?_, ?_⟩
    · rw [Below.heap_setCell _ _ _ _ (by simp; omega)]; exact hj.2.1
    · rw [Below.heap_setCell _ _ _ _ (by simp; omega)]; exact hj.2.2
  refine (hseq (w.heap.size + 1) J V bV jA jS ?_ ⟨iV, atL, atD⟩).mono ?_
  · rintro pre x W ⟨hi, hl, hd⟩ hlen
    have lt : w.heap.size + 1 < W.heap.size := (Array.getElem?_eq_some_iff.1 hl).1
    refine ⟨fn, _, assign, body, run_yield (P := P) (args := encs x) hl (hps x), roundIn_of_wpIn hfn (hassign _ x W _ ⟨_, run_beginRound hl rfl, ?_⟩)⟩
    let U := W.putObj (w.heap.size + 1) (.loop { R .ready none with state := .busy })
    have uL : U.heap[w.heap.size + 1]? = some (.loop { R .ready none with state := .busy }) := World.putObj_heap_same lt
    have uD : U.heap[w.heap.size]? = some (.deferred (some [])) := (World.putObj_heap_other (by omega)).trans hd
    have uK : Kp W U := hKb _ _ _ _ (by omega) hl rfl rfl
    refine wpIn_mono (hbody _ pre x U (hI.putObj _ hi (by omega) hl rfl) hlen) ?_
    rintro e a3 W3 hp
    cases e with
    | normal =>
      obtain ⟨k3, p3, i3⟩ := hp
      have l3 := k3.same _ _ (by omega) uL rfl
      have d3 := k3.same _ _ (Nat.le_refl _) uD rfl
      refine ⟨_, _, run_endRound (P := P) none l3, rfl, ⟨hI.putObj _ i3 (by omega) l3 rfl, World.putObj_heap_same (Array.getElem?_eq_some_iff.1 l3).1, (World.putObj_heap_other (by omega)).trans d3⟩, ?_⟩
      exact hKt (hKt uK p3) (hKb _ _ _ _ (by omega) l3 rfl rfl)
    | _ => exact hp.elim
  · rintro e W2 ⟨⟨v, rfl⟩, xs, hS, hi, hl, hd⟩
    exact ⟨none, _, run_endLoop (P := P) hl (by simp [R]), hdone _ xs _ (Nat.le_refl _) hS (hI.putObj _ hi (by omega) hl rfl) ((World.putObj_heap_other (by omega)).trans hd)⟩
end Go.Proofs.Ytalpgilncohkbaa

/-
  A loop over a function that writes a variable of its own between two rounds, in a box that was laid ahead of the loop; the body may leave the loop.
-/
namespace Go.Proofs.Ytalpgilncohkbaa
open Go.RowKit

/-- What the iterator is shown to do, for every promise J that also abides its own writing to the box Bs. -/
def YieldsS {α : Type} (F : Fence) (n : Nat) (P : Program) (g : Nat) (lb : Array Value) (encs : α → Array Value) (Kp : World → World → Prop) (S Sp : List α → Prop) (N Bs : Nat) (w : World) : Prop :=
  ∀ (l : Nat) (J Jx : List α → World → Prop) (W : World), Below w.heap.size w W → AbidesFrom W.heap.size J → (∀ pre W1 v, J pre W1 → J pre (W1.setCell ⟨Bs, 0, none⟩ v)) →
    (∀ pre x W1, J pre W1 → pre.length < N → YieldAt F (n - 1) P l (encs x) W1 fun e W' => (e = .returned (.bool true) ∧ J (pre ++ [x]) W' ∧ Kp W1 W') ∨ (e = .returned (.bool false) ∧ Jx (pre ++ [x]) W')) →
    J [] W → CallsIn F n P g (#[.func (.yield l) #[] #[]] ++ lb) W fun e W' => (∃ v, e = .returned v) ∧ ((∃ xs, S xs ∧ J xs W') ∨ (∃ pre, Sp pre ∧ Jx pre W'))

set_option maxHeartbeats 1000000 in
theorem wpIn_rangeFunc_boxS {F : Fence} {n : Nat} {P : Program} {α : Type} {g : Operand} {ps : Array Tmp} {assign body : Code} {Q : Exit → Act → World → Prop} {a : Act} {w : World}
    (hro : F.round = none) (h1 : 1 ≤ n) {gf : Nat} {lb : Array Value} (hg : a.eval g = .func (.func gf) #[] lb) (hFg : F.fn gf) (eg : ∀ args w, (callFunc gf args).run P w = .ok (.enter gf args) w)
    {encs : α → Array Value} {Kp : World → World → Prop} {S Sp : List α → Prop} {N Bs : Nat} (hseq : YieldsS F (n - 1) P gf lb encs Kp S Sp N Bs w) (hBs : Bs < w.heap.size)
    (hKt : ∀ {A B C : World}, Kp A B → Kp B C → Kp A C) (hKb : ∀ (W : World) (l : Nat) (o o' : Obj), w.heap.size ≤ l → W.heap[l]? = some o → o.isCells = false → o.isWalk = false → Kp W (W.putObj l o')) (hps : ∀ x, (encs x).size = ps.size)
    (I : List α → World → Prop) (Ix : Code → List α → World → Prop) (hI : OwnFrom w.heap.size I) (hIx : ∀ c, OwnFrom w.heap.size (Ix c)) (hIs : ∀ pre W v, I pre W → I pre (W.setCell ⟨Bs, 0, none⟩ v)) (h0 : I [] w) (a₁ : α → Nat → Act) (Ax : α → Nat → World → Prop) (hAx : ∀ x q, OwnFrom w.heap.size (fun (_ : Unit) W => Ax x q W))
    (hassign : ∀ (l : Nat) (pre : List α) (x : α) (W : World) (K : Act → World → Prop), I pre W → (∀ q W', KeepsFrom w.heap.size W W' → Kp W W' → I pre W' → Ax x q W' → K (a₁ x q) W') →
      assign.wpIn (F.inRound l) (n - 1 - 1) P (Exit.then K (fun _ _ _ => False)) { tmps := (ps.zip (encs x)).foldl (fun t (p, v) => t.setIfInBounds p v) a.tmps, defers := [] } W)
    (hbody : ∀ (l : Nat) (pre : List α) (x : α) (q : Nat) (W : World), I pre W → Ax x q W → pre.length < N → body.wpIn (F.inRound l) (n - 1 - 1) P (ownPostG w.heap.size Kp I Ix (pre ++ [x]) W) (a₁ x q) W)
    (hdone : ∀ (D : Nat) (xs : List α) (W : World), w.heap.size ≤ D → S xs → I xs W → W.heap[D]? = some (.deferred (some [])) → Q .normal { a with defers := { target := .collected D, args := #[] } :: a.defers } W)
    (hstop : ∀ (D : Nat) (c : Code) (pre : List α) (W : World), w.heap.size ≤ D → Sp pre → Ix c pre W → W.heap[D]? = some (.deferred (some [])) → c.wpIn F n P Q { a with defers := { target := .collected D, args := #[] } :: a.defers } W) :
    (Code.rangeFunc g ps assign body).wpIn F n P Q a w := by
  refine wpIn_rangeFunc fun fn hfn => ?_
  rw [hro]
  let R : LoopState → Option Code → Loop := fun st pe => { state := st, pending := pe, fn, tmps := a.tmps, params := ps, assign, body, defers := w.heap.size }
  have szD : (w.alloc (.deferred (some []))).heap.size = w.heap.size + 1 := World.size_alloc _ _
  obtain ⟨V, hV⟩ : ∃ V, V = (w.alloc (.deferred (some []))).alloc (.loop (R .ready none)) := ⟨_, rfl⟩
  have szV : V.heap.size = w.heap.size + 2 := by rw [hV, World.size_alloc, szD]
  have atL : V.heap[w.heap.size + 1]? = some (.loop (R .ready none)) := by rw [hV, ← szD]; exact World.alloc_heap_new _ _
  have atD : V.heap[w.heap.size]? = some (.deferred (some [])) := by rw [hV]; exact (Below.heap_alloc _ _ _ (by simp)).trans (World.alloc_heap_new w _)
  have bV : Below w.heap.size w V := by rw [hV]; exact ((Below.refl _ w).alloc (Nat.le_refl _) _).alloc (by simp) _
  have iV : I [] V := by rw [hV]; exact hI.alloc _ (hI.alloc _ h0)
  refine ⟨w.heap.size + 1, [{ target := .collected w.heap.size, args := #[] }], V, { target := .fn (.func gf) lb, args := #[.func (.yield (w.heap.size + 1)) #[] #[]] }, V, gf,
    #[.func (.yield (w.heap.size + 1)) #[] #[]] ++ lb, V, ?_, ?_, ?_, ?_, fun _ => h1, ?_⟩
  · rw [hV]; exact run_enterLoop_outer _ _ _ _ _
  · simp only [resolve, hg]
    simp [go_sem]
  · intro f' hf'; simp [Target.leads] at hf'; subst hf'; exact hFg
  · simp [invoke, go_sem, eg]
  -- the two blocks of the loop's book-keeping stand beside I
  let J : List α → World → Prop := fun pre W => I pre W ∧ W.heap[w.heap.size + 1]? = some (.loop (R .ready none)) ∧ W.heap[w.heap.size]? = some (.deferred (some []))
  let Jx : List α → World → Prop := fun pre W => ∃ c, Ix c pre W ∧ W.heap[w.heap.size + 1]? = some (.loop (R .done (some c))) ∧ W.heap[w.heap.size]? = some (.deferred (some []))
  have jA : AbidesFrom V.heap.size J := by
    intro pre A B row hj hgr hr
    have keep : ∀ (k : Nat) (o : Obj), A.heap[k]? = some o → o.isWalk = false → B.heap[k]? = some o := fun k o hk ho => (grownBy_keeps hgr (fun r e => (hr r e).2) hk ho).trans hk
    refine ⟨hI pre A B row hj.1 hgr (fun r e => ?_), keep _ _ hj.2.1 rfl, keep _ _ hj.2.2 rfl⟩
    obtain ⟨hge, o, ho, hw⟩ := hr r e
    exact ⟨by omega, o, ho, Obj.not_cells_of_walk hw⟩
  have jS : ∀ pre W1 v, J pre W1 → J pre (W1.setCell ⟨Bs, 0, none⟩ v) := by
    intro pre W1 v hj
    refine ⟨hIs pre W1 v hj.1, ?_, ?_⟩
    · rw [Below.heap_setCell _ _ _ _ (by simp; omega)]; exact hj.2.1
    · rw [Below.heap_setCell _ _ _ _ (by simp; omega)]; exact hj.2.2
  refine (hseq (w.heap.size + 1) J Jx V bV jA jS ?_ ⟨iV, atL, atD⟩).mono ?_
  · rintro pre x W ⟨hi, hl, hd⟩ hlen
    refine ⟨fn, _, assign, body, run_yield (P := P) (args := encs x) hl (hps x), roundIn_of_wpIn hfn (hassign _ pre x W _ hi ?_)⟩
    intro q Wa hkfa hkpa hia hax
    have lA := hkfa.same _ _ (by omega) hl rfl
    have dA := hkfa.same _ _ (Nat.le_refl _) hd rfl
    have lt : w.heap.size + 1 < Wa.heap.size := (Array.getElem?_eq_some_iff.1 lA).1
    refine ⟨_, run_beginRound lA rfl, ?_⟩
    let U := Wa.putObj (w.heap.size + 1) (.loop { R .ready none with state := .busy })
    have uL : U.heap[w.heap.size + 1]? = some (.loop { R .ready none with state := .busy }) := World.putObj_heap_same lt
    have uD : U.heap[w.heap.size]? = some (.deferred (some [])) := (World.putObj_heap_other (by omega)).trans dA
    have uK : Kp Wa U := hKb _ _ _ _ (by omega) lA rfl rfl
    refine wpIn_mono (hbody _ pre x q U (hI.putObj _ hia (by omega) lA rfl) ((hAx x q).putObj (s := ()) _ hax (by omega) lA rfl) hlen) ?_
    rintro e a3 W3 hp
    cases e with
    | normal =>
      obtain ⟨k3, p3, i3⟩ := hp
      have l3 := k3.same _ _ (by omega) uL rfl
      have d3 := k3.same _ _ (Nat.le_refl _) uD rfl
      refine ⟨_, _, run_endRound (P := P) none l3, .inl ⟨rfl, ⟨hI.putObj _ i3 (by omega) l3 rfl, World.putObj_heap_same (Array.getElem?_eq_some_iff.1 l3).1, (World.putObj_heap_other (by omega)).trans d3⟩, ?_⟩⟩
      exact hKt hkpa (hKt (hKt uK p3) (hKb _ _ _ _ (by omega) l3 rfl rfl))
    | ret =>
      obtain ⟨k3, i3⟩ := hp
      have l3 := k3.same _ _ (by omega) uL rfl
      have d3 := k3.same _ _ (Nat.le_refl _) uD rfl
      exact ⟨_, _, run_endRound (P := P) (some .ret) l3, .inr ⟨rfl, .ret, (hIx _).putObj _ i3 (by omega) l3 rfl, World.putObj_heap_same (Array.getElem?_eq_some_iff.1 l3).1, (World.putObj_heap_other (by omega)).trans d3⟩⟩
    | exit id =>
      obtain ⟨k3, i3⟩ := hp
      have l3 := k3.same _ _ (by omega) uL rfl
      have d3 := k3.same _ _ (Nat.le_refl _) uD rfl
      exact ⟨_, _, run_endRound (P := P) (some (.exit id)) l3, .inr ⟨rfl, .exit id, (hIx _).putObj _ i3 (by omega) l3 rfl, World.putObj_heap_same (Array.getElem?_eq_some_iff.1 l3).1, (World.putObj_heap_other (by omega)).trans d3⟩⟩
    | goto t =>
      obtain ⟨k3, i3⟩ := hp
      have l3 := k3.same _ _ (by omega) uL rfl
      have d3 := k3.same _ _ (Nat.le_refl _) uD rfl
      exact ⟨_, _, run_endRound (P := P) (some (.goto t)) l3, .inr ⟨rfl, .goto t, (hIx _).putObj _ i3 (by omega) l3 rfl, World.putObj_heap_same (Array.getElem?_eq_some_iff.1 l3).1, (World.putObj_heap_other (by omega)).trans d3⟩⟩
    | panic ch => exact hp.elim
    | outgrown => exact hp.elim
  · rintro e W2 ⟨⟨v, rfl⟩, (⟨xs, hS, hi, hl, hd⟩ | ⟨pre, hSp, c, hi, hl, hd⟩)⟩
    · exact ⟨none, _, run_endLoop (P := P) hl (by simp [R]), hdone _ xs _ (Nat.le_refl _) hS (hI.putObj _ hi (by omega) hl rfl) ((World.putObj_heap_other (by omega)).trans hd)⟩
    · exact ⟨some c, _, run_endLoop (P := P) hl (by simp [R]), hstop _ c pre _ (Nat.le_refl _) hSp ((hIx c).putObj _ hi (by omega) hl rfl) ((World.putObj_heap_other (by omega)).trans hd)⟩
end Go.Proofs.Ytalpgilncohkbaa

/-
  A function that leaves several marks of loops over functions (such a loop inside an ordinary one).
-/
namespace Go.Proofs.Ytalpgilncohkbaa
open Go.RowKit

def mksD (Ds : List Nat) : List Deferred := Ds.map fun D => { target := .collected D, args := #[] }
structure MkOk (B : Nat) (Ds : List Nat) (W : World) : Prop where
  nd : Ds.Nodup
  at_ : ∀ D ∈ Ds, B ≤ D ∧ W.heap[D]? = some (.deferred (some []))
theorem MkOk.nil (B : Nat) (W : World) : MkOk B [] W := ⟨List.nodup_nil, fun D h => by cases h⟩
theorem MkOk.keeps {B n : Nat} {Ds : List Nat} {W W' : World} (h : MkOk B Ds W) (hn : n ≤ B) (hk : KeepsFrom n W W') : MkOk B Ds W' :=
  ⟨h.nd, fun D hD => ⟨(h.at_ D hD).1, hk.2 D _ (Nat.le_trans hn (h.at_ D hD).1) (h.at_ D hD).2 rfl⟩⟩
theorem MkOk.below {B : Nat} {Ds : List Nat} {W W' : World} (h : MkOk B Ds W) (hb : Below W.heap.size W W') : MkOk B Ds W' := h.keeps (Nat.zero_le _) (keepsFrom_below hb)
theorem MkOk.lt {B : Nat} {Ds : List Nat} {W : World} (h : MkOk B Ds W) {D : Nat} (hD : D ∈ Ds) : D < W.heap.size := (Array.getElem?_eq_some_iff.1 (h.at_ D hD).2).1
/-- One mark more, of a block that was not there. -/
theorem MkOk.cons {B n : Nat} {Ds : List Nat} {W W' : World} (h : MkOk B Ds W) (hk : KeepsFrom n W W') (hn : n ≤ B) {D : Nat} (hD : W.heap.size ≤ D) (hB : B ≤ D) (hat : W'.heap[D]? = some (.deferred (some []))) : MkOk B (D :: Ds) W' := by
  have h' := h.keeps hn hk
  refine ⟨List.nodup_cons.2 ⟨fun hm => by have := h.lt hm; omega, h.nd⟩, fun E hE => ?_⟩
  rcases List.mem_cons.1 hE with rfl | hE
  · exact ⟨hB, hat⟩
  · exact h'.at_ E hE
theorem leaveMks {F : Fence} {n : Nat} {P : Program} {fn : Func} {tmps : Array Value} {R : Ending → World → Prop} {t : Tmp} (hres : fn.results = #[.tmp t]) {B : Nat} (I : World → Prop)
    (hI : ∀ W D, I W → B ≤ D → W.heap[D]? = some (.deferred (some [])) → I (W.putObj D (.deferred none))) (hR : ∀ W, I W → R (.returned (tmps.getD t undef)) W) :
    ∀ (Ds : List Nat) (W : World), MkOk B Ds W → I W → LeavesInM F n P fn tmps R (mksD Ds) .returning W
  | [], W, _, h => leave1 hres (hR W h)
  | D :: Ds, W, hm, h => by
    obtain ⟨hB, hat⟩ := hm.at_ D (List.mem_cons_self ..)
    have hnd := List.nodup_cons.1 hm.nd
    refine ⟨by simp, .inl ⟨D, _, rfl, run_takeDeferred hat, leaveMks hres I hI hR Ds _ ⟨hnd.2, fun E hE => ?_⟩ (hI W D h hB hat)⟩⟩
    have hne : E ≠ D := fun e => hnd.1 (e ▸ hE)
    obtain ⟨h1, h2⟩ := hm.at_ E (List.mem_cons_of_mem _ hE)
    exact ⟨h1, (World.putObj_heap_other hne).trans h2⟩
end Go.Proofs.Ytalpgilncohkbaa
