/-
  Plain words on how slices read in memory, and lemmas on them. No program is named here.
-/
import Derived.Test.YtlneimjenjpbnaaHid
import Derived.WalkKit
import Derived.WalkSpells
import Derived.OwnWalk
import Derived.Deep.Slices
import Derived.WalkSmall
import Derived.Deep.QuietTactic
import Derived.Maps.AppendAt
namespace Go.Proofs.Ytlneimjenjpbnaa
open Go.RowKit

/-- The slice value v reads in W as the list l, one cell an element. -/
def Rd {α : Type} (enc : α → Value) (W : World) (v : Value) (l : List α) : Prop :=
  ∃ a cap, v = .slice a l.length cap ∧ l.length ≤ cap ∧ cap ≤ maxLen ∧ ∀ i x, l[i]? = some x → ∃ b off, a = some ⟨b, off, none⟩ ∧ W.cell? ⟨b, off + i, none⟩ = some (enc x)

abbrev RdI (W : World) (v : Value) (l : List Int) : Prop := Rd (Value.int .i64) W v l
abbrev RdU (W : World) (v : Value) (l : List Int) : Prop := Rd (Value.int .u64) W v l
abbrev RdS (W : World) (v : Value) (l : List ByteArray) : Prop := Rd Value.string W v l

structure Grp where
  name : ByteArray
  mem : List Int

/-- .. of groups: two cells an element, the second a slice of numbers. -/
def RdG (W : World) (v : Value) (l : List Grp) : Prop :=
  ∃ a cap, v = .slice a l.length cap ∧ l.length ≤ cap ∧ cap ≤ maxLen ∧ ∀ i x, l[i]? = some x → ∃ b off m, a = some ⟨b, off, none⟩ ∧ W.cell? ⟨b, off + i * 2, none⟩ = some (.string x.name) ∧
    W.cell? ⟨b, off + i * 2 + 1, none⟩ = some m ∧ RdI W m x.mem

theorem Below.keeps {W W' : World} (h : Below W.heap.size W W') : ∀ p x, W.cell? p = some x → W'.cell? p = some x :=
  fun p _ hx => (h.cell (World.block_lt_of_cell? W p hx)).trans hx

theorem cell_al {W : World} {p : Addr} {x : Value} (h : W.cell? p = some x) (o : Obj) : (W.alloc o).cell? p = some x := Below.keeps ((Below.refl _ W).alloc (Nat.le_refl _) o) p x h

theorem cell_nw (W : World) (cs : Array Value) (t : TypeId) (i : Nat) {x : Value} (h : cs[i]? = some x) : (W.alloc (.cells cs t)).cell? ⟨W.heap.size, i, none⟩ = some x := by
  rw [cell_of_row _ W.heap.size i cs t (0, 0) (heap_alloc_new W _)]; exact h
theorem below_al (W : World) (o : Obj) : Below W.heap.size W (W.alloc o) := (Below.refl _ W).alloc (Nat.le_refl _) o
theorem below_tr {W W1 W2 : World} (h : Below W.heap.size W W1) (k : Below W1.heap.size W1 W2) : Below W.heap.size W W2 := h.trans (k.mono h.size)

theorem Rd.mono {α : Type} {enc : α → Value} {W W' : World} {v : Value} {l : List α} (h : Rd enc W v l) (hk : ∀ p x, W.cell? p = some x → W'.cell? p = some x) : Rd enc W' v l := by
  obtain ⟨a, cap, h1, h2, h3, h4⟩ := h
  exact ⟨a, cap, h1, h2, h3, fun i x hx => let ⟨b, off, e, hc⟩ := h4 i x hx; ⟨b, off, e, hk _ _ hc⟩⟩
theorem RdG.mono {W W' : World} {v : Value} {l : List Grp} (h : RdG W v l) (hk : ∀ p x, W.cell? p = some x → W'.cell? p = some x) : RdG W' v l := by
  obtain ⟨a, cap, h1, h2, h3, h4⟩ := h
  exact ⟨a, cap, h1, h2, h3, fun i x hx => let ⟨b, off, m, e, hc, hd, hr⟩ := h4 i x hx; ⟨b, off, m, e, hk _ _ hc, hk _ _ hd, hr.mono hk⟩⟩
theorem Rd.below {α : Type} {enc : α → Value} {W W' : World} {v : Value} {l : List α} (h : Rd enc W v l) (hb : Below W.heap.size W W') : Rd enc W' v l := h.mono (Below.keeps hb)
theorem RdG.below {W W' : World} {v : Value} {l : List Grp} (h : RdG W v l) (hb : Below W.heap.size W W') : RdG W' v l := h.mono (Below.keeps hb)

theorem Rd.drewN {α : Type} {enc : α → Value} {W : World} {v : Value} {l : List α} (h : Rd enc W v l) (n : Nat) : Rd enc (W.drewN n) v l := h.below (below_drewN (Below.refl _ _) n)
theorem RdG.drewN {W : World} {v : Value} {l : List Grp} (h : RdG W v l) (n : Nat) : RdG (W.drewN n) v l := h.below (below_drewN (Below.refl _ _) n)

theorem Rd.nil {α : Type} {enc : α → Value} (W : World) : Rd enc W (.slice none 0 0) [] := ⟨none, 0, rfl, Nat.le_refl _, by unfold maxLen; omega, fun i x h => by simp at h⟩
theorem RdG.nil (W : World) : RdG W (.slice none 0 0) [] := ⟨none, 0, rfl, Nat.le_refl _, by unfold maxLen; omega, fun i x h => by simp at h⟩

/-- The open form: v written out, the length bound, the elements' cells. -/
theorem Rd.open {α : Type} {enc : α → Value} {W : World} {v : Value} {l : List α} (h : Rd enc W v l) : ∃ a cap, v = .slice a l.length cap ∧ l.length ≤ cap ∧ cap ≤ 9223372036854775807 ∧ ∀ i, i < l.length → ∃ x b off, l[i]? = some x ∧ a = some ⟨b, off, none⟩ ∧ W.cell? ⟨b, off + i, none⟩ = some (enc x) := by
  obtain ⟨a, cap, h1, h2, h3, h4⟩ := h
  exact ⟨a, cap, h1, h2, h3, fun i hi => let ⟨b, off, e, hc⟩ := h4 i l[i] (by simp [hi]); ⟨l[i], b, off, by simp [hi], e, hc⟩⟩

theorem RdG.open {W : World} {v : Value} {l : List Grp} (h : RdG W v l) : ∃ a cap, v = .slice a l.length cap ∧ l.length ≤ cap ∧ cap ≤ 9223372036854775807 ∧ ∀ i, i < l.length → ∃ x b off m, l[i]? = some x ∧ a = some ⟨b, off, none⟩ ∧ W.cell? ⟨b, off + i * 2, none⟩ = some (.string x.name) ∧ W.cell? ⟨b, off + i * 2 + 1, none⟩ = some m ∧ RdI W m x.mem := by
  obtain ⟨a, cap, h1, h2, h3, h4⟩ := h
  exact ⟨a, cap, h1, h2, h3, fun i hi => let ⟨b, off, m, e, hc, hd, hr⟩ := h4 i l[i] (by simp [hi]); ⟨l[i], b, off, m, by simp [hi], e, hc, hd, hr⟩⟩

/-- 'out = append(out, x)', out the call's own from block base on, one element of 'size' cells. -/
theorem wpList_ap {P : Program} {ops : Array Oper} {rest : List Oper} {o : Oper} {a : Act} {Q : Exit → Act → World → Prop} {W : World} (hgd : o.guard = none) (s x : Operand) (t : TypeId)
    (ho : o.op = .call { callee := .builtin .append, args := #[s, x], argTypes := #[t, t] })
    (base : Nat) (e : TypeId) {z : Value} {size bytes : Nat} (ht : P.underlying t = some (.slice e)) (hi : (P.info? e).map (fun i => (i.zero, i.size, i.bytes)) = some (some z, size, bytes))
    (hzs : z.cells.size = size) (hsz : 0 < size) (hby : bytes ≤ 64)
    (v : Value) (n : Nat) (xs : List Value) (hs : a.eval s = v) (hown : W.ownsRow base e size v n xs) (news : List Value) (hl : news.length = size) (h1 : ∀ u ∈ news, u.oneCell' = true)
    {N : Nat} (hx : a.eval x = .slice (some ⟨N, 0, none⟩) 1 1) (hN : N = W.heap.size) (hn : n + 1 ≤ 4294967296) (hbase : base ≤ W.heap.size)
    (h : ∀ v' w', w'.ownsRow base e size v' (n + 1) (xs ++ news) → Below base W w' → W.grownBy w' v.ownBlock → wpList P ops Q rest (a.put o.dst v') w') :
    wpList P ops Q (o :: rest) a (W.alloc (.cells news.toArray e)) := by
  obtain ⟨i, hi1, hi2, hi3, hi4⟩ := info_parts hi
  subst hN
  refine wpList_append_own _ hgd s x t ho base e i z size bytes ht hi1 hi2 hi3 hi4 hzs hsz v n xs hs (hown.alloc _) ⟨W.heap.size, 0, none⟩ 1 1 news hx (by omega) ?_ h1 (by unfold maxLen; omega) ?_ (by simp; omega) ?_
  · intro j u hj
    have hlt := (List.getElem?_eq_some_iff.1 hj).1
    have hadd : (⟨W.heap.size, 0, none⟩ : Addr).add j = ⟨W.heap.size, j, none⟩ := by unfold Addr.add; split <;> simp_all
    rw [hadd, cell_of_row _ W.heap.size j news.toArray e (0, 0) (heap_alloc_new W _)]
    simpa using hj
  · have : (n + 1) * bytes ≤ 4294967296 * 64 := Nat.mul_le_mul hn hby
    omega
  · intro v' w' ho' hg' _
    have hg : W.grownBy w' v.ownBlock := ⟨hg'.os, hg'.tape, hg'.output, Nat.le_trans (by simp) hg'.size, fun k hk hne => (hg'.block k (by simp; omega) hne).trans (Below.heap_alloc W _ k hk)⟩
    exact h v' w' ho' ((Below.refl _ _).grown hg hbase (fun k hk => (hown.lt k hk).1)) hg

/-- An owned row reads as its list. -/
theorem Rd.of_own {α : Type} {enc : α → Value} {W : World} {base : Nat} {e : TypeId} {v : Value} {l : List α} (h : W.ownsRow base e 1 v l.length (l.map enc)) : Rd enc W v l := by
  obtain ⟨_, h2⟩ := h
  rcases h2 with ⟨rfl, hn⟩ | ⟨g, cap, cur, rfl, hb, hh, hc, hm, hs, ht⟩
  · have : l = [] := List.eq_nil_of_length_eq_zero hn
    subst this
    exact Rd.nil W
  · refine ⟨some ⟨g, 0, none⟩, cap, rfl, hc, hm, fun i x hx => ⟨g, 0, rfl, ?_⟩⟩
    have hi := (List.getElem?_eq_some_iff.1 hx).1
    rw [Nat.zero_add, cell_of_row _ g i cur e (0, 0) hh]
    have : (l.map enc)[i]? = some (enc x) := by rw [List.getElem?_map, hx]; rfl
    rw [← ht, List.getElem?_take, if_pos (by omega)] at this
    simpa using this

theorem Rd.take {α : Type} {enc : α → Value} {W : World} {a : Option Addr} {n cap : Nat} {l : List α} (h : Rd enc W (.slice a n cap) l) (k : Nat) (hk : k ≤ l.length) : Rd enc W (.slice a k cap) (l.take k) := by
  obtain ⟨a', cap', h1, h2, h3, h4⟩ := h
  cases h1
  exact ⟨a, cap, by rw [List.length_take, Nat.min_eq_left hk], by rw [List.length_take]; omega, h3, fun i x hx => h4 i x (by rw [List.getElem?_take] at hx; split at hx; exact hx; cases hx)⟩
theorem RdG.take {W : World} {a : Option Addr} {n cap : Nat} {l : List Grp} (h : RdG W (.slice a n cap) l) (k : Nat) (hk : k ≤ l.length) : RdG W (.slice a k cap) (l.take k) := by
  obtain ⟨a', cap', h1, h2, h3, h4⟩ := h
  cases h1
  exact ⟨a, cap, by rw [List.length_take, Nat.min_eq_left hk], by rw [List.length_take]; omega, h3, fun i x hx => h4 i x (by rw [List.getElem?_take] at hx; split at hx; exact hx; cases hx)⟩

def Szs (l : List ByteArray) : Prop := ∀ s ∈ l, s.size ≤ maxLen
def SzG (l : List Grp) : Prop := ∀ g ∈ l, g.name.size ≤ maxLen

/-- What lies in no block of a row that was written stays. -/
theorem grown_cell {W w' : World} {row : Option Nat} (hg : W.grownBy w' row) {p : Addr} {x : Value} (h : W.cell? p = some x) (hne : some p.block ≠ row) : w'.cell? p = some x := hg.cell h hne

end Go.Proofs.Ytlneimjenjpbnaa
