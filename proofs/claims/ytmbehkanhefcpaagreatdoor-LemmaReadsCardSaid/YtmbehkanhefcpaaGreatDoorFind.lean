/-
  lemma.Find.
-/
import Derived.Test.YtmbehkanhefcpaaGreatDoorAwk43
namespace Go.Proofs.YtmbehkanhefcpaaGreatDoor
open Go.RowKit
attribute [local go_sem] Oper.semAt_some

/-- What the rounds keep: all that lay below n₀, but for the blocks lo .. hi. -/
def KpR (n₀ lo hi : Nat) (A B : World) : Prop := A.heap.size ≤ B.heap.size ∧ ∀ k, k < n₀ → (k < lo ∨ hi < k) → B.heap[k]? = A.heap[k]?
theorem KpR.tr {n₀ lo hi : Nat} {A B C : World} (h : KpR n₀ lo hi A B) (k : KpR n₀ lo hi B C) : KpR n₀ lo hi A C :=
  ⟨Nat.le_trans h.1 k.1, fun i h1 h2 => (k.2 i h1 h2).trans (h.2 i h1 h2)⟩
theorem KpR.put {n₀ lo hi m : Nat} (hn : n₀ ≤ m) (W : World) (l : Nat) (o o' : Obj) (hl : m ≤ l) (_ : W.heap[l]? = some o) (_ : o.isCells = false) (_ : o.isWalk = false) : KpR n₀ lo hi W (W.putObj l o') :=
  ⟨by simp [World.putObj], fun k hk _ => World.putObj_heap_other (by omega)⟩
theorem KpR.cell {n₀ lo hi : Nat} {A B : World} (h : KpR n₀ lo hi A B) {p : Addr} {x : Value} (hx : A.cell? p = some x) (h1 : p.block < n₀) (h2 : p.block < lo ∨ hi < p.block) : B.cell? p = some x :=
  (World.cell?_of_block (h.2 p.block h1 h2)).trans hx
theorem KpR.set {n₀ lo hi : Nat} (W : World) (B o : Nat) (v : Value) (hB : lo ≤ B ∧ B ≤ hi) : KpR n₀ lo hi W (W.setCell ⟨B, o, none⟩ v) :=
  ⟨by simp [World.setCell], fun k _ hk => Below.heap_setCell _ _ _ _ (by simp; omega)⟩

def fOf (m : Nat) (l : List (Nat × Nat)) : Nat := match l[m - 1]? with | some x => x.1 | none => 0
def tOf (m : Nat) (l : List (Nat × Nat)) : Int := match l[m - 1]? with | some x => wrap64 ((x.2 : Int) + 1) | none => 0
theorem fOf_snoc {m : Nat} (hm : 0 < m) (l : List (Nat × Nat)) (x : Nat × Nat) : fOf m (l ++ [x]) = if l.length + 1 = m then x.1 else fOf m l := by
  unfold fOf
  by_cases h : l.length + 1 = m
  · rw [if_pos h, List.getElem?_append_right (by omega), show m - 1 - l.length = 0 by omega]; rfl
  · rw [if_neg h]
    by_cases h2 : m - 1 < l.length
    · rw [List.getElem?_append_left h2]
    · rw [List.getElem?_eq_none (by simp; omega), List.getElem?_eq_none (by omega)]
theorem tOf_snoc {m : Nat} (hm : 0 < m) (l : List (Nat × Nat)) (x : Nat × Nat) : tOf m (l ++ [x]) = if l.length + 1 = m then wrap64 ((x.2 : Int) + 1) else tOf m l := by
  unfold tOf
  by_cases h : l.length + 1 = m
  · rw [if_pos h, List.getElem?_append_right (by omega), show m - 1 - l.length = 0 by omega]; rfl
  · rw [if_neg h]
    by_cases h2 : m - 1 < l.length
    · rw [List.getElem?_append_left h2]
    · rw [List.getElem?_eq_none (by simp; omega), List.getElem?_eq_none (by omega)]

/-- What Find answers, by how many have come and what was kept of the one asked for. -/
def endE (n cnt : Nat) : Int := if cnt = 0 then 6 else if n = 0 ∧ 1 < cnt then 16 else if 0 < n ∧ (cnt = 1 ∨ cnt < n) then 6 else 0
def findE (oc : List (Nat × Nat)) (n : Nat) : Int := endE n oc.length
def findF (oc : List (Nat × Nat)) (n : Nat) : Nat := if findE oc n = 0 then fOf (max n 1) oc else 0
def findT (oc : List (Nat × Nat)) (n : Nat) : Int := if findE oc n = 0 then tOf (max n 1) oc else 0

theorem rd_keep {A B : World} {ad : Option Addr} {n cap N : Nat} {ws : List ByteArray} (h : RdS A (.slice ad n cap) ws) (hk : ∀ b, b < N → B.heap[b]? = A.heap[b]?) (hb : 0 < ws.length → ∀ b o, ad = some ⟨b, o, none⟩ → b < N) : RdS B (.slice ad n cap) ws := by
  obtain ⟨a', cap', e, h2, h3, h4⟩ := h
  refine ⟨a', cap', e, h2, h3, fun i x hx => ?_⟩
  obtain ⟨b, o, rfl, hc⟩ := h4 i x hx
  cases e
  exact ⟨b, o, rfl, (World.cell?_of_block (hk b (hb (by have := (List.getElem?_eq_some_iff.1 hx).1; omega) b o rfl))).trans hc⟩

/-- Between two rounds of the loop in Find. -/
structure FnI (w : World) (n1 : Nat) (f l : ByteArray) (n : Nat) (fr to cnt : Int) (W : World) : Prop where
  lem : Row W w.heap.size #[.string f, .string l, .int .i64 n] 23
  bf : Row W n1 #[.int .i64 fr] 3
  bt : Row W (n1 + 1) #[.int .i64 to] 3
  cn : Row W (n1 + 1 + 1) #[.int .i64 cnt] 3
  bel : Below w.heap.size w W
theorem FnI.grown {w W W' : World} {n1 n : Nat} {f l : ByteArray} {fr to cnt : Int} {row : Option Nat} (h : FnI w n1 f l n fr to cnt W) (hg : W.grownBy W' row) (hr : ∀ r, row = some r → w.heap.size ≤ r ∧ ∃ o : Obj, W.heap[r]? = some o ∧ o.isCells = false) : FnI w n1 f l n fr to cnt W' :=
  have hr2 := fun r e => (hr r e).2
  ⟨h.lem.grown hg hr2, h.bf.grown hg hr2, h.bt.grown hg hr2, h.cn.grown hg hr2, h.bel.grown hg h.bel.size (fun k e => (hr k e).1)⟩
theorem FnI.count {w W : World} {n1 n : Nat} {f l : ByteArray} {fr to cnt : Int} (h : FnI w n1 f l n fr to cnt W) (hn : w.heap.size + 1 ≤ n1) (c : Int) : FnI w n1 f l n fr to c (W.setCell ⟨n1 + 1 + 1, 0, none⟩ (.int .i64 c)) :=
  ⟨h.lem.other _ _ (by simp; omega), h.bf.other _ _ (by simp; omega), h.bt.other _ _ (by simp), h.cn.set 0 _, h.bel.setCell (p := ⟨n1 + 1 + 1, 0, none⟩) (by simp; omega) _⟩
theorem FnI.from {w W : World} {n1 n : Nat} {f l : ByteArray} {fr to cnt : Int} (h : FnI w n1 f l n fr to cnt W) (hn : w.heap.size + 1 ≤ n1) (c : Int) : FnI w n1 f l n c to cnt (W.setCell ⟨n1, 0, none⟩ (.int .i64 c)) :=
  ⟨h.lem.other _ _ (by simp; omega), h.bf.set 0 _, h.bt.other _ _ (by simp), h.cn.other _ _ (by simp; omega), h.bel.setCell (p := ⟨n1, 0, none⟩) (by simp; omega) _⟩
theorem FnI.to {w W : World} {n1 n : Nat} {f l : ByteArray} {fr to cnt : Int} (h : FnI w n1 f l n fr to cnt W) (hn : w.heap.size + 1 ≤ n1) (c : Int) : FnI w n1 f l n fr c cnt (W.setCell ⟨n1 + 1, 0, none⟩ (.int .i64 c)) :=
  ⟨h.lem.other _ _ (by simp; omega), h.bf.other _ _ (by simp), h.bt.set 0 _, h.cn.other _ _ (by simp), h.bel.setCell (p := ⟨n1 + 1, 0, none⟩) (by simp; omega) _⟩
theorem FnI.cast {w W : World} {n1 n : Nat} {f l : ByteArray} {fr to cnt fr' to' cnt' : Int} (h : FnI w n1 f l n fr to cnt W) (h1 : fr' = fr) (h2 : to' = to) (h3 : cnt' = cnt) : FnI w n1 f l n fr' to' cnt' W := by
  subst h1; subst h2; subst h3; exact h

theorem run_max2 {P : Program} {w : World} (ts : Array TypeId) (t : TypeId) (k : IntKind) (x : Int) (m : Nat) (h : m = max x.toNat 1) (hx : 0 ≤ x) : (Builtin.max_ ts t #[.int k x, .int k 1]).run P w = .ok (.int k m) w := by
  have hm : (m : Int) = if x < 1 then 1 else x := by split <;> omega
  rw [hm]
  simp [Builtin.max_, Builtin.max2, go_sem]

end Go.Proofs.YtmbehkanhefcpaaGreatDoor
