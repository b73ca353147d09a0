/-
  hyphenation.levels: the plain words, the invariant, raise.
-/
import Derived.Test.YtalpgilncohkbaaPlc
import Derived.Test.YtalpgilncohkbaaQtl
import Derived.Test.YtalpgilncohkbaaConcI
import Derived.Test.YtalpgilncohkbaaJ01
namespace Go.Proofs.Ytalpgilncohkbaa
open Go.RowKit

/-- The levels of a pattern, laid from a place on: the first k. -/
def rsN (A : List Int) (i : Nat) (V : List Int) : Nat → List Int
  | 0 => A
  | k + 1 => (rsN A i V k).set (i + k) (max ((rsN A i V k).getD (i + k) 0) (V.getD k 0))
theorem rsN_len (A : List Int) (i : Nat) (V : List Int) : ∀ k, (rsN A i V k).length = A.length
  | 0 => rfl
  | k + 1 => by rw [rsN, List.length_set, rsN_len A i V k]
def rsP (A : List Int) (i : Nat) (V : List Int) : List Int := rsN A i V V.length
theorem rsP_len (A : List Int) (i : Nat) (V : List Int) : (rsP A i V).length = A.length := rsN_len A i V _
def rsX (V : List Int) (xs : List Nat) (A : List Int) : List Int := xs.foldl (fun A i => rsP A i V) A
theorem rsX_len (V : List Int) : ∀ (xs : List Nat) (A : List Int), (rsX V xs A).length = A.length
  | [], _ => rfl
  | x :: r, A => by
    show (rsX V r (rsP A x V)).length = _
    rw [rsX_len V r, rsP_len]
def pUn (L : ByteArray) : List ByteArray := clL (foldB L)
def lvG (l : List ByteArray) (A : List Int) (g : Grp) : List Int := rsX g.mem (plcs (pUn g.name) l) A
def lvL (l : List ByteArray) (P : List Grp) (A : List Int) : List Int := P.foldl (lvG l) A
theorem lvL_len (l : List ByteArray) : ∀ (P : List Grp) (A : List Int), (lvL l P A).length = A.length
  | [], _ => rfl
  | g :: r, A => by
    show (lvL l r (lvG l A g)).length = _
    rw [lvL_len l r]
    exact rsX_len _ _ _
theorem lvL_step {l : List ByteArray} {P : List Grp} {k : Nat} {g : Grp} {A : List Int} (h : P[k]? = some g) : lvL l (P.take (k + 1)) A = lvG l (lvL l (P.take k) A) g := by
  unfold lvL
  rw [List.take_add_one, h, List.foldl_append]
  rfl
/-- The units of a word, with its borders. -/
def wUn (s : ByteArray) : List ByteArray := [dotB] ++ (pUn s ++ [dotB])
def levF (P : List Grp) (s : ByteArray) : List Int := ((lvL (wUn s) P (List.replicate ((wUn s).length + 1) 0)).drop 2).take ((wUn s).length - 3)

theorem lk_fold (c : UInt8) : lk (foldC c) = lk c ∧ mk (foldC c) = mk c := by
  have h : ∀ n < 256, lk (foldC (UInt8.ofNat n)) = lk (UInt8.ofNat n) ∧ mk (foldC (UInt8.ofNat n)) = mk (UInt8.ofNat n) := by decide +kernel
  have h2 := h c.toNat (UInt8.toNat_lt c)
  have e : UInt8.ofNat c.toNat = c := by simp
  rw [e] at h2
  exact h2
theorem clGo_fold : ∀ (d : List UInt8) (st : Bool), clGo st (d.map foldC) = clGo st d
  | [], _ => rfl
  | c :: r, st => by
    rw [List.map_cons, clGo, clGo, (lk_fold c).1, (lk_fold c).2, clGo_fold r, clGo_fold r]
theorem clN_fold (s : ByteArray) : clN (foldB s) = clN s := clGo_fold _ _
theorem pUn_len (s : ByteArray) : (pUn s).length = clN s := by unfold pUn; rw [clL_len, clN_fold]
theorem wUn_len (s : ByteArray) : (wUn s).length = clN s + 2 := by
  unfold wUn
  rw [List.length_append, List.length_append, pUn_len]
  simp; omega
theorem levF_len (P : List Grp) (s : ByteArray) : (levF P s).length = clN s - 1 := by
  unfold levF
  rw [List.length_take, List.length_drop, lvL_len, List.length_replicate, wUn_len]
  omega

/-- While levels runs: block O holds the levels, Bx their slice, B7 the function that raises one. -/
structure LvI (w : World) (O Bx B7 n : Nat) (A : List Int) (W : World) : Prop where
  bel : Below w.heap.size w W
  ob : Row W O (A.map (Value.int .i64)).toArray 3
  ox : Row W Bx #[.slice (some ⟨O, 0, none⟩) n n] 38
  b7 : Row W B7 #[.func (.func 53) #[] #[.pointer (some ⟨Bx, 0, none⟩)]] 98
  lo : w.heap.size ≤ O
  len : A.length = n
theorem LvI.below {w : World} {O Bx B7 n : Nat} {A : List Int} {W W' : World} (h : LvI w O Bx B7 n A W) (hb : Below W.heap.size W W') : LvI w O Bx B7 n A W' := ⟨below_tr h.bel hb, h.ob.below hb, h.ox.below hb, h.b7.below hb, h.lo, h.len⟩
theorem row_ne {W : World} {B C : Nat} {cs ds : Array Value} {t u : TypeId} (h : Row W B cs t) (k : Row W C ds u) (hne : t ≠ u) : B ≠ C := fun e => by
  have h3 : W.heap[B]? = _ := h
  have h4 : W.heap[C]? = _ := k
  rw [e, h4] at h3
  simp only [Option.some.injEq, Obj.cells.injEq] at h3
  exact hne h3.2.1.symm
theorem LvI.at {w : World} {O Bx B7 n : Nat} {A : List Int} {W : World} (h : LvI w O Bx B7 n A W) {i : Nat} (hi : i < n) : W.cell? ⟨O, i, none⟩ = some (.int .i64 (A.getD i 0)) ∧ W.frozen? ⟨O, i, none⟩ = false := by
  have hx : A[i]? = some (A.getD i 0) := by rw [List.getD_eq_getElem?_getD, List.getElem?_eq_getElem (by rw [h.len]; exact hi)]; rfl
  exact ⟨h.ob.cell i (by rw [List.getElem?_toArray, List.getElem?_map, hx]; rfl), h.ob.frozen i⟩
theorem LvI.set {w : World} {O Bx B7 n : Nat} {A : List Int} {W : World} (h : LvI w O Bx B7 n A W) (i : Nat) (x : Int) : LvI w O Bx B7 n (A.set i x) (W.setCell ⟨O, i, none⟩ (.int .i64 x)) := by
  have n1 := row_ne h.ob h.ox (by decide)
  have n2 := row_ne h.ob h.b7 (by decide)
  refine ⟨h.bel.setCell h.lo _, ?_, h.ox.other _ _ (by simpa using fun e => n1 e.symm), h.b7.other _ _ (by simpa using fun e => n2 e.symm), h.lo, by rw [List.length_set]; exact h.len⟩
  have h2 := h.ob.set i (.int .i64 x)
  rw [List.map_set, ← List.setIfInBounds_toArray]
  exact h2
theorem LvI.grown {w : World} {O Bx B7 m n : Nat} {A : List Int} {W W' : World} {row : Option Nat} (h : LvI w O Bx B7 n A W) (hn : w.heap.size ≤ m) (hg : W.grownBy W' row) (hr : ∀ r, row = some r → m ≤ r ∧ ∃ o : Obj, W.heap[r]? = some o ∧ o.isCells = false) : LvI w O Bx B7 n A W' := by
  have key : ∀ (k : Nat) (cs : Array Value) (t : TypeId), Row W k cs t → Row W' k cs t := fun k cs t hk => (hg.block k hk.lt (fun e => by
    obtain ⟨_, o, ho, hc⟩ := hr k e.symm
    have h3 : W.heap[k]? = _ := hk
    rw [ho] at h3; cases h3; cases hc)).trans hk
  exact ⟨h.bel.grown hg h.bel.size (fun k e => by have := (hr k e).1; omega), key _ _ _ h.ob, key _ _ _ h.ox, key _ _ _ h.b7, h.lo, h.len⟩
theorem LvI.keeps {w : World} {O Bx B7 m n : Nat} {A : List Int} {W : World} (h : LvI w O Bx B7 n A W) (i : Nat) (v : Value) : KeepsFrom m W (W.setCell ⟨O, i, none⟩ v) ∧ (∀ q, KpX q O O W (W.setCell ⟨O, i, none⟩ v)) := by
  have hs : (W.setCell ⟨O, i, none⟩ v).heap.size = W.heap.size := by simp [World.setCell]
  refine ⟨⟨Nat.le_of_eq hs.symm, fun k o _ ho hc => ?_⟩, fun q => ⟨Nat.le_of_eq hs.symm, fun k _ h1 _ => Below.heap_setCell _ _ _ _ (by simpa using h1)⟩⟩
  have hk : k ≠ O := fun e => by
    have h3 : W.heap[O]? = _ := h.ob
    rw [e, h3] at ho
    cases ho; cases hc
  exact (Below.heap_setCell _ _ _ _ (by simpa using hk)).trans ho

set_option maxRecDepth 100000 in
set_option maxHeartbeats 1000000 in
theorem raise_any (O Bx n i : Nat) (x v : Int) (w : World) (hx : w.cell? ⟨Bx, 0, none⟩ = some (.slice (some ⟨O, 0, none⟩) n n)) (hi : i < n) (hc : w.cell? ⟨O, i, none⟩ = some (.int .i64 x)) (hf : w.frozen? ⟨O, i, none⟩ = false) :
    Calls Try.prog 53 #[.int .i64 (i : Int), .int .i64 v, .pointer (some ⟨Bx, 0, none⟩)] w fun e w' => (∃ r, e = .returned r) ∧ w' = w.drew.setCell ⟨O, i, none⟩ (.int .i64 (max x v)) := by
  have g1 : (0 : Int) ≤ (i : Int) := by omega
  have g2 : (i : Int) < (n : Int) := by omega
  have hxd : w.drew.cell? ⟨Bx, 0, none⟩ = some (.slice (some ⟨O, 0, none⟩) n n) := hx
  have hcd : w.drew.cell? ⟨O, i, none⟩ = some (.int .i64 x) := hc
  have hfd : w.drew.frozen? ⟨O, i, none⟩ = false := hf
  go_enter Try.func53, Try.ntmps53
  refine wp_region_quiet_tail 9 (by kernel_rfl) (by kernel_rfl) ?_
  simp only [List.take_succ_cons, List.take_zero, List.drop_succ_cons, List.drop_zero]
  repeat (go_big_quiet_step (fail))
  refine wpQuiet_nil ?_
  change wpList _ _ _ _ _ w.drew
  clear hx hc hf
  go_wp2_with fail
  go_end0
  exact ⟨⟨_, rfl⟩, rfl⟩
end Go.Proofs.Ytalpgilncohkbaa
