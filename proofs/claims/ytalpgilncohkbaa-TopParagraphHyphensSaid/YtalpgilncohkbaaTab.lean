/-
  Plain: the least costs of the rests of a paragraph, the breaks that are found. paragraph.lines; what potentials and Break keep while they run.
-/
import Derived.Test.YtalpgilncohkbaaLns
import Derived.Test.YtalpgilncohkbaaPp
import Derived.Test.YtalpgilncohkbaaJ01
namespace Go.Proofs.Ytalpgilncohkbaa
open Go.RowKit

/-- The least costs of the last k places, of all from there on. -/
def tabL (l : List It) (wd : Int) : Nat → List Int
  | 0 => []
  | k + 1 => (lnsF l wd (l.length - k)).foldl (bestI fun t => (tabL l wd k).getD (t - (l.length - k)) 0) (-1) :: tabL l wd k
def potL (l : List It) (wd : Int) (f : Nat) : Int := (tabL l wd (l.length + 1)).getD f 0
theorem tabL_len (l : List It) (wd : Int) : ∀ k, (tabL l wd k).length = k
  | 0 => rfl
  | k + 1 => by rw [tabL, List.length_cons, tabL_len l wd k]
theorem tabL_drop (l : List It) (wd : Int) : ∀ (d j : Nat), (tabL l wd (j + d)).drop d = tabL l wd j
  | 0, j => rfl
  | d + 1, j => by rw [← Nat.add_assoc, tabL, List.drop_succ_cons, tabL_drop l wd d j]
theorem tabL_at (l : List It) (wd : Int) {j i : Nat} (hj : j ≤ l.length + 1) : (tabL l wd j).getD i 0 = potL l wd (l.length + 1 - j + i) := by
  unfold potL
  have h := tabL_drop l wd (l.length + 1 - j) j
  rw [show j + (l.length + 1 - j) = l.length + 1 by omega] at h
  rw [← h, List.getD_eq_getElem?_getD, List.getD_eq_getElem?_getD, List.getElem?_drop]
theorem potL_end (l : List It) (wd : Int) : potL l wd (l.length + 1) = 0 := by
  have h := tabL_at l wd (j := 0) (i := 0) (Nat.zero_le _)
  rw [Nat.sub_zero, Nat.add_zero] at h
  rw [← h]; rfl
theorem potL_at {l : List It} {wd : Int} (hS : ∀ x ∈ l, ItS x) {f : Nat} (hf : f ≤ l.length) : potL l wd f = (lnsF l wd f).foldl (bestI fun t => potL l wd (t + 1)) (-1) := by
  obtain ⟨j, hj⟩ : ∃ j, l.length - f = j := ⟨_, rfl⟩
  have h0 := tabL_at l wd (j := j + 1) (i := 0) (by omega)
  rw [show l.length + 1 - (j + 1) + 0 = f by omega] at h0
  rw [← h0, tabL, show l.length - j = f by omega]
  show List.foldl _ _ _ = _
  have key : ∀ (r : List (Nat × Int)) (a : Int), (∀ x ∈ r, f ≤ x.1) → r.foldl (bestI fun t => (tabL l wd j).getD (t - f) 0) a = r.foldl (bestI fun t => potL l wd (t + 1)) a := by
    intro r
    induction r with
    | nil => intro a _; rfl
    | cons x r ih =>
      intro a h
      have h1 := h x (by simp)
      have e : (tabL l wd j).getD (x.1 - f) 0 = potL l wd (x.1 + 1) := by
        rw [tabL_at l wd (by omega)]
        congr 1; omega
      have e2 : bestI (fun t => (tabL l wd j).getD (t - f) 0) a x = bestI (fun t => potL l wd (t + 1)) a x := by
        unfold bestI
        simp only [e]
      rw [List.foldl_cons, List.foldl_cons, e2]
      exact ih _ fun y hy => h y (by simp [hy])
  exact key _ _ fun x hx => (lnsF_mem hS hf hx).1
theorem potL_hit {l : List It} {wd : Int} (hS : ∀ x ∈ l, ItS x) {f : Nat} (hf : f ≤ l.length) (h0 : 0 ≤ potL l wd f) : ∃ x ∈ lnsF l wd f, 0 ≤ potL l wd (x.1 + 1) ∧ x.2 + potL l wd (x.1 + 1) = potL l wd f := by
  have he := potL_at (wd := wd) hS hf
  rw [he] at h0
  rcases best_hit (r := fun t => potL l wd (t + 1)) (lnsF l wd f) (-1) with h | ⟨x, hx, h1, h2⟩
  · rw [h] at h0; omega
  · exact ⟨x, hx, h1, by rw [he, h2]⟩
theorem potL_bd {l : List It} {wd : Int} (hS : ∀ x ∈ l, ItS x) : ∀ (j f : Nat), f + j = l.length + 1 → -1 ≤ potL l wd f ∧ potL l wd f ≤ (j : Int) * 20000
  | 0, f, hf => by rw [show f = l.length + 1 by omega, potL_end]; omega
  | j + 1, f, hf => by
    by_cases h0 : 0 ≤ potL l wd f
    · obtain ⟨x, hx, h1, h2⟩ := potL_hit hS (by omega) h0
      have hm := lnsF_mem hS (by omega) hx
      have ih := potL_bd (wd := wd) hS (l.length - x.1) (x.1 + 1) (by omega)
      have h3 : l.length - x.1 ≤ j := by omega
      have h4 : ((l.length - x.1 : Nat) : Int) * 20000 ≤ (j : Int) * 20000 := by omega
      omega
    · rw [potL_at hS (by omega)] at h0 ⊢
      rcases best_hit (r := fun t => potL l wd (t + 1)) (lnsF l wd f) (-1) with e | ⟨x, hx, h1, h2⟩
      · rw [e]; omega
      · exfalso
        have := lnsF_mem hS (by omega) hx
        omega
/-- The breaks that are found. -/
def brkB (l : List It) (wd : Int) (f : Nat) (x : Nat × Int) : Bool := decide (0 ≤ potL l wd (x.1 + 1)) && decide (x.2 + potL l wd (x.1 + 1) = potL l wd f)
def brkG (l : List It) (wd : Int) : Nat → Nat → List Nat
  | 0, _ => []
  | k + 1, f => if l.length < f then [] else match (lnsF l wd f).find? (brkB l wd f) with
    | none => []
    | some x => x.1 :: brkG l wd k (x.1 + 1)
def brkL (l : List It) (wd : Int) : List Nat := brkG l wd (l.length + 1) 0
/-- What potentials' row gives behind a break. -/
theorem beh_tab (l : List It) (wd : Int) {m t : Nat} (hm : m ≤ l.length) (h1 : m ≤ t) (_h2 : t ≤ l.length) : behF (List.replicate (m + 1) 0 ++ tabL l wd (l.length - m)) t = (tabL l wd (l.length - m)).getD (t - m) 0 := by
  have hl : (List.replicate (m + 1) (0 : Int) ++ tabL l wd (l.length - m)).length = l.length + 1 := by rw [List.length_append, List.length_replicate, tabL_len]; omega
  unfold behF
  rw [hl]
  split
  · rename_i h
    rw [List.getD_eq_getElem?_getD, List.getElem?_eq_none (by rw [tabL_len]; omega)]; rfl
  · rw [List.getD_eq_getElem?_getD, List.getD_eq_getElem?_getD, List.getElem?_append_right (by rw [List.length_replicate]; omega), List.length_replicate, show t + 1 - (m + 1) = t - m by omega]
theorem beh_pot (l : List It) (wd : Int) {t : Nat} : behF (tabL l wd (l.length + 1)) t = potL l wd (t + 1) := by
  unfold behF
  rw [tabL_len]
  split
  · rename_i h
    rw [show t + 1 = l.length + 1 by omega, potL_end]
  · rfl
theorem repL_set (m : Nat) (x : Int) (l : List Int) : (List.replicate (m + 1) 0 ++ l).set m x = List.replicate m 0 ++ x :: l := by
  rw [List.replicate_succ', List.append_assoc, List.set_append_right _ _ (by simp)]
  simp
set_option maxHeartbeats 1000000 in
theorem lines_any (a : Option Addr) (n c : Nat) (wd : Int) (f : Nat) (w : World) :
    Calls Try.prog 20 #[.slice a n c, .int .i64 wd, .int .i64 (f : Int)] w fun e w' => e = .returned (.func (.func 32) #[] #[.pointer (some ⟨w.heap.size, 0, none⟩), .pointer (some ⟨w.heap.size + 2, 0, none⟩), .pointer (some ⟨w.heap.size + 1, 0, none⟩)]) ∧
      ((w.alloc (.cells #[.slice a n c] 30)).alloc (.cells #[.int .i64 wd] 3)).alloc (.cells #[.int .i64 (f : Int)] 3) = w' := by
  go_enter Try.func20, Try.ntmps20
  go_wp2
  go_ret
  exact ⟨rfl, rfl⟩
/-- What the iterator reads. -/
structure LnO (w : World) (a : Option Addr) (n cap : Nat) (wd : Int) (f Bl Bf Bw : Nat) (W : World) : Prop where
  c1 : W.cell? ⟨Bl, 0, none⟩ = some (.slice a n cap)
  c2 : W.cell? ⟨Bf, 0, none⟩ = some (.int .i64 (f : Int))
  c3 : W.cell? ⟨Bw, 0, none⟩ = some (.int .i64 wd)
  old : ∀ (p : Addr) (v : Value), w.cell? p = some v → W.cell? p = some v
theorem LnO.m {w : World} {a : Option Addr} {cap : Nat} {l : List It} {wd : Int} {f Bl Bf Bw : Nat} {W : World} (h : LnO w a l.length cap wd f Bl Bf Bw W) (hr : RdIt w (.slice a l.length cap) l) :
    W.cell? ⟨Bl, 0, none⟩ = some (.slice a l.length cap) ∧ W.cell? ⟨Bf, 0, none⟩ = some (.int .i64 (f : Int)) ∧ W.cell? ⟨Bw, 0, none⟩ = some (.int .i64 wd) ∧ RdIt W (.slice a l.length cap) l := ⟨h.c1, h.c2, h.c3, RdC.mono hr h.old⟩
theorem LnO.below {w : World} {a : Option Addr} {n cap : Nat} {wd : Int} {f Bl Bf Bw : Nat} {W W' : World} (h : LnO w a n cap wd f Bl Bf Bw W) (hb : Below W.heap.size W W') : LnO w a n cap wd f Bl Bf Bw W' :=
  ⟨Below.keeps hb _ _ h.c1, Below.keeps hb _ _ h.c2, Below.keeps hb _ _ h.c3, fun p v hv => Below.keeps hb _ _ (h.old p v hv)⟩
theorem LnO.kp {w : World} {a : Option Addr} {n cap : Nat} {wd : Int} {f Bl Bf Bw Z : Nat} {W W' : World} (h : LnO w a n cap wd f Bl Bf Bw W) (hk : KpY Z W W') (h1 : Bl ≠ Z) (h2 : Bf ≠ Z) (h3 : Bw ≠ Z) (h4 : w.heap.size ≤ Z) : LnO w a n cap wd f Bl Bf Bw W' :=
  ⟨hk.cl _ _ h1 h.c1, hk.cl _ _ h2 h.c2, hk.cl _ _ h3 h.c3, fun p v hv => hk.cl p v (by have := World.block_lt_of_cell? _ _ hv; omega) (h.old p v hv)⟩
theorem LnO.set {w : World} {a : Option Addr} {n cap : Nat} {wd : Int} {f Bl Bf Bw k j : Nat} {v : Value} {W : World} (h : LnO w a n cap wd f Bl Bf Bw W) (h1 : Bl ≠ k) (h2 : Bf ≠ k) (h3 : Bw ≠ k) (h4 : w.heap.size ≤ k) : LnO w a n cap wd f Bl Bf Bw (W.setCell ⟨k, j, none⟩ v) := by
  have key : ∀ (p : Addr) (x : Value), p.block ≠ k → W.cell? p = some x → (W.setCell ⟨k, j, none⟩ v).cell? p = some x := fun p x hp hx => (World.cell?_of_block (Below.heap_setCell _ _ _ _ (by simpa using hp))).trans hx
  exact ⟨key _ _ h1 h.c1, key _ _ h2 h.c2, key _ _ h3 h.c3, fun p x hx => key _ _ (by have := World.block_lt_of_cell? _ _ hx; omega) (h.old p x hx)⟩
/-- The row of potentials while it is filled: block O, in the box Bo. -/
structure PoL (w : World) (n O Bo : Nat) (cs : List Int) (W : World) : Prop where
  bel : Below w.heap.size w W
  ob : Row W O (cs.map (Value.int .i64)).toArray 3
  ox : Row W Bo #[.slice (some ⟨O, 0, none⟩) (n + 1) (n + 1)] 38
  lo : w.heap.size ≤ O
  len : cs.length = n + 1
theorem PoL.below {w : World} {n O Bo : Nat} {cs : List Int} {W W' : World} (h : PoL w n O Bo cs W) (hb : Below W.heap.size W W') : PoL w n O Bo cs W' := ⟨below_tr h.bel hb, h.ob.below hb, h.ox.below hb, h.lo, h.len⟩
theorem PoL.at {w : World} {n O Bo : Nat} {cs : List Int} {W : World} (h : PoL w n O Bo cs W) {i : Nat} {x : Int} (hx : cs[i]? = some x) : W.cell? ⟨O, i, none⟩ = some (.int .i64 x) ∧ W.frozen? ⟨O, i, none⟩ = false :=
  ⟨h.ob.cell i (by simp [hx]), h.ob.frozen i⟩
theorem PoL.ne {w : World} {n O Bo : Nat} {cs : List Int} {W : World} (h : PoL w n O Bo cs W) : O ≠ Bo := fun e => by
  have h3 : W.heap[O]? = _ := h.ob
  have h4 : W.heap[Bo]? = _ := h.ox
  rw [e, h4] at h3
  simp only [Option.some.injEq, Obj.cells.injEq] at h3
  exact absurd h3.2.1 (by decide)
theorem PoL.set {w : World} {n O Bo : Nat} {cs : List Int} {W : World} (h : PoL w n O Bo cs W) (i : Nat) (x : Int) : PoL w n O Bo (cs.set i x) (W.setCell ⟨O, i, none⟩ (.int .i64 x)) := by
  have hne := h.ne
  refine ⟨h.bel.setCell h.lo _, ?_, h.ox.other _ _ (by simpa using fun e => hne e.symm), h.lo, by rw [List.length_set]; exact h.len⟩
  have h2 := h.ob.set i (.int .i64 x)
  rw [List.map_set, ← List.setIfInBounds_toArray]
  exact h2
theorem PoL.grown {w : World} {n O Bo m : Nat} {cs : List Int} {W W' : World} {row : Option Nat} (h : PoL w n O Bo cs W) (hn : w.heap.size ≤ m) (hg : W.grownBy W' row) (hr : ∀ r, row = some r → m ≤ r ∧ ∃ o : Obj, W.heap[r]? = some o ∧ o.isCells = false) : PoL w n O Bo cs W' := by
  have key : ∀ (k : Nat) (cs : Array Value) (t : TypeId), Row W k cs t → Row W' k cs t := fun k cs t hk => (hg.block k hk.lt (fun e => by
    obtain ⟨_, o, ho, hc⟩ := hr k e.symm
    have h3 : W.heap[k]? = _ := hk
    rw [ho] at h3; cases h3; cases hc)).trans hk
  exact ⟨h.bel.grown hg h.bel.size (fun k e => by have := (hr k e).1; omega), key _ _ _ h.ob, key _ _ _ h.ox, h.lo, h.len⟩
/-- What was below the loop, but for the box Z, is as it was. -/
theorem PoL.kept {w : World} {n O Bo Z : Nat} {cs : List Int} {W W' : World} (h : PoL w n O Bo cs W) (hb : Below w.heap.size w W') (hk : ∀ k, k < W.heap.size → k ≠ Z → W'.heap[k]? = W.heap[k]?) (h1 : O ≠ Z) (h2 : Bo ≠ Z) : PoL w n O Bo cs W' :=
  ⟨hb, (hk _ h.ob.lt h1).trans h.ob, (hk _ h.ox.lt h2).trans h.ox, h.lo, h.len⟩
theorem PoL.rd {w : World} {n O Bo : Nat} {cs : List Int} {W : World} (h : PoL w n O Bo cs W) (hc : cs.length ≤ 4097 := by omega) : RdI W (.slice (some ⟨O, 0, none⟩) cs.length cs.length) cs :=
  ⟨some ⟨O, 0, none⟩, cs.length, rfl, Nat.le_refl _, by unfold maxLen; omega, fun i x hx => ⟨O, 0, rfl, by rw [Nat.zero_add]; exact (h.at hx).1⟩⟩
end Go.Proofs.Ytalpgilncohkbaa
