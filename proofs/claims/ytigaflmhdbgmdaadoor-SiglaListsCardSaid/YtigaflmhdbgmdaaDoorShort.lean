/-
  sigla.Shortest.
-/
import Derived.Test.YtigaflmhdbgmdaaDoorIter
import Derived.Test.YtigaflmhdbgmdaaDoorOnes
import Derived.Test.YtigaflmhdbgmdaaDoorAp
import Derived.Test.YtigaflmhdbgmdaaDoorSl
import Derived.Test.YtigaflmhdbgmdaaDoorSigC
import Derived.Shelf.Abstract
import Derived.Shelf.RegionOpen
import Derived.Sort.CutIn
namespace Go.Proofs.YtigaflmhdbgmdaaDoor
open Go.RowKit Go.Shelf
attribute [local go_sem] Oper.semAt_some

theorem withinTo_mem (gs : List Grp) (S k : Nat) (hk : k ≤ gs.length) : ∀ x ∈ withinTo gs S k, 0 ≤ x ∧ x < gs.length := by
  intro x hx
  unfold withinTo at hx
  simp only [List.mem_map, List.mem_filter, List.mem_range] at hx
  obtain ⟨i, ⟨h1, _⟩, rfl⟩ := hx
  omega
theorem infoU64 : (Tryd.prog.info? 60).map (fun i => (i.zero, i.size, i.bytes)) = some (some (.int .u64 0), 1, 8) := by kernel_rfl

theorem frozen_nw (W : World) (cs : Array Value) (t : TypeId) (i : Nat) {x : Value} (_ : cs[i]? = some x) : (W.alloc (.cells cs t)).frozen? ⟨W.heap.size, i, none⟩ = false := by
  have := heap_alloc_new W (.cells cs t)
  unfold World.frozen?
  rw [this]; simp
theorem frozen_al {W : World} {p : Addr} (h : W.frozen? p = false) (hp : p.block < W.heap.size) (o : Obj) : (W.alloc o).frozen? p = false := ((below_al W o).frozen hp).trans h

/-- What the rounds keep: all that lay below n₀, but for two blocks. -/
def KpX (n₀ b1 b2 : Nat) (A B : World) : Prop := A.heap.size ≤ B.heap.size ∧ ∀ k, k < n₀ → k ≠ b1 → k ≠ b2 → B.heap[k]? = A.heap[k]?
theorem KpX.tr {n₀ b1 b2 : Nat} {A B C : World} (h : KpX n₀ b1 b2 A B) (k : KpX n₀ b1 b2 B C) : KpX n₀ b1 b2 A C :=
  ⟨Nat.le_trans h.1 k.1, fun i h1 h2 h3 => (k.2 i h1 h2 h3).trans (h.2 i h1 h2 h3)⟩
theorem KpX.put {n₀ b1 b2 m : Nat} (hn : n₀ ≤ m) (W : World) (l : Nat) (o o' : Obj) (hl : m ≤ l) (_ : W.heap[l]? = some o) (_ : o.isCells = false) (_ : o.isWalk = false) : KpX n₀ b1 b2 W (W.putObj l o') :=
  ⟨by simp [World.putObj], fun k hk _ _ => World.putObj_heap_other (by omega)⟩
theorem KpX.cell {n₀ b1 b2 : Nat} {A B : World} (h : KpX n₀ b1 b2 A B) {p : Addr} {x : Value} (hx : A.cell? p = some x) (h1 : p.block < n₀) (h2 : p.block ≠ b1) (h3 : p.block ≠ b2) : B.cell? p = some x :=
  (World.cell?_of_block (h.2 p.block h1 h2 h3)).trans hx
theorem Rd.blk {α : Type} {enc : α → Value} {W W' : World} {v : Value} {l : List α} (h : Rd enc W v l) (hk : ∀ k, v.ownBlock = some k → W'.heap[k]? = W.heap[k]?) : Rd enc W' v l := by
  obtain ⟨a, cap, rfl, h2, h3, h4⟩ := h
  refine ⟨a, cap, rfl, h2, h3, fun i x hx => ?_⟩
  obtain ⟨b, off, rfl, hc⟩ := h4 i x hx
  exact ⟨b, off, rfl, (World.cell?_of_block (hk b rfl)).trans hc⟩

def msOf (gs : List Grp) (us : List Int) : List Nat := us.map fun i => maskN (memAt gs i)
theorem memAt_mem {gs : List Grp} (h : ∀ g ∈ gs, ∀ x ∈ g.mem, 0 ≤ x ∧ x < 64) (i : Int) : ∀ x ∈ memAt gs i, 0 ≤ x ∧ x < 64 := by
  unfold memAt
  split
  · next g hg => exact h g (List.mem_of_getElem? hg)
  · intro x hx; cases hx
theorem msOf_lt {gs : List Grp} (h : ∀ g ∈ gs, ∀ x ∈ g.mem, 0 ≤ x ∧ x < 64) (us : List Int) : ∀ m ∈ msOf gs us, m < 18446744073709551616 := by
  intro m hm
  obtain ⟨i, _, rfl⟩ := List.mem_map.1 hm
  exact mask_lt (memAt_mem h i)

/-- The places of a choice of groups, and of the sources that these do not mean. -/
def candL (gl : Int) (us : List Int) (ms : List Nat) (all c : Nat) : List Int :=
  ((bitsL c).map fun k => us.getD k.toNat 0) ++ (bitsL (andN all (orSel ms c))).map fun s => gl + s
/-- Shorter, or as long and lexicographically less. -/
def betterB (a b : List Int) : Bool := decide (a.length < b.length) || (decide (a.length = b.length) && decide (lexI a b < 0))
def stepB (b : Option (List Int)) (l : List Int) : Option (List Int) := match b with | none => some l | some b => if betterB l b = true then some l else some b
def bestOf (l : List (List Int)) : Option (List Int) := l.foldl stepB none
def candsOf (gl : Int) (us : List Int) (ms : List Nat) (M : Nat) {T : Nat} (pre : List {c : Nat // c < T}) : Option (List Int) := bestOf (pre.map fun c => candL gl us ms M c.1)
theorem candsOf_snoc (gl : Int) (us : List Int) (ms : List Nat) (M : Nat) {T : Nat} (pre : List {c : Nat // c < T}) (c : {c : Nat // c < T}) :
    candsOf gl us ms M (pre ++ [c]) = stepB (candsOf gl us ms M pre) (candL gl us ms M c.1) := by simp [candsOf, bestOf, List.foldl_append]

/-- Between two rounds: the two boxes hold the best list, and whether there is one. -/
def InvS (wr : World) (n₀ b1 b2 : Nat) (best : Option (List Int)) (W : World) : Prop :=
  ∃ bv, W.cell? ⟨b1, 0, none⟩ = some bv ∧ W.frozen? ⟨b1, 0, none⟩ = false ∧ W.cell? ⟨b2, 0, none⟩ = some (.bool best.isSome) ∧ W.frozen? ⟨b2, 0, none⟩ = false ∧
    RdI W bv (best.getD []) ∧ (∀ k, bv.ownBlock = some k → n₀ ≤ k ∧ k < W.heap.size) ∧ Below wr.heap.size wr W ∧ n₀ ≤ W.heap.size

theorem InvS.own {β : Type} (wr : World) (n₀ b1 b2 B : Nat) (f : β → Option (List Int)) (hw : wr.heap.size ≤ B) : OwnFrom B (fun s W => InvS wr n₀ b1 b2 (f s) W) := by
  intro s W W' row hs hg hr
  obtain ⟨bv, h1, h2, h3, h4, h5, h6, h7, h8⟩ := hs
  have hr' : ∀ r, row = some r → ∃ o : Obj, W.heap[r]? = some o ∧ o.isCells = false := fun r e => (hr r e).2
  exact ⟨bv, cell_kept h1 hg hr', (frozen_kept h1 hg hr').trans h2, cell_kept h3 hg hr', (frozen_kept h3 hg hr').trans h4, h5.mono fun p x hx => cell_kept hx hg hr',
    fun k hk => ⟨(h6 k hk).1, Nat.lt_of_lt_of_le (h6 k hk).2 hg.size⟩, h7.grown hg h7.size (fun k e => Nat.le_trans hw (hr k e).1), Nat.le_trans h8 hg.size⟩

def bodyQ (wr : World) (n₀ b1 b2 : Nat) (best : Option (List Int)) (W : World) : Exit → Act → World → Prop
  | .normal, _, W' => KeepsFrom n₀ W W' ∧ KpX n₀ b1 b2 W W' ∧ InvS wr n₀ b1 b2 best W'
  | _, _, _ => False

theorem keepsFrom_below {n : Nat} {W W' : World} (h : Below W.heap.size W W') : KeepsFrom n W W' :=
  ⟨h.size, fun k _ _ hk _ => (h.block k (Array.getElem?_eq_some_iff.1 hk).1).trans hk⟩
theorem kpX_below {n b1 b2 : Nat} {W W' : World} (h : Below W.heap.size W W') (hn : n ≤ W.heap.size) : KpX n b1 b2 W W' := ⟨h.size, fun k hk _ _ => h.block k (by omega)⟩
theorem own_below {W W' : World} {base : Nat} {e : TypeId} {size : Nat} {v : Value} {n : Nat} {xs : List Value} (h : W.ownsRow base e size v n xs) (hb : Below W.heap.size W W') : W'.ownsRow base e size v n xs :=
  h.kept (row := none) ⟨hb.os, hb.tape, hb.output, hb.size, fun k hk _ => hb.block k hk⟩ (by cases v.ownBlock <;> simp)
theorem InvS.below {wr : World} {n₀ b1 b2 : Nat} {best : Option (List Int)} {W W' : World} (h : InvS wr n₀ b1 b2 best W) (hb : Below W.heap.size W W') : InvS wr n₀ b1 b2 best W' := by
  obtain ⟨bv, h1, h2, h3, h4, h5, h6, h7, h8⟩ := h
  have l1 : b1 < W.heap.size := World.block_lt_of_cell? _ _ h1
  have l2 : b2 < W.heap.size := World.block_lt_of_cell? _ _ h3
  exact ⟨bv, Below.keeps hb _ _ h1, (hb.frozen (p := ⟨b1, 0, none⟩) l1).trans h2, Below.keeps hb _ _ h3, (hb.frozen (p := ⟨b2, 0, none⟩) l2).trans h4, h5.below hb,
    fun k hk => ⟨(h6 k hk).1, Nat.lt_of_lt_of_le (h6 k hk).2 hb.size⟩, h7.trans (hb.mono h7.size), Nat.le_trans h8 hb.size⟩
/-- Behind the two stores. -/
theorem InvS.stored {wr : World} {n₀ b1 b2 : Nat} {best : Option (List Int)} {W : World} (h : InvS wr n₀ b1 b2 best W) (hne : b1 ≠ b2) (h1n : b1 < n₀) (h2n : b2 < n₀) (h1w : wr.heap.size ≤ b1) (h2w : wr.heap.size ≤ b2) (v : Value) (l : List Int) (hr : RdI W v l) (hv : ∀ k, v.ownBlock = some k → n₀ ≤ k ∧ k < W.heap.size) :
    InvS wr n₀ b1 b2 (some l) ((W.setCell ⟨b1, 0, none⟩ v).setCell ⟨b2, 0, none⟩ (.bool true)) := by
  obtain ⟨bv, h1, h2, h3, h4, h5, h6, h7, h8⟩ := h
  have e1 : ((W.setCell ⟨b1, 0, none⟩ v).setCell ⟨b2, 0, none⟩ (.bool true)).cell? ⟨b1, 0, none⟩ = some v :=
    (World.cell?_of_block (Below.heap_setCell _ _ _ _ (by simpa using hne))).trans (World.cell?_setCell_same' _ _ _ (by rw [h1]; rfl))
  have e2 : (W.setCell ⟨b1, 0, none⟩ v).cell? ⟨b2, 0, none⟩ = some (.bool best.isSome) := (World.cell?_of_block (Below.heap_setCell _ _ _ _ (by simpa using Ne.symm hne))).trans h3
  have e3 : ((W.setCell ⟨b1, 0, none⟩ v).setCell ⟨b2, 0, none⟩ (.bool true)).cell? ⟨b2, 0, none⟩ = some (.bool true) := World.cell?_setCell_same' _ _ _ (by rw [e2]; rfl)
  refine ⟨v, e1, by rw [World.frozen?_setCell, World.frozen?_setCell]; exact h2, e3, by rw [World.frozen?_setCell, World.frozen?_setCell]; exact h4, ?_, fun k hk => ⟨(hv k hk).1, by simp [World.setCell]; exact (hv k hk).2⟩,
    (h7.setCell (p := ⟨b1, 0, none⟩) h1w _).setCell (p := ⟨b2, 0, none⟩) h2w _, by simp [World.setCell]; exact h8⟩
  refine hr.blk fun k hk => ?_
  have := (hv k hk).1
  rw [Below.heap_setCell _ _ _ _ (by simp; omega), Below.heap_setCell _ _ _ _ (by simp; omega)]
theorem keeps_stored {n b1 b2 : Nat} {W W' : World} (h : Below W.heap.size W W') (hn : n ≤ W.heap.size) (h1 : b1 < n) (h2 : b2 < n) (v u : Value) :
    KeepsFrom n W ((W'.setCell ⟨b1, 0, none⟩ v).setCell ⟨b2, 0, none⟩ u) ∧ KpX n b1 b2 W ((W'.setCell ⟨b1, 0, none⟩ v).setCell ⟨b2, 0, none⟩ u) := by
  have hsz : ((W'.setCell ⟨b1, 0, none⟩ v).setCell ⟨b2, 0, none⟩ u).heap.size = W'.heap.size := by simp [World.setCell]
  refine ⟨⟨by rw [hsz]; exact h.size, fun k o hB hk _ => ?_⟩, ⟨by rw [hsz]; exact h.size, fun k hk hk1 hk2 => ?_⟩⟩
  · rw [Below.heap_setCell _ _ _ _ (by simp; omega), Below.heap_setCell _ _ _ _ (by simp; omega), h.block k (Array.getElem?_eq_some_iff.1 hk).1]; exact hk
  · rw [Below.heap_setCell _ _ _ _ (by simpa using hk2), Below.heap_setCell _ _ _ _ (by simpa using hk1), h.block k (by omega)]

theorem bestOf_mem : ∀ (l : List (List Int)) (b : Option (List Int)), ∀ p ∈ (l.foldl stepB b).getD [], (∃ L ∈ l, p ∈ L) ∨ p ∈ b.getD [] := by
  intro l
  induction l with
  | nil => intro b p hp; exact .inr hp
  | cons a l ih =>
    intro b p hp
    rcases ih _ p hp with ⟨L, hL, h⟩ | h
    · exact .inl ⟨L, List.mem_cons_of_mem _ hL, h⟩
    · cases b with
      | none => exact .inl ⟨a, List.mem_cons_self, h⟩
      | some b =>
        simp only [stepB] at h
        split at h
        · exact .inl ⟨a, List.mem_cons_self, h⟩
        · exact .inr h
theorem bestOf_in : ∀ (l : List (List Int)) (b : Option (List Int)) (L : List Int), l.foldl stepB b = some L → L ∈ l ∨ b = some L := by
  intro l
  induction l with
  | nil => intro b L h; exact .inr h
  | cons a l ih =>
    intro b L h
    rcases ih _ L h with h | h
    · exact .inl (List.mem_cons_of_mem _ h)
    · cases b with
      | none => simp only [stepB, Option.some.injEq] at h; subst h; exact .inl List.mem_cons_self
      | some b =>
        simp only [stepB] at h
        split at h
        · cases h; exact .inl List.mem_cons_self
        · exact .inr h
theorem cand_len (gl : Int) (us : List Int) (ms : List Nat) (M c : Nat) : (candL gl us ms M c).length ≤ 128 := by
  have h1 : (bitsL c).length ≤ 64 := bitsTo_len c 64
  have h2 : (bitsL (andN M (orSel ms c))).length ≤ 64 := bitsTo_len _ 64
  simp [candL]; omega
theorem cand_mem {gl : Nat} {us : List Int} {ms : List Nat} {M c n : Nat} (hu : ∀ x ∈ us, 0 ≤ x ∧ x < gl) (hl : ms.length = us.length) (hc : c < 2 ^ ms.length) (hM : M < 2 ^ n) :
    ∀ p ∈ candL gl us ms M c, (0 ≤ p ∧ p < gl) ∨ (gl ≤ p ∧ p < gl + n) := by
  intro p hp
  unfold candL at hp
  rcases List.mem_append.1 hp with h | h
  · obtain ⟨k, hk, rfl⟩ := List.mem_map.1 h
    obtain ⟨h1, h2, _⟩ := bitsL_lt hc k hk
    left
    have hlt : k.toNat < us.length := by omega
    rw [List.getD_eq_getElem?_getD, List.getElem?_eq_getElem hlt]
    exact hu _ (List.getElem_mem hlt)
  · obtain ⟨k, hk, rfl⟩ := List.mem_map.1 h
    obtain ⟨h1, h2, _⟩ := bitsL_lt (andN_lt M (orSel ms c) n hM) k hk
    right; omega

def nameOf (names : List ByteArray) (gs : List Grp) (p : Int) : ByteArray :=
  if p < gs.length then (match gs[p.toNat]? with | some g => g.name | none => ByteArray.empty) else names.getD (p - gs.length).toNat ByteArray.empty
def shortP (_ : List ByteArray) (gs : List Grp) (set : List Int) : List Int :=
  let us := withinL gs (maskN set)
  let ms := msOf gs us
  (bestOf ((List.range (2 ^ ms.length)).map fun c => candL gs.length us ms (maskN set) c)).getD []
def shortL (names : List ByteArray) (gs : List Grp) (set : List Int) : List ByteArray := if startI names gs set = 0 then (shortP names gs set).map (nameOf names gs) else []

theorem leave2 {F : Fence} {n : Nat} {P : Program} {fn : Func} {tmps : Array Value} {R : Ending → World → Prop} {w : World} {t u : Tmp} (h : fn.results = #[.tmp t, .tmp u])
    (hR : R (.returned (.tuple #[tmps.getD t undef, tmps.getD u undef])) w) : LeavesInM F n P fn tmps R [] .returning w := ⟨_, results_tmp2 h _ _ _, hR⟩

set_option maxRecDepth 100000 in
set_option maxHeartbeats 4000000 in
theorem short_any (v u s : Value) (names : List ByteArray) (gs : List Grp) (set : List Int) (w : World) (hr : RdS w v names) (hg : RdG w u gs) (hs : RdI w s set) (hz : Szs names) (hzg : SzG gs)
    (hsmall : checkI names gs = 0 → names.length ≤ 8 ∧ gs.length ≤ 8) :
    Calls Tryd.prog 21 #[v, u, s] w fun e w' => ∃ r, e = .returned (.tuple #[r, .int .i64 (startI names gs set)]) ∧ RdS w' r (shortL names gs set) ∧ Below w.heap.size w w' := by
  obtain ⟨a0, cap0, rfl, hlc0, hcm0, _⟩ := hr.open
  obtain ⟨a1, cap1, rfl, hlc1, hcm1, _⟩ := hg.open
  obtain ⟨a2, cap2, rfl, hlc2, hcm2, _⟩ := hs.open
  have hb0 := below_al w (.cells #[.slice a1 gs.length cap1] 32)
  have hC := hid (start_any (.slice a0 names.length cap0) (.slice a1 gs.length cap1) (.slice a2 set.length cap2) names gs set _ (hr.below hb0) (hg.below hb0) (hs.below hb0) hz hzg)
  refine (callsIn_wide (n := 9)).1 ?_
  by_cases h0 : startI names gs set = 0
  · obtain ⟨hc0, hs0⟩ := startI_ok h0
    have hmem := checkI_mem hc0
    obtain ⟨hn8, hg8⟩ := hsmall hc0
    have hset : ∀ x ∈ set, 0 ≤ x ∧ x < 64 := fun x hx => by
      have := ckSet_ok _ _ _ hs0 x hx
      omega
    have hML := hid (mask_lt hset)
    have hMn : Hid (maskN set < 2 ^ names.length) := maskN_lt names.length set (fun x hx => by have := ckSet_ok _ _ _ hs0 x hx; omega)
    have hM8 : Hid (maskN set < 256) := maskN_lt 8 set (fun x hx => by have := ckSet_ok _ _ _ hs0 x hx; omega)
    have HMk := fun w' h => hid (mask_any (.slice a2 set.length cap2) set w' h hset)
    have HW := fun w' h => hid (within_any (.slice a1 gs.length cap1) gs (maskN set) w' h (mask_lt hset) hmem (by omega))
    have HL2 : Hid (shortL names gs set = (shortP names gs set).map (nameOf names gs)) := by unfold shortL; rw [if_pos h0]; rfl
    rw [h0] at hC ⊢
    clear h0 hz hzg hsmall
    have hbx0 := cell_nw w #[.slice a1 gs.length cap1] 32 0 (x := .slice a1 gs.length cap1) rfl
    refine callsIn_of_wp_marks Tryd.func21 rfl trivial ?_ rfl
    simp only [Tryd.ntmps21, List.size_toArray, List.length_cons, List.length_nil, Nat.reduceAdd, Nat.reduceSub, Array.replicate_succ, Array.replicate_zero, List.push_toArray, List.append_toArray, List.nil_append, List.cons_append]
    refine wpIn_wide.2 ?_
    go_wp2_with fail
    refine hC.out.mono ?_
    rintro e w1 ⟨rfl, hB1⟩
    have hbx1 := Below.keeps hB1 _ _ hbx0
    have HB1 := below_tr hb0 hB1
    clear hC hb0 hbx0 hB1
    go_wp2_with fail
    refine (HMk _ (hs.below HB1)).out.mono ?_
    rintro e w1' ⟨rfl, rfl⟩
    have hb1 := below_al w1 (.cells #[.int .u64 (maskN set)] 60)
    have HB1' := below_tr HB1 hb1
    have hbx2 := cell_al hbx1 (.cells #[.int .u64 (maskN set)] 60)
    have h9a := cell_nw w1 #[.int .u64 (maskN set)] 60 0 (x := .int .u64 (maskN set)) rfl
    have f9a : (w1.alloc (.cells #[.int .u64 (maskN set)] 60)).frozen? ⟨w1.heap.size, 0, none⟩ = false := by simp
    go_wp2_with fail
    refine (HW _ (hg.below HB1')).out.mono ?_
    rintro e w2 ⟨uv, rfl, hu2, hB2⟩
    have hbx3 := Below.keeps hB2 _ _ hbx2
    have h9b := Below.keeps hB2 _ _ h9a
    have HB2 := below_tr HB1' hB2
    have hsz9 : w1.heap.size < w2.heap.size := World.block_lt_of_cell? _ _ h9b
    have hsz0 : w.heap.size < w1.heap.size := World.block_lt_of_cell? _ _ hbx1
    clear hbx1 hbx2 h9a f9a hB2 HB1 HB1' hb1 HMk HW
    obtain ⟨au, capu, rfl, hlcu, hcmu, _⟩ := hu2.open
    have hb2 := below_al w2 (.cells #[.slice au (withinL gs (maskN set)).length capu] 33)
    have hbx := cell_al hbx3 (.cells #[.slice au (withinL gs (maskN set)).length capu] 33)
    have h9 := cell_al h9b (.cells #[.slice au (withinL gs (maskN set)).length capu] 33)
    have h10 := cell_nw w2 #[.slice au (withinL gs (maskN set)).length capu] 33 0 (x := .slice au (withinL gs (maskN set)).length capu) rfl
    have hu := hu2.below hb2
    have HB := below_tr HB2 hb2
    have hsz10 : w2.heap.size < (w2.alloc (.cells #[.slice au (withinL gs (maskN set)).length capu] 33)).heap.size := by simp
    clear hbx3 h9b hu2 HB2 hb2
    have HP : Hid (shortP names gs set = (bestOf ((List.range (2 ^ (msOf gs (withinL gs (maskN set))).length)).map fun c => candL gs.length (withinL gs (maskN set)) (msOf gs (withinL gs (maskN set))) (maskN set) c)).getD []) := rfl
    have hul : (withinL gs (maskN set)).length ≤ 8 := Nat.le_trans (withinTo_len gs (maskN set) gs.length) hg8
    have HUM : Hid (∀ x ∈ withinL gs (maskN set), 0 ≤ x ∧ x < gs.length) := withinTo_mem gs (maskN set) gs.length (Nat.le_refl _)
    go_wp2_with fail
    generalize w2.alloc (.cells #[.slice au (withinL gs (maskN set)).length capu] 33) = W at *
    generalize w2.heap.size = b10 at *
    generalize w1.heap.size = b9 at *
    generalize withinL gs (maskN set) = us at *
    generalize maskN set = M at *
    obtain ⟨a1', cap1', he1, hlc1', hcm1', hcellG⟩ := (hg.below HB).open
    cases he1
    have HCellG := hid hcellG; clear hcellG
    obtain ⟨au', capu', heu, hlcu', hcmu', hcellU⟩ := hu.open
    cases heu
    have HCellU := hid hcellU; clear hcellU
    have HMEM := hid hmem; clear hmem
    have HSET := hid hset; clear hset
    clear hlc1' hcm1' hlcu' hcmu' hs0
    go_loopw [11, 41] (fun v i wr => ∃ (k : Nat) (xs : List Nat), k ≤ us.length ∧ i = .int .i64 k ∧ Hid (xs = msOf gs (us.take k)) ∧ xs.length ≤ k ∧ wr.ownsRow W.heap.size 60 1 v xs.length (xs.map fun m : Nat => Value.int .u64 (m : Int)) ∧ Below W.heap.size W wr) (fun _ i _ => us.length - (intOf i).toNat)
    case atStart => exact ⟨0, [], by omega, rfl, rfl, by simp, World.ownsRow_nil _ _ _ _, Below.refl _ _⟩
    case round =>
      rename_i wr
      obtain ⟨k, xs, hk, rfl, HX, hxl, hown, hBr⟩ := hrel
      by_cases hlt : k < us.length
      · obtain ⟨x, bu, offu, hx, rfl, hcu0⟩ := HCellU.out k hlt
        obtain ⟨hx0, hxlt⟩ := HUM.out x (List.mem_of_getElem? hx)
        obtain ⟨n, rfl⟩ := Int.eq_ofNat_of_zero_le hx0
        have hnl : n < gs.length := by omega
        obtain ⟨g, bg, offg, m, hgn, rfl, _, hcg0, hrm0⟩ := HCellG.out n hnl
        have hcu := Below.keeps hBr _ _ hcu0
        have hcg := Below.keeps hBr _ _ hcg0
        have hrm := hrm0.below hBr
        have hbxr := Below.keeps hBr _ _ hbx
        have hgm := HMEM.out g (List.mem_of_getElem? hgn)
        have hma : memAt gs (n : Int) = g.mem := by unfold memAt; rw [Int.toNat_natCast, hgn]
        have HS : Hid (msOf gs (us.take (k + 1)) = xs ++ [maskN g.mem]) := by rw [List.take_add_one, hx, HX.out]; simp [msOf, hma, Hid]
        have HMk := fun w' h => hid (mask_any m g.mem w' h hgm)
        clear hx hgn hcu0 hcg0 hrm0 hma hgm
        generalize maskN g.mem = mg at *
        go_wp2_with (first | (go_at_call 33; refine (HMk _ hrm).out.mono ?_; rintro e w' ⟨rfl, rfl⟩) | (at_builtin; refine wpList_ap rfl _ _ 72 rfl W.heap.size 60 Tryd.underlying72 infoU64 rfl (by decide) (by decide) _ _ _ rfl hown [.int .u64 mg] rfl (by simp [Value.oneCell']) rfl (by simp) (by omega) hBr.size ?_; intro v' w1 hown' hb1 _))
        go_roundw
        case rel => exact ⟨k + 1, xs ++ [mg], by omega, by go_num, HS.out.symm, by rw [List.length_append, List.length_singleton]; omega, by simpa using hown', hBr.trans hb1⟩
        case measure => simp [intOf]; omega
      · have hms : xs = msOf gs us := by rw [HX.out, List.take_of_length_le (by omega)]
        have HMS := hid hms; clear hms
        have hrd : RdN wr _ xs := Rd.of_own hown
        have hown_lt := hown.lt
        obtain ⟨am, capm, rfl, hlm, hcmm, _⟩ := hrd.open
        have hbo := below_al wr (.cells #[.slice none 0 0] 33)
        have hbo2 := below_al (wr.alloc (.cells #[.slice none 0 0] 33)) (.cells #[.bool false] 4)
        have hbo3 := below_al ((wr.alloc (.cells #[.slice none 0 0] 33)).alloc (.cells #[.bool false] 4)) (.cells #[.slice am xs.length capm] 72)
        have hBo := below_tr (below_tr hbo hbo2) hbo3
        have hrd3 := hrd.below hBo
        have c14 := cell_al (cell_al (cell_nw wr #[.slice none 0 0] 33 0 (x := .slice none 0 0) rfl) (.cells #[.bool false] 4)) (.cells #[.slice am xs.length capm] 72)
        have c15 := cell_al (cell_nw (wr.alloc (.cells #[.slice none 0 0] 33)) #[.bool false] 4 0 (x := .bool false) rfl) (.cells #[.slice am xs.length capm] 72)
        have c16 := cell_nw ((wr.alloc (.cells #[.slice none 0 0] 33)).alloc (.cells #[.bool false] 4)) #[.slice am xs.length capm] 72 0 (x := .slice am xs.length capm) rfl
        have z14 := frozen_al (frozen_al (frozen_nw wr #[.slice none 0 0] 33 0 (x := .slice none 0 0) rfl) (by simp) (.cells #[.bool false] 4)) (by simp; omega) (.cells #[.slice am xs.length capm] 72)
        have z15 := frozen_al (frozen_nw (wr.alloc (.cells #[.slice none 0 0] 33)) #[.bool false] 4 0 (x := .bool false) rfl) (by simp) (.cells #[.slice am xs.length capm] 72)
        rw [show (wr.alloc (.cells #[.slice none 0 0] 33)).heap.size = wr.heap.size + 1 by simp] at z15
        have hszW : (((wr.alloc (.cells #[.slice none 0 0] 33)).alloc (.cells #[.bool false] 4)).alloc (.cells #[.slice am xs.length capm] 72)).heap.size = wr.heap.size + 3 := by simp
        rw [show (wr.alloc (.cells #[.slice none 0 0] 33)).heap.size = wr.heap.size + 1 by simp] at c15
        rw [show ((wr.alloc (.cells #[.slice none 0 0] 33)).alloc (.cells #[.bool false] 4)).heap.size = wr.heap.size + 2 by simp] at c16
        go_wp2_with fail
        refine (choices_any _ _ _ _).mono ?_
        rintro e w3 ⟨rfl, rfl⟩
        rw [show ((wr.alloc (.cells #[.slice none 0 0] 33)).alloc (.cells #[.bool false] 4)).heap.size = wr.heap.size + 2 by simp]
        go_wp2_with fail
        generalize hW3 : (((wr.alloc (.cells #[.slice none 0 0] 33)).alloc (.cells #[.bool false] 4)).alloc (.cells #[.slice am xs.length capm] 72)) = W3 at *
        clear hW3 hbo hbo2 hbo3
        generalize hb14 : wr.heap.size = b14 at *
        have HB14 := hid hb14; clear hb14
        have hI0 : InvS wr W3.heap.size b14 (b14 + 1) (candsOf gs.length us xs M (T := 2 ^ xs.length) []) W3 := ⟨.slice none 0 0, c14, z14, c15, z15, Rd.nil _, fun k hk => by simp [Value.ownBlock] at hk, by rw [HB14.out]; exact hBo, Nat.le_refl _⟩
        refine (wpIn_wide (n := 9)).1 ?_
        refine wpIn_rangeFunc_ownG rfl (by omega) (gf := 58) (lb := #[.pointer (some ⟨b14 + 2, 0, none⟩)]) rfl trivial (enters_of Tryd.func58 (by kernel_rfl) rfl)
          (encs := fun x : {c : Nat // c < 2 ^ xs.length} => #[.int .u64 (x.1 : Int), .int .u64 (orSel xs x.1 : Int)]) (Kp := KpX W3.heap.size b14 (b14 + 1))
          (S := fun l => l.map (·.1) = List.range (2 ^ xs.length)) (Sp := fun _ => True) (N := 2 ^ xs.length) (w0 := W3)
          ?hseq (fun h k => h.tr k) (KpX.put (Nat.le_refl _)) (Below.refl _ _) (fun _ => rfl)
          (fun pre W => InvS wr W3.heap.size b14 (b14 + 1) (candsOf gs.length us xs M pre) W) (fun _ _ _ => False)
          (InvS.own _ _ _ _ _ _ (by rw [HB14.out]; omega)) (fun _ _ _ _ _ h _ _ => h) hI0 ?a1 ?assign ?body ?done ?stop
        case assign =>
          intro l x W' K hK
          gi_wp2
          exact hK
        case hseq =>
          intro l J Jx W' hW' _ _ hY h0
          exact choices1_in (9 - 1) (by omega) (2 ^ xs.length) xs (.slice am xs.length capm) (b14 + 2) (by omega) rfl (by rw [HMS.out]; exact msOf_lt HMEM.out us)
            (KpX W3.heap.size b14 (b14 + 1)) (fun A B hk hx => hk.cell hx (by simp [hszW]) (by simp) (by simp)) (fun A B hk hx => hx.blk fun j hj => hk.2 j (by have := (hown_lt j hj).2; omega) (by have := (hown_lt j hj).2; omega) (by have := (hown_lt j hj).2; omega))
            l J Jx hY W' (Below.keeps hW' _ _ c16) (hrd3.below hW') h0
        case body =>
          rintro l pre ⟨c, hcT⟩ W' ⟨bv, i14, j14, i15, j15, hbv, hbvk, hBb, hn0⟩ _
          have hc256 : c < 256 := by
            have : (2 : Nat) ^ xs.length ≤ 2 ^ 8 := Nat.pow_le_pow_right (by omega) (by omega)
            omega
          rw [HB14.out] at hBb
          refine wpIn_mono (Q := bodyQ wr W3.heap.size b14 (b14 + 1) (stepB (candsOf gs.length us xs M pre) (candL gs.length us xs M c)) W') ?_ (fun e a' w' h => by
            cases e <;> first | exact h.elim | (refine ⟨h.1, h.2.1, ?_⟩; dsimp only; rw [candsOf_snoc]; exact h.2.2))
          dsimp only
          generalize candsOf gs.length us xs M pre = best at *
          have h9w := Below.keeps (by rw [HB14.out]; exact hBb) _ _ (Below.keeps hBr _ _ h9)
          have h10w := Below.keeps (by rw [HB14.out]; exact hBb) _ _ (Below.keeps hBr _ _ h10)
          have hbxw := Below.keeps (by rw [HB14.out]; exact hBb) _ _ (Below.keeps hBr _ _ hbx)
          have hor := orTo_lt xs c (by rw [HMS.out]; exact msOf_lt HMEM.out us) xs.length (Nat.le_refl _)
          have hAn := bits_andN M (orSel xs c) hML.out hor
          have hA8 : andN M (orSel xs c) < 256 := andN_lt M (orSel xs c) 8 hM8.out
          have hO1 := fun w' => hid (ones_any c hc256 w')
          have hO2 := fun w' => hid (ones_any (andN M (orSel xs c)) hA8 w')
          have hl1 : (bitsL c).length ≤ 64 := bitsTo_len c 64
          have hl2 : (bitsL (andN M (orSel xs c))).length ≤ 64 := bitsTo_len _ 64
          have hcl : (candL gs.length us xs M c).length = (bitsL c).length + (bitsL (andN M (orSel xs c))).length := by simp [candL]
          have HSZ := hid hszW; clear hszW
          have HCL : Hid (candL gs.length us xs M c = ((bitsL c).map fun k => us.getD k.toNat 0) ++ (bitsL (andN M (orSel xs c))).map fun s => (gs.length : Int) + s) := rfl
          have hmx : Tryd.prog.follows .mixedOrders = true := by kernel_rfl
          clear hor
          generalize andN M (orSel xs c) = rest at *
          gi_wp2_with fail
          gi_cut [18] from 59 (fun s18 wx => s18 = .int .i64 (((bitsL c).length : Int) + ((bitsL rest).length : Int)) ∧ Below W'.heap.size W' wx)
          case first =>
            have hwr : IntKind.i64.wrap (((bitsL c).length : Int) + ((bitsL rest).length : Int)) = ((bitsL c).length : Int) + ((bitsL rest).length : Int) := by rw [IntWalk.i64_in _ (by omega)]
            have hBd : Below W'.heap.size W' W'.drew := (Below.refl _ _).drew
            gi_region_with_o (first | (refine ⟨trivial, ?_⟩; gi_at_call 47; refine (CallsIn.inRound l (callsIn_wide.2 (ones_any _ (by assumption) _))).mono ?_; rintro e w' ⟨rfl, rfl⟩))
            all_goals (gi_wp2_with fail; gi_meet; exact ⟨rfl, hBd⟩)
          case rest =>
            obtain ⟨rfl, hBc⟩ := hcut
            have hlt14 : b14 < W'.heap.size := World.block_lt_of_cell? _ _ i14
            have hlt15 : b14 + 1 < W'.heap.size := World.block_lt_of_cell? _ _ i15
            have i14c := Below.keeps hBc _ _ i14
            have i15c := Below.keeps hBc _ _ i15
            have j14c := (hBc.frozen (p := ⟨b14, 0, none⟩) hlt14).trans j14
            have j15c := (hBc.frozen (p := ⟨b14 + 1, 0, none⟩) hlt15).trans j15
            have h9c := Below.keeps hBc _ _ h9w
            have h10c := Below.keeps hBc _ _ h10w
            have hbxc := Below.keeps hBc _ _ hbxw
            have hbvc := hbv.below hBc
            obtain ⟨ab, capb, rfl, hlb, hcb, _⟩ := hbvc.open
            clear i14 i15 j14 j15 h9w h10w hbxw h9 h10 hbx
            by_cases hskip : best.isSome = true ∧ (best.getD []).length < (bitsL c).length + (bitsL rest).length
            · obtain ⟨hsome, hlen⟩ := hskip
              have hlen2 : ((best.getD []).length : Int) < ((bitsL c).length : Int) + ((bitsL rest).length : Int) := by omega
              have HQ : Hid (stepB best (candL gs.length us xs M c) = best) := by
                obtain ⟨b, rfl⟩ := Option.isSome_iff_exists.1 hsome
                simp only [Option.getD_some] at hlen
                have h1 : ¬ (candL gs.length us xs M c).length < b.length := by omega
                have h2 : ¬ (candL gs.length us xs M c).length = b.length := by omega
                simp [stepB, betterB, h1, h2, Hid]
              rw [hsome] at i15c
              gi_wp2_with fail
              have hIc : InvS wr W3.heap.size b14 (b14 + 1) best wc := ⟨_, i14c, j14c, by rw [hsome]; exact i15c, j15c, hbvc, fun k hk => ⟨(hbvk k hk).1, Nat.lt_of_lt_of_le (hbvk k hk).2 hBc.size⟩, by rw [HB14.out]; exact hBb.trans (hBc.mono (by omega)), Nat.le_trans hn0 hBc.size⟩
              refine ⟨keepsFrom_below hBc, kpX_below hBc hn0, ?_⟩
              rw [HQ.out]; exact hIc
            · have hIc : InvS wr W3.heap.size b14 (b14 + 1) best wc := ⟨_, i14c, j14c, i15c, j15c, hbvc, fun k hk => ⟨(hbvk k hk).1, Nat.lt_of_lt_of_le (hbvk k hk).2 hBc.size⟩, by rw [HB14.out]; exact hBb.trans (hBc.mono (by omega)), Nat.le_trans hn0 hBc.size⟩
              have huc : RdI wc (.slice au us.length capu) us := ((hu.below hBr).below (by rw [HB14.out]; exact hBb)).below hBc
              have HXL : Hid (xs.length = us.length) := by rw [HMS.out]; simp [msOf, Hid]
              have hcase : best.isSome = false ∨ (best.isSome = true ∧ ¬ (((best.getD []).length : Int) < ((bitsL c).length : Int) + ((bitsL rest).length : Int))) := by
                cases hb : best.isSome
                · left; rfl
                · right; exact ⟨rfl, fun h => hskip ⟨hb, by omega⟩⟩
              clear hskip
              rcases hcase with hsome | ⟨hsome, hlen⟩
              · rw [hsome] at i15c
                gi_wp2_with fail
                refine ⟨trivial, ?_⟩
                refine (CallsIn.inRound l (callsIn_wide.2 (members_fresh c _ (by omega)))).mono ?_
                rintro e wm ⟨mv, rfl, hmv, hmf, hBm⟩
                have hum := huc.below hBm
                have h10m := Below.keeps hBm _ _ h10c
                have h9m := Below.keeps hBm _ _ h9c
                have hbxm := Below.keeps hBm _ _ hbxc
                have hIm := hIc.below hBm
                obtain ⟨amv, capm2, rfl, hl1m, hc1m, hcm⟩ := hmv.open
                have HCm := hid hcm; clear hcm
                gi_wp2_with fail
                gi_loopw [19, 76] (fun v i wq => ∃ (j : Nat) (ys : List Int), j ≤ (bitsL c).length ∧ i = .int .i64 j ∧ Hid (ys = ((bitsL c).take j).map (fun k => us.getD k.toNat 0)) ∧ ys.length ≤ j ∧ wq.ownsRow wm.heap.size 3 1 v ys.length (ys.map (Value.int .i64)) ∧ Below wm.heap.size wm wq) (fun _ i _ => (bitsL c).length - (intOf i).toNat)
                case atStart => exact ⟨0, [], by omega, rfl, by simp [Hid], by simp, World.ownsRow_nil _ _ _ _, Below.refl _ _⟩
                case round =>
                  rename_i wq
                  obtain ⟨j, ys, hj, rfl, HY, hyl, hown, hBq⟩ := hrel
                  by_cases hlt : j < (bitsL c).length
                  · obtain ⟨kk, bk, offk, hkk, rfl, hck0⟩ := HCm.out j hlt
                    have hck := Below.keeps hBq _ _ hck0
                    obtain ⟨hk0, hkn, hk64⟩ := bitsL_lt hcT kk (List.mem_of_getElem? hkk)
                    obtain ⟨n, rfl⟩ := Int.eq_ofNat_of_zero_le hk0
                    have hnu : n < us.length := by have := HXL.out; omega
                    obtain ⟨_, _, heu, _, _, hcu⟩ := hum.open
                    cases heu
                    obtain ⟨y, bu, offu, hy, rfl, hcy0⟩ := hcu n hnu
                    have hcy := Below.keeps hBq _ _ hcy0
                    have h10q := Below.keeps hBq _ _ h10m
                    have HS : Hid (((bitsL c).take (j + 1)).map (fun k => us.getD k.toNat 0) = ys ++ [y]) := by rw [List.take_add_one, hkk, HY.out]; simp [hy, Hid]
                    clear hkk hck0 hcy0 hcu hy
                    gi_wp2_with (gi_at_builtin; refine wpListIn_ap2 rfl _ _ 33 rfl wm.heap.size 3 Tryd.underlying33 infoInt rfl (by decide) (by decide) _ _ _ rfl hown [.int .i64 y] rfl (by simp [Value.oneCell']) rfl (by simp) (by omega) hBq.size ?_; intro g1 cap1 w1 hown' hb1 _ _ _)
                    go_roundw
                    case rel => exact ⟨j + 1, ys ++ [y], by omega, by go_num, HS.out.symm, by rw [List.length_append, List.length_singleton]; omega, by simpa using hown', hBq.trans hb1⟩
                    case measure => simp [intOf]; omega
                  · obtain rfl : j = (bitsL c).length := by omega
                    have h9q := Below.keeps hBq _ _ h9m
                    gi_wp2_with fail
                    refine ⟨trivial, ?_⟩
                    refine (CallsIn.inRound l (callsIn_wide.2 (members_fresh rest _ (by omega)))).mono ?_
                    rintro e wn ⟨mv2, rfl, hmv2, hmf2, hBn⟩
                    have hown2 := own_below hown hBn
                    have hBmn := hBq.trans (hBn.mono hBq.size)
                    have hapart : ∀ k, u19.ownBlock = some k → ∀ k2, mv2.ownBlock = some k2 → k ≠ k2 := fun k hk k2 hk2 => by
                      have h1 := (hown.lt k hk).2
                      have h2 := (hmf2 k2 hk2).1
                      omega
                    obtain ⟨amv2, capm3, rfl, hl2m, hc2m, _⟩ := hmv2.open
                    have HYc : Hid (ys = (bitsL c).map (fun k => us.getD k.toNat 0)) := by rw [HY.out, List.take_length]; rfl
                    clear hown hBq
                    gi_wp2_with fail
                    gi_loopw [19, 93] (fun v i wq => ∃ (j : Nat) (zs : List Int), j ≤ (bitsL rest).length ∧ i = .int .i64 j ∧ Hid (zs = ys ++ ((bitsL rest).take j).map (fun s => (gs.length : Int) + s)) ∧ zs.length ≤ 64 + j ∧ wq.ownsRow wm.heap.size 3 1 v zs.length (zs.map (Value.int .i64)) ∧ (∀ k, v.ownBlock = some k → ∀ k2, (Value.slice amv2 (bitsL rest).length capm3).ownBlock = some k2 → k ≠ k2) ∧ RdI wq (.slice amv2 (bitsL rest).length capm3) (bitsL rest) ∧ Below wm.heap.size wm wq) (fun _ i _ => (bitsL rest).length - (intOf i).toNat)
                    case atStart => exact ⟨0, ys, by omega, rfl, by simp [Hid], by omega, hown2, hapart, hmv2, hBmn⟩
                    case round =>
                      rename_i wq
                      obtain ⟨j2, zs, hj2, rfl, HZ, hzl, hown, hap, hmvq, hBq⟩ := hrel
                      by_cases hlt2 : j2 < (bitsL rest).length
                      · obtain ⟨_, _, hem, _, _, hcmv⟩ := hmvq.open
                        cases hem
                        obtain ⟨kk, bk, offk, hkk, rfl, hck⟩ := hcmv j2 hlt2
                        obtain ⟨hk0, hkn, hk64⟩ := bitsL_lt (n := 8) hA8 kk (List.mem_of_getElem? hkk)
                        have hbxq := Below.keeps hBq _ _ hbxm
                        have HS : Hid (ys ++ ((bitsL rest).take (j2 + 1)).map (fun s => (gs.length : Int) + s) = zs ++ [(gs.length : Int) + kk]) := by rw [List.take_add_one, hkk, HZ.out]; simp [Hid]
                        clear hkk hcmv
                        gi_wp2_with (gi_at_builtin; refine wpListIn_ap2 rfl _ _ 33 rfl wm.heap.size 3 Tryd.underlying33 infoInt rfl (by decide) (by decide) _ _ _ rfl hown [.int .i64 ((gs.length : Int) + kk)] rfl (by simp [Value.oneCell']) rfl (by simp) (by omega) hBq.size ?_; intro g1 cap1 w1 hown' hb1 hgr hat _)
                        go_roundw
                        case rel =>
                          have hbk := World.block_lt_of_cell? _ _ hck
                          refine ⟨j2 + 1, zs ++ [(gs.length : Int) + kk], by omega, by go_num, HS.out.symm, by rw [List.length_append, List.length_singleton]; omega, by simpa using hown', ?_, hmvq.grown hgr (fun k hk e => hap k e k hk rfl), hBq.trans hb1⟩
                          intro k hk k2 hk2
                          simp only [Value.ownBlock, Option.some.injEq] at hk hk2
                          rcases hat with hat | hat
                          · exact hap k (show u19.ownBlock = some k from by have h : u19.ownBlock = some g1 := hat; rw [h, hk]) k2 (by simp [Value.ownBlock, hk2])
                          · simp at hbk; omega
                        case measure => simp [intOf]; omega
                      · obtain rfl : j2 = (bitsL rest).length := by omega
                        have HZc : Hid (zs = candL gs.length us xs M c) := by rw [HZ.out, List.take_length, HYc.out, HCL.out]; rfl
                        have hlz := hown.lt
                        have hrz : RdI _ _ zs := Rd.of_own hown
                        have hIq := hIm.below hBq
                        obtain ⟨bvq, i14q, j14q, i15q, j15q, hbvq, hbvkq, hBwq, hn0q⟩ := hIq
                        have hIq := hIm.below hBq
                        rw [hsome] at i15q
                        obtain ⟨az, capz, rfl, hlz2, hcz2, _⟩ := hrz.open
                        have HQ : Hid (stepB best (candL gs.length us xs M c) = some zs) := by
                          cases best with
                          | none => rw [HZc.out]; rfl
                          | some b => simp at hsome
                        have hBWq := hBc.trans ((hBm.trans (hBq.mono hBm.size)).mono hBc.size)
                        have h14n : b14 < W3.heap.size := by rw [HSZ.out]; omega
                        have h15n : b14 + 1 < W3.heap.size := by rw [HSZ.out]; omega
                        gi_wp2_with fail
                        refine ⟨trivial, ?_⟩
                        gi_wp2_with fail
                        have hks := keeps_stored hBWq hn0 h14n h15n (.slice az zs.length capz) (.bool true)
                        refine ⟨hks.1, hks.2, ?_⟩
                        rw [HQ.out]
                        exact hIq.stored (by omega) h14n h15n (by rw [HB14.out]; omega) (by rw [HB14.out]; omega) _ zs hrz (fun k hk => ⟨Nat.le_trans hn0 (Nat.le_trans hBc.size (Nat.le_trans hBm.size (hlz k hk).1)), (hlz k hk).2⟩)
              · rw [hsome] at i15c
                gi_wp2_with fail
                refine ⟨trivial, ?_⟩
                refine (CallsIn.inRound l (callsIn_wide.2 (members_fresh c _ (by omega)))).mono ?_
                rintro e wm ⟨mv, rfl, hmv, hmf, hBm⟩
                have hum := huc.below hBm
                have h10m := Below.keeps hBm _ _ h10c
                have h9m := Below.keeps hBm _ _ h9c
                have hbxm := Below.keeps hBm _ _ hbxc
                have hIm := hIc.below hBm
                obtain ⟨amv, capm2, rfl, hl1m, hc1m, hcm⟩ := hmv.open
                have HCm := hid hcm; clear hcm
                gi_wp2_with fail
                gi_loopw [19, 76] (fun v i wq => ∃ (j : Nat) (ys : List Int), j ≤ (bitsL c).length ∧ i = .int .i64 j ∧ Hid (ys = ((bitsL c).take j).map (fun k => us.getD k.toNat 0)) ∧ ys.length ≤ j ∧ wq.ownsRow wm.heap.size 3 1 v ys.length (ys.map (Value.int .i64)) ∧ Below wm.heap.size wm wq) (fun _ i _ => (bitsL c).length - (intOf i).toNat)
                case atStart => exact ⟨0, [], by omega, rfl, by simp [Hid], by simp, World.ownsRow_nil _ _ _ _, Below.refl _ _⟩
                case round =>
                  rename_i wq
                  obtain ⟨j, ys, hj, rfl, HY, hyl, hown, hBq⟩ := hrel
                  by_cases hlt : j < (bitsL c).length
                  · obtain ⟨kk, bk, offk, hkk, rfl, hck0⟩ := HCm.out j hlt
                    have hck := Below.keeps hBq _ _ hck0
                    obtain ⟨hk0, hkn, hk64⟩ := bitsL_lt hcT kk (List.mem_of_getElem? hkk)
                    obtain ⟨n, rfl⟩ := Int.eq_ofNat_of_zero_le hk0
                    have hnu : n < us.length := by have := HXL.out; omega
                    obtain ⟨_, _, heu, _, _, hcu⟩ := hum.open
                    cases heu
                    obtain ⟨y, bu, offu, hy, rfl, hcy0⟩ := hcu n hnu
                    have hcy := Below.keeps hBq _ _ hcy0
                    have h10q := Below.keeps hBq _ _ h10m
                    have HS : Hid (((bitsL c).take (j + 1)).map (fun k => us.getD k.toNat 0) = ys ++ [y]) := by rw [List.take_add_one, hkk, HY.out]; simp [hy, Hid]
                    clear hkk hck0 hcy0 hcu hy
                    gi_wp2_with (gi_at_builtin; refine wpListIn_ap2 rfl _ _ 33 rfl wm.heap.size 3 Tryd.underlying33 infoInt rfl (by decide) (by decide) _ _ _ rfl hown [.int .i64 y] rfl (by simp [Value.oneCell']) rfl (by simp) (by omega) hBq.size ?_; intro g1 cap1 w1 hown' hb1 _ _ _)
                    go_roundw
                    case rel => exact ⟨j + 1, ys ++ [y], by omega, by go_num, HS.out.symm, by rw [List.length_append, List.length_singleton]; omega, by simpa using hown', hBq.trans hb1⟩
                    case measure => simp [intOf]; omega
                  · obtain rfl : j = (bitsL c).length := by omega
                    have h9q := Below.keeps hBq _ _ h9m
                    gi_wp2_with fail
                    refine ⟨trivial, ?_⟩
                    refine (CallsIn.inRound l (callsIn_wide.2 (members_fresh rest _ (by omega)))).mono ?_
                    rintro e wn ⟨mv2, rfl, hmv2, hmf2, hBn⟩
                    have hown2 := own_below hown hBn
                    have hBmn := hBq.trans (hBn.mono hBq.size)
                    have hapart : ∀ k, u19.ownBlock = some k → ∀ k2, mv2.ownBlock = some k2 → k ≠ k2 := fun k hk k2 hk2 => by
                      have h1 := (hown.lt k hk).2
                      have h2 := (hmf2 k2 hk2).1
                      omega
                    obtain ⟨amv2, capm3, rfl, hl2m, hc2m, _⟩ := hmv2.open
                    have HYc : Hid (ys = (bitsL c).map (fun k => us.getD k.toNat 0)) := by rw [HY.out, List.take_length]; rfl
                    clear hown hBq
                    gi_wp2_with fail
                    gi_loopw [19, 93] (fun v i wq => ∃ (j : Nat) (zs : List Int), j ≤ (bitsL rest).length ∧ i = .int .i64 j ∧ Hid (zs = ys ++ ((bitsL rest).take j).map (fun s => (gs.length : Int) + s)) ∧ zs.length ≤ 64 + j ∧ wq.ownsRow wm.heap.size 3 1 v zs.length (zs.map (Value.int .i64)) ∧ (∀ k, v.ownBlock = some k → ∀ k2, (Value.slice amv2 (bitsL rest).length capm3).ownBlock = some k2 → k ≠ k2) ∧ RdI wq (.slice amv2 (bitsL rest).length capm3) (bitsL rest) ∧ Below wm.heap.size wm wq) (fun _ i _ => (bitsL rest).length - (intOf i).toNat)
                    case atStart => exact ⟨0, ys, by omega, rfl, by simp [Hid], by omega, hown2, hapart, hmv2, hBmn⟩
                    case round =>
                      rename_i wq
                      obtain ⟨j2, zs, hj2, rfl, HZ, hzl, hown, hap, hmvq, hBq⟩ := hrel
                      by_cases hlt2 : j2 < (bitsL rest).length
                      · obtain ⟨_, _, hem, _, _, hcmv⟩ := hmvq.open
                        cases hem
                        obtain ⟨kk, bk, offk, hkk, rfl, hck⟩ := hcmv j2 hlt2
                        obtain ⟨hk0, hkn, hk64⟩ := bitsL_lt (n := 8) hA8 kk (List.mem_of_getElem? hkk)
                        have hbxq := Below.keeps hBq _ _ hbxm
                        have HS : Hid (ys ++ ((bitsL rest).take (j2 + 1)).map (fun s => (gs.length : Int) + s) = zs ++ [(gs.length : Int) + kk]) := by rw [List.take_add_one, hkk, HZ.out]; simp [Hid]
                        clear hkk hcmv
                        gi_wp2_with (gi_at_builtin; refine wpListIn_ap2 rfl _ _ 33 rfl wm.heap.size 3 Tryd.underlying33 infoInt rfl (by decide) (by decide) _ _ _ rfl hown [.int .i64 ((gs.length : Int) + kk)] rfl (by simp [Value.oneCell']) rfl (by simp) (by omega) hBq.size ?_; intro g1 cap1 w1 hown' hb1 hgr hat _)
                        go_roundw
                        case rel =>
                          have hbk := World.block_lt_of_cell? _ _ hck
                          refine ⟨j2 + 1, zs ++ [(gs.length : Int) + kk], by omega, by go_num, HS.out.symm, by rw [List.length_append, List.length_singleton]; omega, by simpa using hown', ?_, hmvq.grown hgr (fun k hk e => hap k e k hk rfl), hBq.trans hb1⟩
                          intro k hk k2 hk2
                          simp only [Value.ownBlock, Option.some.injEq] at hk hk2
                          rcases hat with hat | hat
                          · exact hap k (show u19.ownBlock = some k from by have h : u19.ownBlock = some g1 := hat; rw [h, hk]) k2 (by simp [Value.ownBlock, hk2])
                          · simp at hbk; omega
                        case measure => simp [intOf]; omega
                      · obtain rfl : j2 = (bitsL rest).length := by omega
                        have HZc : Hid (zs = candL gs.length us xs M c) := by rw [HZ.out, List.take_length, HYc.out, HCL.out]; rfl
                        have hlz := hown.lt
                        have hrz : RdI _ _ zs := Rd.of_own hown
                        have hIq := hIm.below hBq
                        obtain ⟨bvq, i14q, j14q, i15q, j15q, hbvq, hbvkq, hBwq, hn0q⟩ := hIq
                        have hIq := hIm.below hBq
                        rw [hsome] at i15q
                        obtain ⟨az, capz, rfl, hlz2, hcz2, _⟩ := hrz.open
                        obtain ⟨bb, hbb⟩ : ∃ bb, bb = best.getD [] := ⟨_, rfl⟩
                        have hbest : best = some bb := by
                          cases best with
                          | none => simp at hsome
                          | some b => simp at hbb; rw [hbb]
                        rw [← hbb] at hbvq hlen
                        have hzlen : zs.length = (bitsL c).length + (bitsL rest).length := by rw [HZc.out]; exact hcl
                        have hzle : zs.length ≤ bb.length := by omega
                        have HQ1 : Hid (stepB best (candL gs.length us xs M c) = if betterB zs bb = true then some zs else some bb) := by rw [hbest, HZc.out]; rfl
                        have HBest := hid hbest
                        clear hbb hbest hzlen hlen
                        obtain ⟨ab2, capb2, rfl, hlb2, hcb2, _⟩ := hbvq.open
                        have hBWq := hBc.trans ((hBm.trans (hBq.mono hBm.size)).mono hBc.size)
                        have h14n : b14 < W3.heap.size := by rw [HSZ.out]; omega
                        have h15n : b14 + 1 < W3.heap.size := by rw [HSZ.out]; omega
                        have hks := keeps_stored hBWq hn0 h14n h15n (.slice az zs.length capz) (.bool true)
                        have HCmp := hid (fun w' h1 h2 => compareI_any (.slice az zs.length capz) (.slice ab2 bb.length capb2) zs bb w' h1 h2)
                        have HBl : Hid (betterB zs bb = (decide (zs.length < bb.length) || (decide (zs.length = bb.length) && decide (lexI zs bb < 0)))) := rfl
                        generalize lexI zs bb = lx at *
                        by_cases hl1 : zs.length < bb.length
                        · have HQ : Hid (stepB best (candL gs.length us xs M c) = some zs) := by rw [HQ1.out, HBl.out]; simp [hl1, Hid]
                          have hl1' : (zs.length : Int) < bb.length := by omega
                          gi_wp2_with fail
                          refine ⟨trivial, ?_⟩
                          gi_wp2_with fail
                          refine ⟨hks.1, hks.2, ?_⟩
                          rw [HQ.out]
                          exact hIq.stored (by omega) h14n h15n (by rw [HB14.out]; omega) (by rw [HB14.out]; omega) _ zs hrz (fun k hk => ⟨Nat.le_trans hn0 (Nat.le_trans hBc.size (Nat.le_trans hBm.size (hlz k hk).1)), (hlz k hk).2⟩)
                        · have hl1' : ¬ (zs.length : Int) < bb.length := by omega
                          by_cases hlx : lx < 0
                          · have HQ : Hid (stepB best (candL gs.length us xs M c) = some zs) := by rw [HQ1.out, HBl.out]; simp [show zs.length = bb.length by omega, hlx, Hid]
                            gi_wp2_with fail
                            refine ⟨trivial, ?_⟩
                            refine (CallsIn.inRound l (callsIn_wide.2 (HCmp.out _ hrz hbvq))).mono ?_
                            rintro e w' ⟨rfl, rfl⟩
                            gi_wp2_with fail
                            refine ⟨hks.1, hks.2, ?_⟩
                            rw [HQ.out]
                            exact hIq.stored (by omega) h14n h15n (by rw [HB14.out]; omega) (by rw [HB14.out]; omega) _ zs hrz (fun k hk => ⟨Nat.le_trans hn0 (Nat.le_trans hBc.size (Nat.le_trans hBm.size (hlz k hk).1)), (hlz k hk).2⟩)
                          · have HQ : Hid (stepB best (candL gs.length us xs M c) = best) := by rw [HQ1.out, HBl.out, HBest.out]; simp [show ¬ zs.length < bb.length by omega, hlx, Hid]
                            gi_wp2_with fail
                            refine ⟨trivial, ?_⟩
                            refine (CallsIn.inRound l (callsIn_wide.2 (HCmp.out _ hrz hbvq))).mono ?_
                            rintro e w' ⟨rfl, rfl⟩
                            gi_wp2_with fail
                            refine ⟨keepsFrom_below hBWq, kpX_below hBWq hn0, ?_⟩
                            rw [HQ.out]; exact hIq
        case done =>
          rintro D ys W' hD hys ⟨bv, i14, j14, i15, j15, hbv, hbvk, hBb, hn0⟩ hK
          rw [HB14.out] at hBb
          have hDlt : D < W'.heap.size := (Array.getElem?_eq_some_iff.1 hK).1
          have hSP : (candsOf gs.length us xs M ys).getD [] = shortP names gs set := by
            rw [HP.out, ← HMS.out, candsOf, ← hys, List.map_map]; rfl
          rw [hSP] at hbv
          have HPB : Hid (∀ p ∈ shortP names gs set, (0 ≤ p ∧ p < gs.length) ∨ ((gs.length : Int) ≤ p ∧ p < gs.length + names.length)) := by
            intro p hp
            rw [← hSP] at hp
            rcases bestOf_mem _ none p hp with ⟨L, hL, hpL⟩ | h
            · obtain ⟨c, _, rfl⟩ := List.mem_map.1 hL
              exact cand_mem (fun x hx => by simpa using HUM.out x hx) (by rw [HMS.out]; simp [msOf]) c.2 hMn.out p hpL
            · simp at h
          have hL128 : (shortP names gs set).length ≤ 128 := by
            rw [← hSP]
            cases hb : candsOf gs.length us xs M ys with
            | none => simp
            | some L =>
              rcases bestOf_in _ none L hb with h | h
              · obtain ⟨c, _, rfl⟩ := List.mem_map.1 h
                exact cand_len _ _ _ _ _
              · cases h
          clear hSP hys
          generalize shortP names gs set = L at *
          obtain ⟨ab, capb, rfl, hlb, hcb, hcellB⟩ := hbv.open
          have HCellB := hid hcellB; clear hcellB
          have hbxw := Below.keeps (by rw [HB14.out]; exact hBb) _ _ (Below.keeps hBr _ _ hbx)
          have hBW : Below w.heap.size w W' := (HB.trans ((hBr.mono HB.size))).trans (hBb.mono (by have := HB.size; have := hBr.size; have := HB14.out; omega))
          have hgw := hg.below hBW
          have hrw := hr.below hBW
          obtain ⟨_, _, heg, _, _, hcg⟩ := hgw.open
          cases heg
          have HCg := hid hcg; clear hcg
          obtain ⟨_, _, hen, _, _, hcn⟩ := hrw.open
          cases hen
          have HCn := hid hcn; clear hcn
          have HKD := hid hK; clear hK
          have HSZ := hid hszW; clear hszW
          clear j14 i15 j15 h9 h10 hbx
          go_wp2_with fail
          go_loopw [24, 123] (fun v i wl => ∃ (j : Nat) (zs : List ByteArray), j ≤ L.length ∧ i = .int .i64 j ∧ Hid (zs = (L.take j).map (nameOf names gs)) ∧ zs.length ≤ j ∧ wl.ownsRow W'.heap.size 9 1 v zs.length (zs.map Value.string) ∧ Below W'.heap.size W' wl) (fun _ i _ => L.length - (intOf i).toNat)
          case atStart => exact ⟨0, [], by omega, rfl, by simp [Hid], by simp, World.ownsRow_nil _ _ _ _, Below.refl _ _⟩
          case round =>
            rename_i wl
            obtain ⟨j, zs, hj, rfl, HZ, hzl, hown, hBl⟩ := hrel
            by_cases hlt : j < L.length
            · obtain ⟨p, bl, ofl, hp, rfl, hcl0⟩ := HCellB.out j hlt
              have hcl := Below.keeps hBl _ _ hcl0
              have hbxl := Below.keeps hBl _ _ hbxw
              rcases HPB.out p (List.mem_of_getElem? hp) with ⟨hp0, hpg⟩ | ⟨hpg, hpn⟩
              · obtain ⟨n, rfl⟩ := Int.eq_ofNat_of_zero_le hp0
                obtain ⟨g, bg, og, m, hgn, rfl, hcg0, _, _⟩ := HCg.out n (by omega)
                have hcg := Below.keeps hBl _ _ hcg0
                have hnm : nameOf names gs (n : Int) = g.name := by unfold nameOf; rw [if_pos hpg, Int.toNat_natCast, hgn]
                have HS : Hid ((L.take (j + 1)).map (nameOf names gs) = zs ++ [g.name]) := by rw [List.take_add_one, hp, HZ.out]; simp [hnm, Hid]
                clear hp hgn hnm hcg0 hcl0
                have hng : n < gs.length := by omega
                go_wp2_with (at_builtin; refine wpList_ap rfl _ _ 22 rfl W'.heap.size 9 Tryd.underlying22 infoStr rfl (by decide) (by decide) _ _ _ rfl hown [.string g.name] rfl (by simp [Value.oneCell']) rfl (by simp) (by omega) hBl.size ?_; intro v' w1 hown' hb1 _)
                go_roundw
                case rel => exact ⟨j + 1, zs ++ [g.name], by omega, by go_num, HS.out.symm, by rw [List.length_append, List.length_singleton]; omega, by simpa using hown', hBl.trans hb1⟩
                case measure => simp [intOf]; omega
              · obtain ⟨n, rfl⟩ : ∃ n : Nat, p = gs.length + n := ⟨(p - gs.length).toNat, by omega⟩
                have hnn : n < names.length := by omega
                obtain ⟨x, bn, on, hxn, rfl, hcn0⟩ := HCn.out n hnn
                have hcn := Below.keeps hBl _ _ hcn0
                have hnm : nameOf names gs ((gs.length : Int) + (n : Int)) = x := by
                  unfold nameOf
                  rw [if_neg (by omega), show (((gs.length : Int) + (n : Int)) - gs.length).toNat = n by omega, List.getD_eq_getElem?_getD, hxn]; rfl
                have HS : Hid ((L.take (j + 1)).map (nameOf names gs) = zs ++ [x]) := by rw [List.take_add_one, hp, HZ.out]; simp [hnm, Hid]
                clear hp hxn hnm hcn0 hcl0
                have e1 : (gs.length : Int) + (n : Int) - gs.length = n := by omega
                go_wp2_with (at_builtin; refine wpList_ap rfl _ _ 22 rfl W'.heap.size 9 Tryd.underlying22 infoStr rfl (by decide) (by decide) _ _ _ rfl hown [.string x] rfl (by simp [Value.oneCell']) rfl (by simp) (by omega) hBl.size ?_; intro v' w1 hown' hb1 _)
                go_roundw
                case rel => exact ⟨j + 1, zs ++ [x], by omega, by go_num, HS.out.symm, by rw [List.length_append, List.length_singleton]; omega, by simpa using hown', hBl.trans hb1⟩
                case measure => simp [intOf]; omega
            · obtain rfl : j = L.length := by omega
              have HZc : Hid (zs = L.map (nameOf names gs)) := by rw [HZ.out, List.take_length]; rfl
              have hKl := (hBl.block D hDlt).trans HKD.out
              have HKL := hid hKl; clear hKl
              go_wp2_with fail
              refine ⟨by simp, .inl ⟨_, _, rfl, run_takeDeferred HKL.out, ?_⟩⟩
              refine leave2 rfl ⟨_, rfl, ?_, ?_⟩
              · rw [HL2.out, ← HZc.out]
                exact Rd.of_own (ownsRow_putObj hown _ HKL.out rfl)
              · have hBf := hBW.trans (hBl.mono hBW.size)
                exact hBf.grown (grownBy_putObj' _ D _) hBf.size (fun k e => by cases e; have := hBW.size; have := hBr.size; have := HB.size; have := HSZ.out; have := HB14.out; omega)
        case stop =>
          rintro D c pre W' _ _ h _
          exact h.elim
  · have hb : (startI names gs set != 0) = true := by simpa using h0
    have HL2 : Hid (shortL names gs set = []) := by unfold shortL; rw [if_neg h0]; rfl
    clear h0
    generalize startI names gs set = c at *
    refine callsIn_of_wp_marks Tryd.func21 rfl trivial ?_ rfl
    simp only [Tryd.ntmps21, List.size_toArray, List.length_cons, List.length_nil, Nat.reduceAdd, Nat.reduceSub, Array.replicate_succ, Array.replicate_zero, List.push_toArray, List.append_toArray, List.nil_append, List.cons_append]
    gi_wp2_with (first | (refine ⟨trivial, ?_⟩; gi_at_call 44; refine (callsIn_wide.2 hC.out).mono ?_; rintro e w1 ⟨rfl, hB1⟩))
    exact leave2 rfl ⟨_, rfl, by rw [HL2.out]; exact Rd.nil _, below_tr hb0 (by assumption)⟩
end Go.Proofs.YtigaflmhdbgmdaaDoor
