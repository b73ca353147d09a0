/-
  (sides).potentials.
-/
import Derived.Test.YtlneimjenjpbnaaFpw
import Derived.Test.YtlneimjenjpbnaaRfq
import Derived.RangeFuncWrites
import Derived.RangeFuncBound
import Derived.Deep.LoopGhost
import Derived.RegionTactic
import Derived.BigQuiet
import Derived.Sort.CutIn
namespace Go.Proofs.Ytlneimjenjpbnaa
open Go.RowKit
attribute [local go_sem] Oper.semAt_some

def bodyA2 (A : World → Prop) : Exit → Act → World → Prop
  | .normal, _, W => A W
  | _, _, _ => False
theorem wpList_load_rowF {P : Program} {ops : Array Oper} {rest : List Oper} {o : Oper} {a : Act} {w : World} {Q : Exit → Act → World → Prop} (hgd : o.guard = none) (ty : TypeId) (x : Operand) (ho : o.op = .load ty x)
    (g : Nat) (hx : a.eval x = .pointer (some ⟨g, 0, none⟩)) (t : TypeId) (cs : Array Value) (d : TypeDesc) (hg : Row w g cs t)
    (hu : P.underlying ty = some d) (hd : (match d with | .struct _ | .array _ _ => true | _ => false) = true) (hi : (P.info? ty).map (·.size) = some cs.size)
    (h : wpList P ops Q rest (a.put o.dst (.agg cs)) w) : wpList P ops Q (o :: rest) a w := wpList_load_row hgd ty x ho g hx t cs (0, 0) d hg hu hd hi h
/-- What a round keeps: the cells of all blocks but one. -/
structure KpY (Z : Nat) (A B : World) : Prop where
  sz : A.heap.size ≤ B.heap.size
  cl : ∀ (p : Addr) (v : Value), p.block ≠ Z → A.cell? p = some v → B.cell? p = some v
  rw : ∀ (k : Nat) (cs : Array Value) (t : TypeId), k ≠ Z → Row A k cs t → Row B k cs t
theorem KpY.tr {Z : Nat} {A B C : World} (h : KpY Z A B) (k : KpY Z B C) : KpY Z A C :=
  ⟨Nat.le_trans h.sz k.sz, fun p v hp hv => k.cl p v hp (h.cl p v hp hv), fun b cs t hb hr => k.rw b cs t hb (h.rw b cs t hb hr)⟩
theorem cell_obj {W : World} {p : Addr} {v : Value} (h : W.cell? p = some v) : ∃ o : Obj, W.heap[p.block]? = some o ∧ o.isCells = true := by
  unfold World.cell? at h
  cases hh : W.heap[p.block]? with
  | none => rw [hh] at h; cases h
  | some o =>
    rw [hh] at h
    cases o <;> first | exact ⟨_, rfl, rfl⟩ | cases h
theorem KpY.put {Z m : Nat} (W : World) (l : Nat) (o o' : Obj) (_ : m ≤ l) (ho : W.heap[l]? = some o) (hc : o.isCells = false) (_ : o.isWalk = false) : KpY Z W (W.putObj l o') := by
  refine ⟨by simp [World.putObj], fun p v _ hv => ?_, fun k cs t _ hr => ?_⟩
  · obtain ⟨o1, h1, h2⟩ := cell_obj hv
    have hne : p.block ≠ l := fun e => by rw [e, ho] at h1; cases h1; rw [hc] at h2; cases h2
    exact (World.cell?_of_block (World.putObj_heap_other hne)).trans hv
  · have h1 : W.heap[k]? = _ := hr
    have hne : k ≠ l := fun e => by rw [e, ho] at h1; cases h1; cases hc
    exact (World.putObj_heap_other hne).trans h1
theorem KpY.of {Z : Nat} {A B : World} (hb : Below A.heap.size A B) : KpY Z A B := ⟨hb.size, fun _ _ _ hv => Below.keeps hb _ _ hv, fun _ _ _ _ hr => Row.below hr hb⟩
theorem KpY.set (Z : Nat) (A : World) (v : Value) : KpY Z A (A.setCell ⟨Z, 0, none⟩ v) := by
  refine ⟨by simp [World.setCell], fun p x hp hx => ?_, fun k cs t hk hr => hr.other _ _ (by simpa using hk)⟩
  exact (World.cell?_of_block (Below.heap_setCell _ _ _ _ (by simpa using hp))).trans hx
theorem RdM.monoC {W W' : World} {v : Value} {M : List (List Int)} (h : RdM W v M) (hk : ∀ p x, W.cell? p = some x → W'.cell? p = some x) : RdM W' v M := by
  obtain ⟨a, cap, h1, h2, h3, h4⟩ := h
  exact ⟨a, cap, h1, h2, h3, fun i x hx => let ⟨b, off, u, e, hc, hr⟩ := h4 i x hx; ⟨b, off, u, e, hk _ _ hc, hr.mono hk⟩⟩
/-- All cells that were there are as they were. -/
def OldV (w W : World) : Prop := ∀ (p : Addr) (v : Value), w.cell? p = some v → W.cell? p = some v
theorem FsR.oldV {W W' : World} {x : FV} {s : FS} (h : FsR W x s) (hk : OldV W W') : FsR W' x s :=
  ⟨⟨h.l.l.mono hk, h.l.n.monoC hk, h.l.s.mono hk⟩, ⟨h.r.l.mono hk, h.r.n.monoC hk, h.r.s.mono hk⟩, h.a.monoC hk, h.pl.mono hk, h.pr.mono hk⟩
/-- What the iterator reads while a box Z is written. -/
structure FgO (w : World) (s : FS) (x : FV) (f : Nat × Nat) (Bs Bf : Nat) (W : World) : Prop where
  bs : Row W Bs (fsC s x) 46
  bf : Row W Bf #[.int .i64 f.1, .int .i64 f.2] 48
  old : OldV w W
theorem FgO.below {w : World} {s : FS} {x : FV} {f : Nat × Nat} {Bs Bf : Nat} {W W' : World} (h : FgO w s x f Bs Bf W) (hb : Below W.heap.size W W') : FgO w s x f Bs Bf W' := ⟨h.bs.below hb, h.bf.below hb, fun p v hv => Below.keeps hb _ _ (h.old p v hv)⟩
theorem FgO.kp {w : World} {s : FS} {x : FV} {f : Nat × Nat} {Bs Bf Z : Nat} {W W' : World} (h : FgO w s x f Bs Bf W) (hk : KpY Z W W') (h1 : Bs ≠ Z) (h2 : Bf ≠ Z) (h3 : w.heap.size ≤ Z) : FgO w s x f Bs Bf W' :=
  ⟨hk.rw _ _ _ h1 h.bs, hk.rw _ _ _ h2 h.bf, fun p v hv => hk.cl p v (by have := World.block_lt_of_cell? _ _ hv; omega) (h.old p v hv)⟩
/-- A step of a region that draws: make. -/
theorem step_mk {P : Program} {ops : Array Oper} {o : Oper} {a : Act} {W : World} {K : Act → World → Prop} {Q : Exit → Act → World → Prop} {E : Prop}
    (hgd : o.guard = none) (l c : Operand) (t : TypeId) (hop : o.op = Op.makeSlice t l c)
    (base : Nat) (e : TypeId) (i : TypeInfo) (z : Value) (size : Nat) (h1 : P.underlying t = some (.slice e)) (h2 : P.info? e = some i) (h3 : i.zero = some z) (h4 : i.size = size)
    (kl kc : IntKind) (n : Nat) (hl : a.eval l = .int kl (n : Int)) (hc : a.eval c = .int kc (n : Int)) (b2 : i.bytes * n ≤ 281474976710656) (b3 : n ≤ maxLen) (b4 : base ≤ W.heap.size)
    (hK : ∀ w', w'.ownsRow base e size (.slice (some ⟨W.heap.size, 0, none⟩) n n) n (madeCells z.cells (n * size)).toList → W.grownBy w' none → K (a.put o.dst (.slice (some ⟨W.heap.size, 0, none⟩) n n)) w') :
    if Region.wanted o (yielded ops a.tmps) = true then Oper.wp P o a W K Q else E := by
  have hw : Region.wanted o (yielded ops a.tmps) = true := by simp [Region.wanted, hgd]
  rw [if_pos hw]
  obtain ⟨w', hrun, r1, r2⟩ := run_make_full (P := P) W base t e i z size h1 h2 h3 h4 kl kc n b2 b3 b4
  unfold Oper.wp
  simp [execOp, hop, hl, hc, hrun, Result.andThen]
  exact hK w' r1 r2
theorem PoF.drew {w : World} {s : FS} {x : FV} {Bs Zl Bo O i k : Nat} {rs : Nat → Nat} {Ds : List Nat} {W : World} (h : PoF w s x Bs Zl Bo O i k rs Ds W) : PoF w s x Bs Zl Bo O i k rs Ds W.drew := h.below (Below.refl _ _).drew
/-- Behind 'make([]int, last.right+1)'. -/
theorem PoF.newRow {w : World} {s : FS} {x : FV} {Bs Zl Bo O i : Nat} {rs : Nat → Nat} {Ds : List Nat} {W W' : World} (h : PoF w s x Bs Zl Bo O (i + 1) 0 rs Ds W) (hi : i ≤ s.L.n)
    (ho : W'.ownsRow w.heap.size 3 1 (.slice (some ⟨W.heap.size, 0, none⟩) (s.R.n + 1 : Nat) (s.R.n + 1 : Nat)) (s.R.n + 1) (madeCells (Value.int .i64 0).cells ((s.R.n + 1) * 1)).toList) (hg : W.grownBy W' none) :
    (∃ y, W'.cell? ⟨O, i, none⟩ = some y) ∧ W'.frozen? ⟨O, i, none⟩ = false ∧ W'.cell? ⟨Bo, 0, none⟩ = some (.slice (some ⟨O, 0, none⟩) (s.L.n + 1 : Nat) (s.L.n + 1 : Nat)) ∧
      PoF w s x Bs Zl Bo O i (s.R.n + 1) (fun a => if a = i then W.heap.size else rs a) Ds (W'.setCell ⟨O, i, none⟩ (.slice (some ⟨W.heap.size, 0, none⟩) (s.R.n + 1 : Nat) (s.R.n + 1 : Nat))) := by
  have hb : Below W.heap.size W W' := ⟨hg.os, hg.tape, hg.output, hg.size, fun k hk => hg.block k hk (by simp)⟩
  obtain ⟨hG2, _⟩ := own_full ho
  have hGr : Row W' W.heap.size (rowC (List.replicate (s.R.n + 1) 0)) 3 := by
    have h : W'.heap[W.heap.size]? = some (.cells (madeCells #[Value.int .i64 0] ((s.R.n + 1) * 1)).toList.toArray 3 (0, 0)) := hG2
    rw [madeZero] at h
    exact h
  have h' := h.below hb
  obtain ⟨cur, c1, c2, c3⟩ := h'.out
  exact ⟨⟨_, c1.cell i (x := cur[i]'(by omega)) (by simp [show i < cur.length by omega])⟩, c1.frozen i, h'.bo.cell 0 rfl, h.row hi hb (Nat.le_refl _) hGr⟩
/-- The frame of the outer loop. -/
def fpoA (Bs Zl Bo : Nat) (z : Int) (ds : List Deferred) (u0 u6 u7 u8 u9 u10 u11 u12 u13 u14 u15 u16 u17 u18 u19 u20 u21 u22 u23 u24 u25 u26 u27 u28 u29 u30 u31 u32 u33 u34 u35 u36 u37 u38 u39 u40 u41 u42 u43 u44 u45 u46 u47 u48 u49 u50 u51 u52 u53 u54 u55 u56 u57 u58 u59 u60 u61 u62 u63 u64 u65 u66 u67 u68 u69 u70 u71 u72 u73 u74 u75 u76 u77 u78 u79 u80 u81 u82 u83 u84 u85 : Value) : Act :=
  { tmps := #[u0, .pointer (some ⟨Bs, 0, none⟩), .slice none 0 0, .pointer (some ⟨Zl, 0, none⟩), .pointer (some ⟨Bo, 0, none⟩), .int .i64 z, u6, u7, u8, u9, u10, u11, u12, u13, u14, u15, u16, u17, u18, u19, u20, u21, u22, u23, u24, u25, u26, u27, u28, u29, u30, u31, u32, u33, u34, u35, u36, u37, u38, u39, u40, u41, u42, u43, u44, u45, u46, u47, u48, u49, u50, u51, u52, u53, u54, u55, u56, u57, u58, u59, u60, u61, u62, u63, u64, u65, u66, u67, u68, u69, u70, u71, u72, u73, u74, u75, u76, u77, u78, u79, u80, u81, u82, u83, u84, u85], defers := ds }
/-- The frame of the inner loop. -/
def fpiA (Bs Zl Bo i : Nat) (z : Int) (ds : List Deferred) (u0 u7 u8 u9 u10 u11 u12 u13 u14 u15 u16 u17 u18 u19 u20 u21 u22 u23 u24 u25 u26 u27 u28 u29 u30 u31 u32 u33 u34 u35 u36 u37 u38 u39 u40 u41 u42 u43 u44 u45 u46 u47 u48 u49 u50 u51 u52 u53 u54 u55 u56 u57 u58 u59 u60 u61 u62 u63 u64 u65 u66 u67 u68 u69 u70 u71 u72 u73 u74 u75 u76 u77 u78 u79 u80 u81 u82 u83 u84 u85 : Value) : Act :=
  { tmps := #[u0, .pointer (some ⟨Bs, 0, none⟩), .slice none 0 0, .pointer (some ⟨Zl, 0, none⟩), .pointer (some ⟨Bo, 0, none⟩), .int .i64 (i : Int), .int .i64 z, u7, u8, u9, u10, u11, u12, u13, u14, u15, u16, u17, u18, u19, u20, u21, u22, u23, u24, u25, u26, u27, u28, u29, u30, u31, u32, u33, u34, u35, u36, u37, u38, u39, u40, u41, u42, u43, u44, u45, u46, u47, u48, u49, u50, u51, u52, u53, u54, u55, u56, u57, u58, u59, u60, u61, u62, u63, u64, u65, u66, u67, u68, u69, u70, u71, u72, u73, u74, u75, u76, u77, u78, u79, u80, u81, u82, u83, u84, u85], defers := ds }
def FpoJ (w : World) (s : FS) (x : FV) (Bs Zl Bo O k : Nat) (a : Act) (W : World) : Prop :=
  ∃ (Ds : List Nat) (rs : Nat → Nat) (z : Int) (u0 u6 u7 u8 u9 u10 u11 u12 u13 u14 u15 u16 u17 u18 u19 u20 u21 u22 u23 u24 u25 u26 u27 u28 u29 u30 u31 u32 u33 u34 u35 u36 u37 u38 u39 u40 u41 u42 u43 u44 u45 u46 u47 u48 u49 u50 u51 u52 u53 u54 u55 u56 u57 u58 u59 u60 u61 u62 u63 u64 u65 u66 u67 u68 u69 u70 u71 u72 u73 u74 u75 u76 u77 u78 u79 u80 u81 u82 u83 u84 u85 : Value), a = fpoA Bs Zl Bo z (mksD Ds) u0 u6 u7 u8 u9 u10 u11 u12 u13 u14 u15 u16 u17 u18 u19 u20 u21 u22 u23 u24 u25 u26 u27 u28 u29 u30 u31 u32 u33 u34 u35 u36 u37 u38 u39 u40 u41 u42 u43 u44 u45 u46 u47 u48 u49 u50 u51 u52 u53 u54 u55 u56 u57 u58 u59 u60 u61 u62 u63 u64 u65 u66 u67 u68 u69 u70 u71 u72 u73 u74 u75 u76 u77 u78 u79 u80 u81 u82 u83 u84 u85 ∧ z = (k : Int) - 1 ∧ k ≤ s.L.n + 1 ∧ PoF w s x Bs Zl Bo O k 0 rs Ds W
def FpiJ (w : World) (s : FS) (x : FV) (Bs Zl Bo O i k : Nat) (a : Act) (W : World) : Prop :=
  ∃ (Ds : List Nat) (rs : Nat → Nat) (z : Int) (u0 u7 u8 u9 u10 u11 u12 u13 u14 u15 u16 u17 u18 u19 u20 u21 u22 u23 u24 u25 u26 u27 u28 u29 u30 u31 u32 u33 u34 u35 u36 u37 u38 u39 u40 u41 u42 u43 u44 u45 u46 u47 u48 u49 u50 u51 u52 u53 u54 u55 u56 u57 u58 u59 u60 u61 u62 u63 u64 u65 u66 u67 u68 u69 u70 u71 u72 u73 u74 u75 u76 u77 u78 u79 u80 u81 u82 u83 u84 u85 : Value), a = fpiA Bs Zl Bo i z (mksD Ds) u0 u7 u8 u9 u10 u11 u12 u13 u14 u15 u16 u17 u18 u19 u20 u21 u22 u23 u24 u25 u26 u27 u28 u29 u30 u31 u32 u33 u34 u35 u36 u37 u38 u39 u40 u41 u42 u43 u44 u45 u46 u47 u48 u49 u50 u51 u52 u53 u54 u55 u56 u57 u58 u59 u60 u61 u62 u63 u64 u65 u66 u67 u68 u69 u70 u71 u72 u73 u74 u75 u76 u77 u78 u79 u80 u81 u82 u83 u84 u85 ∧ z = (k : Int) - 1 ∧ k ≤ s.R.n + 1 ∧ PoF w s x Bs Zl Bo O i k rs Ds W

set_option maxHeartbeats 1000000 in
theorem fpages_any (s : FS) (x : FV) (f : Nat × Nat) (w : World) :
    Calls Try.prog 15 #[.agg (fsC s x), .agg #[.int .i64 f.1, .int .i64 f.2]] w fun e w' => e = .returned (.func (.func 31) #[] #[.pointer (some ⟨w.heap.size, 0, none⟩), .pointer (some ⟨w.heap.size + 1, 0, none⟩)]) ∧ (w.alloc (.cells (fsC s x) 46)).alloc (.cells #[.int .i64 f.1, .int .i64 f.2] 48) = w' := by
  unfold fsC
  go_enter Try.func15, Try.ntmps15
  go_wp2
  go_ret
  exact ⟨rfl, rfl⟩

/-- Between two pages. -/
def FpoI (w W2 : World) (Z : Nat) (b : Int) (W : World) : Prop := OldW W2 W ∧ Below w.heap.size w W ∧ Row W Z #[.int .i64 b] 3
theorem FpoI.grown {w W2 A C : World} {Z n : Nat} {b : Int} {row : Option Nat} (h : FpoI w W2 Z b A) (hn : W2.heap.size ≤ n) (hw : w.heap.size ≤ n) (hg : A.grownBy C row) (hr : ∀ r, row = some r → n ≤ r ∧ ∃ o : Obj, A.heap[r]? = some o ∧ o.isCells = false) : FpoI w W2 Z b C := by
  obtain ⟨h1, h2, h3⟩ := h
  refine ⟨⟨Nat.le_trans h1.1 hg.size, fun k hk => (hg.block k (Nat.lt_of_lt_of_le hk h1.1) (fun e => by have := (hr k e.symm).1; omega)).trans (h1.2 k hk)⟩, h2.grown hg h2.size (fun r e => by have := (hr r e).1; omega), (hg.block Z h3.lt (fun e => ?_)).trans h3⟩
  obtain ⟨_, o, ho, hc⟩ := hr Z e.symm
  have h4 : A.heap[Z]? = _ := h3
  rw [ho] at h4; cases h4; cases hc
theorem FpoI.below {w W2 A C : World} {Z : Nat} {b : Int} (h : FpoI w W2 Z b A) (hb : Below A.heap.size A C) : FpoI w W2 Z b C := ⟨h.1.tr hb, below_tr h.2.1 hb, h.2.2.below hb⟩
theorem FpoI.set {w W2 A : World} {Z : Nat} {b : Int} (h : FpoI w W2 Z b A) (h1 : W2.heap.size ≤ Z) (hw : w.heap.size ≤ Z) (c : Int) : FpoI w W2 Z c (A.setCell ⟨Z, 0, none⟩ (.int .i64 c)) := by
  refine ⟨⟨by simp [World.setCell]; exact h.1.1, fun k hk => (Below.heap_setCell _ _ _ _ (by simp; omega)).trans (h.1.2 k hk)⟩, h.2.1.setCell hw _, ?_⟩
  exact h.2.2.set 0 (.int .i64 c)
theorem keeps_setZ {A : World} {Z n : Nat} {cs : Array Value} {t : TypeId} (h : Row A Z cs t) (v : Value) : KeepsFrom n A (A.setCell ⟨Z, 0, none⟩ v) := by
  have hs : (A.setCell ⟨Z, 0, none⟩ v).heap.size = A.heap.size := by simp [World.setCell]
  refine ⟨Nat.le_of_eq hs.symm, fun k o _ ho hc => (Below.heap_setCell _ _ _ _ ?_).trans ho⟩
  intro e
  simp only at e
  have h3 : A.heap[Z]? = _ := h
  rw [e, h3] at ho
  cases ho; cases hc
theorem keepsFrom_tr2 {n : Nat} {A B C : World} (h : KeepsFrom n A B) (k : KeepsFrom n B C) : KeepsFrom n A C := ⟨Nat.le_trans h.1 k.1, fun b o hb ho hc => k.2 b o hb (h.2 b o hb ho hc) hc⟩
theorem infoSI : (Try.prog.info? 22).map (fun i => (i.zero, i.size, i.bytes)) = some (some (.slice none 0 0), 1, 24) := by kernel_rfl
set_option maxRecDepth 100000 in
set_option maxHeartbeats 8000000 in
theorem fpo_any (s : FS) (x : FV) (w : World) (hr : FsR w x s) (hok : FsOk s) (hA2 : ∀ a ∈ s.A, a.length = 2) (hT : (s.L.n + 1) * (s.R.n + 1) ≤ 65536) :
    Calls Try.prog 29 #[.agg (fsC s x)] w fun e w' => ∃ v, e = .returned v ∧ RdM w' v (fpotM s) ∧ Below w.heap.size w w' := by
  refine (callsIn_wide (n := 9)).1 ?_
  have HOK := hid hok
  have HRS := hid hr
  have HA2 := hid hA2
  have HT := hid hT
  have nL : s.L.n ≤ 4096 := hok.l.n4
  have nR : s.R.n ≤ 4096 := hok.r.n4
  clear hr hok hA2 hT
  have HB0 := hid (below_al w (.cells (fsC s x) 46))
  have HR0 := hid (row_nw w (fsC s x) 46 rfl)
  have HFS : Hid ((#[x.l1, x.l2, x.l3, .int .i64 s.L.h, .int .i64 s.L.gap, x.r1, x.r2, x.r3, .int .i64 s.R.h, .int .i64 s.R.gap, x.a, x.l, x.r] : Array Value) = fsC s x) := rfl
  refine callsIn_of_wp_marks Try.func29 rfl trivial ?_ rfl
  simp only [Try.ntmps29, List.size_toArray, List.length_cons, List.length_nil, Nat.reduceAdd, Nat.reduceSub, Array.replicate_succ, Array.replicate_zero, List.push_toArray, List.append_toArray, List.nil_append, List.cons_append]
  refine wpIn_wide.2 ?_
  unfold fsC
  go_upto_region 1 with fail
  rw [HFS.out]
  generalize w.alloc (.cells (fsC s x) 46) = W0 at *
  have HE := hid (fend_any2 s x W0 (HRS.out.below HB0.out))
  go_wp2_with (first | (refine wpList_load_rowF rfl 46 _ rfl _ rfl 46 _ _ HR0.out Try.underlying46 rfl (by kernel_rfl) ?_) | fail)
  (with_reducible refine HE.out.mono ?_)
  rintro e w2 ⟨rfl, hb2⟩
  have HR2 := hid (HR0.out.below hb2)
  have HB2 := hid (below_tr HB0.out hb2)
  clear hb2 HE HR0 HB0
  have HRZ := hid (row_nw w2 #[.int .i64 s.L.n, .int .i64 s.R.n] 48 rfl)
  have HR3 := hid (HR2.out.al (.cells #[.int .i64 s.L.n, .int .i64 s.R.n] 48))
  have HB3 := hid (below_tr HB2.out (below_al w2 (.cells #[.int .i64 s.L.n, .int .i64 s.R.n] 48)))
  clear HR2 HB2
  have z0 := HRZ.out.cell 0 (x := .int .i64 s.L.n) rfl
  go_upto_region 2 with fail
  generalize w2.alloc (.cells #[.int .i64 s.L.n, .int .i64 s.R.n] 48) = w3 at *
  generalize w2.heap.size = Zl at *
  have hw1 : IntKind.i64.wrap ((s.L.n : Int) + 1) = ((s.L.n + 1 : Nat) : Int) := by rw [show (s.L.n : Int) + 1 = ((s.L.n + 1 : Nat) : Int) by omega]; exact IntWalk.i64_in _ (by omega)
  obtain ⟨iS, hiS, hzS0, hzS1, hzS2⟩ := info_parts infoSI
  obtain ⟨iI, hiI, hzI0, hzI1, hzI2⟩ := info_parts infoIntP
  have ZM := hid z0
  go_wp2_with (at_make; refine wpList_make_full _ rfl _ _ 23 rfl w.heap.size 22 iS (.slice none 0 0) 1 Try.underlying23 hiS hzS0 hzS1 .i64 .i64 _ _ (s.L.n + 1) rfl rfl (by simp) (by simp) (by rw [hzS2]; omega) (by unfold maxLen; omega) HB3.out.size ?_; intro w4 hown4 hg4; have hb4 : Below w3.heap.size w3 w4 := ⟨hg4.os, hg4.tape, hg4.output, hg4.size, fun k hk => hg4.block k hk (by simp)⟩; have z1 := cell_al (Below.keeps hb4 _ _ ZM.out) (.cells #[.slice (some ⟨w3.heap.size, 0, none⟩) (s.L.n + 1) (s.L.n + 1)] 23))
  obtain ⟨hG2, _⟩ := own_full hown4
  have hGr : Row w4 w3.heap.size (List.replicate (s.L.n + 1) (Value.slice none 0 0)).toArray 22 := by
    have h : w4.heap[w3.heap.size]? = some (.cells (madeCells #[Value.slice none 0 0] ((s.L.n + 1) * 1)).toList.toArray 22 (0, 0)) := hG2
    rw [Nat.mul_one, toList_madeCells_one] at h
    exact h
  have HP0 : Hid (PoF w s x w.heap.size Zl w4.heap.size w3.heap.size (s.L.n + 1) 0 (fun _ => 0) [] (w4.alloc (.cells #[.slice (some ⟨w3.heap.size, 0, none⟩) (s.L.n + 1) (s.L.n + 1)] 23))) :=
    ⟨below_tr (below_tr HB3.out hb4) (below_al _ _), (HR3.out.below hb4).al _, (HRZ.out.below hb4).al _, row_nw _ _ _ rfl, MkOk.nil _ _, HB3.out.size, ⟨_, hGr.al _, by simp, fun a h1 h2 => by omega⟩, fun a h1 h2 => by omega, fun a b h1 h2 h3 => by omega⟩
  clear hown4 hg4 hG2 hGr z0 z1 ZM hb4 HR3 HRZ HB3
  generalize w4.alloc (.cells #[.slice (some ⟨w3.heap.size, 0, none⟩) (s.L.n + 1) (s.L.n + 1)] 23) = w5 at *
  generalize w4.heap.size = Bo at *
  generalize w3.heap.size = O at *
  obtain ⟨Bs, hBs⟩ : ∃ Bs, Bs = w.heap.size := ⟨_, rfl⟩
  rw [← hBs]
  have HP1 : Hid (PoF w s x Bs Zl Bo O (s.L.n + 1) 0 (fun _ => 0) [] w5) := by rw [hBs]; exact HP0.out
  clear HP0
  have HBS := hid hBs
  clear hBs
  refine wp_loop_ghost (FpoJ w s x Bs Zl Bo O) (s.L.n + 1) ⟨[], fun _ => 0, _, _, _, _, _, _, _, _, _, _, _, _, _, _, _, _, _, _, _, _, _, _, _, _, _, _, _, _, _, _, _, _, _, _, _, _, _, _, _, _, _, _, _, _, _, _, _, _, _, _, _, _, _, _, _, _, _, _, _, _, _, _, _, _, _, _, _, _, _, _, _, _, _, _, _, _, _, _, _, _, _, _, rfl, by simp, Nat.le_refl _, HP1.out⟩ ?_
  rintro k a wr ⟨Ds, rs, z, u0, u6, u7, u8, u9, u10, u11, u12, u13, u14, u15, u16, u17, u18, u19, u20, u21, u22, u23, u24, u25, u26, u27, u28, u29, u30, u31, u32, u33, u34, u35, u36, u37, u38, u39, u40, u41, u42, u43, u44, u45, u46, u47, u48, u49, u50, u51, u52, u53, u54, u55, u56, u57, u58, u59, u60, u61, u62, u63, u64, u65, u66, u67, u68, u69, u70, u71, u72, u73, u74, u75, u76, u77, u78, u79, u80, u81, u82, u83, u84, u85, rfl, hz, hk, hP⟩
  have HP := hid hP
  clear HP1 hP
  unfold fpoA
  have cBo := HP.out.bo.cell 0 (x := .slice (some ⟨O, 0, none⟩) (s.L.n + 1 : Nat) (s.L.n + 1 : Nat)) rfl
  generalize hds : mksD Ds = ds
  by_cases hk0 : k = 0
  · have hz0 : ¬ (0 : Int) ≤ z := by omega
    have HD : Hid (RdM wr (.slice (some ⟨O, 0, none⟩) (s.L.n + 1 : Nat) (s.L.n + 1 : Nat)) (fpotM s) ∧ Below w.heap.size w wr) := ⟨(HP.out.full 0 hk0).rd nL nR, HP.out.bel⟩
    have HM := hid HP.out.mks
    clear HP hk0 hk hz
    go_wp2_with fail
    subst hds
    refine leaveMks rfl (B := w.heap.size) (fun W => RdM W (.slice (some ⟨O, 0, none⟩) (s.L.n + 1 : Nat) (s.L.n + 1 : Nat)) (fpotM s) ∧ Below w.heap.size w W) (fun W D h hD hat => ⟨h.1.monoC fun p v hv => ?_, h.2.grown (grownBy_putObj' _ D _) h.2.size (fun r e => by cases e; exact hD)⟩) (fun W h => ⟨_, rfl, h.1, h.2⟩) Ds _ HM.out HD.out
    exact (KpY.put (Z := D + p.block + 1) (m := D) W D _ _ (Nat.le_refl _) hat rfl rfl).cl p v (by omega) hv
  · obtain ⟨m, rfl⟩ : ∃ m, k = m + 1 := ⟨k - 1, by omega⟩
    obtain rfl : z = (m : Int) := by omega
    clear hz hk0
    have hm0 : (0 : Int) ≤ (m : Int) := by omega
    have hmN : (m : Int) < ((s.L.n + 1 : Nat) : Int) := by omega
    have hml : m ≤ s.L.n := by omega
    have z1 := HP.out.zl.cell 1 (x := .int .i64 s.R.n) rfl
    have hw2 : IntKind.i64.wrap ((s.R.n : Int) + 1) = ((s.R.n + 1 : Nat) : Int) := by rw [show (s.R.n : Int) + 1 = ((s.R.n + 1 : Nat) : Int) by omega]; exact IntWalk.i64_in _ (by omega)
    go_upto_region 6 with fail
    go_cut [] from 23 to 30 (fun wx => ∃ rs : Nat → Nat, Hid (PoF w s x Bs Zl Bo O m (s.R.n + 1) rs Ds wx))
    case first => as_aux_lemma =>
      obtain ⟨w9, hrun, ho9, hg9⟩ := run_make_full (P := Try.prog) wr.drew w.heap.size 22 3 iI (.int .i64 0) 1 Try.underlying22 hiI hzI0 hzI1 .i64 .i64 (s.R.n + 1) (by rw [hzI2]; omega) (by unfold maxLen; omega) HP.out.drew.bel.size
      have hcast : ((s.R.n + 1 : Nat) : Int) = (s.R.n : Int) + 1 := by omega
      rw [hcast] at hrun
      have HN9 := hid (PoF.newRow HP.out.drew hml ho9 hg9)
      obtain ⟨y9, q9⟩ := HN9.out.1
      have f9 := HN9.out.2.1
      have b9 := HN9.out.2.2.1
      have HP9 := hid HN9.out.2.2.2
      clear HN9 ho9 hg9 hcast
      go_region
      all_goals (go_wp2_with fail; go_meet)
      all_goals exact ⟨_, HP9.out⟩
    case rest =>
      obtain ⟨rs2, HP2⟩ := hcut
      clear HP cBo z1 hw2
      have z1 := HP2.out.zl.cell 1 (x := .int .i64 s.R.n) rfl
      go_wp2_with fail
      clear z1
      refine wp_loop_ghost (FpiJ w s x Bs Zl Bo O m) (s.R.n + 1) ⟨Ds, rs2, _, _, _, _, _, _, _, _, _, _, _, _, _, _, _, _, _, _, _, _, _, _, _, _, _, _, _, _, _, _, _, _, _, _, _, _, _, _, _, _, _, _, _, _, _, _, _, _, _, _, _, _, _, _, _, _, _, _, _, _, _, _, _, _, _, _, _, _, _, _, _, _, _, _, _, _, _, _, _, _, _, by rw [hds]; rfl, by simp, Nat.le_refl _, HP2.out⟩ ?_
      subst hds
      clear HP2
      rintro k a wr ⟨Ds2, rs3, z, u0, u7, u8, u9, u10, u11, u12, u13, u14, u15, u16, u17, u18, u19, u20, u21, u22, u23, u24, u25, u26, u27, u28, u29, u30, u31, u32, u33, u34, u35, u36, u37, u38, u39, u40, u41, u42, u43, u44, u45, u46, u47, u48, u49, u50, u51, u52, u53, u54, u55, u56, u57, u58, u59, u60, u61, u62, u63, u64, u65, u66, u67, u68, u69, u70, u71, u72, u73, u74, u75, u76, u77, u78, u79, u80, u81, u82, u83, u84, u85, rfl, hz, hkR, hP⟩
      have HP := hid hP
      clear hP
      unfold fpiA
      have cBo := HP.out.bo.cell 0 (x := .slice (some ⟨O, 0, none⟩) (s.L.n + 1 : Nat) (s.L.n + 1 : Nat)) rfl
      generalize hds : mksD Ds2 = ds
      by_cases hk0 : k = 0
      · have hz0 : ¬ (0 : Int) ≤ z := by omega
        have HP0 : Hid (PoF w s x Bs Zl Bo O m 0 rs3 Ds2 wr) := by have h := HP.out; rw [hk0] at h; exact h
        clear HP hk0 hkR hz cBo
        go_wp2_with fail
        exact ⟨m, by omega, Ds2, rs3, _, _, _, _, _, _, _, _, _, _, _, _, _, _, _, _, _, _, _, _, _, _, _, _, _, _, _, _, _, _, _, _, _, _, _, _, _, _, _, _, _, _, _, _, _, _, _, _, _, _, _, _, _, _, _, _, _, _, _, _, _, _, _, _, _, _, _, _, _, _, _, _, _, _, _, _, _, _, _, _, _, _, by rw [hds]; rfl, rfl, by omega, HP0.out⟩
      · obtain ⟨c, rfl⟩ : ∃ c, k = c + 1 := ⟨k - 1, by omega⟩
        obtain rfl : z = (c : Int) := by omega
        clear hz hk0
        have hc0 : (0 : Int) ≤ (c : Int) := by omega
        have hcN : (c : Int) < ((s.R.n + 1 : Nat) : Int) := by omega
        have hcl : c ≤ s.R.n := by omega
        have z0 := HP.out.zl.cell 0 (x := .int .i64 s.L.n) rfl
        have z1 := HP.out.zl.cell 1 (x := .int .i64 s.R.n) rfl
        go_upto_region 10 with fail
        go_cut [45] from 36 to 46 (fun v wx => v = .bool (decide ((m, c) = s.e)) ∧ wx = wr)
        case first => as_aux_lemma =>
          by_cases e1 : m = s.L.n
          · have i1 : ((m : Int) == (s.L.n : Int)) = true := by rw [e1]; simp
            by_cases e2 : c = s.R.n
            · have i2 : ((c : Int) == (s.R.n : Int)) = true := by rw [e2]; simp
              have HV : Hid (decide ((m, c) = s.e) = true) := decide_eq_true (Prod.ext e1 e2)
              clear e1 e2
              go_wp2_with fail
              go_meet
              exact ⟨by rw [HV.out], rfl⟩
            · have i2 : ((c : Int) == (s.R.n : Int)) = false := beq_eq_false_iff_ne.2 (by omega)
              have HV : Hid (decide ((m, c) = s.e) = false) := decide_eq_false fun h => e2 (congrArg Prod.snd h)
              clear e1 e2
              go_wp2_with fail
              go_meet
              exact ⟨by rw [HV.out], rfl⟩
          · have i1 : ((m : Int) == (s.L.n : Int)) = false := beq_eq_false_iff_ne.2 (by omega)
            have HV : Hid (decide ((m, c) = s.e) = false) := decide_eq_false fun h => e1 (congrArg Prod.fst h)
            clear e1
            go_wp2_with fail
            go_meet
            exact ⟨by rw [HV.out], rfl⟩
        case rest =>
          obtain ⟨rfl, rfl⟩ := hcut
          clear z0 z1
          by_cases he : (m, c) = s.e
          · have i1 : decide ((m, c) = s.e) = true := decide_eq_true he
            have HP2 : Hid (PoF w s x Bs Zl Bo O m c rs3 Ds2 wc) := by
              have h := HP.out
              have e1 : m = s.L.n := congrArg Prod.fst he
              have e2 : c = s.R.n := congrArg Prod.snd he
              rw [e1, e2] at h ⊢
              exact h.last
            rw [i1]
            clear he i1 HP cBo
            go_wp2_with fail
            exact ⟨c, by omega, Ds2, rs3, _, _, _, _, _, _, _, _, _, _, _, _, _, _, _, _, _, _, _, _, _, _, _, _, _, _, _, _, _, _, _, _, _, _, _, _, _, _, _, _, _, _, _, _, _, _, _, _, _, _, _, _, _, _, _, _, _, _, _, _, _, _, _, _, _, _, _, _, _, _, _, _, _, _, _, _, _, _, _, _, _, by rw [hds]; rfl, rfl, by omega, HP2.out⟩
          · have i1 : decide ((m, c) = s.e) = false := decide_eq_false he
            rw [i1]
            have HE := hid he
            clear he i1
            clear cBo
            have HBS8 := hid (HP.out.bs.al (.cells #[.int .i64 (-1)] 3))
            have HRZ7 := hid (row_nw wc #[.int .i64 (-1)] 3 rfl)
            have hb7 := below_al wc (.cells #[.int .i64 (-1)] 3)
            have HB7 := hid hb7
            clear hb7
            go_upto_region 12 with fail
            generalize wc.alloc (.cells #[.int .i64 (-1)] 3) = w7 at *
            go_wp2_with (first | (refine wpList_load_rowF rfl 46 _ rfl _ rfl 46 _ _ HBS8.out Try.underlying46 rfl (by kernel_rfl) ?_) | fail)
            obtain ⟨Z, hZ⟩ : ∃ Z, Z = wc.heap.size := ⟨_, rfl⟩
            rw [← hZ] at HRZ7 ⊢
            have HZW : Hid (wc.heap.size ≤ Z ∧ w.heap.size ≤ Z) := ⟨by omega, by have := HP.out.bel.size; omega⟩
            have HZ7 : Hid (Z < w7.heap.size) := HRZ7.out.lt
            clear hZ
            (with_reducible refine (fpages_any s x (m, c) _).mono ?_)
            rintro e w8 ⟨rfl, rfl⟩
            have HI8 : Hid (FpoI w wc Z (-1) ((w7.alloc (.cells (fsC s x) 46)).alloc (.cells #[.int .i64 m, .int .i64 c] 48))) := ⟨((OldW.of HB7.out).tr (below_al _ _)).tr (below_al _ _), below_tr (below_tr (below_tr HP.out.bel HB7.out) (below_al _ _)) (below_al _ _), (HRZ7.out.al _).al _⟩
            have HG8 : Hid (FgO w s x (m, c) w7.heap.size (w7.heap.size + 1) ((w7.alloc (.cells (fsC s x) 46)).alloc (.cells #[.int .i64 m, .int .i64 c] 48))) :=
              ⟨(row_nw w7 (fsC s x) 46 rfl).al _, row_nw _ _ _ (by simp), fun p v hv => Below.keeps HI8.out.2.1 _ _ hv⟩
            have HZ8 : Hid (w7.heap.size + 2 ≤ ((w7.alloc (.cells (fsC s x) 46)).alloc (.cells #[.int .i64 m, .int .i64 c] 48)).heap.size) := by show _ ≤ _; simp
            clear HBS8 HB7 HRZ7
            go_wp2_with fail
            generalize (w7.alloc (.cells (fsC s x) 46)).alloc (.cells #[.int .i64 m, .int .i64 c] 48) = W3 at *
            generalize w7.heap.size = z1 at *
            have HW3 : Hid (Z < W3.heap.size) := HI8.out.2.2.lt
            refine (wpIn_wide (n := 9)).1 ?_
            refine wpIn_rangeFunc_ownQ rfl (by omega) (gf := 31) (lb := #[.pointer (some ⟨z1, 0, none⟩), .pointer (some ⟨z1 + 1, 0, none⟩)]) rfl trivial (enters_of Try.func31 (by kernel_rfl) rfl)
              (encs := fun x : {x : (Nat × Nat) × Int // x ∈ fpg s (m, c)} => #[.agg #[.int .i64 (x.1.1.1 : Int), .int .i64 (x.1.1.2 : Int)], .int .i64 x.1.2]) (Kp := KpY Z)
              (S := fun xs => xs.map (·.1) = fpg s (m, c)) (Sp := fun _ => True) (N := (fpg s (m, c)).length) (w0 := W3)
              ?hseq (fun h k => h.tr k) KpY.put (Below.refl _ _) (fun _ => rfl)
              (fun pre W => FpoI w wc Z ((pre.map (·.1)).foldl (bestI (fpot s)) (-1)) W) (fun _ _ _ => False)
              ?own (fun _ _ _ _ _ h _ _ => h) HI8.out ?a1 (fun x => #[.int .i64 (x.1.1.1 : Int), .int .i64 (x.1.1.2 : Int)]) 48 ?assign ?body ?done ?stop
            case own =>
              intro st A C row hs hg hr
              have h1 := HI8.out.1.1
              have h2 := HI8.out.2.1.size
              exact hs.grown h1 h2 hg hr
            case stop =>
              rintro D cc pre W' _ _ h _
              exact h.elim
            case assign => as_aux_lemma =>
              intro yl pre x W' K hinv hK
              have hal := below_al W' (.cells #[.int .i64 (x.1.1.1 : Int), .int .i64 (x.1.1.2 : Int)] 48)
              have hrw := row_nw W' #[.int .i64 (x.1.1.1 : Int), .int .i64 (x.1.1.2 : Int)] 48 rfl
              have HK := hid (fun q (hqq : q = W'.heap.size) => hK q _ (keepsFrom_below hal) (KpY.of hal) (FpoI.below hinv hal) (hqq ▸ hrw))
              clear hK hrw hal
              gi_wp2
              obtain ⟨q, hq⟩ : ∃ q, q = W'.heap.size := ⟨_, rfl⟩
              rw [← hq]
              exact HK.out q hq
            case hseq => as_aux_lemma =>
              intro yl J Jx W' hW' hJ _ hY h0
              have hz := HZ8.out
              have hz7 := HZ7.out
              have hzs := HW3.out
              refine (fpages1_in (9 - 1) (by omega) s HOK.out HA2.out x (m, c) hml hcl z1 (z1 + 1) _ (Nat.le_refl _) (fun W => FgO w s x (m, c) z1 (z1 + 1) W) (fun A h => ⟨h.bs, h.bf, HRS.out.oldV h.old⟩) (fun A C h hb => h.below hb) (KpY Z)
                (fun A C hk h => h.kp hk (by omega) (by omega) HZW.out.2) yl (fun pre W => ∃ pre' : List {x : (Nat × Nat) × Int // x ∈ fpg s (m, c)}, pre'.map (·.1) = pre ∧ J pre' W) (fun pre W => ∃ pre' : List {x : (Nat × Nat) × Int // x ∈ fpg s (m, c)}, pre'.map (·.1) = pre ∧ Jx pre' W)
                (fun pre x W hx ⟨pre', h1, h2⟩ hlen => (hY pre' ⟨x, hx⟩ W h2 (by rw [← h1, List.length_map] at hlen; exact hlen)).mono ?_) W' (fun A C k cs t hk hkp hr => hkp.rw k cs t (by have := hW'.size; omega) hr) (fun st A C row ⟨pre', h1, h2⟩ hg hr => ⟨pre', h1, hJ _ _ _ row h2 hg hr⟩) (HG8.out.below hW') ⟨[], rfl, h0⟩).mono ?_
              · rintro e A (⟨h3, h4, h5⟩ | ⟨h3, h4⟩)
                · exact .inl ⟨h3, ⟨_, by rw [List.map_append, h1]; rfl, h4⟩, h5⟩
                · exact .inr ⟨h3, ⟨_, by rw [List.map_append, h1]; rfl, h4⟩⟩
              · rintro e W4 ⟨h1, h2⟩
                refine ⟨h1, ?_⟩
                rcases h2 with ⟨pre', h3, h4⟩ | ⟨pre, _, pre', h3, h4⟩
                · exact .inl ⟨pre', h3, h4⟩
                · exact .inr ⟨pre', trivial, h4⟩
            case body => as_aux_lemma =>
              intro yl pre x q W' hI hrow _
              obtain ⟨⟨⟨t1, t2⟩, n⟩, hx⟩ := x
              dsimp only at hrow ⊢
              have hm := fpg_mem (s := s) (f := (m, c)) hml hcl hx
              have hne : m < t1 ∨ c < t2 := by
                have h1 := hm.l1
                have h2 := hm.r1
                dsimp only at h1 h2
                by_cases h3 : m < t1
                · exact .inl h3
                · refine .inr (Classical.byContradiction fun h4 => hm.ne (Prod.ext ?_ ?_))
                  · show t1 = m; omega
                  · show t2 = c; omega
              have hl1 : m ≤ t1 := hm.l1
              have hl2 : t1 ≤ s.L.n := hm.l2
              have hr2 : t2 ≤ s.R.n := hm.r2
              have hco := hm.co
              have hb1 := pgF_bd HOK.out.l m t1
              have hb2 := pgF_bd HOK.out.r c t2
              dsimp only at hco
              have hn0 : 0 ≤ n := by omega
              have hn1 : n ≤ 40000 := by omega
              have hpb := fpot_bd HOK.out (totF s) (t1, t2) hl2 hr2 posF_le
              have htot : totF s ≤ 65536 := by
                have h := HT.out
                have h2 : totF s = s.L.n * (s.R.n + 1) + s.R.n := rfl
                rw [Nat.add_mul, Nat.one_mul] at h
                omega
              have hPW := HP.out.oldW hI.1 hI.2.1
              have cB := hPW.bo.cell 0 (x := .slice (some ⟨O, 0, none⟩) (s.L.n + 1 : Nat) (s.L.n + 1 : Nat)) rfl
              obtain ⟨cO, cR⟩ := hPW.at (t := (t1, t2)) hl1 hl2 hr2 hne
              have q0 := hrow.cell 0 (x := .int .i64 (t1 : Int)) rfl
              have q1 := hrow.cell 1 (x := .int .i64 (t2 : Int)) rfl
              have hHZW := HZW.out
              refine wpIn_mono (Q := bodyA2 fun W2 => KeepsFrom W3.heap.size W' W2 ∧ KpY Z W' W2 ∧ FpoI w wc Z (bestI (fpot s) ((pre.map (·.1)).foldl (bestI (fpot s)) (-1)) ((t1, t2), n)) W2) ?_ (fun e a' w' h => by
                cases e <;> first | exact h.elim | (refine ⟨h.1, h.2.1, ?_⟩; dsimp only; rw [List.map_append, List.foldl_append]; exact h.2.2))
              generalize (pre.map (·.1)).foldl (bestI (fpot s)) (-1) = b at *
              have cZ := hI.2.2.cell 0 (x := .int .i64 b) rfl
              have fZ := hI.2.2.frozen 0
              have HST : Hid (∀ y : Int, KeepsFrom W3.heap.size W' (W'.setCell ⟨Z, 0, none⟩ (.int .i64 y)).drew ∧ KpY Z W' (W'.setCell ⟨Z, 0, none⟩ (.int .i64 y)).drew ∧ FpoI w wc Z y (W'.setCell ⟨Z, 0, none⟩ (.int .i64 y)).drew) := fun y =>
                ⟨keepsFrom_tr2 (keeps_setZ hI.2.2 _) (keepsFrom_below (Below.refl _ _).drew), (KpY.set Z W' _).tr (KpY.of (Below.refl _ _).drew), (hI.set hHZW.1 hHZW.2 y).below (Below.refl _ _).drew⟩
              have HQ : Hid (KeepsFrom W3.heap.size W' W'.drew ∧ KpY Z W' W'.drew ∧ FpoI w wc Z b W'.drew) := ⟨keepsFrom_below (Below.refl _ _).drew, KpY.of (Below.refl _ _).drew, hI.below (Below.refl _ _).drew⟩
              clear hm hne hco hb1 hb2 hPW hI hrow hx
              have hv : fpot s (t1, t2) = fpot s (t1, t2) := rfl
              obtain ⟨r, hr⟩ : ∃ r, r = fpot s (t1, t2) := ⟨_, rfl⟩
              rw [← hr] at cR hpb
              have HRV := hid hr
              clear hr hv
              have hr0 : -1 ≤ r := hpb.1
              have hr1 : r ≤ 65536 * 40000 := by have := hpb.2; omega
              have u1 : (t1 : Int) < ((s.L.n + 1 : Nat) : Int) := by omega
              have u2 : (0 : Int) ≤ (t1 : Int) := by omega
              have u3 : (t2 : Int) < ((s.R.n + 1 : Nat) : Int) := by omega
              have u4 : (0 : Int) ≤ (t2 : Int) := by omega
              clear hpb htot hHZW
              gi_wp2_with fail
              gi_cut [10] from 53 (fun v wx => v = .int .i64 r ∧ W'.drew = wx)
              case first => as_aux_lemma =>
                gi_region
                all_goals gi_wp2_with fail
                all_goals gi_meet
                all_goals exact ⟨rfl, rfl⟩
              case rest =>
                obtain ⟨rfl, rfl⟩ := hcut
                clear cB cO cR q0 q1 u1 u2 u3 u4
                by_cases k0 : 0 ≤ r
                · by_cases k1 : b < 0
                  · as_aux_lemma =>
                    have HV : Hid (bestI (fpot s) b ((t1, t2), n) = n + r) := by show _ = _; unfold bestI; rw [← HRV.out, if_pos ⟨k0, .inl k1⟩]
                    gi_wp2_with fail
                    (rw [HV.out]; exact HST.out (n + r))
                  · by_cases k2 : n + r < b
                    · as_aux_lemma =>
                      have HV : Hid (bestI (fpot s) b ((t1, t2), n) = n + r) := by show _ = _; unfold bestI; rw [← HRV.out, if_pos ⟨k0, .inr k2⟩]
                      gi_wp2_with fail
                      (rw [HV.out]; exact HST.out (n + r))
                    · as_aux_lemma =>
                      have HV : Hid (bestI (fpot s) b ((t1, t2), n) = b) := by show _ = _; unfold bestI; rw [← HRV.out, if_neg (fun h => h.2.elim k1 k2)]
                      gi_wp2_with fail
                      (rw [HV.out]; exact HQ.out)
                · as_aux_lemma =>
                  have HV : Hid (bestI (fpot s) b ((t1, t2), n) = b) := by show _ = _; unfold bestI; rw [← HRV.out, if_neg (fun h => k0 h.1)]
                  gi_wp2_with fail
                  (rw [HV.out]; exact HQ.out)
            case done => as_aux_lemma =>
              rintro D ys W' hD hys hI hK
              rw [hys, ← fpot_at s hml hcl HE.out] at hI
              clear hys
              have hW3 := HI8.out.1.1
              have hW4 := HI8.out.2.1.size
              have hPW := ((HP.out.oldW hI.1 hI.2.1).mark (D := D) (by omega) (fun hm => by have := HP.out.mks.lt hm; omega) hK)
              have HN := hid (hPW.put hml hcl).drew
              have cB := hPW.bo.cell 0 (x := .slice (some ⟨O, 0, none⟩) (s.L.n + 1 : Nat) (s.L.n + 1 : Nat)) rfl
              obtain ⟨cO, cR⟩ := hPW.own hml (by omega)
              obtain ⟨y, cy, fy⟩ := cR c hcl
              have cZ := hI.2.2.cell 0 (x := .int .i64 (fpot s (m, c))) rfl
              clear hPW hI hK cR
              generalize fpot s (m, c) = best at *
              subst hds
              go_upto_region 18 with fail
              go_region
              all_goals go_wp2_with fail
              all_goals exact ⟨c, by omega, D :: Ds2, rs3, _, _, _, _, _, _, _, _, _, _, _, _, _, _, _, _, _, _, _, _, _, _, _, _, _, _, _, _, _, _, _, _, _, _, _, _, _, _, _, _, _, _, _, _, _, _, _, _, _, _, _, _, _, _, _, _, _, _, _, _, _, _, _, _, _, _, _, _, _, _, _, _, _, _, _, _, _, _, _, _, _, rfl, rfl, by omega, HN.out⟩
end Go.Proofs.Ytlneimjenjpbnaa
