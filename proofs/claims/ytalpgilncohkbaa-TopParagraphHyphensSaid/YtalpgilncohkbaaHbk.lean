/-
  paragraph.Break.
-/
import Derived.Test.YtalpgilncohkbaaHpo
import Derived.BigQuiet
namespace Go.Proofs.Ytalpgilncohkbaa
open Go.RowKit
attribute [local go_sem] Oper.semAt_some

theorem leaveMks3 {F : Fence} {n : Nat} {P : Program} {fn : Func} {tmps : Array Value} {R : Ending → World → Prop} {t u v : Tmp} (hres : fn.results = #[.tmp t, .tmp u, .tmp v]) {B : Nat} (I : World → Prop)
    (hI : ∀ W D, I W → B ≤ D → W.heap[D]? = some (.deferred (some [])) → I (W.putObj D (.deferred none))) (hR : ∀ W, I W → R (.returned (.tuple #[tmps.getD t undef, tmps.getD u undef, tmps.getD v undef])) W) :
    ∀ (Ds : List Nat) (W : World), MkOk B Ds W → I W → LeavesInM F n P fn tmps R (mksD Ds) .returning W
  | [], W, _, h => ⟨_, results_tmp3 hres _ _ _, hR W h⟩
  | D :: Ds, W, hm, h => by
    obtain ⟨hB, hat⟩ := hm.at_ D (List.mem_cons_self ..)
    have hnd := List.nodup_cons.1 hm.nd
    refine ⟨by simp, .inl ⟨D, _, rfl, run_takeDeferred hat, leaveMks3 hres I hI hR Ds _ ⟨hnd.2, fun E hE => ?_⟩ (hI W D h hB hat)⟩⟩
    have hne : E ≠ D := fun e => hnd.1 (e ▸ hE)
    obtain ⟨h1, h2⟩ := hm.at_ E (List.mem_cons_of_mem _ hE)
    exact ⟨h1, (World.putObj_heap_other hne).trans h2⟩
/-- All that lay in w lies in W as it was. -/
def OldW (w W : World) : Prop := w.heap.size ≤ W.heap.size ∧ ∀ k, k < w.heap.size → W.heap[k]? = w.heap[k]?
theorem OldW.of {w W : World} (h : Below w.heap.size w W) : OldW w W := ⟨h.size, fun k hk => h.block k hk⟩
theorem OldW.tr {w A B : World} (h : OldW w A) (k : Below A.heap.size A B) : OldW w B := ⟨Nat.le_trans h.1 k.size, fun i hi => (k.block i (Nat.lt_of_lt_of_le hi h.1)).trans (h.2 i hi)⟩
theorem OldW.cell {w W : World} (h : OldW w W) {p : Addr} {x : Value} (hx : w.cell? p = some x) : W.cell? p = some x :=
  (World.cell?_of_block (h.2 p.block (World.block_lt_of_cell? w p hx))).trans hx
/-- Between two rounds: Wb is the world ahead of the boxes of 'out' and 'from'. -/
structure PbI (w Wb : World) (B7 B8 f : Nat) (L : List Nat) (v : Value) (W : World) : Prop where
  bel : Below w.heap.size w W
  old : OldW Wb W
  b7 : Row W B7 #[v] 38
  b8 : Row W B8 #[.int .i64 f] 3
  own : W.ownsRow (Wb.heap.size + 1) 3 1 v L.length (L.map fun x => Value.int .i64 ((x : Nat) : Int))
  ne : v.ownBlock ≠ some B8
  l7 : Wb.heap.size ≤ B7
  l8 : Wb.heap.size ≤ B8
theorem PbI.below {w Wb : World} {B7 B8 f : Nat} {L : List Nat} {v : Value} {W W' : World} (h : PbI w Wb B7 B8 f L v W) (hb : Below W.heap.size W W') : PbI w Wb B7 B8 f L v W' :=
  ⟨below_tr h.bel hb, h.old.tr hb, h.b7.below hb, h.b8.below hb, own_belowX h.own hb, h.ne, h.l7, h.l8⟩
/-- Behind 'out, from = append(out, to), to'. -/
theorem PbI.push {w Wb : World} {B7 B8 f g cap : Nat} {L : List Nat} {v : Value} {W W' : World} (h : PbI w Wb B7 B8 f L v W) (x y : Nat) (hw : w.heap.size ≤ Wb.heap.size)
    (ho : W'.ownsRow (Wb.heap.size + 1) 3 1 (.slice (some ⟨g, 0, none⟩) (L.length + 1) cap) (L.length + 1) (L.map (fun x => Value.int .i64 ((x : Nat) : Int)) ++ [Value.int .i64 (x : Int)])) (hb : Below (Wb.heap.size + 1) W W') (hg : W.grownBy W' v.ownBlock) (hat : v.ownBlock = some g ∨ W.heap.size < g) :
    PbI w Wb B7 B8 y (L ++ [x]) (.slice (some ⟨g, 0, none⟩) (L.length + 1) cap) ((W'.setCell ⟨B7, 0, none⟩ (.slice (some ⟨g, 0, none⟩) (L.length + 1) cap)).setCell ⟨B8, 0, none⟩ (.int .i64 (y : Int))) ∧
      (W'.cell? ⟨B7, 0, none⟩ = some v ∧ W'.frozen? ⟨B7, 0, none⟩ = false ∧ W'.cell? ⟨B8, 0, none⟩ = some (.int .i64 f) ∧ W'.frozen? ⟨B8, 0, none⟩ = false) ∧ B8 ≠ B7 := by
  have n7 : v.ownBlock ≠ some B7 := row_own_neX h.b7 h.own (by decide)
  have h7 : Row W' B7 #[v] 38 := (hg.block _ h.b7.lt (fun e => n7 e.symm)).trans h.b7
  have h8 : Row W' B8 #[.int .i64 f] 3 := (hg.block _ h.b8.lt (fun e => h.ne e.symm)).trans h.b8
  have h78 : B8 ≠ B7 := fun e => by
    have h3 : W'.heap[B7]? = _ := h7
    have h4 : W'.heap[B8]? = _ := h8
    rw [e, h3] at h4
    simp only [Option.some.injEq, Obj.cells.injEq] at h4
    exact absurd h4.2.1 (by decide)
  have hg8 : g ≠ B8 := by
    rcases hat with e | e
    · intro e2; exact h.ne (by rw [e, e2])
    · have := h.b8.lt; omega
  have hg7 : g ≠ B7 := by
    rcases hat with e | e
    · intro e2; exact n7 (by rw [e, e2])
    · have := h.b7.lt; omega
  have hbo : OldW Wb W' := ⟨Nat.le_trans h.old.1 hg.size, fun k hk => (hb.block k (by omega)).trans (h.old.2 k hk)⟩
  have hl7 := h.l7
  have hl8 := h.l8
  refine ⟨⟨(((h.bel.trans (hb.mono (by omega))).setCell (by simp; omega) _).setCell (by simp; omega) _), ⟨by simp [World.setCell]; exact hbo.1, fun k hk => ?_⟩, (h7.set 0 _).other _ _ (by simpa using h78.symm), ?_, ?_, by simp only [Value.ownBlock]; intro e; cases e; exact hg8 rfl, h.l7, h.l8⟩, ⟨h7.cell 0 rfl, h7.frozen 0, h8.cell 0 rfl, h8.frozen 0⟩, h78⟩
  · rw [Below.heap_setCell _ _ _ _ (by simp; omega), Below.heap_setCell _ _ _ _ (by simp; omega)]
    exact hbo.2 k hk
  · exact (h8.other (p := ⟨B7, 0, none⟩) _ (by simpa using h78)).set 0 _
  · have h9 := own_setX (own_setX ho ⟨B7, 0, none⟩ (.slice (some ⟨g, 0, none⟩) (L.length + 1) cap) (by simp only [Value.ownBlock]; intro e; cases e; exact hg7 rfl)) ⟨B8, 0, none⟩ (.int .i64 (y : Int)) (by simp only [Value.ownBlock]; intro e; cases e; exact hg8 rfl)
    rw [List.length_append, List.map_append]
    exact h9
theorem Row.oldX {W W' : World} {B : Nat} {cs : Array Value} {t : TypeId} (h : Row W B cs t) (hb : OldW W W') : Row W' B cs t := (hb.2 _ h.lt).trans h
theorem putObj_cell (W : World) (D : Nat) (hat : W.heap[D]? = some (.deferred (some []))) {p : Addr} {v : Value} (hv : W.cell? p = some v) : (W.putObj D (.deferred none)).cell? p = some v := by
  have hne : p.block ≠ D := fun e => by
    unfold World.cell? at hv
    rw [e, hat] at hv
    cases hv
  exact (World.cell?_of_block (World.putObj_heap_other hne)).trans hv
theorem PbI.grown {w Wb : World} {B7 B8 f n : Nat} {L : List Nat} {v : Value} {W W' : World} {row : Option Nat} (h : PbI w Wb B7 B8 f L v W) (hn : w.heap.size ≤ n) (hn2 : Wb.heap.size ≤ n) (hg : W.grownBy W' row) (hr : ∀ r, row = some r → n ≤ r ∧ ∃ o : Obj, W.heap[r]? = some o ∧ o.isCells = false) : PbI w Wb B7 B8 f L v W' := by
  have key : ∀ (k : Nat) (cs : Array Value) (t : TypeId), Row W k cs t → Row W' k cs t := fun k cs t hk => (hg.block k hk.lt (fun e => by
    obtain ⟨_, o, ho, hc⟩ := hr k e.symm
    have h3 : W.heap[k]? = _ := hk
    rw [ho] at h3; cases h3; cases hc)).trans hk
  refine ⟨h.bel.grown hg h.bel.size (fun k e => by have := (hr k e).1; omega), ⟨Nat.le_trans h.old.1 hg.size, fun k hk => (hg.block k (Nat.lt_of_lt_of_le hk h.old.1) (fun e => by have := (hr k e.symm).1; omega)).trans (h.old.2 k hk)⟩, key _ _ _ h.b7, key _ _ _ h.b8, h.own.kept hg ?_, h.ne, h.l7, h.l8⟩
  cases hv : v.ownBlock with
  | none => exact .inl rfl
  | some k =>
    right
    intro e
    obtain ⟨_, o, ho, hc⟩ := hr k e.symm
    obtain ⟨o2, ho2, hc2⟩ := own_cells h.own k hv
    rw [ho] at ho2; cases ho2; rw [hc] at hc2; cases hc2
/-- The variable of the next round. -/
theorem PbI.box {w Wb : World} {B7 B8 f : Nat} {L : List Nat} {v : Value} {W : World} (h : PbI w Wb B7 B8 f L v W) : PbI w Wb B7 W.heap.size f L v (W.alloc (.cells #[.int .i64 f] 3)) := by
  have hb := below_al W (.cells #[.int .i64 f] 3)
  refine ⟨below_tr h.bel hb, h.old.tr hb, h.b7.below hb, row_nw _ _ _ rfl, own_belowX h.own hb, fun e => ?_, h.l7, h.old.1⟩
  have := (own_lt h.own e).2
  omega
theorem MkOk.grownN {B n : Nat} {Ds : List Nat} {A C W3 : World} {row : Option Nat} (h : MkOk B Ds A) (h3 : MkOk B Ds W3) (hn : W3.heap.size ≤ n) (hg : A.grownBy C row) (hr : ∀ r, row = some r → n ≤ r) : MkOk B Ds C :=
  ⟨h.nd, fun D hD => ⟨(h.at_ D hD).1, (hg.block D (h.lt hD) (fun e => by have := hr D e.symm; have := h3.lt hD; omega)).trans (h.at_ D hD).2⟩⟩
theorem keeps_setC {A : World} {q : Addr} {x : Value} {n : Nat} (h : A.cell? q = some x) (v : Value) : KeepsFrom n A (A.setCell q v) := by
  have hs : (A.setCell q v).heap.size = A.heap.size := by simp [World.setCell]
  refine ⟨Nat.le_of_eq hs.symm, fun k o _ ho hc => (Below.heap_setCell _ _ _ _ ?_).trans ho⟩
  intro e
  unfold World.cell? at h
  rw [← e, ho] at h
  cases o <;> first | (cases hc; done) | (simp at h; done)
theorem keepsFrom_tr3 {n : Nat} {A B C : World} (h : KeepsFrom n A B) (k : KeepsFrom n B C) : KeepsFrom n A C := ⟨Nat.le_trans h.1 k.1, fun b o hb ho hc => k.2 b o hb (h.2 b o hb ho hc) hc⟩
def bodyA3 (A : Exit → World → Prop) : Exit → Act → World → Prop
  | e, _, W => A e W
theorem find_pre {α : Type} {q : α → Bool} : ∀ (pre : List α) (x : α) (r : List α), (∀ y ∈ pre, q y = false) → q x = true → (pre ++ [x] ++ r).find? q = some x
  | [], x, r, _, h => by simp [h]
  | y :: t, x, r, h0, h => by
    rw [List.cons_append, List.cons_append, List.find?_cons, h0 y (by simp)]
    exact find_pre t x r (fun z hz => h0 z (by simp [hz])) h
theorem MkOk.setN {B k j : Nat} {v : Value} {Ds : List Nat} {A W3 : World} (h : MkOk B Ds A) (h3 : MkOk B Ds W3) (hn : W3.heap.size ≤ k) : MkOk B Ds (A.setCell ⟨k, j, none⟩ v) :=
  ⟨h.nd, fun D hD => ⟨(h.at_ D hD).1, (Below.heap_setCell _ _ _ _ (by show D ≠ k; have := h3.lt hD; omega)).trans (h.at_ D hD).2⟩⟩
theorem PbI.setO {w Wb W3 : World} {B7 B8 f k j : Nat} {L : List Nat} {v x : Value} {W : World} (h : PbI w Wb B7 B8 f L v W) (h3 : PbI w Wb B7 B8 f L v W3) (hk : W3.heap.size ≤ k) : PbI w Wb B7 B8 f L v (W.setCell ⟨k, j, none⟩ x) := by
  have l7 := h3.b7.lt
  have l8 := h3.b8.lt
  have lo := h3.old.1
  have lw := h3.bel.size
  refine ⟨h.bel.setCell (by show _ ≤ k; omega) _, ⟨by simp [World.setCell]; exact h.old.1, fun i hi => (Below.heap_setCell _ _ _ _ (by show i ≠ k; omega)).trans (h.old.2 i hi)⟩, h.b7.other _ _ (by show B7 ≠ k; omega), h.b8.other _ _ (by show B8 ≠ k; omega), own_setX h.own _ _ (fun e => ?_), h.ne, h.l7, h.l8⟩
  have := (own_lt h3.own e).2
  simp only at this
  omega
/-- The frame of the loop. -/
def hbkA (a0 : Option Addr) (n c0 : Nat) (wd : Int) (B6 B7 B8 : Nat) (ds : List Deferred) (u2 u3 u4 u5 u6 u7 u11 u12 u13 u14 u15 u16 u17 u18 u19 u20 u21 u22 u23 u24 u25 u26 u27 u28 u29 u30 u31 u32 u33 u34 u35 u36 u37 u38 u39 u40 u41 u42 u43 u44 u45 u46 u47 u48 u49 u50 u51 u52 u53 u54 u55 u56 u57 u58 u59 u60 u61 u62 u63 u64 u65 u66 u67 u68 u69 u70 u71 u72 : Value) : Act :=
  { tmps := #[.slice a0 n c0, .int .i64 wd, u2, u3, u4, u5, u6, u7, .pointer (some ⟨B6, 0, none⟩), .pointer (some ⟨B7, 0, none⟩), .pointer (some ⟨B8, 0, none⟩), u11, u12, u13, u14, u15, u16, u17, u18, u19, u20, u21, u22, u23, u24, u25, u26, u27, u28, u29, u30, u31, u32, u33, u34, u35, u36, u37, u38, u39, u40, u41, u42, u43, u44, u45, u46, u47, u48, u49, u50, u51, u52, u53, u54, u55, u56, u57, u58, u59, u60, u61, u62, u63, u64, u65, u66, u67, u68, u69, u70, u71, u72], defers := ds }
def HbkJ (w Wb : World) (l : List It) (wd : Int) (a0 : Option Addr) (n c0 B6 B7 m : Nat) (a : Act) (W : World) : Prop :=
  ∃ (Ds : List Nat) (B8 f k : Nat) (L : List Nat) (v : Value) (u2 u3 u4 u5 u6 u7 u11 u12 u13 u14 u15 u16 u17 u18 u19 u20 u21 u22 u23 u24 u25 u26 u27 u28 u29 u30 u31 u32 u33 u34 u35 u36 u37 u38 u39 u40 u41 u42 u43 u44 u45 u46 u47 u48 u49 u50 u51 u52 u53 u54 u55 u56 u57 u58 u59 u60 u61 u62 u63 u64 u65 u66 u67 u68 u69 u70 u71 u72 : Value), a = hbkA a0 n c0 wd B6 B7 B8 (mksD Ds) u2 u3 u4 u5 u6 u7 u11 u12 u13 u14 u15 u16 u17 u18 u19 u20 u21 u22 u23 u24 u25 u26 u27 u28 u29 u30 u31 u32 u33 u34 u35 u36 u37 u38 u39 u40 u41 u42 u43 u44 u45 u46 u47 u48 u49 u50 u51 u52 u53 u54 u55 u56 u57 u58 u59 u60 u61 u62 u63 u64 u65 u66 u67 u68 u69 u70 u71 u72 ∧ f ≤ n + 1 ∧ m = n + 1 - f ∧ n + 1 ≤ f + k ∧ 0 ≤ potL l wd f ∧ L ++ brkG l wd k f = brkL l wd ∧ L.length ≤ f ∧ ((L = [] ∧ f = 0) ∨ ∃ L0 x, L = L0 ++ [x] ∧ f = x + 1) ∧ PbI w Wb B7 B8 f L v W ∧ MkOk w.heap.size Ds W

set_option maxRecDepth 100000 in
set_option maxHeartbeats 4000000 in
theorem hbk_no (v : Value) (l : List It) (wd : Int) (w : World) (hv : RdIt w v l) (hS : ∀ x ∈ l, ItS x) (hok : ckIts l = 0) (hw0 : 0 ≤ wd) (hw1 : wd ≤ 1073741824) (h0 : potL l wd 0 < 0) :
    Calls Try.prog 8 #[v, .int .i64 wd] w fun e w' => e = .returned (.tuple #[.slice none 0 0, .int .i64 0, .int .i64 23]) ∧ Below w.heap.size w w' := by
  have HV := hid hv
  have HP0 := hid h0
  have HC := hid (pcheck_any v l wd w hv hS hok ⟨hw0, hw1⟩)
  have HPO := hid (fun w' (h : RdIt w' v l) => hpo_any v l wd w' h hS hok hw0 hw1)
  obtain ⟨a0, c0, rfl, hlc, hcm, _⟩ := hv.open
  clear hv hS hok hw0 hw1 h0
  go_enter Try.func8, Try.ntmps8
  go_wp2_with fail
  (with_reducible refine HC.out.mono ?_)
  rintro e w2 ⟨rfl, hb2⟩
  have HB2 := hid hb2
  have HV2 := hid (HV.out.below hb2)
  clear hb2
  go_wp2_with fail
  (with_reducible refine (HPO.out w2 HV2.out).mono ?_)
  rintro e w4 ⟨vt, rfl, hrt, hb4⟩
  obtain ⟨av, ct, h1, h2, h3, h4⟩ := hrt
  have hl := tabL_len l wd (l.length + 1)
  have h5 : (tabL l wd (l.length + 1))[0]? = some (potL l wd 0) := by
    unfold potL
    rw [List.getD_eq_getElem?_getD, List.getElem?_eq_getElem (by omega)]; rfl
  obtain ⟨b, off, rfl, hc0⟩ := h4 0 _ h5
  have hc : w4.cell? ⟨b, off, none⟩ = some (.int .i64 (potL l wd 0)) := hc0
  rw [hl] at h1
  subst h1
  have HB4 := hid (below_tr HB2.out hb4)
  have qc := cell_al hc (.cells #[.slice (some ⟨b, off, none⟩) (l.length + 1) ct] 38)
  have q1 : (0 : Int) < ((l.length + 1 : Nat) : Int) := by omega
  have q2 : 0 < l.length + 1 := by omega
  have q3 : potL l wd 0 < 0 := HP0.out
  have HBF : Hid (Below w.heap.size w (w4.alloc (.cells #[.slice (some ⟨b, off, none⟩) (l.length + 1) ct] 38))) := below_tr HB4.out (below_al _ _)
  clear hb4 HB2 HPO h4 h5 hc0 hc hl h2 h3
  go_wp2_with fail
  exact bodyPost_ret (results_tmp3 rfl _ _ _) rfl ⟨rfl, HBF.out⟩
set_option maxRecDepth 100000 in
set_option maxHeartbeats 8000000 in
theorem hbk_any (v : Value) (l : List It) (wd : Int) (w : World) (hv : RdIt w v l) (hS : ∀ x ∈ l, ItS x) (hok : ckIts l = 0) (hw0 : 0 ≤ wd) (hw1 : wd ≤ 1073741824) (h0 : 0 ≤ potL l wd 0) :
    Calls Try.prog 8 #[v, .int .i64 wd] w fun e w' => ∃ v', e = .returned (.tuple #[v', .int .i64 (potL l wd 0), .int .i64 0]) ∧ RdI w' v' ((brkL l wd).map Int.ofNat) ∧ Below w.heap.size w w' := by
  refine (callsIn_wide (n := 9)).1 ?_
  have HS := hid hS
  have HOK := hid hok
  have HW := hid (And.intro hw0 hw1)
  have HP0 := hid h0
  have hl4 := (ckIts_ok hok).1
  have HV := hid hv
  have HC := hid (pcheck_any v l wd w hv hS hok ⟨hw0, hw1⟩)
  have HPO := hid (fun w' (h : RdIt w' v l) => hpo_any v l wd w' h hS hok hw0 hw1)
  obtain ⟨a0, c0, rfl, hlc, hcm, _⟩ := hv.open
  clear hv hS hok hw0 hw1 h0
  obtain ⟨n, hn⟩ : ∃ n, n = l.length := ⟨_, rfl⟩
  have HN := hid hn
  rw [← hn] at hl4 hlc HV HC HPO ⊢
  clear hn
  refine callsIn_of_wp_marks Try.func8 rfl trivial ?_ rfl
  simp only [Try.ntmps8, List.size_toArray, List.length_cons, List.length_nil, Nat.reduceAdd, Nat.reduceSub, Array.replicate_succ, Array.replicate_zero, List.push_toArray, List.append_toArray, List.nil_append, List.cons_append]
  refine wpIn_wide.2 ?_
  go_wp2_with fail
  (with_reducible refine HC.out.mono ?_)
  rintro e w2 ⟨rfl, hb2⟩
  have HB2 := hid hb2
  have HV2 := hid (HV.out.below hb2)
  clear hb2 HC
  go_wp2_with fail
  (with_reducible refine (HPO.out w2 HV2.out).mono ?_)
  rintro e w4 ⟨vt, rfl, hrt, hb4⟩
  have HRT := hid hrt
  obtain ⟨b, off, ct, hvt, hct, htc⟩ : ∃ b off ct, vt = .slice (some ⟨b, off, none⟩) (n + 1) ct ∧ n + 1 ≤ ct ∧ ∀ f, f ≤ n → w4.cell? ⟨b, off + f, none⟩ = some (.int .i64 (potL l wd f)) := by
    obtain ⟨at_, ct, h1, h2, h3, h4⟩ := hrt
    have hn := HN.out
    have hl := tabL_len l wd (n + 1)
    obtain ⟨b, off, rfl, _⟩ := h4 0 _ (List.getElem?_eq_getElem (by omega))
    refine ⟨b, off, ct, by rw [h1, hl], by omega, fun f hf => ?_⟩
    have h5 : (tabL l wd (n + 1))[f]? = some (potL l wd f) := by
      unfold potL
      rw [← hn, List.getD_eq_getElem?_getD, List.getElem?_eq_getElem (by omega)]; rfl
    obtain ⟨b', off', he, hc⟩ := h4 f _ h5
    cases he
    exact hc
  subst hvt
  have HTC := hid htc
  have HV4 := hid (HV2.out.below hb4)
  have HB4 := hid (below_tr HB2.out hb4)
  clear hb4 HV2 HB2 HPO hrt htc
  have q0 : 0 ≤ potL l wd 0 := HP0.out
  have qc0 : w4.cell? ⟨b, off, none⟩ = some (.int .i64 (potL l wd 0)) := HTC.out 0 (Nat.zero_le _)
  have qc := cell_al qc0 (.cells #[.slice (some ⟨b, off, none⟩) (n + 1) ct] 38)
  clear qc0
  have q1 : (0 : Int) < ((n + 1 : Nat) : Int) := by omega
  have q2 : 0 < n + 1 := by omega
  have q3 : ¬ potL l wd 0 < 0 := by omega
  go_upto_region 7 with fail
  have HV5 := hid (HV4.out.below (below_al w4 (.cells #[.slice (some ⟨b, off, none⟩) (n + 1) ct] 38)))
  have HRT5 := hid (HRT.out.below (below_al w4 (.cells #[.slice (some ⟨b, off, none⟩) (n + 1) ct] 38)))
  have HB5 := hid (below_tr HB4.out (below_al w4 (.cells #[.slice (some ⟨b, off, none⟩) (n + 1) ct] 38)))
  have H65 := hid (row_nw w4 #[.slice (some ⟨b, off, none⟩) (n + 1) ct] 38 rfl)
  have HT5 : Hid (∀ f, f ≤ n → (w4.alloc (.cells #[.slice (some ⟨b, off, none⟩) (n + 1) ct] 38)).cell? ⟨b, off + f, none⟩ = some (.int .i64 (potL l wd f))) := fun f hf => cell_al (HTC.out f hf) _
  clear qc HTC HV4 HB4 HRT
  generalize w4.alloc (.cells #[.slice (some ⟨b, off, none⟩) (n + 1) ct] 38) = Wb at *
  generalize w4.heap.size = B6 at *
  have HI0 : Hid (PbI w Wb Wb.heap.size (Wb.heap.size + 1) 0 [] (.slice none 0 0) ((Wb.alloc (.cells #[.slice none 0 0] 38)).alloc (.cells #[.int .i64 0] 3))) :=
    ⟨below_tr (below_tr HB5.out (below_al _ _)) (below_al _ _), (OldW.of (below_al _ _)).tr (below_al _ _), (row_nw Wb _ _ rfl).al _, row_nw _ _ _ (by simp), World.ownsRow_nil _ _ _ _, by simp [Value.ownBlock], Nat.le_refl _, by omega⟩
  clear q0 q1 q2 q3
  go_wp2_with fail
  generalize (Wb.alloc (.cells #[.slice none 0 0] 38)).alloc (.cells #[.int .i64 0] 3) = W0 at *
  obtain ⟨B7, hB7⟩ : ∃ B7, B7 = Wb.heap.size := ⟨_, rfl⟩
  rw [← hB7] at HI0 ⊢
  have HB7 := hid hB7
  clear hB7
  refine wp_loop_ghost (HbkJ w Wb l wd a0 n c0 B6 B7) (n + 1) ⟨[], B7 + 1, 0, n + 1, [], _, _, _, _, _, _, _, _, _, _, _, _, _, _, _, _, _, _, _, _, _, _, _, _, _, _, _, _, _, _, _, _, _, _, _, _, _, _, _, _, _, _, _, _, _, _, _, _, _, _, _, _, _, _, _, _, _, _, _, _, _, _, _, _, _, _, _, _, _, rfl, Nat.zero_le _, rfl, by omega, HP0.out, by rw [List.nil_append]; unfold brkL; rw [← HN.out], Nat.le_refl _, .inl ⟨rfl, rfl⟩, HI0.out, MkOk.nil _ _⟩ ?_
  clear HI0
  rintro k a wr ⟨Ds, B8, f, fu, L, v, u2, u3, u4, u5, u6, u7, u11, u12, u13, u14, u15, u16, u17, u18, u19, u20, u21, u22, u23, u24, u25, u26, u27, u28, u29, u30, u31, u32, u33, u34, u35, u36, u37, u38, u39, u40, u41, u42, u43, u44, u45, u46, u47, u48, u49, u50, u51, u52, u53, u54, u55, u56, u57, u58, u59, u60, u61, u62, u63, u64, u65, u66, u67, u68, u69, u70, u71, u72, rfl, hf, hk, hfu, hpf, hL, hLl, hlast, hI, hM⟩
  have HI := hid hI
  have HM := hid hM
  have HL := hid hL
  have HPF := hid hpf
  have HKK := hid hk
  have HLA := hid hlast
  have HLL := hid hLl
  clear hI hM hL hpf hk hlast hLl
  unfold hbkA
  dsimp only
  have HRV := hid (Rd.of_own (enc := fun x : Nat => Value.int .i64 (x : Int)) HI.out.own)
  have c8 := HI.out.b8.cell 0 (x := .int .i64 (f : Int)) rfl
  generalize hds : mksD Ds = ds
  go_upto_region 9 with fail
  go_cut [40] from 27 to 41 (fun v wx => v = .bool (decide (f ≤ n)) ∧ wx = wr)
  case first => as_aux_lemma =>
    have c7 := HI.out.b7.cell 0 (x := v) rfl
    rcases HLA.out with ⟨rfl, rfl⟩ | ⟨L0, x, rfl, rfl⟩
    · obtain ⟨av, cv, rfl, _⟩ := HRV.out
      have HD : Hid (decide (0 ≤ n) = true) := decide_eq_true (Nat.zero_le _)
      clear HRV HI HL HPF HKK HLL
      go_wp2_with fail
      go_meet
      exact ⟨by rw [HD.out], rfl⟩
    · obtain ⟨av, cv, rfl, e2, e3, e4⟩ := HRV.out
      obtain ⟨q, hq⟩ : ∃ q, q = (L0 ++ [x]).length := ⟨_, rfl⟩
      obtain ⟨p0, hp0⟩ : ∃ p0, p0 = L0.length := ⟨_, rfl⟩
      obtain ⟨b1, o1, rfl, cx⟩ := e4 p0 x (by rw [hp0, List.getElem?_append_right (Nat.le_refl _), Nat.sub_self]; rfl)
      have hqp : q = p0 + 1 := by rw [hq, List.length_append, hp0]; rfl
      rw [← hq] at c7
      have hLl := HLL.out
      rw [← hq] at hLl
      have i1 : ((q : Int) == 0) = false := beq_eq_false_iff_ne.2 (by omega)
      have w1 : IntKind.i64.wrap ((q : Int) - 1) = (p0 : Int) := by rw [show (q : Int) - 1 = (p0 : Int) by omega]; exact IntWalk.i64_in _ (by omega)
      have g1 : (0 : Int) ≤ (p0 : Int) := by omega
      have g2 : (p0 : Int) < (q : Int) := by omega
      clear HRV HI HL HPF HKK HLL e2 e3 e4 hp0 hq
      by_cases hx : x < n
      · have g3 : (x : Int) < (n : Int) := by omega
        have HD : Hid (decide (x + 1 ≤ n) = true) := decide_eq_true (by omega)
        clear hx hqp
        go_wp2_with fail
        go_meet
        exact ⟨by rw [HD.out], rfl⟩
      · have g3 : ¬ (x : Int) < (n : Int) := by omega
        have HD : Hid (decide (x + 1 ≤ n) = false) := decide_eq_false (by omega)
        clear hx hqp
        go_wp2_with fail
        go_meet
        exact ⟨by rw [HD.out], rfl⟩
  case rest =>
  obtain ⟨rfl, rfl⟩ := hcut
  by_cases hlt : f ≤ n
  case neg =>
    have hti : decide (f ≤ n) = false := decide_eq_false hlt
    have HLB : Hid (L = brkL l wd) := by
      have h := HL.out
      have hn := HN.out
      have e : brkG l wd fu f = [] := by
        cases fu with
        | zero => rfl
        | succ m => rw [brkG, if_pos (by omega)]
      rw [e, List.append_nil] at h
      exact h
    rw [hti]
    have c6 := (H65.out.oldX HI.out.old).cell 0 (x := .slice (some ⟨b, off, none⟩) (n + 1) ct) rfl
    have ct0 : wc.cell? ⟨b, off, none⟩ = some (.int .i64 (potL l wd 0)) := HI.out.old.cell (HT5.out 0 (Nat.zero_le _))
    obtain ⟨av, cv, hvv⟩ : ∃ av cv, v = .slice av L.length cv := by
      obtain ⟨av, cv, h1, _⟩ := HRV.out
      exact ⟨av, cv, h1⟩
    have c7 := HI.out.b7.cell 0 (x := v) rfl
    rw [hvv] at c7 HRV
    have q1 : (0 : Int) < ((n + 1 : Nat) : Int) := by omega
    have q2 : 0 < n + 1 := by omega
    have HBW := hid HI.out.bel
    have HD : Hid (RdI wc (.slice av L.length cv) ((brkL l wd).map Int.ofNat)) := by
      obtain ⟨a', c', e1, e2, e3, e4⟩ := HRV.out
      rw [← HLB.out]
      refine ⟨a', c', by rw [e1, List.length_map], by rw [List.length_map]; exact e2, e3, fun i x hx => ?_⟩
      rw [List.getElem?_map] at hx
      obtain ⟨y, hy, rfl⟩ := Option.map_eq_some_iff.1 hx
      exact e4 i y hy
    clear HI hvv HRV HL HPF HKK hti HLA HLL
    go_upto_region 19 with fail
    go_region
    all_goals go_wp2_with fail
    all_goals subst hds
    all_goals refine leaveMks3 rfl (B := w.heap.size) (fun W => RdI W (.slice av L.length cv) ((brkL l wd).map Int.ofNat) ∧ Below w.heap.size w W) (fun W D h hD hat => ⟨h.1.mono fun pp vv hv => ?_, h.2.grown (grownBy_putObj' _ D _) h.2.size (fun r e => by cases e; exact hD)⟩) (fun W h => ⟨_, rfl, h.1, h.2⟩) Ds _ ((HM.out).below (Below.refl _ _).drew) ⟨HD.out.below (Below.refl _ _).drew, below_tr HBW.out (Below.refl _ _).drew⟩
    all_goals exact (putObj_cell W D hat hv)
  case pos =>
  have hti : decide (f ≤ n) = true := decide_eq_true hlt
  rw [hti]
  clear hti HRV
  go_wp2_with fail
  (with_reducible refine (lines_any a0 n c0 wd f wc).mono ?_)
  rintro e w5 ⟨rfl, rfl⟩
  have hb5 := below_tr (below_tr (below_al wc (.cells #[.slice a0 n c0] 30)) (below_al _ (.cells #[.int .i64 wd] 3))) (below_al _ (.cells #[.int .i64 (f : Int)] 3))
  have HI5 := hid (HI.out.below hb5)
  have HM5 := hid (HM.out.below hb5)
  have e1 : (wc.alloc (.cells #[.slice a0 n c0] 30)).heap.size = wc.heap.size + 1 := by simp
  have e2 : ((wc.alloc (.cells #[.slice a0 n c0] 30)).alloc (.cells #[.int .i64 wd] 3)).heap.size = wc.heap.size + 2 := by simp
  have d1 := cell_al (cell_al (cell_nw wc #[.slice a0 n c0] 30 0 (x := .slice a0 n c0) rfl) (.cells #[.int .i64 wd] 3)) (.cells #[.int .i64 (f : Int)] 3)
  have d2 := cell_al (cell_nw (wc.alloc (.cells #[.slice a0 n c0] 30)) #[.int .i64 wd] 3 0 (x := .int .i64 wd) rfl) (.cells #[.int .i64 (f : Int)] 3)
  have d3 := cell_nw ((wc.alloc (.cells #[.slice a0 n c0] 30)).alloc (.cells #[.int .i64 wd] 3)) #[.int .i64 (f : Int)] 3 0 (x := .int .i64 (f : Int)) rfl
  rw [e1] at d2
  rw [e2] at d3
  have HG5 : Hid (LnO Wb a0 n c0 wd f wc.heap.size (wc.heap.size + 2) (wc.heap.size + 1) (((wc.alloc (.cells #[.slice a0 n c0] 30)).alloc (.cells #[.int .i64 wd] 3)).alloc (.cells #[.int .i64 (f : Int)] 3))) := ⟨d1, d3, d2, fun p x hx => HI5.out.old.cell hx⟩
  have HZ5 : Hid (wc.heap.size + 3 ≤ (((wc.alloc (.cells #[.slice a0 n c0] 30)).alloc (.cells #[.int .i64 wd] 3)).alloc (.cells #[.int .i64 (f : Int)] 3)).heap.size ∧ Wb.heap.size ≤ wc.heap.size ∧ B7 < wc.heap.size) := ⟨by simp, HI.out.old.1, HI.out.b7.lt⟩
  clear d1 d2 d3 e1 e2 hb5 HI HM c8
  go_wp2_with fail
  generalize ((wc.alloc (.cells #[.slice a0 n c0] 30)).alloc (.cells #[.int .i64 wd] 3)).alloc (.cells #[.int .i64 (f : Int)] 3) = W3 at *
  generalize wc.heap.size = z1 at *
  have HWW : Hid (w.heap.size ≤ Wb.heap.size) := HB5.out.size
  have HW3 : Hid (Wb.heap.size ≤ W3.heap.size ∧ w.heap.size ≤ W3.heap.size) := ⟨HI5.out.old.1, HI5.out.bel.size⟩
  refine (wpIn_wide (n := 9)).1 ?_
  refine wpIn_rangeFunc_newG rfl (by omega) (gf := 32) (lb := #[.pointer (some ⟨z1, 0, none⟩), .pointer (some ⟨z1 + 2, 0, none⟩), .pointer (some ⟨z1 + 1, 0, none⟩)]) rfl trivial (enters_of Try.func32 (by kernel_rfl) rfl)
    (encs := fun x : {x : Nat × Int // x ∈ lnsF l wd f} => #[.int .i64 (x.1.1 : Int), .int .i64 x.1.2]) (Kp := KpY B7)
    (S := fun xs => xs.map (·.1) = lnsF l wd f) (Sp := fun xs => ∃ r, xs.map (·.1) ++ r = lnsF l wd f) (N := (lnsF l wd f).length)
    ?hseq (fun h k => h.tr k) (fun W l o o' h1 h2 h3 h4 => KpY.put W l o o' h1 h2 h3 h4) (fun _ => rfl)
    (fun pre W => PbI w Wb B7 B8 f L v W ∧ MkOk w.heap.size Ds W ∧ (∀ y ∈ pre, brkB l wd f y.1 = false) ∧ W3.heap.size ≤ W.heap.size)
    (fun cc pre W => cc = Code.exit 2 ∧ ∃ (pre0 : List {x : Nat × Int // x ∈ lnsF l wd f}) (x : {x : Nat × Int // x ∈ lnsF l wd f}) (g cap : Nat), pre = pre0 ++ [x] ∧ (∀ y ∈ pre0, brkB l wd f y.1 = false) ∧ brkB l wd f x.1 = true ∧ PbI w Wb B7 B8 (x.1.1 + 1) (L ++ [x.1.1]) (.slice (some ⟨g, 0, none⟩) (L.length + 1) cap) W ∧ MkOk w.heap.size Ds W)
    ?own ?own2 ?ownS ⟨HI5.out, HM5.out, (fun y hy => by cases hy), Nat.le_refl _⟩ ?a1 (fun W => KpY.refl B7 W) ?assign ?body ?done ?stop
  case assign =>
    intro yl x W' K hK
    gi_wp2
    exact hK
  case own =>
    intro st A C row hs hg hr
    exact ⟨hs.1.grown HW3.out.2 HW3.out.1 hg hr, hs.2.1.grownN HM5.out (Nat.le_refl _) hg (fun r e => (hr r e).1), hs.2.2.1, Nat.le_trans hs.2.2.2 hg.size⟩
  case own2 =>
    rintro cc st A C row ⟨h1, pre0, x, g, cap, h2, h3, h4, h5, h6⟩ hg hr
    exact ⟨h1, pre0, x, g, cap, h2, h3, h4, h5.grown HW3.out.2 HW3.out.1 hg hr, h6.grownN HM5.out (Nat.le_refl _) hg (fun r e => (hr r e).1)⟩
  case ownS =>
    intro pre W k j u hk h
    exact ⟨h.1.setO HI5.out hk, h.2.1.setN HM5.out hk, h.2.2.1, by simp [World.setCell]; exact h.2.2.2⟩
  case hseq => as_aux_lemma =>
    intro yl J Jx W' hW' hJ hJS hY h0
    have hz := HZ5.out
    have hw := HW3.out
    have hs3 := hW'.size
    have hb7 := HB7.out
    refine (lines1_in (9 - 1) (by omega) l wd f a0 c0 z1 (z1 + 2) (z1 + 1) _ HS.out HOK.out (by have := HN.out; omega) HW.out.1 HW.out.2 (Nat.le_refl _) (fun W => LnO Wb a0 n c0 wd f z1 (z1 + 2) (z1 + 1) W)
      (fun A h => by have h2 := HN.out; subst h2; exact h.m HV5.out) (fun A C h hb => h.below hb) (KpY B7) (fun A C hk h => h.kp hk (by omega) (by omega) (by omega) (by omega)) W' (fun A k j v hk h => h.set (by omega) (by omega) (by omega) (by omega)) (fun A C B cs t hB hk hr => hk.rw _ _ _ (by omega) hr)
      yl (fun pre W => ∃ pre' : List {x : Nat × Int // x ∈ lnsF l wd f}, pre'.map (·.1) = pre ∧ J pre' W) (fun pre W => ∃ pre' : List {x : Nat × Int // x ∈ lnsF l wd f}, pre'.map (·.1) = pre ∧ Jx pre' W)
      (fun pre x W hx ⟨pre', h1, h2⟩ hlen => (hY pre' ⟨x, hx⟩ W h2 (by rw [← h1, List.length_map] at hlen; exact hlen)).mono ?_) (fun st A C row ⟨pre', h1, h2⟩ hg hr => ⟨pre', h1, hJ _ _ _ row h2 hg hr⟩) (fun pre A k j v hk ⟨pre', h1, h2⟩ => ⟨pre', h1, hJS _ _ _ _ _ hk h2⟩) (HG5.out.below hW') ⟨[], rfl, h0⟩).mono ?_
    · rintro e A (⟨h3, h4, h5⟩ | ⟨h3, h4⟩)
      · exact .inl ⟨h3, ⟨_, by rw [List.map_append, h1]; rfl, h4⟩, h5⟩
      · exact .inr ⟨h3, ⟨_, by rw [List.map_append, h1]; rfl, h4⟩⟩
    · rintro e W4 ⟨h1, h2⟩
      refine ⟨h1, ?_⟩
      rcases h2 with ⟨pre', h3, h4⟩ | ⟨pre, ⟨r, hr⟩, pre', h3, h4⟩
      · exact .inl ⟨pre', h3, h4⟩
      · exact .inr ⟨pre', ⟨r, by rw [h3]; exact hr⟩, h4⟩
  case done =>
    rintro D ys W' hD hys ⟨_, _, hno, _⟩ hK
    exfalso
    obtain ⟨x, hx, h1, h2⟩ := potL_hit (wd := wd) (f := f) HS.out (by have := HN.out; omega) HPF.out
    have hx2 := hx
    rw [← hys] at hx2
    obtain ⟨y, hy, rfl⟩ := List.mem_map.1 hx2
    have h3 := hno y hy
    unfold brkB at h3
    rw [decide_eq_true h1, decide_eq_true h2] at h3
    cases h3
  case body =>
    rintro yl pre ⟨⟨t, c⟩, hx⟩ W' ⟨hI, hM, hno, hW3⟩ _
    have hn := HN.out
    obtain ⟨hx1, hx2, hx3, hx4⟩ := lnsF_mem HS.out (by omega) hx
    dsimp only at hx1 hx2 hx3 hx4
    have hrb := potL_bd (wd := wd) HS.out (l.length - t) (t + 1) (by omega)
    have hn5 : ((l.length - t : Nat) : Int) ≤ 4096 := by omega
    have hHW := HW3.out
    have HI := hid hI
    have HM := hid hM
    have HNO := hid hno
    have HBH := hid (behind_any (.slice (some ⟨b, off, none⟩) (n + 1) ct) (tabL l wd (n + 1)) t W' (Rd.mono HRT5.out fun p x hp => hI.old.cell hp) (by rw [tabL_len]; omega) (by rw [tabL_len]; omega))
    have hbp : behF (tabL l wd (n + 1)) t = potL l wd (t + 1) := by rw [hn]; exact beh_pot l wd
    rw [hbp] at HBH
    have c6 := (H65.out.oldX hI.old).cell 0 (x := .slice (some ⟨b, off, none⟩) (n + 1) ct) rfl
    have cF : W'.cell? ⟨b, off + f, none⟩ = some (.int .i64 (potL l wd f)) := hI.old.cell (HT5.out f hlt)
    have c8 := hI.b8.cell 0 (x := .int .i64 (f : Int)) rfl
    have u3 : (f : Int) < ((n + 1 : Nat) : Int) := by omega
    have u4 : (0 : Int) ≤ (f : Int) := by omega
    have hr0 : -1 ≤ potL l wd (t + 1) := hrb.1
    have hr1 : potL l wd (t + 1) ≤ 4096 * 20000 := by omega
    have HBK : Hid (brkB l wd f (t, c) = (decide (0 ≤ potL l wd (t + 1)) && decide (c + potL l wd (t + 1) = potL l wd f))) := rfl
    have HTT : Hid (f ≤ t ∧ t ≤ n) := ⟨hx1, by omega⟩
    generalize potL l wd (t + 1) = r at *
    generalize potL l wd f = pf at *
    obtain ⟨t1, ht1⟩ : ∃ t1, t1 = t + 1 := ⟨_, rfl⟩
    have wt : IntKind.i64.wrap ((t : Int) + 1) = (t1 : Int) := by rw [show (t : Int) + 1 = (t1 : Int) by omega]; exact IntWalk.i64_in _ (by omega)
    have HT1 := hid ht1
    clear hI hM hno hrb hn5 HPF hbp hn ht1
    generalize hbk : brkB l wd f (t, c) = bb at *
    have HBB := hid hbk
    clear hbk
    generalize hQ : ownPostG _ _ _ _ _ _ = QQ
    by_cases k0 : 0 ≤ r
    · by_cases k1 : c + r = pf
      · obtain rfl : bb = true := by rw [HBK.out, decide_eq_true k0, decide_eq_true k1]; rfl
        have i1 : (c + r == pf) = true := by rw [k1]; simp
        clear HBK k1
        have hown := HI.out.own
        have c7 := HI.out.b7.cell 0 (x := v) rfl
        have hL5 : L.length ≤ 4097 := by have := HLL.out; omega
        gi_wp2_with (first | (refine ⟨trivial, ?_⟩; gi_at_call 21; refine (callsIn_wide.2 HBH.out).mono ?_; rintro e w2 ⟨rfl, rfl⟩) | (gi_at_builtin; refine wpListIn_ap2 rfl _ _ 38 rfl (Wb.heap.size + 1) 3 Try.underlying38 infoIntP rfl (by decide) (by decide) _ _ _ rfl hown [.int .i64 (t : Int)] rfl (by simp [Value.oneCell']) rfl (by simp) (by omega) (by have h1 := HI.out.b7.lt; have h2 := HI.out.l7; omega) ?_; intro g1 cap1 w9 hown' hb1 hgr hat _; have HGR := hid hgr; have HP9 := hid (HI.out.push t t1 HWW.out hown' hb1 hgr hat); have c79 := HP9.out.2.1.1; have f79 := HP9.out.2.1.2.1; have c89 := HP9.out.2.1.2.2.1; have f89 := HP9.out.2.1.2.2.2; have h87 := HP9.out.2.2) | fail)
        have k2 : ∀ n, KeepsFrom n W' w9 := fun n => ⟨HGR.out.size, fun k o hk ho hc => (HGR.out.block k (Array.getElem?_eq_some_iff.1 ho).1 (fun e => by
          obtain ⟨o2, ho2, hc2⟩ := own_cells hown k e.symm
          rw [ho] at ho2; cases ho2; rw [hc] at hc2; cases hc2)).trans ho⟩
        have k3 : ∀ n, KeepsFrom n W' ((w9.setCell ⟨B7, 0, none⟩ (.slice (some ⟨g1, 0, none⟩) (L.length + 1) cap1)).setCell ⟨B8, 0, none⟩ (.int .i64 (t1 : Int))) := fun n =>
          keepsFrom_tr3 (keepsFrom_tr3 (k2 n) (keeps_setC c79 _)) (keeps_setC ((World.cell?_of_block (Below.heap_setCell _ _ _ _ (by simpa using h87))).trans c89) _)
        have h9 : PbI w Wb B7 B8 (t + 1) (L ++ [t]) (.slice (some ⟨g1, 0, none⟩) (L.length + 1) cap1) ((w9.setCell ⟨B7, 0, none⟩ (.slice (some ⟨g1, 0, none⟩) (L.length + 1) cap1)).setCell ⟨B8, 0, none⟩ (.int .i64 (t1 : Int))) := by
          have h := HP9.out.1
          rw [HT1.out] at h ⊢
          exact h
        rw [← hQ]
        exact ⟨k3 _, rfl, pre, ⟨(t, c), hx⟩, g1, cap1, rfl, HNO.out, HBB.out, h9, HM.out.keeps (Nat.le_refl _) (k3 _)⟩
      · obtain rfl : bb = false := by rw [HBK.out, decide_eq_false k1]; simp
        have i1 : (c + r == pf) = false := beq_eq_false_iff_ne.2 k1
        clear HBK
        gi_wp2_with (refine ⟨trivial, ?_⟩; gi_at_call 21; refine (callsIn_wide.2 HBH.out).mono ?_; rintro e w2 ⟨rfl, rfl⟩)
        rw [← hQ]
        refine ⟨KeepsFrom.refl _ _, KpY.refl _ _, HI.out, HM.out, fun y hy => ?_, hW3⟩
        rcases List.mem_append.1 hy with h | h
        · exact HNO.out y h
        · rw [List.mem_singleton.1 h]; exact HBB.out
    · obtain rfl : bb = false := by rw [HBK.out, decide_eq_false k0]; rfl
      clear HBK
      gi_wp2_with (refine ⟨trivial, ?_⟩; gi_at_call 21; refine (callsIn_wide.2 HBH.out).mono ?_; rintro e w2 ⟨rfl, rfl⟩)
      rw [← hQ]
      refine ⟨KeepsFrom.refl _ _, KpY.refl _ _, HI.out, HM.out, fun y hy => ?_, hW3⟩
      rcases List.mem_append.1 hy with h | h
      · exact HNO.out y h
      · rw [List.mem_singleton.1 h]; exact HBB.out
  case stop =>
    rintro D cc pre W' hD ⟨r, hr⟩ ⟨rfl, pre0, ⟨⟨t, c⟩, hx⟩, g, cap, rfl, h1, h2, hI, hM⟩ hK
    have hfind : (lnsF l wd f).find? (brkB l wd f) = some (t, c) := by
      rw [← hr, List.map_append]
      exact find_pre _ _ r (fun y hy => by obtain ⟨z, hz, rfl⟩ := List.mem_map.1 hy; exact h1 z hz) h2
    have hn := HN.out
    obtain ⟨hx1, hx2, _⟩ := lnsF_mem HS.out (by omega) hx
    dsimp only at hx1 hx2 h2 hI
    obtain ⟨m, hm⟩ : ∃ m, fu = m + 1 := ⟨fu - 1, by omega⟩
    have HL2 : Hid ((L ++ [t]) ++ brkG l wd m (t + 1) = brkL l wd) := by
      have h := HL.out
      rw [hm, brkG, if_neg (by omega), hfind] at h
      rw [List.append_assoc]
      exact h
    have hpt : 0 ≤ potL l wd (t + 1) := by
      unfold brkB at h2
      simp only [Bool.and_eq_true, decide_eq_true_eq] at h2
      exact h2.1
    have hkk := HKK.out
    have hll := HLL.out
    obtain ⟨t1, ht1⟩ : ∃ t1, t1 = t + 1 := ⟨_, rfl⟩
    rw [← ht1] at hI HL2 hpt
    have c8 := hI.b8.cell 0 (x := .int .i64 (t1 : Int)) rfl
    have HI9 := hid hI.box
    have HM9 : Hid (MkOk w.heap.size (D :: Ds) (W'.alloc (.cells #[.int .i64 (t1 : Int)] 3))) := by
      have hw := HW3.out
      refine MkOk.below ⟨List.nodup_cons.2 ⟨fun hmm => by have := HM5.out.lt hmm; omega, hM.nd⟩, fun E hE => ?_⟩ (below_al W' _)
      rcases List.mem_cons.1 hE with rfl | hE
      · exact ⟨by omega, hK⟩
      · exact hM.at_ E hE
    have HPT := hid hpt
    have HKF : Hid (n + 1 - t1 < k ∧ t1 ≤ n + 1 ∧ n + 1 ≤ t1 + m ∧ L.length + 1 ≤ t1) := ⟨by omega, by omega, by omega, by omega⟩
    have HT1 := hid ht1
    clear hfind h1 h2 hI hM hK hr hpt hn ht1 hll hkk
    subst hds
    refine wpIn_wide.2 ?_
    go_wp2_with fail
    exact ⟨n + 1 - t1, HKF.out.1, D :: Ds, W'.heap.size, t1, m, L ++ [t], _, _, _, _, _, _, _, _, _, _, _, _, _, _, _, _, _, _, _, _, _, _, _, _, _, _, _, _, _, _, _, _, _, _, _, _, _, _, _, _, _, _, _, _, _, _, _, _, _, _, _, _, _, _, _, _, _, _, _, _, _, _, _, _, _, _, _, _, _, rfl, HKF.out.2.1, rfl, HKF.out.2.2.1, HPT.out, HL2.out, by rw [List.length_append]; exact HKF.out.2.2.2, .inr ⟨L, t, rfl, HT1.out⟩, HI9.out, HM9.out⟩
end Go.Proofs.Ytalpgilncohkbaa
