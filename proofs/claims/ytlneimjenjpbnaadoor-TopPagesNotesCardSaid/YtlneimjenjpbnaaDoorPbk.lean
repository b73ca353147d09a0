/-
  pagebreak.Break.
-/
import Derived.Test.YtlneimjenjpbnaaDoorPot
import Derived.Test.YtlneimjenjpbnaaDoorNsw
import Derived.Sort.CutIn
import Derived.Test.YtlneimjenjpbnaaDoorQin
import Derived.BigQuiet
namespace Go.Proofs.YtlneimjenjpbnaaDoor
open Go.RowKit
attribute [local go_sem] Oper.semAt_some

theorem leaveMks3 {F : Fence} {n : Nat} {P : Program} {fn : Func} {tmps : Array Value} {R : Ending → World → Prop} {t u v : Tmp} (hres : fn.results = #[.tmp t, .tmp u, .tmp v]) {B : Nat} (I : World → Prop)
    (hI : ∀ W D, I W → B ≤ D → W.heap[D]? = some (.deferred (some [])) → I (W.putObj D (.deferred none))) (hR : ∀ W, I W → R (.returned (.tuple #[tmps.getD t undef, tmps.getD u undef, tmps.getD v undef])) W) :
    ∀ (Ds : List Nat) (W : World), MkOk B Ds W → I W → LeavesInM F n P fn tmps R (mksD Ds) .returning W
  | [], W, _, h => ⟨_, results_tmp3 hres _ _ _, hR W h⟩
  | D :: Ds, W, hm, h => by
    obtain ⟨hB, hat⟩ := hm.at_ D (List.mem_cons_self ..)
    have hnd := List.nodup_cons.1 hm.nd
    refine ⟨by simp, .inl ⟨D, _, rfl, run_takeDeferred hat, leaveMks3 hres I hI hR Ds _ ⟨hnd.2, fun E hE => ?_⟩ (hI W D h hB hat)⟩⟩
    have hne : E ≠ D := fun e => hnd.1 (e ▸ hE)
    obtain ⟨h1, h2⟩ := hm.at_ E (List.mem_cons_of_mem _ hE)
    exact ⟨h1, (World.putObj_heap_other hne).trans h2⟩
theorem pbk_no (p : PP) (vl vn vp : Value) (w : World) (hr : RdP5 w vl vn vp p) (hz : ppI p = 0) (h0 : pot p 0 < 0) :
    Calls Tryd.prog 11 #[.agg (ppC p vl vn vp)] w fun e w' => e = .returned (.tuple #[.slice none 0 0, .int .i64 0, .int .i64 23]) ∧ Below w.heap.size w w' := by
  have HOK := hid (pp_ok hz)
  have HZ := hid hz
  have HB0 := hid (below_al w (.cells (ppC p vl vn vp) 38))
  have HR0 := hid (row_nw w (ppC p vl vn vp) 38 rfl)
  have HRD := hid hr
  obtain ⟨a1, c1, rfl, _, _, _⟩ := hr.l.open
  obtain ⟨a2, c2, rfl, hl2, hm2, _⟩ := hr.n.open
  obtain ⟨a3, c3, rfl, _, _, _⟩ := hr.s.open
  clear hr hz
  have HC := fun w' h => hid (ppchk_any p (.slice a1 p.lines.length c1) (.slice a2 p.notes.length c2) (.slice a3 p.pens.length c3) w' h)
  have HS := fun w' h => hid (nsums_any p (.slice a1 p.lines.length c1) (.slice a2 p.notes.length c2) (.slice a3 p.pens.length c3) w' h HOK.out)
  have HPO := hid (fun B w' h => pot_any p B w' h HOK.out)
  unfold ppC at HR0 HB0 HC HS ⊢
  go_enter Tryd.func11, Tryd.ntmps11
  go_wp2_with fail
  (with_reducible refine (HC _ (HRD.out.below HB0.out)).out.mono ?_)
  rintro e w2 ⟨rfl, hb2⟩
  rw [HZ.out]
  have HRD2 := hid ((HRD.out.below HB0.out).below hb2)
  have HB2 := hid (below_tr HB0.out hb2)
  have HR2 := hid (HR0.out.below hb2)
  clear HR0 HB0 hb2 HRD HC
  have cl := HR2.out.cell 0 (x := .slice a1 p.lines.length c1) rfl
  have cn := HR2.out.cell 1 (x := .slice a2 p.notes.length c2) rfl
  have cp := HR2.out.cell 2 (x := .slice a3 p.pens.length c3) rfl
  have ch := HR2.out.cell 3 (x := .int .i64 p.h) rfl
  have cg := HR2.out.cell 4 (x := .int .i64 p.gap) rfl
  go_wp2_with fail
  (with_reducible refine (HS _ HRD2.out).out.mono ?_)
  rintro e w3 ⟨B, rfl, _, hs3, hb3⟩
  have HS3 := hid hs3
  have HB3 := hid (below_tr HB2.out hb3)
  clear hs3 hb3 cl cn cp ch cg HR2 HRD2 HS
  go_wp2_with fail
  (with_reducible refine (HPO.out B _ HS3.out).mono ?_)
  rintro e w4 ⟨vt, rfl, hrt, hb4⟩
  obtain ⟨av, ct, h1, h2, h3, h4⟩ := hrt
  have hl := tabP_len p p.lines.length
  have h5 : (tabP p p.lines.length)[0]? = some (pot p 0) := by
    unfold pot
    rw [List.getD_eq_getElem?_getD, show p.n = p.lines.length from rfl, List.getElem?_eq_getElem (by omega)]; rfl
  obtain ⟨b, off, rfl, hc0⟩ := h4 0 _ h5
  have hc : w4.cell? ⟨b, off, none⟩ = some (.int .i64 (pot p 0)) := hc0
  rw [hl] at h1
  subst h1
  have HB4 := hid (below_tr HB3.out hb4)
  have qc := cell_al hc (.cells #[.slice (some ⟨b, off, none⟩) (p.lines.length + 1) ct] 32)
  have q1 : (0 : Int) < ((p.lines.length + 1 : Nat) : Int) := by omega
  have q2 : 0 < p.lines.length + 1 := by omega
  have HBF : Hid (Below w.heap.size w (w4.alloc (.cells #[.slice (some ⟨b, off, none⟩) (p.lines.length + 1) ct] 32))) := below_tr HB4.out (below_al _ _)
  clear hb4 HS3 HB3 HPO h4 h5 hc0 hc hl h2 h3
  go_wp2_with fail
  exact bodyPost_ret (results_tmp3 rfl _ _ _) rfl ⟨rfl, HBF.out⟩
/-- The frame of the loop. -/
def pbkA (Bx B B6 B7 B8 : Nat) (ds : List Deferred) (u0 u2 u3 u4 u9 u10 u11 u12 u13 u14 u15 u16 u17 u18 u19 u20 u21 u22 u23 u24 u25 u26 u27 u28 u29 u30 u31 u32 u33 u34 u35 u36 u37 u38 u39 u40 u41 u42 u43 u44 u45 u46 u47 u48 u49 u50 u51 u52 u53 u54 u55 u56 u57 u58 u59 : Value) : Act :=
  { tmps := #[u0, .pointer (some ⟨Bx, 0, none⟩), u2, u3, u4, .pointer (some ⟨B, 0, none⟩), .pointer (some ⟨B6, 0, none⟩), .pointer (some ⟨B7, 0, none⟩), .pointer (some ⟨B8, 0, none⟩), u9, u10, u11, u12, u13, u14, u15, u16, u17, u18, u19, u20, u21, u22, u23, u24, u25, u26, u27, u28, u29, u30, u31, u32, u33, u34, u35, u36, u37, u38, u39, u40, u41, u42, u43, u44, u45, u46, u47, u48, u49, u50, u51, u52, u53, u54, u55, u56, u57, u58, u59], defers := ds }
/-- Between two rounds: Wb is the world ahead of the boxes of 'out' and 'from'. -/
structure PbI (w Wb : World) (B7 B8 f : Nat) (L : List Nat) (v : Value) (W : World) : Prop where
  bel : Below w.heap.size w W
  old : OldW Wb W
  b7 : Row W B7 #[v] 32
  b8 : Row W B8 #[.int .i64 f] 3
  own : W.ownsRow (Wb.heap.size + 1) 3 1 v L.length (L.map fun x => Value.int .i64 ((x : Nat) : Int))
  ne : v.ownBlock ≠ some B8
  l7 : Wb.heap.size ≤ B7
  l8 : Wb.heap.size ≤ B8
theorem PbI.below {w Wb : World} {B7 B8 f : Nat} {L : List Nat} {v : Value} {W W' : World} (h : PbI w Wb B7 B8 f L v W) (hb : Below W.heap.size W W') : PbI w Wb B7 B8 f L v W' :=
  ⟨below_tr h.bel hb, h.old.tr hb, h.b7.below hb, h.b8.below hb, own_belowX h.own hb, h.ne, h.l7, h.l8⟩
/-- Behind 'out, from = append(out, to), to'. -/
theorem PbI.push {w Wb : World} {B7 B8 f g cap : Nat} {L : List Nat} {v : Value} {W W' : World} (h : PbI w Wb B7 B8 f L v W) (x : Nat) (hw : w.heap.size ≤ Wb.heap.size)
    (ho : W'.ownsRow (Wb.heap.size + 1) 3 1 (.slice (some ⟨g, 0, none⟩) (L.length + 1) cap) (L.length + 1) (L.map (fun x => Value.int .i64 ((x : Nat) : Int)) ++ [Value.int .i64 (x : Int)])) (hb : Below (Wb.heap.size + 1) W W') (hg : W.grownBy W' v.ownBlock) (hat : v.ownBlock = some g ∨ W.heap.size < g) :
    PbI w Wb B7 B8 x (L ++ [x]) (.slice (some ⟨g, 0, none⟩) (L.length + 1) cap) ((W'.setCell ⟨B7, 0, none⟩ (.slice (some ⟨g, 0, none⟩) (L.length + 1) cap)).setCell ⟨B8, 0, none⟩ (.int .i64 (x : Int))) ∧
      (W'.cell? ⟨B7, 0, none⟩ = some v ∧ W'.frozen? ⟨B7, 0, none⟩ = false ∧ W'.cell? ⟨B8, 0, none⟩ = some (.int .i64 f) ∧ W'.frozen? ⟨B8, 0, none⟩ = false) ∧ B8 ≠ B7 := by
  have n7 : v.ownBlock ≠ some B7 := row_own_neX h.b7 h.own (by decide)
  have h7 : Row W' B7 #[v] 32 := (hg.block _ h.b7.lt (fun e => n7 e.symm)).trans h.b7
  have h8 : Row W' B8 #[.int .i64 f] 3 := (hg.block _ h.b8.lt (fun e => h.ne e.symm)).trans h.b8
  have h78 : B8 ≠ B7 := fun e => by
    have h3 : W'.heap[B7]? = _ := h7
    have h4 : W'.heap[B8]? = _ := h8
    rw [e, h3] at h4
    simp only [Option.some.injEq, Obj.cells.injEq] at h4
    exact absurd h4.2.1 (by decide)
  have hg8 : g ≠ B8 := by
    rcases hat with e | e
    · intro e2; exact h.ne (by rw [e, e2])
    · have := h.b8.lt; omega
  have hg7 : g ≠ B7 := by
    rcases hat with e | e
    · intro e2; exact n7 (by rw [e, e2])
    · have := h.b7.lt; omega
  have hbo : OldW Wb W' := ⟨Nat.le_trans h.old.1 hg.size, fun k hk => (hb.block k (by omega)).trans (h.old.2 k hk)⟩
  have hl7 := h.l7
  have hl8 := h.l8
  refine ⟨⟨(((h.bel.trans (hb.mono (by omega))).setCell (by simp; omega) _).setCell (by simp; omega) _), ⟨by simp [World.setCell]; exact hbo.1, fun k hk => ?_⟩, (h7.set 0 _).other _ _ (by simpa using h78.symm), ?_, ?_, by simp only [Value.ownBlock]; intro e; cases e; exact hg8 rfl, h.l7, h.l8⟩, ⟨h7.cell 0 rfl, h7.frozen 0, h8.cell 0 rfl, h8.frozen 0⟩, h78⟩
  · rw [Below.heap_setCell _ _ _ _ (by simp; omega), Below.heap_setCell _ _ _ _ (by simp; omega)]
    exact hbo.2 k hk
  · exact (h8.other (p := ⟨B7, 0, none⟩) _ (by simpa using h78)).set 0 _
  · have h9 := own_setX (own_setX ho ⟨B7, 0, none⟩ (.slice (some ⟨g, 0, none⟩) (L.length + 1) cap) (by simp only [Value.ownBlock]; intro e; cases e; exact hg7 rfl)) ⟨B8, 0, none⟩ (.int .i64 (x : Int)) (by simp only [Value.ownBlock]; intro e; cases e; exact hg8 rfl)
    rw [List.length_append, List.map_append]
    exact h9
theorem Row.oldX {W W' : World} {B : Nat} {cs : Array Value} {t : TypeId} (h : Row W B cs t) (hb : OldW W W') : Row W' B cs t := (hb.2 _ h.lt).trans h
theorem putObj_cell (W : World) (D : Nat) (hat : W.heap[D]? = some (.deferred (some []))) {p : Addr} {v : Value} (hv : W.cell? p = some v) : (W.putObj D (.deferred none)).cell? p = some v := by
  have hne : p.block ≠ D := fun e => by
    unfold World.cell? at hv
    rw [e, hat] at hv
    cases hv
  exact (World.cell?_of_block (World.putObj_heap_other hne)).trans hv
theorem PbI.grown {w Wb : World} {B7 B8 f n : Nat} {L : List Nat} {v : Value} {W W' : World} {row : Option Nat} (h : PbI w Wb B7 B8 f L v W) (hn : w.heap.size ≤ n) (hn2 : Wb.heap.size ≤ n) (hg : W.grownBy W' row) (hr : ∀ r, row = some r → n ≤ r ∧ ∃ o : Obj, W.heap[r]? = some o ∧ o.isCells = false) : PbI w Wb B7 B8 f L v W' := by
  have key : ∀ (k : Nat) (cs : Array Value) (t : TypeId), Row W k cs t → Row W' k cs t := fun k cs t hk => (hg.block k hk.lt (fun e => by
    obtain ⟨_, o, ho, hc⟩ := hr k e.symm
    have h3 : W.heap[k]? = _ := hk
    rw [ho] at h3; cases h3; cases hc)).trans hk
  refine ⟨h.bel.grown hg h.bel.size (fun k e => by have := (hr k e).1; omega), ⟨Nat.le_trans h.old.1 hg.size, fun k hk => (hg.block k (Nat.lt_of_lt_of_le hk h.old.1) (fun e => by have := (hr k e.symm).1; omega)).trans (h.old.2 k hk)⟩, key _ _ _ h.b7, key _ _ _ h.b8, h.own.kept hg ?_, h.ne, h.l7, h.l8⟩
  cases hv : v.ownBlock with
  | none => exact .inl rfl
  | some k =>
    right
    intro e
    obtain ⟨_, o, ho, hc⟩ := hr k e.symm
    obtain ⟨o2, ho2, hc2⟩ := own_cells h.own k hv
    rw [ho] at ho2; cases ho2; rw [hc] at hc2; cases hc2
/-- The variable of the next round. -/
theorem PbI.box {w Wb : World} {B7 B8 f : Nat} {L : List Nat} {v : Value} {W : World} (h : PbI w Wb B7 B8 f L v W) : PbI w Wb B7 W.heap.size f L v (W.alloc (.cells #[.int .i64 f] 3)) := by
  have hb := below_al W (.cells #[.int .i64 f] 3)
  refine ⟨below_tr h.bel hb, h.old.tr hb, h.b7.below hb, row_nw _ _ _ rfl, own_belowX h.own hb, fun e => ?_, h.l7, h.old.1⟩
  have := (own_lt h.own e).2
  omega
theorem MkOk.grownN {B n : Nat} {Ds : List Nat} {A C W3 : World} {row : Option Nat} (h : MkOk B Ds A) (h3 : MkOk B Ds W3) (hn : W3.heap.size ≤ n) (hg : A.grownBy C row) (hr : ∀ r, row = some r → n ≤ r) : MkOk B Ds C :=
  ⟨h.nd, fun D hD => ⟨(h.at_ D hD).1, (hg.block D (h.lt hD) (fun e => by have := hr D e.symm; have := h3.lt hD; omega)).trans (h.at_ D hD).2⟩⟩
theorem keeps_setC {A : World} {q : Addr} {x : Value} {n : Nat} (h : A.cell? q = some x) (v : Value) : KeepsFrom n A (A.setCell q v) := by
  have hs : (A.setCell q v).heap.size = A.heap.size := by simp [World.setCell]
  refine ⟨Nat.le_of_eq hs.symm, fun k o _ ho hc => (Below.heap_setCell _ _ _ _ ?_).trans ho⟩
  intro e
  unfold World.cell? at h
  rw [← e, ho] at h
  cases o <;> first | (cases hc; done) | (simp at h; done)
theorem keepsFrom_tr3 {n : Nat} {A B C : World} (h : KeepsFrom n A B) (k : KeepsFrom n B C) : KeepsFrom n A C := ⟨Nat.le_trans h.1 k.1, fun b o hb ho hc => k.2 b o hb (h.2 b o hb ho hc) hc⟩
def bodyA3 (A : Exit → World → Prop) : Exit → Act → World → Prop
  | e, _, W => A e W
theorem find_pre {α : Type} {q : α → Bool} : ∀ (pre : List α) (x : α) (r : List α), (∀ y ∈ pre, q y = false) → q x = true → (pre ++ [x] ++ r).find? q = some x
  | [], x, r, _, h => by simp [h]
  | y :: t, x, r, h0, h => by
    rw [List.cons_append, List.cons_append, List.find?_cons, h0 y (by simp)]
    exact find_pre t x r (fun z hz => h0 z (by simp [hz])) h
def PbkJ (w Wb : World) (p : PP) (Bx B B6 B7 n : Nat) (a : Act) (W : World) : Prop :=
  ∃ (Ds : List Nat) (B8 f k : Nat) (L : List Nat) (v : Value) (u0 u2 u3 u4 u9 u10 u11 u12 u13 u14 u15 u16 u17 u18 u19 u20 u21 u22 u23 u24 u25 u26 u27 u28 u29 u30 u31 u32 u33 u34 u35 u36 u37 u38 u39 u40 u41 u42 u43 u44 u45 u46 u47 u48 u49 u50 u51 u52 u53 u54 u55 u56 u57 u58 u59 : Value), a = pbkA Bx B B6 B7 B8 (mksD Ds) u0 u2 u3 u4 u9 u10 u11 u12 u13 u14 u15 u16 u17 u18 u19 u20 u21 u22 u23 u24 u25 u26 u27 u28 u29 u30 u31 u32 u33 u34 u35 u36 u37 u38 u39 u40 u41 u42 u43 u44 u45 u46 u47 u48 u49 u50 u51 u52 u53 u54 u55 u56 u57 u58 u59 ∧ f ≤ p.n ∧ n = p.n - f ∧ p.n ≤ f + k ∧ 0 ≤ pot p f ∧ L ++ brkF p k f = brk p ∧ L.length ≤ f ∧ PbI w Wb B7 B8 f L v W ∧ MkOk w.heap.size Ds W

set_option maxRecDepth 100000 in
set_option maxHeartbeats 8000000 in
theorem pbk_any (p : PP) (vl vn vp : Value) (w : World) (hr : RdP5 w vl vn vp p) (hz : ppI p = 0) (h0 : 0 ≤ pot p 0) :
    Calls Tryd.prog 11 #[.agg (ppC p vl vn vp)] w fun e w' => ∃ v, e = .returned (.tuple #[v, .int .i64 (pot p 0), .int .i64 0]) ∧ RdI w' v ((brk p).map Int.ofNat) ∧ Below w.heap.size w w' := by
  refine (callsIn_wide (n := 9)).1 ?_
  have HOK := hid (pp_ok hz)
  have HZ := hid hz
  have HP0 := hid h0
  have HB0 := hid (below_al w (.cells (ppC p vl vn vp) 38))
  have HR0 := hid (row_nw w (ppC p vl vn vp) 38 rfl)
  have HRD := hid hr
  obtain ⟨a1, c1, rfl, _, _, _⟩ := hr.l.open
  obtain ⟨a2, c2, rfl, hl2, hm2, _⟩ := hr.n.open
  obtain ⟨a3, c3, rfl, _, _, _⟩ := hr.s.open
  have n4 := HOK.out.n4
  clear hr hz h0
  have HC := fun w' h => hid (ppchk_any p (.slice a1 p.lines.length c1) (.slice a2 p.notes.length c2) (.slice a3 p.pens.length c3) w' h)
  have HS := fun w' h => hid (nsums_any p (.slice a1 p.lines.length c1) (.slice a2 p.notes.length c2) (.slice a3 p.pens.length c3) w' h HOK.out)
  have HPO := hid (fun B w' h => pot_any p B w' h HOK.out)
  unfold ppC at HR0 HB0 HC HS ⊢
  refine callsIn_of_wp_marks Tryd.func11 rfl trivial ?_ rfl
  simp only [Tryd.ntmps11, List.size_toArray, List.length_cons, List.length_nil, Nat.reduceAdd, Nat.reduceSub, Array.replicate_succ, Array.replicate_zero, List.push_toArray, List.append_toArray, List.nil_append, List.cons_append]
  refine wpIn_wide.2 ?_
  go_wp2_with fail
  (with_reducible refine (HC _ (HRD.out.below HB0.out)).out.mono ?_)
  rintro e w2 ⟨rfl, hb2⟩
  rw [HZ.out]
  have HRD2 := hid ((HRD.out.below HB0.out).below hb2)
  have HB2 := hid (below_tr HB0.out hb2)
  have HR2 := hid (HR0.out.below hb2)
  clear HR0 HB0 hb2 HRD HC
  have cl := HR2.out.cell 0 (x := .slice a1 p.lines.length c1) rfl
  have cn := HR2.out.cell 1 (x := .slice a2 p.notes.length c2) rfl
  have cp := HR2.out.cell 2 (x := .slice a3 p.pens.length c3) rfl
  have ch := HR2.out.cell 3 (x := .int .i64 p.h) rfl
  have cg := HR2.out.cell 4 (x := .int .i64 p.gap) rfl
  go_wp2_with fail
  (with_reducible refine (HS _ HRD2.out).out.mono ?_)
  rintro e w3 ⟨B, rfl, _, hs3, hb3⟩
  have HS3 := hid hs3
  have HB3 := hid (below_tr HB2.out hb3)
  have HR3 := hid (HR2.out.below hb3)
  clear hs3 hb3 cl cn cp ch cg HR2 HRD2 HS
  go_wp2_with fail
  (with_reducible refine (HPO.out B _ HS3.out).mono ?_)
  rintro e w4 ⟨vt, rfl, hrt, hb4⟩
  obtain ⟨b, off, ct, hvt, hct, htc⟩ : ∃ b off ct, vt = .slice (some ⟨b, off, none⟩) (p.lines.length + 1) ct ∧ p.lines.length + 1 ≤ ct ∧ ∀ f, f ≤ p.lines.length → w4.cell? ⟨b, off + f, none⟩ = some (.int .i64 (pot p f)) := by
    obtain ⟨at_, ct, h1, h2, h3, h4⟩ := hrt
    have hl := tabP_len p p.lines.length
    obtain ⟨b, off, rfl, _⟩ := h4 0 _ (List.getElem?_eq_getElem (by omega))
    refine ⟨b, off, ct, by rw [h1, hl], by omega, fun f hf => ?_⟩
    have h5 : (tabP p p.lines.length)[f]? = some (pot p f) := by
      unfold pot
      rw [List.getD_eq_getElem?_getD, show p.n = p.lines.length from rfl, List.getElem?_eq_getElem (by omega)]; rfl
    obtain ⟨b', off', he, hc⟩ := h4 f _ h5
    cases he
    exact hc
  subst hvt
  have HTC := hid htc
  have HS4 := hid (HS3.out.below hb4)
  have HB4 := hid (below_tr HB3.out hb4)
  have HR4 := hid (HR3.out.below hb4)
  clear hb4 HS3 HB3 HR3 HPO hrt htc
  have q0 : 0 ≤ pot p 0 := HP0.out
  have qc0 : w4.cell? ⟨b, off, none⟩ = some (.int .i64 (pot p 0)) := HTC.out 0 (Nat.zero_le _)
  have qc := cell_al qc0 (.cells #[.slice (some ⟨b, off, none⟩) (p.lines.length + 1) ct] 32)
  clear qc0
  have q1 : (0 : Int) < ((p.lines.length + 1 : Nat) : Int) := by omega
  have q2 : 0 < p.lines.length + 1 := by omega
  have q3 : ¬ pot p 0 < 0 := by omega
  go_upto_region 7 with fail
  have HR5 := hid (HR4.out.al (.cells #[.slice (some ⟨b, off, none⟩) (p.lines.length + 1) ct] 32))
  have HS5 := hid (HS4.out.below (below_al w4 (.cells #[.slice (some ⟨b, off, none⟩) (p.lines.length + 1) ct] 32)))
  have HB5 := hid (below_tr HB4.out (below_al w4 (.cells #[.slice (some ⟨b, off, none⟩) (p.lines.length + 1) ct] 32)))
  have H65 := hid (row_nw w4 #[.slice (some ⟨b, off, none⟩) (p.lines.length + 1) ct] 32 rfl)
  have HT5 : Hid (∀ f, f ≤ p.lines.length → (w4.alloc (.cells #[.slice (some ⟨b, off, none⟩) (p.lines.length + 1) ct] 32)).cell? ⟨b, off + f, none⟩ = some (.int .i64 (pot p f))) := fun f hf => cell_al (HTC.out f hf) _
  clear qc HTC HS4 HB4 HR4
  generalize w4.alloc (.cells #[.slice (some ⟨b, off, none⟩) (p.lines.length + 1) ct] 32) = Wb at *
  generalize w4.heap.size = B6 at *
  have HI0 : Hid (PbI w Wb Wb.heap.size (Wb.heap.size + 1) 0 [] (.slice none 0 0) ((Wb.alloc (.cells #[.slice none 0 0] 32)).alloc (.cells #[.int .i64 0] 3))) :=
    ⟨below_tr (below_tr HB5.out (below_al _ _)) (below_al _ _), (OldW.of (below_al _ _)).tr (below_al _ _), (row_nw Wb _ _ rfl).al _, row_nw _ _ _ (by simp), World.ownsRow_nil _ _ _ _, by simp [Value.ownBlock], Nat.le_refl _, by omega⟩
  obtain ⟨Bx, hBx⟩ : ∃ Bx, Bx = w.heap.size := ⟨_, rfl⟩
  rw [← hBx] at HR5 ⊢
  have HBX := hid hBx
  clear hBx q0 q1 q2 q3
  go_wp2_with fail
  generalize (Wb.alloc (.cells #[.slice none 0 0] 32)).alloc (.cells #[.int .i64 0] 3) = W0 at *
  obtain ⟨B7, hB7⟩ : ∃ B7, B7 = Wb.heap.size := ⟨_, rfl⟩
  rw [← hB7] at HI0 ⊢
  have HB7 := hid hB7
  clear hB7
  refine wp_loop_ghost (PbkJ w Wb p Bx B B6 B7) p.n ⟨[], B7 + 1, 0, p.n, [], _, _, _, _, _, _, _, _, _, _, _, _, _, _, _, _, _, _, _, _, _, _, _, _, _, _, _, _, _, _, _, _, _, _, _, _, _, _, _, _, _, _, _, _, _, _, _, _, _, _, _, _, _, _, _, _, rfl, Nat.zero_le _, rfl, by omega, HP0.out, rfl, Nat.le_refl _, HI0.out, MkOk.nil _ _⟩ ?_
  clear HI0
  rintro k a wr ⟨Ds, B8, f, fu, L, v, u0, u2, u3, u4, u9, u10, u11, u12, u13, u14, u15, u16, u17, u18, u19, u20, u21, u22, u23, u24, u25, u26, u27, u28, u29, u30, u31, u32, u33, u34, u35, u36, u37, u38, u39, u40, u41, u42, u43, u44, u45, u46, u47, u48, u49, u50, u51, u52, u53, u54, u55, u56, u57, u58, u59, rfl, hf, hk, hfu, hpf, hL, hLl, hI, hM⟩
  have HI := hid hI
  have HM := hid hM
  have HL := hid hL
  have HPF := hid hpf
  have HKK := hid hk
  clear hI hM hL hpf hk
  unfold pbkA
  have c8 := HI.out.b8.cell 0 (x := .int .i64 (f : Int)) rfl
  have cx := (HR5.out.oldX HI.out.old).cell 0 (x := .slice a1 p.lines.length c1) rfl
  have hpn : p.n = p.lines.length := rfl
  generalize hds : mksD Ds = ds
  by_cases hlt : f < p.lines.length
  case neg =>
    have hti : ¬ (f : Int) < (p.lines.length : Int) := by omega
    have HLB : Hid (L = brk p) := by
      have h := HL.out
      have e : brkF p fu f = [] := by
        cases fu with
        | zero => rfl
        | succ m => rw [brkF, if_pos (by omega)]
      rw [e, List.append_nil] at h
      exact h
    have c6 := (H65.out.oldX HI.out.old).cell 0 (x := .slice (some ⟨b, off, none⟩) (p.lines.length + 1) ct) rfl
    have ct0 : wr.cell? ⟨b, off, none⟩ = some (.int .i64 (pot p 0)) := HI.out.old.cell (HT5.out 0 (Nat.zero_le _))
    have HRV := hid (Rd.of_own (enc := fun x : Nat => Value.int .i64 (x : Int)) HI.out.own)
    obtain ⟨av, cv, hvv⟩ : ∃ av cv, v = .slice av L.length cv := by
      obtain ⟨av, cv, h1, _⟩ := HRV.out
      exact ⟨av, cv, h1⟩
    have c7 := HI.out.b7.cell 0 (x := v) rfl
    rw [hvv] at c7 HRV
    have q1 : (0 : Int) < ((p.lines.length + 1 : Nat) : Int) := by omega
    have q2 : 0 < p.lines.length + 1 := by omega
    have HBW := hid HI.out.bel
    have HD : Hid (RdI wr (.slice av L.length cv) ((brk p).map Int.ofNat)) := by
      obtain ⟨a', c', e1, e2, e3, e4⟩ := HRV.out
      rw [← HLB.out]
      refine ⟨a', c', by rw [e1, List.length_map], by rw [List.length_map]; exact e2, e3, fun i x hx => ?_⟩
      rw [List.getElem?_map] at hx
      obtain ⟨y, hy, rfl⟩ := Option.map_eq_some_iff.1 hx
      exact e4 i y hy
    clear HI hvv HRV HL HPF HKK
    go_upto_region 17 with fail
    go_region
    all_goals go_wp2_with fail
    all_goals subst hds
    all_goals refine leaveMks3 rfl (B := w.heap.size) (fun W => RdI W (.slice av L.length cv) ((brk p).map Int.ofNat) ∧ Below w.heap.size w W) (fun W D h hD hat => ⟨h.1.mono fun pp vv hv => ?_, h.2.grown (grownBy_putObj' _ D _) h.2.size (fun r e => by cases e; exact hD)⟩) (fun W h => ⟨_, rfl, h.1, h.2⟩) Ds _ ((HM.out).below (Below.refl _ _).drew) ⟨HD.out.below (Below.refl _ _).drew, below_tr HBW.out (Below.refl _ _).drew⟩
    all_goals exact (putObj_cell W D hat hv)
  have hti : (f : Int) < (p.lines.length : Int) := by omega
  go_wp2_with fail
  (with_reducible refine (pages_any B f _).mono ?_)
  rintro e w5 ⟨rfl, rfl⟩
  have hb5 := below_tr (below_al wr (.cells #[.pointer (some ⟨B, 0, none⟩)] 61)) (below_al _ (.cells #[.int .i64 (f : Int)] 3))
  have HI5 := hid (HI.out.below hb5)
  have HM5 := hid (HM.out.below hb5)
  have e1 : (wr.alloc (.cells #[.pointer (some ⟨B, 0, none⟩)] 61)).heap.size = wr.heap.size + 1 := by simp
  have d1 := cell_al (cell_nw wr #[.pointer (some ⟨B, 0, none⟩)] 61 0 (x := .pointer (some ⟨B, 0, none⟩)) rfl) (.cells #[.int .i64 (f : Int)] 3)
  have d2 := cell_nw (wr.alloc (.cells #[.pointer (some ⟨B, 0, none⟩)] 61)) #[.int .i64 (f : Int)] 3 0 (x := .int .i64 (f : Int)) rfl
  rw [e1] at d2
  have HG5 : Hid (PgO Wb p f B (wr.heap.size + 1) wr.heap.size _) := ⟨d2, d1, HI5.out.old⟩
  have HZ5 : Hid (wr.heap.size + 2 ≤ ((wr.alloc (.cells #[.pointer (some ⟨B, 0, none⟩)] 61)).alloc (.cells #[.int .i64 (f : Int)] 3)).heap.size ∧ Wb.heap.size ≤ wr.heap.size) := ⟨by simp, HI.out.old.1⟩
  clear d1 d2 e1 hb5 HI HM c8 cx
  go_wp2_with fail
  generalize (wr.alloc (.cells #[.pointer (some ⟨B, 0, none⟩)] 61)).alloc (.cells #[.int .i64 (f : Int)] 3) = W3 at *
  generalize wr.heap.size = z1 at *
  have HWW : Hid (w.heap.size ≤ Wb.heap.size) := HB5.out.size
  have HW3 : Hid (Wb.heap.size ≤ W3.heap.size ∧ w.heap.size ≤ W3.heap.size) := ⟨HI5.out.old.1, HI5.out.bel.size⟩
  refine (wpIn_wide (n := 9)).1 ?_
  refine wpIn_rangeFunc_ownG rfl (by omega) (gf := 39) (lb := #[.pointer (some ⟨z1 + 1, 0, none⟩), .pointer (some ⟨z1, 0, none⟩)]) rfl trivial (enters_of Tryd.func39 (by kernel_rfl) rfl)
    (encs := fun x : {x : Nat × Int // x ∈ pgs p f} => #[.int .i64 (x.1.1 : Int), .int .i64 x.1.2]) (Kp := KpX W3.heap.size W3.heap.size W3.heap.size)
    (S := fun xs => xs.map (·.1) = pgs p f) (Sp := fun xs => ∃ r, xs.map (·.1) ++ r = pgs p f) (N := (pgs p f).length) (w0 := W3)
    ?hseq (fun h k => h.tr k) (KpX.put (Nat.le_refl _)) (Below.refl _ _) (fun _ => rfl)
    (fun pre W => PbI w Wb B7 B8 f L v W ∧ MkOk w.heap.size Ds W ∧ (∀ y ∈ pre, brkP p f y.1 = false) ∧ W3.heap.size ≤ W.heap.size)
    (fun cc pre W => cc = Code.exit 2 ∧ ∃ (pre0 : List {x : Nat × Int // x ∈ pgs p f}) (x : {x : Nat × Int // x ∈ pgs p f}) (g cap : Nat), pre = pre0 ++ [x] ∧ (∀ y ∈ pre0, brkP p f y.1 = false) ∧ brkP p f x.1 = true ∧ PbI w Wb B7 B8 x.1.1 (L ++ [x.1.1]) (.slice (some ⟨g, 0, none⟩) (L.length + 1) cap) W ∧ MkOk w.heap.size Ds W)
    ?own ?own2 ⟨HI5.out, HM5.out, (fun y hy => by cases hy), Nat.le_refl _⟩ ?a1 ?assign ?body ?done ?stop
  case assign =>
    intro yl x W' K hK
    gi_wp2
    exact hK
  case own =>
    intro st A C row hs hg hr
    exact ⟨hs.1.grown HW3.out.2 HW3.out.1 hg hr, hs.2.1.grownN HM5.out (Nat.le_refl _) hg (fun r e => (hr r e).1), hs.2.2.1, Nat.le_trans hs.2.2.2 hg.size⟩
  case own2 =>
    rintro cc st A C row ⟨h1, pre0, x, g, cap, h2, h3, h4, h5, h6⟩ hg hr
    exact ⟨h1, pre0, x, g, cap, h2, h3, h4, h5.grown HW3.out.2 HW3.out.1 hg hr, h6.grownN HM5.out (Nat.le_refl _) hg (fun r e => (hr r e).1)⟩
  case hseq => as_aux_lemma =>
    intro yl J Jx W' hW' hJ _ hY h0
    have hz := HZ5.out
    have hw := HW3.out
    refine (pages1_in (9 - 1) (by omega) p HOK.out f B (z1 + 1) z1 _ (by omega) (Nat.le_refl _) (fun W => PgO Wb p f B (z1 + 1) z1 W) (fun A h => h.pg HS5.out) (fun A C h hb => h.below hb) (KpX W3.heap.size W3.heap.size W3.heap.size)
      (fun A C hk h => h.kp hk (by omega) (by omega) (by omega) (by omega) (by omega) (by omega)) yl (fun pre W => ∃ pre' : List {x : Nat × Int // x ∈ pgs p f}, pre'.map (·.1) = pre ∧ J pre' W) (fun pre W => ∃ pre' : List {x : Nat × Int // x ∈ pgs p f}, pre'.map (·.1) = pre ∧ Jx pre' W)
      (fun pre x W hx ⟨pre', h1, h2⟩ hlen => (hY pre' ⟨x, hx⟩ W h2 (by rw [← h1, List.length_map] at hlen; exact hlen)).mono ?_) W' (fun st A C row ⟨pre', h1, h2⟩ hg hr => ⟨pre', h1, hJ _ _ _ row h2 hg hr⟩) (HG5.out.below hW') ⟨[], rfl, h0⟩).mono ?_
    · rintro e A (⟨h3, h4, h5⟩ | ⟨h3, h4⟩)
      · exact .inl ⟨h3, ⟨_, by rw [List.map_append, h1]; rfl, h4⟩, h5⟩
      · exact .inr ⟨h3, ⟨_, by rw [List.map_append, h1]; rfl, h4⟩⟩
    · rintro e W4 ⟨h1, h2⟩
      refine ⟨h1, ?_⟩
      rcases h2 with ⟨pre', h3, h4⟩ | ⟨pre, ⟨r, hr⟩, pre', h3, h4⟩
      · exact .inl ⟨pre', h3, h4⟩
      · exact .inr ⟨pre', ⟨r, by rw [h3]; exact hr⟩, h4⟩
  case done =>
    rintro D ys W' hD hys ⟨_, _, hno, _⟩ hK
    exfalso
    obtain ⟨x, hx, h1, h2⟩ := pot_hit (p := p) (f := f) hlt HPF.out
    have hx2 := hx
    rw [← hys] at hx2
    obtain ⟨y, hy, rfl⟩ := List.mem_map.1 hx2
    have h3 := hno y hy
    unfold brkP at h3
    rw [decide_eq_true h1, decide_eq_true h2] at h3
    cases h3
  case body =>
    rintro yl pre ⟨⟨t, c⟩, hx⟩ W' ⟨hI, hM, hno, hW3⟩ _
    obtain ⟨hx1, hx2, hx3⟩ := pgs_mem hx
    dsimp only at hx1 hx2 hx3
    have hcb := pgI_bd HOK.out f t
    rw [hx3] at hcb
    dsimp only at hcb
    have hrb := pot_bd HOK.out (p.n - t) t (by omega)
    have hfb := pot_bd HOK.out (p.n - f) f (by omega)
    have hn5 : ((p.n - t : Nat) : Int) ≤ 4096 := by omega
    have hHW := HW3.out
    have HI := hid hI
    have HM := hid hM
    have HNO := hid hno
    have c6 := (H65.out.oldX hI.old).cell 0 (x := .slice (some ⟨b, off, none⟩) (p.lines.length + 1) ct) rfl
    have cT : W'.cell? ⟨b, off + t, none⟩ = some (.int .i64 (pot p t)) := hI.old.cell (HT5.out t hx2)
    have cF : W'.cell? ⟨b, off + f, none⟩ = some (.int .i64 (pot p f)) := hI.old.cell (HT5.out f (by omega))
    have c8 := hI.b8.cell 0 (x := .int .i64 (f : Int)) rfl
    have u1 : (t : Int) < ((p.lines.length + 1 : Nat) : Int) := by omega
    have u2 : (0 : Int) ≤ (t : Int) := by omega
    have u3 : (f : Int) < ((p.lines.length + 1 : Nat) : Int) := by omega
    have u4 : (0 : Int) ≤ (f : Int) := by omega
    have hc0 : 0 ≤ c := hcb.1
    have hc1 : c ≤ 20000 := hcb.2
    have hr0 : -1 ≤ pot p t := hrb.1
    have hr1 : pot p t ≤ 4096 * 20000 := by omega
    have HBK : Hid (brkP p f (t, c) = (decide (0 ≤ pot p t) && decide (c + pot p t = pot p f))) := rfl
    have HTT : Hid (f < t ∧ t ≤ p.n) := ⟨hx1, hx2⟩
    generalize pot p t = r at *
    generalize pot p f = pf at *
    clear hI hM hno hcb hrb hfb hn5 hx3 HPF
    generalize hbk : brkP p f (t, c) = bb at *
    have HBB := hid hbk
    clear hbk
    gi_wp2_with fail
    gi_cut [49] from 32 (fun v wx => v = .bool bb ∧ Below W'.heap.size W' wx)
    case first => as_aux_lemma =>
      by_cases k0 : 0 ≤ r
      · by_cases k1 : c + r = pf
        · have HB : Hid (bb = true) := by show _ = _; rw [HBK.out, decide_eq_true k0, decide_eq_true k1]; rfl
          have i1 : (c + r == pf) = true := by rw [k1]; simp
          clear HBK k1
          refine wpIn_region_quietR_lit (by kernel_rfl) (by kernel_rfl) (by kernel_rfl) ?_
          repeat (gi_big_quiet_step (fail))
          refine wpQuietIn_nil ?_
          intro _ hw'
          obtain ⟨nq, hw''⟩ := hw'
          subst hw''
          gi_wp2_with fail
          gi_meet
          exact ⟨by rw [HB.out], below_drewN (Below.refl _ _) _⟩
        · have HB : Hid (bb = false) := by show _ = _; rw [HBK.out, decide_eq_false k1]; simp
          have i1 : (c + r == pf) = false := beq_eq_false_iff_ne.2 k1
          have i2 : decide (c + r = pf) = false := decide_eq_false k1
          clear HBK
          refine wpIn_region_quietR_lit (by kernel_rfl) (by kernel_rfl) (by kernel_rfl) ?_
          repeat (gi_big_quiet_step (fail))
          refine wpQuietIn_nil ?_
          intro _ hw'
          obtain ⟨nq, hw''⟩ := hw'
          subst hw''
          gi_wp2_with fail
          gi_meet
          exact ⟨by rw [HB.out], below_drewN (Below.refl _ _) _⟩
      · have HB : Hid (bb = false) := by show _ = _; rw [HBK.out, decide_eq_false k0]; rfl
        have i1 : decide (0 ≤ r) = false := decide_eq_false k0
        clear HBK
        refine wpIn_region_quietR_lit (by kernel_rfl) (by kernel_rfl) (by kernel_rfl) ?_
        repeat (gi_big_quiet_step (fail))
        refine wpQuietIn_nil ?_
        intro _ hw'
        obtain ⟨nq, hw''⟩ := hw'
        subst hw''
        gi_wp2_with fail
        gi_meet
        exact ⟨by rw [HB.out], below_drewN (Below.refl _ _) _⟩
    case rest =>
      obtain ⟨rfl, hbd⟩ := hcut
      have HI2 := hid (HI.out.below hbd)
      have HM2 := hid (HM.out.below hbd)
      have HKD := hid hbd
      clear HI HM c6 cT cF c8 u1 u2 u3 u4 hbd HBK
      cases bb with
      | false =>
        have HQ : Hid (KeepsFrom W3.heap.size W' wc ∧ KpX W3.heap.size W3.heap.size W3.heap.size W' wc) := ⟨keepsFrom_below HKD.out, kpX_below HKD.out hW3⟩
        gi_wp2_with fail
        refine ⟨HQ.out.1, HQ.out.2, HI2.out, HM2.out, fun y hy => ?_, Nat.le_trans hW3 HKD.out.size⟩
        rcases List.mem_append.1 hy with h | h
        · exact HNO.out y h
        · rw [List.mem_singleton.1 h]; exact HBB.out
      | true =>
        have hown := HI2.out.own
        have c7 := HI2.out.b7.cell 0 (x := v) rfl
        have hsz := HI2.out.own
        have hL5 : L.length ≤ 4096 := by omega
        gi_wp2_with (gi_at_builtin; refine wpListIn_ap2 rfl _ _ 32 rfl (Wb.heap.size + 1) 3 Tryd.underlying32 infoIntP rfl (by decide) (by decide) _ _ _ rfl hown [.int .i64 (t : Int)] rfl (by simp [Value.oneCell']) rfl (by simp) (by omega) (by have h1 := HI2.out.b7.lt; have h2 := HI2.out.l7; omega) ?_; intro g1 cap1 w9 hown' hb1 hgr hat _; have HGR := hid hgr; have HP9 := hid (HI2.out.push t HWW.out hown' hb1 hgr hat); have c79 := HP9.out.2.1.1; have f79 := HP9.out.2.1.2.1; have c89 := HP9.out.2.1.2.2.1; have f89 := HP9.out.2.1.2.2.2; have h87 := HP9.out.2.2)
        have k2 : ∀ n, KeepsFrom n wc w9 := fun n => ⟨HGR.out.size, fun k o hk ho hc => (HGR.out.block k (Array.getElem?_eq_some_iff.1 ho).1 (fun e => by
          obtain ⟨o2, ho2, hc2⟩ := own_cells hown k e.symm
          rw [ho] at ho2; cases ho2; rw [hc] at hc2; cases hc2)).trans ho⟩
        have k3 : ∀ n, KeepsFrom n wc ((w9.setCell ⟨B7, 0, none⟩ (.slice (some ⟨g1, 0, none⟩) (L.length + 1) cap1)).setCell ⟨B8, 0, none⟩ (.int .i64 (t : Int))) := fun n =>
          keepsFrom_tr3 (keepsFrom_tr3 (k2 n) (keeps_setC c79 _)) (keeps_setC ((World.cell?_of_block (Below.heap_setCell _ _ _ _ (by simpa using h87))).trans c89) _)
        exact ⟨keepsFrom_tr3 (keepsFrom_below HKD.out) (k3 _), rfl, pre, ⟨(t, c), hx⟩, g1, cap1, rfl, HNO.out, HBB.out, HP9.out.1, HM2.out.keeps (Nat.le_refl _) (k3 _)⟩
  case stop =>
    rintro D cc pre W' hD ⟨r, hr⟩ ⟨rfl, pre0, ⟨⟨t, c⟩, hx⟩, g, cap, rfl, h1, h2, hI, hM⟩ hK
    have hfind : (pgs p f).find? (brkP p f) = some (t, c) := by
      rw [← hr, List.map_append]
      exact find_pre _ _ r (fun y hy => by obtain ⟨z, hz, rfl⟩ := List.mem_map.1 hy; exact h1 z hz) h2
    obtain ⟨hx1, hx2, _⟩ := pgs_mem hx
    dsimp only at hx1 hx2 h2 hI
    obtain ⟨m, hm⟩ : ∃ m, fu = m + 1 := ⟨fu - 1, by omega⟩
    have HL2 : Hid ((L ++ [t]) ++ brkF p m t = brk p) := by
      have h := HL.out
      rw [hm, brkF, if_neg (by omega), hfind] at h
      rw [List.append_assoc]
      exact h
    have hpt : 0 ≤ pot p t := by
      unfold brkP at h2
      simp only [Bool.and_eq_true, decide_eq_true_eq] at h2
      exact h2.1
    have hkk := HKK.out
    have c8 := hI.b8.cell 0 (x := .int .i64 (t : Int)) rfl
    have HI9 := hid hI.box
    have HM9 : Hid (MkOk w.heap.size (D :: Ds) (W'.alloc (.cells #[.int .i64 (t : Int)] 3))) := by
      have hw := HW3.out
      refine MkOk.below ⟨List.nodup_cons.2 ⟨fun hmm => by have := HM5.out.lt hmm; omega, hM.nd⟩, fun E hE => ?_⟩ (below_al W' _)
      rcases List.mem_cons.1 hE with rfl | hE
      · exact ⟨by omega, hK⟩
      · exact hM.at_ E hE
    have HPT := hid hpt
    clear hfind h1 h2 hI hM hK hr hpt
    subst hds
    refine wpIn_wide.2 ?_
    go_wp2_with fail
    exact ⟨p.n - t, by omega, D :: Ds, W'.heap.size, t, m, L ++ [t], _, _, _, _, _, _, _, _, _, _, _, _, _, _, _, _, _, _, _, _, _, _, _, _, _, _, _, _, _, _, _, _, _, _, _, _, _, _, _, _, _, _, _, _, _, _, _, _, _, _, _, _, _, _, _, _, rfl, hx2, rfl, by omega, HPT.out, HL2.out, by simp; omega, HI9.out, HM9.out⟩
end Go.Proofs.YtlneimjenjpbnaaDoor
