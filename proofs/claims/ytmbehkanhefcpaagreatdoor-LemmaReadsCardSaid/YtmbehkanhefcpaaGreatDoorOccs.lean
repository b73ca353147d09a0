/-
  lemma.Occurrences.
-/
import Derived.Test.YtmbehkanhefcpaaGreatDoorFind
namespace Go.Proofs.YtmbehkanhefcpaaGreatDoor
open Go.RowKit
attribute [local go_sem] Oper.semAt_some

/-- The slice value v reads as rows of two. -/
def RdP (W : World) (v : Value) (l : List (Nat × Nat)) : Prop :=
  ∃ a cap, v = .slice a l.length cap ∧ l.length ≤ cap ∧ cap ≤ maxLen ∧ ∀ i p, l[i]? = some p → ∃ b off r, a = some ⟨b, off, none⟩ ∧ W.cell? ⟨b, off + i, none⟩ = some (.slice (some ⟨r, 0, none⟩) 2 2) ∧ W.cell? ⟨r, 0, none⟩ = some (.int .i64 (p.1 : Int)) ∧ W.cell? ⟨r, 1, none⟩ = some (.int .i64 (p.2 : Int))
theorem RdP.below {W W' : World} {v : Value} {l : List (Nat × Nat)} (h : RdP W v l) (hb : Below W.heap.size W W') : RdP W' v l := by
  obtain ⟨a, cap, h1, h2, h3, h4⟩ := h
  refine ⟨a, cap, h1, h2, h3, fun i p hi => ?_⟩
  obtain ⟨b, off, r, e, hc, h5, h6⟩ := h4 i p hi
  exact ⟨b, off, r, e, Below.keeps hb _ _ hc, Below.keeps hb _ _ h5, Below.keeps hb _ _ h6⟩
theorem RdP.open {W : World} {v : Value} {l : List (Nat × Nat)} (h : RdP W v l) : ∃ a cap, v = .slice a l.length cap ∧ l.length ≤ cap ∧ cap ≤ 9223372036854775807 ∧ ∀ i, i < l.length → ∃ p b off r, l[i]? = some p ∧ a = some ⟨b, off, none⟩ ∧ W.cell? ⟨b, off + i, none⟩ = some (.slice (some ⟨r, 0, none⟩) 2 2) ∧ W.cell? ⟨r, 0, none⟩ = some (.int .i64 (p.1 : Int)) ∧ W.cell? ⟨r, 1, none⟩ = some (.int .i64 (p.2 : Int)) := by
  obtain ⟨a, cap, h1, h2, h3, h4⟩ := h
  refine ⟨a, cap, h1, h2, h3, fun i hi => ?_⟩
  obtain ⟨b, off, r, e, hc, hr⟩ := h4 i l[i] (by simp [hi])
  exact ⟨l[i], b, off, r, by simp [hi], e, hc, hr⟩

/-- The rows that came, each in a block of its own. -/
def Tws (W : World) (n₀ : Nat) (pre : List (Nat × Nat)) (vs : List Value) : Prop :=
  ∀ (i : Nat) (p : Nat × Nat), pre[i]? = some p → ∃ r, vs[i]? = some (Value.slice (some ⟨r, 0, none⟩) 2 2) ∧ n₀ ≤ r ∧ W.heap[r]? = some (.cells #[.int .i64 (p.1 : Int), .int .i64 (p.2 : Int)] 3 (0, 0))
theorem rdP_of {W : World} {n₀ base : Nat} {pre : List (Nat × Nat)} {vs : List Value} {v : Value} (hown : W.ownsRow base 51 1 v pre.length vs) (ht : Tws W n₀ pre vs) : RdP W v pre := by
  have hl : vs.length = pre.length := by have := hown.1; omega
  have hr : Rd id W v vs := Rd.of_own (by rw [hl, List.map_id]; exact hown)
  obtain ⟨a, cap, h1, h2, h3, h4⟩ := hr
  refine ⟨a, cap, by rw [h1, hl], by omega, h3, fun i p hi => ?_⟩
  obtain ⟨r, g1, _, g3⟩ := ht i p hi
  obtain ⟨b, off, e, hc⟩ := h4 i _ g1
  exact ⟨b, off, r, e, hc, by rw [cell_of_row W r 0 _ _ _ g3]; rfl, by rw [cell_of_row W r 1 _ _ _ g3]; rfl⟩

structure OcsI (w : World) (n1 base : Nat) (pre : List (Nat × Nat)) (W : World) : Prop where
  box : ∃ v vs, Boxed W n1 32 v ∧ W.ownsRow base 51 1 v pre.length vs ∧ Tws W w.heap.size pre vs
  res : Row W w.heap.size #[.slice none 0 0] 32
  err : Row W (w.heap.size + 1) #[.int .i64 0] 27
  bel : Below w.heap.size w W
  siz : base ≤ W.heap.size
theorem tws_grown {W W' : World} {n₀ : Nat} {pre : List (Nat × Nat)} {vs : List Value} {row : Option Nat} (h : Tws W n₀ pre vs) (hg : W.grownBy W' row) (hr : ∀ r cs t, row = some r → W.heap[r]? = some (.cells cs t (0, 0)) → t ≠ 3) : Tws W' n₀ pre vs := by
  intro i p hi
  obtain ⟨r, h1, h2, h3⟩ := h i p hi
  exact ⟨r, h1, h2, (hg.block r (Array.getElem?_eq_some_iff.1 h3).1 (fun e => hr r _ _ e.symm h3 rfl)).trans h3⟩
theorem OcsI.grown {w W W' : World} {n1 base : Nat} {pre : List (Nat × Nat)} {row : Option Nat} (h : OcsI w n1 base pre W) (hg : W.grownBy W' row) (hr : ∀ r, row = some r → w.heap.size ≤ r ∧ ∃ o : Obj, W.heap[r]? = some o ∧ o.isCells = false) : OcsI w n1 base pre W' := by
  have hr2 := fun r e => (hr r e).2
  obtain ⟨⟨v, vs, h1, h2, h3⟩, h4, h5, h6, h7⟩ := h
  refine ⟨⟨v, vs, Row.grown h1 hg hr2, ?_, tws_grown h3 hg (fun r cs t e hh => ?_)⟩, h4.grown hg hr2, h5.grown hg hr2, h6.grown hg h6.size (fun k e => (hr k e).1), Nat.le_trans h7 hg.size⟩
  · refine h2.kept hg ?_
    cases hob : v.ownBlock with
    | none => exact .inl rfl
    | some r =>
      refine .inr fun e => ?_
      obtain ⟨o, ho, hc⟩ := hr2 r e.symm
      obtain ⟨o', ho', hc'⟩ := own_cells h2 r hob
      rw [ho] at ho'; cases ho'; rw [hc] at hc'; cases hc'
  · obtain ⟨o, ho, hc⟩ := hr2 r e
    rw [hh] at ho; cases ho; cases hc

/-- Behind 'out = append(out, []int{i, k})'. -/
theorem OcsI.push {w W w1 : World} {n1 base : Nat} {pre : List (Nat × Nat)} {v : Value} {vs : List Value} {g cap : Nat} {x : Nat × Nat} (hbx : Boxed W n1 32 v) (hown : W.ownsRow base 51 1 v pre.length vs) (htw : Tws W w.heap.size pre vs)
    (hres : Row W w.heap.size #[.slice none 0 0] 32) (herr : Row W (w.heap.size + 1) #[.int .i64 0] 27) (hbel : Below w.heap.size w W) (hsiz : base ≤ W.heap.size) (hn : w.heap.size + 2 ≤ n1) (hb : n1 < base)
    (hown' : w1.ownsRow base 51 1 (.slice (some ⟨g, 0, none⟩) (pre.length + 1) cap) (pre.length + 1) (vs ++ [.slice (some ⟨W.heap.size, 0, none⟩) 2 2])) (hgr : (W.alloc (.cells #[.int .i64 (x.1 : Int), .int .i64 (x.2 : Int)] 3)).grownBy w1 v.ownBlock) :
    KeepsFrom base W (w1.setCell ⟨n1, 0, none⟩ (.slice (some ⟨g, 0, none⟩) (pre.length + 1) cap)) ∧ KpX base n1 n1 W (w1.setCell ⟨n1, 0, none⟩ (.slice (some ⟨g, 0, none⟩) (pre.length + 1) cap)) ∧
      OcsI w n1 base (pre ++ [x]) (w1.setCell ⟨n1, 0, none⟩ (.slice (some ⟨g, 0, none⟩) (pre.length + 1) cap)) := by
  have hal := below_al W (.cells #[.int .i64 (x.1 : Int), .int .i64 (x.2 : Int)] 3)
  have hs1 : (W.alloc (.cells #[.int .i64 (x.1 : Int), .int .i64 (x.2 : Int)] 3)).heap.size = W.heap.size + 1 := by simp
  have hlt := hbx.lt
  have hte : 32 ≠ 51 := by decide
  have hown1 := own_below hown hal
  have hrow : ∀ r, v.ownBlock = some r → base ≤ r := fun r hr => (hown.lt r hr).1
  have hbx1 : Boxed w1 n1 32 v := (hbx.alloc _).kept hgr (hbx.not_row hte hown)
  have hvs : vs.length = pre.length := by have := hown.1; omega
  obtain ⟨k1, k2⟩ := keeps_box hgr hrow (own_cells hown1) hb (by omega) (.slice (some ⟨g, 0, none⟩) (pre.length + 1) cap)
  have k1' := keepsFrom_tr (keepsFrom_below (n := base) hal) k1
  have k2' := (kpX_below (n := base) (b1 := n1) (b2 := n1) hal hsiz).tr k2
  have hst : ∀ r, r ≠ n1 → r < W.heap.size → v.ownBlock ≠ some r → (w1.setCell ⟨n1, 0, none⟩ (.slice (some ⟨g, 0, none⟩) (pre.length + 1) cap)).heap[r]? = W.heap[r]? := fun r h1 h2 h3 => by
    rw [Below.heap_setCell _ _ _ _ (by simpa using h1)]
    exact (hgr.block r (by omega) (fun e => h3 e.symm)).trans (hal.block r h2)
  have hty : ∀ r cs, W.heap[r]? = some (.cells cs 3 (0, 0)) → v.ownBlock ≠ some r := fun r cs hh e => by
    rcases hown.2 with ⟨rfl, _⟩ | ⟨g', cap', cur, rfl, _, hgb, _⟩
    · cases e
    · cases e
      rw [hh] at hgb; cases hgb
  refine ⟨k1', k2', ⟨_, vs ++ [.slice (some ⟨W.heap.size, 0, none⟩) 2 2], hbx1.set _, ?_, ?_⟩, ?_, ?_, ?_, ?_⟩
  · have h := hown'.kept (grownBy_setCell' w1 n1 (.slice (some ⟨g, 0, none⟩) (pre.length + 1) cap)) (.inr (hbx1.not_row hte hown').symm)
    simpa using h
  · intro i p hi
    rcases Nat.lt_or_ge i pre.length with h5 | h5
    · rw [List.getElem?_append_left h5] at hi
      obtain ⟨r, g1, g2, g3⟩ := htw i p hi
      refine ⟨r, by rw [List.getElem?_append_left (by omega)]; exact g1, g2, ?_⟩
      refine (hst r (fun e => ?_) (Array.getElem?_eq_some_iff.1 g3).1 (hty r _ g3)).trans g3
      subst e
      have h6 : W.heap[r]? = _ := hbx
      rw [g3] at h6; cases h6
    · rw [List.getElem?_append_right h5] at hi
      have hz : i - pre.length = 0 := by
        have := (List.getElem?_eq_some_iff.1 hi).1
        simp at this; omega
      rw [hz] at hi
      have hi' : x = p := by simpa using hi
      subst hi'
      refine ⟨W.heap.size, by rw [List.getElem?_append_right (by omega), hvs, hz]; rfl, hbel.size, ?_⟩
      rw [Below.heap_setCell _ _ _ _ (by simp; omega)]
      refine (hgr.block W.heap.size (by omega) (fun e => ?_)).trans (heap_alloc_new W _)
      have := (hown.lt _ e.symm).2
      omega
  · exact (k2'.2 _ (by omega) (by omega) (by omega)).trans hres
  · exact (k2'.2 _ (by omega) (by omega) (by omega)).trans herr
  · exact ((below_tr hbel hal).grown hgr (below_tr hbel hal).size (fun k e => by have := hrow k e; omega)).setCell (p := ⟨n1, 0, none⟩) (by simp; omega) _
  · have := hgr.size
    simp [World.setCell]; omega
theorem results_cell2 {fn : Func} {p q : Tmp} {ty ty' : TypeId} (h : fn.results = #[.cell p ty, .cell q ty']) (tmps : Array Value) (P : Program) (w : World) :
    (results fn tmps).run P w =
      ((asAddr (tmps.getD p undef)).run P w).andThen fun a w₁ => ((loadVar ty a).run P w₁).andThen fun v w₂ => ((asAddr (tmps.getD q undef)).run P w₂).andThen fun a' w₃ => ((loadVar ty' a').run P w₃).andThen fun v' w₄ => .ok (.tuple #[v, v']) w₄ := by
  simp only [results, h]
  simp [Sem.run_bind, Result.andThen]
theorem OcsI.fin {w W : World} {base : Nat} {pre : List (Nat × Nat)} {v : Value} {vs : List Value} (hown : W.ownsRow base 51 1 v pre.length vs) (htw : Tws W w.heap.size pre vs)
    (hres : Row W w.heap.size #[.slice none 0 0] 32) (herr : Row W (w.heap.size + 1) #[.int .i64 0] 27) (hbel : Below w.heap.size w W) (hn : w.heap.size + 2 ≤ base) {D : Nat} {o : Obj} (o' : Obj) (hD : W.heap[D]? = some o) (ho : o.isCells = false) (hDw : w.heap.size ≤ D) :
    ((W.setCell ⟨w.heap.size, 0, none⟩ v).setCell ⟨w.heap.size + 1, 0, none⟩ (.int .i64 0)).heap[D]? = some o ∧
    Row (((W.setCell ⟨w.heap.size, 0, none⟩ v).setCell ⟨w.heap.size + 1, 0, none⟩ (.int .i64 0)).putObj D o') w.heap.size #[v] 32 ∧
    Row (((W.setCell ⟨w.heap.size, 0, none⟩ v).setCell ⟨w.heap.size + 1, 0, none⟩ (.int .i64 0)).putObj D o') (w.heap.size + 1) #[.int .i64 0] 27 ∧
    RdP (((W.setCell ⟨w.heap.size, 0, none⟩ v).setCell ⟨w.heap.size + 1, 0, none⟩ (.int .i64 0)).putObj D o') v pre ∧
    Below w.heap.size w (((W.setCell ⟨w.heap.size, 0, none⟩ v).setCell ⟨w.heap.size + 1, 0, none⟩ (.int .i64 0)).putObj D o') := by
  have hd1 : D ≠ w.heap.size := fun e => by
    subst e
    have h : W.heap[w.heap.size]? = _ := hres
    rw [hD] at h; cases h; cases ho
  have hd2 : D ≠ w.heap.size + 1 := fun e => by
    subst e
    have h : W.heap[w.heap.size + 1]? = _ := herr
    rw [hD] at h; cases h; cases ho
  have hD2 : ((W.setCell ⟨w.heap.size, 0, none⟩ v).setCell ⟨w.heap.size + 1, 0, none⟩ (.int .i64 0)).heap[D]? = some o := by
    rw [Below.heap_setCell _ _ _ _ (by simpa using hd2), Below.heap_setCell _ _ _ _ (by simpa using hd1)]; exact hD
  have hob : ∀ k, k < base → v.ownBlock ≠ some k := fun k hk e => by have := (hown.lt k e).1; omega
  have o1 := hown.kept (grownBy_setCell' W w.heap.size v) (.inr (hob _ (by omega)))
  have o2 := o1.kept (grownBy_setCell' _ (w.heap.size + 1) (.int .i64 0)) (.inr (hob _ (by omega)))
  have t1 := tws_grown htw (grownBy_setCell' W w.heap.size v) (fun r cs t e hh => by
    cases e
    have h : W.heap[w.heap.size]? = _ := hres
    rw [hh] at h; cases h; decide)
  have r1 := hres.set 0 v
  have r2 := herr.other ⟨w.heap.size, 0, none⟩ v (by simp)
  have t2 := tws_grown t1 (grownBy_setCell' _ (w.heap.size + 1) (.int .i64 0)) (fun r cs t e hh => by
    cases e
    have h : (W.setCell ⟨w.heap.size, 0, none⟩ v).heap[w.heap.size + 1]? = _ := r2
    rw [hh] at h; cases h; decide)
  have r3 := r1.other ⟨w.heap.size + 1, 0, none⟩ (.int .i64 0) (by simp)
  have r4 := r2.set 0 (.int .i64 0)
  have b2 := (hbel.setCell (p := ⟨w.heap.size, 0, none⟩) (by simp) v).setCell (p := ⟨w.heap.size + 1, 0, none⟩) (by simp) (.int .i64 0)
  generalize (W.setCell ⟨w.heap.size, 0, none⟩ v).setCell ⟨w.heap.size + 1, 0, none⟩ (.int .i64 0) = W2 at *
  have hg := grownBy_putObj' W2 D o'
  have hr2 : ∀ r, some D = some r → ∃ q : Obj, W2.heap[r]? = some q ∧ q.isCells = false := fun r e => by cases e; exact ⟨_, hD2, ho⟩
  refine ⟨hD2, r3.grown hg hr2, r4.grown hg hr2, rdP_of (base := base) (o2.kept hg ?_) (tws_grown t2 hg (fun r cs t e hh => ?_)), b2.grown hg b2.size (fun k e => by cases e; exact hDw)⟩
  · cases hq : v.ownBlock with
    | none => exact .inl rfl
    | some r =>
      refine .inr fun e => ?_
      cases e
      obtain ⟨q, hq1, hq2⟩ := own_cells o2 _ hq
      rw [hD2] at hq1; cases hq1; rw [ho] at hq2; cases hq2
  · cases e
    rw [hD2] at hh; cases hh; cases ho

/-- What a round leaves. -/
def bodyO (w : World) (n1 base : Nat) (pre : List (Nat × Nat)) (W : World) : Exit → Act → World → Prop
  | .normal, _, W' => KeepsFrom base W W' ∧ KpX base n1 n1 W W' ∧ OcsI w n1 base pre W'
  | _, _, _ => False
theorem infoSl43 : (Tryz.prog.info? 51).map (fun i => (i.zero, i.size, i.bytes)) = some (some (.slice none 0 0), 1, 24) := by kernel_rfl

set_option maxRecDepth 100000 in
set_option maxHeartbeats 2000000 in
theorem occs_any (ws : List ByteArray) (f l : ByteArray) (v : Value) (w : World) (he : Env w) (hr : RdS w v ws) (hz : ∀ s ∈ ws, s.size ≤ 65536) (hf : f.size ≤ 65536) (hl : l.size ≤ 65536) (hlen : ws.length ≤ 13) (hck : lcheckI ws = 0) (hlk : lemCk f l 0 = 0) :
    Calls Tryz.prog 10 #[v, .string f, .string l] w fun e w' => ∃ u, e = .returned (.tuple #[u, .int .i64 0]) ∧ RdP w' u (occ ws f l) ∧ Below w.heap.size w w' := by
  refine (callsIn_wide (n := 9)).1 ?_
  have HCK := fun w' (h : Below w.heap.size w w') => hid (lcheck_any v ws w' (he.below h) (hr.below h) hz)
  have HLK := fun w' (h : Below w.heap.size w w') => hid (lck_any f l 0 w' (he.below h) hf hl)
  rw [hck] at HCK
  rw [hlk] at HLK
  have HR := hid hr
  have hblk : ∀ b o c k, v = .slice (some ⟨b, o, none⟩) c k → 0 < ws.length → b < w.heap.size := by
    intro b o c k e hw
    obtain ⟨_, _, rfl, _, _, hcell⟩ := hr.open
    obtain ⟨s1, b1, o1, _, e2, hc1⟩ := hcell 0 hw
    subst e2
    cases e
    exact World.block_lt_of_cell? w _ hc1
  have hb0 := below_tr (below_al w (.cells #[.slice none 0 0] 32)) (below_al _ (.cells #[.int .i64 0] 27))
  have hr0 := (row_nw w #[.slice none 0 0] 32 rfl).al (.cells #[.int .i64 0] 27)
  have hr1 := row_nw (w.alloc (.cells #[.slice none 0 0] 32)) #[.int .i64 0] 27 (n := w.heap.size + 1) (by simp)
  obtain ⟨ad, cap, rfl, hlc, hcm, _⟩ := hr.open
  refine callsIn_of_wp_marks Tryz.func10 rfl trivial ?_ rfl
  simp only [Tryz.ntmps10, List.size_toArray, List.length_cons, List.length_nil, Nat.reduceAdd, Nat.reduceSub, Array.replicate_succ, Array.replicate_zero, List.push_toArray, List.append_toArray, List.nil_append, List.cons_append]
  refine wpIn_wide.2 ?_
  go_wp2_with fail
  generalize (w.alloc (.cells #[.slice none 0 0] 32)).alloc (.cells #[.int .i64 0] 27) = W1 at *
  refine (HCK _ hb0).out.mono ?_
  rintro e w2 ⟨rfl, hB1⟩
  have hb2 := below_tr hb0 hB1
  go_wp2_with fail
  refine (HLK _ hb2).out.mono ?_
  rintro e w3 ⟨rfl, hB3⟩
  have hb3 := below_tr hb2 hB3
  have hra := hid ((hr0.below hB1).below hB3)
  have hrb := hid ((hr1.below hB1).below hB3)
  have hsz2 : w.heap.size + 2 ≤ w3.heap.size := by have := hrb.out.lt; omega
  clear hb0 hr0 hr1 hB1 hb2 hB3 HCK HLK
  go_wp2_with fail
  have HI4 : Hid (OcsI w w3.heap.size (w3.heap.size + 4) [] (((((w3.alloc (.cells #[.slice none 0 0] 32)).alloc (.cells #[.slice ad ws.length cap] 24)).alloc (.cells #[.string f] 9)).alloc (.cells #[.string l] 9)))) := by
    have hb4 := below_tr (below_al w3 (.cells #[.slice none 0 0] 32)) (below_tr (below_al _ (.cells #[.slice ad ws.length cap] 24)) (below_tr (below_al _ (.cells #[.string f] 9)) (below_al _ (.cells #[.string l] 9))))
    refine ⟨⟨_, [], (((Boxed.new w3 _ _).alloc _).alloc _).alloc _, World.ownsRow_nil _ _ _ _, fun i p h => by simp at h⟩, hra.out.below hb4, hrb.out.below hb4, below_tr hb3 hb4, by simp⟩
  have HR4 := hid (HR.out.below (below_tr hb3 (below_al w3 (.cells #[.slice none 0 0] 32))))
  have hs4 : (w3.alloc (.cells #[.slice none 0 0] 32)).heap.size = w3.heap.size + 1 := by simp
  clear hra hrb HR
  generalize hW4 : w3.alloc (.cells #[.slice none 0 0] 32) = W4 at *
  clear hW4
  refine (occurrences_any _ _ _ _ _ _).mono ?_
  rintro e w4 ⟨rfl, rfl⟩
  have hb6 : Below W4.heap.size W4 (((W4.alloc (.cells #[.slice ad ws.length cap] 24)).alloc (.cells #[.string f] 9)).alloc (.cells #[.string l] 9)) := below_tr (below_al _ _) (below_tr (below_al _ _) (below_al _ _))
  have HM6 : Hid (OccM W4.heap.size (W4.heap.size + 1) (W4.heap.size + 2) ad cap ws f l (((W4.alloc (.cells #[.slice ad ws.length cap] 24)).alloc (.cells #[.string f] 9)).alloc (.cells #[.string l] 9))) := by
    refine ⟨cell_al (cell_al (cell_nw _ _ _ 0 rfl) _) _, cell_al (cell_nwE _ _ _ 0 (by simp) rfl) _, cell_nwE _ _ _ 0 (by simp) rfl, HR4.out.below hb6⟩
  have hs6 : (((W4.alloc (.cells #[.slice ad ws.length cap] 24)).alloc (.cells #[.string f] 9)).alloc (.cells #[.string l] 9)).heap.size = w3.heap.size + 4 := by simp; omega
  rw [hs4] at HM6 ⊢
  clear HR4 hb6
  go_wp2_with fail
  generalize (((W4.alloc (.cells #[.slice ad ws.length cap] 24)).alloc (.cells #[.string f] 9)).alloc (.cells #[.string l] 9)) = W6 at *
  generalize w3.heap.size = n1 at *
  have hol : (occ ws f l).length ≤ 182 := occ_len hlen _ _
  have HOL := hid hol
  refine (wpIn_wide (n := 9)).1 ?_
  refine wpIn_rangeFunc_ownG rfl (by omega) (gf := 34) (lb := #[.pointer (some ⟨n1 + 1, 0, none⟩), .pointer (some ⟨n1 + 1 + 1, 0, none⟩), .pointer (some ⟨n1 + 1 + 2, 0, none⟩)]) rfl trivial (enters_of Tryz.func34 (by kernel_rfl) rfl)
    (encs := fun x : Nat × Nat => #[.int .i64 (x.1 : Int), .int .i64 (x.2 : Int)]) (Kp := KpX W6.heap.size n1 n1)
    (S := fun l2 => l2 = occ ws f l) (Sp := fun l2 => ∃ r, l2 ++ r = occ ws f l) (N := 182) (w0 := W6)
    ?hseq (fun h k => h.tr k) (KpX.put (Nat.le_refl _)) (Below.refl _ _) (fun _ => rfl)
    (fun pre W => OcsI w n1 (n1 + 4) pre W)
    (fun _ _ _ => False)
    ?own (fun _ _ _ _ _ h _ _ => h) HI4.out ?a1 ?assign ?body ?done ?stop
  case own =>
    intro pre A B row hs2 hg hr
    exact hs2.grown hg (fun r e => ⟨by have := (hr r e).1; omega, (hr r e).2⟩)
  case assign =>
    intro l x W' K hK
    gi_wp2
    exact hK
  case hseq =>
    intro yl J Jx W' hW' hJ hJx hY h0
    refine (occs1_in (9 - 1) (by omega) ws f l _ cap (n1 + 1) (n1 + 1 + 1) (n1 + 1 + 2) 182 (by omega) HOL.out (KpX W6.heap.size n1 n1)
      (fun A B hk hM => ⟨hk.cell hM.cw (show n1 + 1 < _ by omega) (show n1 + 1 ≠ n1 by omega) (show n1 + 1 ≠ n1 by omega), hk.cell hM.cf (show n1 + 1 + 1 < _ by omega) (show n1 + 1 + 1 ≠ n1 by omega) (show n1 + 1 + 1 ≠ n1 by omega), hk.cell hM.cl (show n1 + 1 + 2 < _ by omega) (show n1 + 1 + 2 ≠ n1 by omega) (show n1 + 1 + 2 ≠ n1 by omega), rd_keep hM.rd (fun b hb => hk.2 b (by omega) (by omega) (by omega)) (fun hw b o e => hblk b o _ _ (by rw [e]) hw)⟩)
      yl J Jx hY W' hJ (HM6.out.below hW') h0).mono ?_
    rintro e W3 ⟨h1, h2⟩
    exact ⟨h1, h2.imp (fun j => ⟨_, rfl, j⟩) (fun h => h)⟩
  case body =>
    rintro yl pre x W' ⟨⟨v, vs, hv, hown, htw⟩, hres, herr, hBb, hn0⟩ hpl
    have HPU := fun (g cap : Nat) (w1 : World) h1 h2 => hid (OcsI.push (g := g) (cap := cap) (w1 := w1) (x := x) hv hown htw hres herr hBb hn0 hsz2 (by omega) h1 h2)
    refine wpIn_mono (Q := bodyO w n1 (n1 + 4) (pre ++ [x]) W') ?_ (fun e a' w' h => by
      cases e <;> first | exact h.elim | (rw [hs6]; exact ⟨h.1, h.2.1, h.2.2⟩))
    have hc := hv.cell
    have hc2 := cell_al hc (.cells #[.int .i64 (x.1 : Int), .int .i64 (x.2 : Int)] 3)
    have hte : 32 ≠ 51 := by decide
    have hown1 := own_below hown (below_al W' (.cells #[.int .i64 (x.1 : Int), .int .i64 (x.2 : Int)] 3))
    have hq : ((pre.length : Int) == 65536) = false := by simp; omega
    have hq2 : ¬ (pre.length : Int) = 65536 := by omega
    obtain ⟨adv, capv, rfl⟩ : ∃ a c, v = .slice a pre.length c := by
      rcases hown.2 with ⟨rfl, h0⟩ | ⟨g, c, cur, rfl, _⟩
      · rw [h0]; exact ⟨_, _, rfl⟩
      · exact ⟨_, _, rfl⟩
    gi_wp2_with (gi_at_builtin; refine wpListIn_ap2 rfl _ _ 32 rfl (n1 + 4) 51 Tryz.underlying32 infoSl43 rfl (by decide) (by decide) _ _ _ rfl hown1 [.slice (some ⟨W'.heap.size, 0, none⟩) 2 2] rfl (by simp [Value.oneCell']) rfl (by simp) (by omega) (by simp; omega) ?_; intro g1 cap1 w1 hown' hb1 hgr hat _; have hv1 := (hv.alloc (.cells #[.int .i64 (x.1 : Int), .int .i64 (x.2 : Int)] 3)).kept hgr (hv.not_row hte hown); have hc1 := hv1.cell; have hf1 := hv1.frozen; have HP := HPU g1 cap1 w1 hown' hgr)
    exact HP.out
  case done =>
    rintro D ys W' hD rfl ⟨⟨v, vs, hv, hown, htw⟩, hres, herr, hBb, hn0⟩ hK
    have hc := hv.cell
    have c0 := hres.cell 0 rfl
    have c1 := hres.frozen 0
    have d0 := fun u => (hres.set 0 u).frozen 0
    have e0 := fun u => (herr.other ⟨w.heap.size, 0, none⟩ u (by simp)).cell 0 rfl
    have e1 := fun u => (herr.other ⟨w.heap.size, 0, none⟩ u (by simp)).frozen 0
    have HRD := hid (rdP_of hown htw)
    have hne2 := hv.not_row (show 32 ≠ 51 by decide) hown
    obtain ⟨adv, capv, rfl⟩ : ∃ a c, v = .slice a (occ ws f l).length c := by
      rcases hown.2 with ⟨rfl, h0⟩ | ⟨g, c, cur, rfl, _⟩
      · rw [h0]; exact ⟨_, _, rfl⟩
      · exact ⟨_, _, rfl⟩
    have HFN := fun o' (hDw : w.heap.size ≤ D) => hid (OcsI.fin hown htw hres herr hBb (by omega) o' hK rfl hDw)
    clear htw
    go_wp2_with fail
    refine ⟨by simp, .inl ⟨_, _, rfl, run_takeDeferred (HFN (.deferred none) (by omega)).out.1, ?_⟩⟩
    obtain ⟨g1, g2, g3, g4, g5⟩ := (HFN (.deferred none) (by omega)).out
    have q1 := g2.cell 0 rfl
    have q2 := g3.cell 0 rfl
    clear HFN
    refine ⟨.tuple #[.slice adv (occ ws f l).length capv, .int .i64 0], (results_cell2 rfl _ _ _).trans ?_, ⟨_, rfl, g4, g5⟩⟩
    simp [asAddr, undef, Sem.run_pure, Sem.run_bind, Result.andThen, loadVar, isAgg, run_underlying Tryz.underlying32, run_underlying Tryz.underlying27, q1, q2]
  case stop =>
    rintro D c pre W' _ _ h _
    exact h.elim
end Go.Proofs.YtmbehkanhefcpaaGreatDoor
