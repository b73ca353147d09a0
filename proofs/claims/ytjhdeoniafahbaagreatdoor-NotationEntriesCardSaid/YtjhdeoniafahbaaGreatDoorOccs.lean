/-
  lemma.Occurrences.
-/
import Derived.Test.YtjhdeoniafahbaaGreatDoorJ05
namespace Go.Proofs.YtjhdeoniafahbaaGreatDoor
open Go.RowKit
attribute [local go_sem] Oper.semAt_some

/-- The slice value v reads as rows of two. -/
def RdP (W : World) (v : Value) (l : List (Nat × Nat)) : Prop :=
  ∃ a cap, v = .slice a l.length cap ∧ l.length ≤ cap ∧ cap ≤ maxLen ∧ ∀ i p, l[i]? = some p → ∃ b off r, a = some ⟨b, off, none⟩ ∧ W.cell? ⟨b, off + i, none⟩ = some (.slice (some ⟨r, 0, none⟩) 2 2) ∧ W.cell? ⟨r, 0, none⟩ = some (.int .i64 (p.1 : Int)) ∧ W.cell? ⟨r, 1, none⟩ = some (.int .i64 (p.2 : Int))
theorem RdP.below {W W' : World} {v : Value} {l : List (Nat × Nat)} (h : RdP W v l) (hb : Below W.heap.size W W') : RdP W' v l := by
  obtain ⟨a, cap, h1, h2, h3, h4⟩ := h
  refine ⟨a, cap, h1, h2, h3, fun i p hi => ?_⟩
  obtain ⟨b, off, r, e, hc, h5, h6⟩ := h4 i p hi
  exact ⟨b, off, r, e, Below.keeps hb _ _ hc, Below.keeps hb _ _ h5, Below.keeps hb _ _ h6⟩
theorem RdP.open {W : World} {v : Value} {l : List (Nat × Nat)} (h : RdP W v l) : ∃ a cap, v = .slice a l.length cap ∧ l.length ≤ cap ∧ cap ≤ 9223372036854775807 ∧ ∀ i, i < l.length → ∃ p b off r, l[i]? = some p ∧ a = some ⟨b, off, none⟩ ∧ W.cell? ⟨b, off + i, none⟩ = some (.slice (some ⟨r, 0, none⟩) 2 2) ∧ W.cell? ⟨r, 0, none⟩ = some (.int .i64 (p.1 : Int)) ∧ W.cell? ⟨r, 1, none⟩ = some (.int .i64 (p.2 : Int)) := by
  obtain ⟨a, cap, h1, h2, h3, h4⟩ := h
  refine ⟨a, cap, h1, h2, h3, fun i hi => ?_⟩
  obtain ⟨b, off, r, e, hc, hr⟩ := h4 i l[i] (by simp [hi])
  exact ⟨l[i], b, off, r, by simp [hi], e, hc, hr⟩

/-- The rows that came, each in a block of its own. -/
def Tws (W : World) (n₀ : Nat) (pre : List (Nat × Nat)) (vs : List Value) : Prop :=
  ∀ (i : Nat) (p : Nat × Nat), pre[i]? = some p → ∃ r, vs[i]? = some (Value.slice (some ⟨r, 0, none⟩) 2 2) ∧ n₀ ≤ r ∧ W.heap[r]? = some (.cells #[.int .i64 (p.1 : Int), .int .i64 (p.2 : Int)] 3 (0, 0))
theorem rdP_of {W : World} {n₀ base : Nat} {pre : List (Nat × Nat)} {vs : List Value} {v : Value} (hown : W.ownsRow base 22 1 v pre.length vs) (ht : Tws W n₀ pre vs) : RdP W v pre := by
  have hl : vs.length = pre.length := by have := hown.1; omega
  have hr : Rd id W v vs := Rd.of_own (by rw [hl, List.map_id]; exact hown)
  obtain ⟨a, cap, h1, h2, h3, h4⟩ := hr
  refine ⟨a, cap, by rw [h1, hl], by omega, h3, fun i p hi => ?_⟩
  obtain ⟨r, g1, _, g3⟩ := ht i p hi
  obtain ⟨b, off, e, hc⟩ := h4 i _ g1
  exact ⟨b, off, r, e, hc, by rw [cell_of_row W r 0 _ _ _ g3]; rfl, by rw [cell_of_row W r 1 _ _ _ g3]; rfl⟩

structure OcsI (w : World) (n1 base : Nat) (pre : List (Nat × Nat)) (W : World) : Prop where
  box : ∃ v vs, Boxed W n1 112 v ∧ W.ownsRow base 22 1 v pre.length vs ∧ Tws W w.heap.size pre vs
  res : Row W w.heap.size #[.slice none 0 0] 112
  err : Row W (w.heap.size + 1) #[.int .i64 0] 35
  bel : Below w.heap.size w W
  siz : base ≤ W.heap.size
theorem tws_grown {W W' : World} {n₀ : Nat} {pre : List (Nat × Nat)} {vs : List Value} {row : Option Nat} (h : Tws W n₀ pre vs) (hg : W.grownBy W' row) (hr : ∀ r cs t, row = some r → W.heap[r]? = some (.cells cs t (0, 0)) → t ≠ 3) : Tws W' n₀ pre vs := by
  intro i p hi
  obtain ⟨r, h1, h2, h3⟩ := h i p hi
  exact ⟨r, h1, h2, (hg.block r (Array.getElem?_eq_some_iff.1 h3).1 (fun e => hr r _ _ e.symm h3 rfl)).trans h3⟩
theorem OcsI.grown {w W W' : World} {n1 base : Nat} {pre : List (Nat × Nat)} {row : Option Nat} (h : OcsI w n1 base pre W) (hg : W.grownBy W' row) (hr : ∀ r, row = some r → w.heap.size ≤ r ∧ ∃ o : Obj, W.heap[r]? = some o ∧ o.isCells = false) : OcsI w n1 base pre W' := by
  have hr2 := fun r e => (hr r e).2
  obtain ⟨⟨v, vs, h1, h2, h3⟩, h4, h5, h6, h7⟩ := h
  refine ⟨⟨v, vs, Row.grown h1 hg hr2, ?_, tws_grown h3 hg (fun r cs t e hh => ?_)⟩, h4.grown hg hr2, h5.grown hg hr2, h6.grown hg h6.size (fun k e => (hr k e).1), Nat.le_trans h7 hg.size⟩
  · refine h2.kept hg ?_
    cases hob : v.ownBlock with
    | none => exact .inl rfl
    | some r =>
      refine .inr fun e => ?_
      obtain ⟨o, ho, hc⟩ := hr2 r e.symm
      obtain ⟨o', ho', hc'⟩ := own_cells h2 r hob
      rw [ho] at ho'; cases ho'; rw [hc] at hc'; cases hc'
  · obtain ⟨o, ho, hc⟩ := hr2 r e
    rw [hh] at ho; cases ho; cases hc

/-- Behind 'out = append(out, []int{i, k})'. -/
theorem OcsI.push {w W w1 : World} {n1 base : Nat} {pre : List (Nat × Nat)} {v : Value} {vs : List Value} {g cap : Nat} {x : Nat × Nat} (hbx : Boxed W n1 112 v) (hown : W.ownsRow base 22 1 v pre.length vs) (htw : Tws W w.heap.size pre vs)
    (hres : Row W w.heap.size #[.slice none 0 0] 112) (herr : Row W (w.heap.size + 1) #[.int .i64 0] 35) (hbel : Below w.heap.size w W) (hsiz : base ≤ W.heap.size) (hn : w.heap.size + 2 ≤ n1) (hb : n1 < base)
    (hown' : w1.ownsRow base 22 1 (.slice (some ⟨g, 0, none⟩) (pre.length + 1) cap) (pre.length + 1) (vs ++ [.slice (some ⟨W.heap.size, 0, none⟩) 2 2])) (hgr : (W.alloc (.cells #[.int .i64 (x.1 : Int), .int .i64 (x.2 : Int)] 3)).grownBy w1 v.ownBlock) :
    KeepsFrom base W (w1.setCell ⟨n1, 0, none⟩ (.slice (some ⟨g, 0, none⟩) (pre.length + 1) cap)) ∧ KpX base n1 n1 W (w1.setCell ⟨n1, 0, none⟩ (.slice (some ⟨g, 0, none⟩) (pre.length + 1) cap)) ∧
      OcsI w n1 base (pre ++ [x]) (w1.setCell ⟨n1, 0, none⟩ (.slice (some ⟨g, 0, none⟩) (pre.length + 1) cap)) := by
  have hal := below_al W (.cells #[.int .i64 (x.1 : Int), .int .i64 (x.2 : Int)] 3)
  have hs1 : (W.alloc (.cells #[.int .i64 (x.1 : Int), .int .i64 (x.2 : Int)] 3)).heap.size = W.heap.size + 1 := by simp
  have hlt := hbx.lt
  have hte : 112 ≠ 22 := by decide
  have hown1 := own_below hown hal
  have hrow : ∀ r, v.ownBlock = some r → base ≤ r := fun r hr => (hown.lt r hr).1
  have hbx1 : Boxed w1 n1 112 v := (hbx.alloc _).kept hgr (hbx.not_row hte hown)
  have hvs : vs.length = pre.length := by have := hown.1; omega
  obtain ⟨k1, k2⟩ := keeps_box hgr hrow (own_cells hown1) hb (by omega) (.slice (some ⟨g, 0, none⟩) (pre.length + 1) cap)
  have k1' := keepsFrom_tr (keepsFrom_below (n := base) hal) k1
  have k2' := (kpX_below (n := base) (b1 := n1) (b2 := n1) hal hsiz).tr k2
  have hst : ∀ r, r ≠ n1 → r < W.heap.size → v.ownBlock ≠ some r → (w1.setCell ⟨n1, 0, none⟩ (.slice (some ⟨g, 0, none⟩) (pre.length + 1) cap)).heap[r]? = W.heap[r]? := fun r h1 h2 h3 => by
    rw [Below.heap_setCell _ _ _ _ (by simpa using h1)]
    exact (hgr.block r (by omega) (fun e => h3 e.symm)).trans (hal.block r h2)
  have hty : ∀ r cs, W.heap[r]? = some (.cells cs 3 (0, 0)) → v.ownBlock ≠ some r := fun r cs hh e => by
    rcases hown.2 with ⟨rfl, _⟩ | ⟨g', cap', cur, rfl, _, hgb, _⟩
    · cases e
    · cases e
      rw [hh] at hgb; cases hgb
  refine ⟨k1', k2', ⟨_, vs ++ [.slice (some ⟨W.heap.size, 0, none⟩) 2 2], hbx1.set _, ?_, ?_⟩, ?_, ?_, ?_, ?_⟩
  · have h := hown'.kept (grownBy_setCell' w1 n1 (.slice (some ⟨g, 0, none⟩) (pre.length + 1) cap)) (.inr (hbx1.not_row hte hown').symm)
    simpa using h
  · intro i p hi
    rcases Nat.lt_or_ge i pre.length with h5 | h5
    · rw [List.getElem?_append_left h5] at hi
      obtain ⟨r, g1, g2, g3⟩ := htw i p hi
      refine ⟨r, by rw [List.getElem?_append_left (by omega)]; exact g1, g2, ?_⟩
      refine (hst r (fun e => ?_) (Array.getElem?_eq_some_iff.1 g3).1 (hty r _ g3)).trans g3
      subst e
      have h6 : W.heap[r]? = _ := hbx
      rw [g3] at h6; cases h6
    · rw [List.getElem?_append_right h5] at hi
      have hz : i - pre.length = 0 := by
        have := (List.getElem?_eq_some_iff.1 hi).1
        simp at this; omega
      rw [hz] at hi
      have hi' : x = p := by simpa using hi
      subst hi'
      refine ⟨W.heap.size, by rw [List.getElem?_append_right (by omega), hvs, hz]; rfl, hbel.size, ?_⟩
      rw [Below.heap_setCell _ _ _ _ (by simp; omega)]
      refine (hgr.block W.heap.size (by omega) (fun e => ?_)).trans (heap_alloc_new W _)
      have := (hown.lt _ e.symm).2
      omega
  · exact (k2'.2 _ (by omega) (by omega) (by omega)).trans hres
  · exact (k2'.2 _ (by omega) (by omega) (by omega)).trans herr
  · exact ((below_tr hbel hal).grown hgr (below_tr hbel hal).size (fun k e => by have := hrow k e; omega)).setCell (p := ⟨n1, 0, none⟩) (by simp; omega) _
  · have := hgr.size
    simp [World.setCell]; omega
theorem results_cell2 {fn : Func} {p q : Tmp} {ty ty' : TypeId} (h : fn.results = #[.cell p ty, .cell q ty']) (tmps : Array Value) (P : Program) (w : World) :
    (results fn tmps).run P w =
      ((asAddr (tmps.getD p undef)).run P w).andThen fun a w₁ => ((loadVar ty a).run P w₁).andThen fun v w₂ => ((asAddr (tmps.getD q undef)).run P w₂).andThen fun a' w₃ => ((loadVar ty' a').run P w₃).andThen fun v' w₄ => .ok (.tuple #[v, v']) w₄ := by
  simp only [results, h]
  simp [Sem.run_bind, Result.andThen]
theorem OcsI.fin {w W : World} {base : Nat} {pre : List (Nat × Nat)} {v : Value} {vs : List Value} (hown : W.ownsRow base 22 1 v pre.length vs) (htw : Tws W w.heap.size pre vs)
    (hres : Row W w.heap.size #[.slice none 0 0] 112) (herr : Row W (w.heap.size + 1) #[.int .i64 0] 35) (hbel : Below w.heap.size w W) (hn : w.heap.size + 2 ≤ base) {D : Nat} {o : Obj} (o' : Obj) (hD : W.heap[D]? = some o) (ho : o.isCells = false) (hDw : w.heap.size ≤ D) :
    ((W.setCell ⟨w.heap.size, 0, none⟩ v).setCell ⟨w.heap.size + 1, 0, none⟩ (.int .i64 0)).heap[D]? = some o ∧
    Row (((W.setCell ⟨w.heap.size, 0, none⟩ v).setCell ⟨w.heap.size + 1, 0, none⟩ (.int .i64 0)).putObj D o') w.heap.size #[v] 112 ∧
    Row (((W.setCell ⟨w.heap.size, 0, none⟩ v).setCell ⟨w.heap.size + 1, 0, none⟩ (.int .i64 0)).putObj D o') (w.heap.size + 1) #[.int .i64 0] 35 ∧
    RdP (((W.setCell ⟨w.heap.size, 0, none⟩ v).setCell ⟨w.heap.size + 1, 0, none⟩ (.int .i64 0)).putObj D o') v pre ∧
    Below w.heap.size w (((W.setCell ⟨w.heap.size, 0, none⟩ v).setCell ⟨w.heap.size + 1, 0, none⟩ (.int .i64 0)).putObj D o') := by
  have hd1 : D ≠ w.heap.size := fun e => by
    subst e
    have h : W.heap[w.heap.size]? = _ := hres
    rw [hD] at h; cases h; cases ho
  have hd2 : D ≠ w.heap.size + 1 := fun e => by
    subst e
    have h : W.heap[w.heap.size + 1]? = _ := herr
    rw [hD] at h; cases h; cases ho
  have hD2 : ((W.setCell ⟨w.heap.size, 0, none⟩ v).setCell ⟨w.heap.size + 1, 0, none⟩ (.int .i64 0)).heap[D]? = some o := by
    rw [Below.heap_setCell _ _ _ _ (by simpa using hd2), Below.heap_setCell _ _ _ _ (by simpa using hd1)]; exact hD
  have hob : ∀ k, k < base → v.ownBlock ≠ some k := fun k hk e => by have := (hown.lt k e).1; omega
  have o1 := hown.kept (grownBy_setCell' W w.heap.size v) (.inr (hob _ (by omega)))
  have o2 := o1.kept (grownBy_setCell' _ (w.heap.size + 1) (.int .i64 0)) (.inr (hob _ (by omega)))
  have t1 := tws_grown htw (grownBy_setCell' W w.heap.size v) (fun r cs t e hh => by
    cases e
    have h : W.heap[w.heap.size]? = _ := hres
    rw [hh] at h; cases h; decide)
  have r1 := hres.set 0 v
  have r2 := herr.other ⟨w.heap.size, 0, none⟩ v (by simp)
  have t2 := tws_grown t1 (grownBy_setCell' _ (w.heap.size + 1) (.int .i64 0)) (fun r cs t e hh => by
    cases e
    have h : (W.setCell ⟨w.heap.size, 0, none⟩ v).heap[w.heap.size + 1]? = _ := r2
    rw [hh] at h; cases h; decide)
  have r3 := r1.other ⟨w.heap.size + 1, 0, none⟩ (.int .i64 0) (by simp)
  have r4 := r2.set 0 (.int .i64 0)
  have b2 := (hbel.setCell (p := ⟨w.heap.size, 0, none⟩) (by simp) v).setCell (p := ⟨w.heap.size + 1, 0, none⟩) (by simp) (.int .i64 0)
  generalize (W.setCell ⟨w.heap.size, 0, none⟩ v).setCell ⟨w.heap.size + 1, 0, none⟩ (.int .i64 0) = W2 at *
  have hg := grownBy_putObj' W2 D o'
  have hr2 : ∀ r, some D = some r → ∃ q : Obj, W2.heap[r]? = some q ∧ q.isCells = false := fun r e => by cases e; exact ⟨_, hD2, ho⟩
  refine ⟨hD2, r3.grown hg hr2, r4.grown hg hr2, rdP_of (base := base) (o2.kept hg ?_) (tws_grown t2 hg (fun r cs t e hh => ?_)), b2.grown hg b2.size (fun k e => by cases e; exact hDw)⟩
  · cases hq : v.ownBlock with
    | none => exact .inl rfl
    | some r =>
      refine .inr fun e => ?_
      cases e
      obtain ⟨q, hq1, hq2⟩ := own_cells o2 _ hq
      rw [hD2] at hq1; cases hq1; rw [ho] at hq2; cases hq2
  · cases e
    rw [hD2] at hh; cases hh; cases ho

/-- What a round leaves. -/
def bodyO (w : World) (n1 base : Nat) (pre : List (Nat × Nat)) (W : World) : Exit → Act → World → Prop
  | .normal, _, W' => KeepsFrom base W W' ∧ KpX base n1 n1 W W' ∧ OcsI w n1 base pre W'
  | _, _, _ => False
theorem infoSl43 : (Tryz.prog.info? 22).map (fun i => (i.zero, i.size, i.bytes)) = some (some (.slice none 0 0), 1, 24) := by kernel_rfl

end Go.Proofs.YtjhdeoniafahbaaGreatDoor
