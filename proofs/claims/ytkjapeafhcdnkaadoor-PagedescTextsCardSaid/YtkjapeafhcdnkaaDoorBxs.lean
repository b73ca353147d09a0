/-
  pagedesc.Boxes.
-/
import Derived.Test.YtkjapeafhcdnkaaDoorBxI
import Derived.Test.YtkjapeafhcdnkaaDoorRfq
namespace Go.Proofs.YtkjapeafhcdnkaaDoor
open Go.RowKit
attribute [local go_sem] Oper.semAt_some

def ofK (kind : Int) (b : Bx) : Bool := decide (b.kind = kind)
/-- Between two rounds: the box B holds a slice that owns its row of boxes, made behind the block n₁. -/
def InvB (wr : World) (n₁ B : Nat) (t e : TypeId) (ks : List Bx) (W : World) : Prop :=
  (∃ v, Boxed W B t v ∧ W.ownsRow n₁ e 6 v ks.length (boxCs ks)) ∧ Below wr.heap.size wr W ∧ n₁ ≤ W.heap.size
theorem InvB.own {β : Type} (wr : World) (n₁ B : Nat) (t e : TypeId) (B' : Nat) (f : β → List Bx) (hw : wr.heap.size ≤ B') : OwnFrom B' (fun s W => InvB wr n₁ B t e (f s) W) := by
  intro s W W' row hs hg hr
  obtain ⟨⟨v, h1, h2⟩, h7, h8⟩ := hs
  obtain ⟨v', h1', h2', _⟩ := holdsRow_own n₁ B t e 6 (fun s => (f s).length) (fun s => boxCs (f s)) (fun _ _ => True) s W W' row ⟨v, h1, h2, trivial⟩ hg (fun r e => (hr r e).2)
  exact ⟨⟨v', h1', h2'⟩, h7.grown hg h7.size (fun k e => Nat.le_trans hw (hr k e).1), Nat.le_trans h8 hg.size⟩
theorem InvB.below {wr : World} {n₁ B : Nat} {t e : TypeId} {ks : List Bx} {W W' : World} (h : InvB wr n₁ B t e ks W) (hb : Below W.heap.size W W') : InvB wr n₁ B t e ks W' := by
  obtain ⟨⟨v, h1, h2⟩, h7, h8⟩ := h
  exact ⟨⟨v, (hb.block B h1.lt).trans h1, own_below h2 hb⟩, h7.trans (hb.mono h7.size), Nat.le_trans h8 hb.size⟩
/-- What a round leaves. -/
def bodyB (wr : World) (n₁ B : Nat) (t e : TypeId) (ks : List Bx) (W : World) : Exit → Act → World → Prop
  | .normal, _, W' => KeepsFrom n₁ W W' ∧ KpX n₁ B B W W' ∧ InvB wr n₁ B t e ks W'
  | _, _, _ => False
theorem bodyB_quiet {wr : World} {n₁ B : Nat} {t e : TypeId} {ks : List Bx} {W W' : World} (h : InvB wr n₁ B t e ks W) (hb : Below W.heap.size W W') : KeepsFrom n₁ W W' ∧ KpX n₁ B B W W' ∧ InvB wr n₁ B t e ks W' :=
  ⟨keepsFrom_below hb, kpX_below hb h.2.2, h.below hb⟩
/-- Behind 'out = append(out, x)'. -/
theorem InvB.push {wr : World} {n₁ B : Nat} {t e : TypeId} {ks : List Bx} {W w1 : World} {v : Value} {g cap : Nat} {x : Bx} (hbx : Boxed W B t v) (hte : t ≠ e) (hown : W.ownsRow n₁ e 6 v ks.length (boxCs ks)) (hBw : Below wr.heap.size wr W) (hn : n₁ ≤ W.heap.size)
    (hB : B < n₁) (hwB : wr.heap.size ≤ B) (hown' : w1.ownsRow n₁ e 6 (.slice (some ⟨g, 0, none⟩) (ks.length + 1) cap) (ks.length + 1) (boxCs ks ++ x.cl)) (hgr : W.grownBy w1 v.ownBlock) :
    KeepsFrom n₁ W (w1.setCell ⟨B, 0, none⟩ (.slice (some ⟨g, 0, none⟩) (ks.length + 1) cap)) ∧ KpX n₁ B B W (w1.setCell ⟨B, 0, none⟩ (.slice (some ⟨g, 0, none⟩) (ks.length + 1) cap)) ∧
      InvB wr n₁ B t e (ks ++ [x]) (w1.setCell ⟨B, 0, none⟩ (.slice (some ⟨g, 0, none⟩) (ks.length + 1) cap)) := by
  have hv1 : Boxed w1 B t v := hbx.kept hgr (hbx.not_row hte hown)
  obtain ⟨k1, k2⟩ := keeps_box hgr (fun r hr => (hown.lt r hr).1) (own_cells hown) hB hn (.slice (some ⟨g, 0, none⟩) (ks.length + 1) cap)
  refine ⟨k1, k2, ⟨_, hv1.set _, ?_⟩, ?_, ?_⟩
  · have h := hown'.kept (grownBy_setCell' w1 B (.slice (some ⟨g, 0, none⟩) (ks.length + 1) cap)) (.inr (hv1.not_row hte hown').symm)
    rw [boxCs_snoc, List.length_append]; exact h
  · exact (hBw.grown hgr hBw.size (fun k e => by have := (hown.lt k e).1; omega)).setCell (p := ⟨B, 0, none⟩) hwB _
  · have := hgr.size
    simp [World.setCell]; omega
theorem InvB.tr {wr : World} {n₁ B : Nat} {t e : TypeId} {ks : List Bx} {W0 W W' : World} (hb : Below W0.heap.size W0 W) (hn : n₁ ≤ W0.heap.size) (h : KeepsFrom n₁ W W' ∧ KpX n₁ B B W W' ∧ InvB wr n₁ B t e ks W') :
    KeepsFrom n₁ W0 W' ∧ KpX n₁ B B W0 W' ∧ InvB wr n₁ B t e ks W' := by
  refine ⟨⟨Nat.le_trans hb.size h.1.1, fun k o hk ho hc => ?_⟩, (kpX_below hb hn).tr h.2.1, h.2.2⟩
  exact h.1.2 k o hk ((hb.block k (Array.getElem?_eq_some_iff.1 ho).1).trans ho) hc

set_option maxRecDepth 100000 in
set_option maxHeartbeats 4000000 in
theorem pboxes_any (v : Value) (l : List Pg) (kind : Int) (w : World) (hr : RdPg w v l) (ht : (l.flatMap Pg.bx).length ≤ 1000000) :
    Calls Tryd.prog 25 #[v, .int .i64 kind] w fun e w' => ∃ u, e = .returned u ∧ RdB w' u ((l.flatMap Pg.bx).filter (ofK kind)) ∧ Below w.heap.size w w' := by
  refine (callsIn_wide (n := 9)).1 ?_
  have HT : Hid ((bxFrom 0 l).length ≤ 1000000) := by
    have h := congrArg List.length (bxFrom_app 0 l)
    rw [List.length_map] at h
    show _ ≤ _
    omega
  have HR := hid hr
  obtain ⟨a, cap, rfl, hlc, hcm, _⟩ := hr.open
  have hb1 := below_al w (.cells #[.int .i64 kind] 3)
  have hb2 := below_al (w.alloc (.cells #[.int .i64 kind] 3)) (.cells #[.slice none 0 0] 32)
  have hb3 := below_al ((w.alloc (.cells #[.int .i64 kind] 3)).alloc (.cells #[.slice none 0 0] 32)) (.cells #[.slice a l.length cap] 22)
  have hx3 := (Boxed.new (w.alloc (.cells #[.int .i64 kind] 3)) 32 (.slice none 0 0)).alloc (.cells #[.slice a l.length cap] 22)
  have c3 := cell_nw ((w.alloc (.cells #[.int .i64 kind] 3)).alloc (.cells #[.slice none 0 0] 32)) #[.slice a l.length cap] 22 0 (x := .slice a l.length cap) rfl
  have ck := cell_nw w #[.int .i64 kind] 3 0 (x := .int .i64 kind) rfl
  have e1 : (w.alloc (.cells #[.int .i64 kind] 3)).heap.size = w.heap.size + 1 := by simp
  have e2 : ((w.alloc (.cells #[.int .i64 kind] 3)).alloc (.cells #[.slice none 0 0] 32)).heap.size = w.heap.size + 2 := by simp
  have e3 : (((w.alloc (.cells #[.int .i64 kind] 3)).alloc (.cells #[.slice none 0 0] 32)).alloc (.cells #[.slice a l.length cap] 22)).heap.size = w.heap.size + 3 := by simp
  rw [e2] at c3
  rw [e1] at hx3
  refine callsIn_of_wp_marks Tryd.func25 rfl trivial ?_ rfl
  simp only [Tryd.ntmps25, List.size_toArray, List.length_cons, List.length_nil, Nat.reduceAdd, Nat.reduceSub, Array.replicate_succ, Array.replicate_zero, List.push_toArray, List.append_toArray, List.nil_append, List.cons_append]
  refine wpIn_wide.2 ?_
  go_wp2_with fail
  refine (boxes_any _ _ _ _).mono ?_
  rintro e w3 ⟨rfl, rfl⟩
  rw [e2]
  go_wp2_with fail
  have hB1 := below_tr hb2 hb3
  generalize ((w.alloc (.cells #[.int .i64 kind] 3)).alloc (.cells #[.slice none 0 0] 32)).alloc (.cells #[.slice a l.length cap] 22) = W3 at *
  have hI0 : InvB (w.alloc (.cells #[.int .i64 kind] 3)) W3.heap.size (w.heap.size + 1) 32 42 [] W3 := ⟨⟨_, hx3, World.ownsRow_nil _ _ _ _⟩, hB1, Nat.le_refl _⟩
  have HM0 : BoxM (w.heap.size + 2) (.slice a l.length cap) w W3 := ⟨c3, OldK.of (below_tr hb1 hB1)⟩
  have HCK := fun W (h : Below (w.alloc (.cells #[.int .i64 kind] 3)).heap.size (w.alloc (.cells #[.int .i64 kind] 3)) W) => Below.keeps h _ _ ck
  have HBW := fun W (h : Below (w.alloc (.cells #[.int .i64 kind] 3)).heap.size (w.alloc (.cells #[.int .i64 kind] 3)) W) => below_tr hb1 h
  generalize w.alloc (.cells #[.int .i64 kind] 3) = w1 at *
  clear hb1 hb2 hb3 ck c3
  refine (wpIn_wide (n := 9)).1 ?_
  refine wpIn_rangeFunc_ownQ rfl (by omega) (gf := 81) (lb := #[.pointer (some ⟨w.heap.size + 2, 0, none⟩)]) rfl trivial (enters_of Tryd.func81 (by kernel_rfl) rfl)
    (encs := fun x : Nat × Bx => #[.int .i64 (x.1 : Int), .agg x.2.cells]) (Kp := KpX W3.heap.size (w.heap.size + 1) (w.heap.size + 1))
    (S := fun xs => xs = bxFrom 0 l) (Sp := fun xs => ∃ r, xs ++ r = bxFrom 0 l) (N := 1000000) (w0 := W3)
    ?hseq (fun h k => h.tr k) (KpX.put (Nat.le_refl _)) (Below.refl _ _) (fun _ => rfl)
    (fun pre W => InvB w1 W3.heap.size (w.heap.size + 1) 32 42 ((pre.map (·.2)).filter (ofK kind)) W) (fun _ _ _ => False)
    (InvB.own _ _ _ _ _ _ _ (by omega)) (fun _ _ _ _ _ h _ _ => h) hI0 ?a1 (fun x => x.2.cells) 42 ?assign ?body ?done ?stop
  case assign =>
    intro yl pre x W' K hinv hK
    have hal := below_al W' (.cells x.2.cells 42)
    have hq := bodyB_quiet hinv hal
    have hrw := row_nw W' x.2.cells 42 rfl
    have HK := hid (fun q (hqq : q = W'.heap.size) => hK q _ hq.1 hq.2.1 hq.2.2 (hqq ▸ hrw))
    clear hK hq hrw hal
    unfold Bx.cells
    gi_wp2
    obtain ⟨q, hq⟩ : ∃ q, q = W'.heap.size := ⟨_, rfl⟩
    rw [← hq]
    exact HK.out q hq
  case hseq =>
    intro yl J Jx W' hW' hJ _ hY h0
    refine (boxes1_in (9 - 1) (by omega) l _ (w.heap.size + 2) 1000000 w HR.out HT.out (KpX W3.heap.size (w.heap.size + 1) (w.heap.size + 1))
      (fun A B hk hM => ⟨hk.cell hM.cs (by simp only; omega) (by simp) (by simp), hM.old.kp hk (by omega) (by omega) (by omega)⟩) yl J Jx hY W' hJ (HM0.tr hW') h0).mono ?_
    rintro e W3 ⟨h1, h2⟩
    exact ⟨h1, h2.imp (fun j => ⟨_, rfl, j⟩) (fun h => h)⟩
  case body =>
    intro yl pre x Q W' hinv hrow hpl
    refine wpIn_mono (Q := bodyB w1 W3.heap.size (w.heap.size + 1) 32 42 ((pre.map (·.2)).filter (ofK kind) ++ [x.2].filter (ofK kind)) W') ?_ (fun e a' w' h => by
      cases e <;> first | exact h.elim | (refine ⟨h.1, h.2.1, ?_⟩; dsimp only; rw [List.map_append, List.filter_append]; exact h.2.2))
    have hkl : ((pre.map (·.2)).filter (ofK kind)).length ≤ 1000000 := by
      have := List.length_filter_le (ofK kind) (pre.map (·.2))
      rw [List.length_map] at this; omega
    generalize (pre.map (·.2)).filter (ofK kind) = ks at *
    obtain ⟨i, x⟩ := x
    dsimp only at hrow ⊢
    unfold Bx.cells at hrow
    have hck := HCK _ hinv.2.1
    have z0 := hrow.cell 0 rfl
    by_cases hk : x.kind = kind
    · have hq : (x.kind == kind) = true := by simpa using hk
      have HF : Hid ([x].filter (ofK kind) = [x]) := by
        show [x].filter (ofK kind) = [x]
        simp [ofK, hk]
      rw [HF.out]
      have z1 := hrow.cell 1 rfl
      have z2 := hrow.cell 2 rfl
      have z3 := hrow.cell 3 rfl
      have z4 := hrow.cell 4 rfl
      have z5 := hrow.cell 5 rfl
      obtain ⟨⟨v, hv, hown⟩, hBb, hn0⟩ := hinv
      have hc := hv.cell
      have hte : 32 ≠ 42 := by decide
      have HX : Hid (boxCs ks ++ [.int .i64 x.kind, .int .i64 x.x, .int .i64 x.y, .int .i64 x.wd, .int .i64 x.blk, .string x.text] = boxCs ks ++ x.cl) := rfl
      clear hk hrow
      gi_wp2_with (gi_at_builtin; refine wpListIn_ap2 rfl _ _ 32 rfl W3.heap.size 42 Tryd.underlying32 infoBx rfl (by decide) (by decide) _ _ _ rfl hown [.int .i64 x.kind, .int .i64 x.x, .int .i64 x.y, .int .i64 x.wd, .int .i64 x.blk, .string x.text] rfl (by simp [Value.oneCell']) rfl (by simp) (by omega) hn0 ?_; intro g1 cap1 w9 hown' hb1 hgr hat _; have hv1 := hv.kept hgr (hv.not_row hte hown); have hc1 := hv1.cell; have hf1 := hv1.frozen; have HP := hid (InvB.push (x := x) hv hte hown hBb hn0 (by omega) (by omega) hown' hgr))
      exact HP.out
    · have hq : (x.kind == kind) = false := by simpa using hk
      have HF : Hid ([x].filter (ofK kind) = []) := by
        show [x].filter (ofK kind) = []
        simp [ofK, hk]
      rw [HF.out, List.append_nil]
      have HQ := hid (bodyB_quiet hinv (Below.refl _ _))
      clear hk hrow hinv
      gi_wp2
      exact HQ.out
  case done =>
    rintro D ys W' hD rfl ⟨⟨v, hv, hown⟩, hBb, hn0⟩ hK
    have hc := hv.cell
    have HF := hid (bxFrom_app 0 l)
    rw [HF.out] at hown
    go_wp2_with fail
    refine ⟨by simp, .inl ⟨_, _, rfl, run_takeDeferred hK, ?_⟩⟩
    refine leave1 rfl ⟨_, rfl, RdB.of_own (ownsRow_putObj hown _ hK rfl), ?_⟩
    exact HBW _ (hBb.grown (grownBy_putObj' _ D _) hBb.size (fun k e => by cases e; omega))
  case stop =>
    rintro D c pre W' _ _ h _
    exact h.elim
end Go.Proofs.YtkjapeafhcdnkaaDoor
