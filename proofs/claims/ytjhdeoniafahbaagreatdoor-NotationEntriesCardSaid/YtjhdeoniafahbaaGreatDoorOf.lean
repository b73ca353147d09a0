/-
  lemma.Of.
-/
import Derived.Test.YtjhdeoniafahbaaGreatDoorWrd
import Derived.Test.YtjhdeoniafahbaaGreatDoorOccI
namespace Go.Proofs.YtjhdeoniafahbaaGreatDoor
open Go.RowKit
attribute [local go_sem] Oper.semAt_some

theorem kpX_set2 {n b1 b2 : Nat} (W : World) (B o : Nat) (v : Value) (hB : B = b1 ∨ B = b2) : KpX n b1 b2 W (W.setCell ⟨B, o, none⟩ v) :=
  ⟨by simp [World.setCell], fun k _ hk1 hk2 => Below.heap_setCell _ _ _ _ (by
    rcases hB with rfl | rfl
    · simpa using hk1
    · simpa using hk2)⟩
theorem keepsFrom_set {n : Nat} (W : World) (B o : Nat) (v : Value) (hB : B < n) : KeepsFrom n W (W.setCell ⟨B, o, none⟩ v) :=
  ⟨by simp [World.setCell], fun k ob h1 h2 _ => (Below.heap_setCell _ _ _ _ (by simp; omega)).trans h2⟩
theorem keepsFrom_tr {n : Nat} {A B C : World} (h : KeepsFrom n A B) (k : KeepsFrom n B C) : KeepsFrom n A C :=
  ⟨Nat.le_trans h.1 k.1, fun i o h1 h2 h3 => k.2 i o h1 (h.2 i o h1 h2 h3) h3⟩
theorem cell_nwE (W : World) (cs : Array Value) (t : TypeId) (i : Nat) {n : Nat} {x : Value} (hn : n = W.heap.size) (h : cs[i]? = some x) : (W.alloc (.cells cs t)).cell? ⟨n, i, none⟩ = some x := by subst hn; exact cell_nw W cs t i h

/-- Block B holds the cells cs. -/
def Row (W : World) (B : Nat) (cs : Array Value) (t : TypeId) : Prop := W.heap[B]? = some (.cells cs t (0, 0))
theorem Row.cell {W : World} {B : Nat} {cs : Array Value} {t : TypeId} (h : Row W B cs t) (i : Nat) {x : Value} (hx : cs[i]? = some x) : W.cell? ⟨B, i, none⟩ = some x := by rw [cell_of_row W B i cs t (0, 0) h]; exact hx
theorem Row.frozen {W : World} {B : Nat} {cs : Array Value} {t : TypeId} (h : Row W B cs t) (i : Nat) : W.frozen? ⟨B, i, none⟩ = false := frozen_of_row W B i cs t h
theorem Row.set {W : World} {B : Nat} {cs : Array Value} {t : TypeId} (h : Row W B cs t) (i : Nat) (v : Value) : Row (W.setCell ⟨B, i, none⟩ v) B (cs.setIfInBounds i v) t := heap_setCell_same W B i cs t v h
theorem Row.other {W : World} {B : Nat} {cs : Array Value} {t : TypeId} (h : Row W B cs t) (p : Addr) (v : Value) (hp : B ≠ p.block) : Row (W.setCell p v) B cs t := (Below.heap_setCell W p v B hp).trans h
theorem Row.below {W W' : World} {B : Nat} {cs : Array Value} {t : TypeId} (h : Row W B cs t) (hb : Below W.heap.size W W') : Row W' B cs t := (hb.block B (Array.getElem?_eq_some_iff.1 h).1).trans h
theorem Row.lt {W : World} {B : Nat} {cs : Array Value} {t : TypeId} (h : Row W B cs t) : B < W.heap.size := (Array.getElem?_eq_some_iff.1 h).1
theorem row_nw (W : World) (cs : Array Value) (t : TypeId) {n : Nat} (hn : n = W.heap.size) : Row (W.alloc (.cells cs t)) n cs t := by subst hn; exact heap_alloc_new W _
theorem Row.al {W : World} {B : Nat} {cs : Array Value} {t : TypeId} (h : Row W B cs t) (o : Obj) : Row (W.alloc o) B cs t := h.below (below_al W o)
theorem Row.grown {W W' : World} {B : Nat} {cs : Array Value} {t : TypeId} {row : Option Nat} (h : Row W B cs t) (hg : W.grownBy W' row) (hr : ∀ r, row = some r → ∃ o : Obj, W.heap[r]? = some o ∧ o.isCells = false) : Row W' B cs t :=
  (hg.block B h.lt (fun e => by
    obtain ⟨o, ho, hc⟩ := hr B e.symm
    rw [show W.heap[B]? = _ from h] at ho
    cases ho; cases hc)).trans h
theorem numGo_le (p : Nat × Nat) : ∀ (l : List (Nat × Nat)) (n k : Nat), n ≤ k → numGo p n k l ≤ k + l.length
  | [], n, k, h => by simp [numGo]; omega
  | x :: r, n, k, h => by
    have := numGo_le p r (if x = p then k + 1 else n) (k + 1) (by split <;> omega)
    rw [numGo, List.length_cons]; omega
theorem numP_le2 (p : Nat × Nat) (l : List (Nat × Nat)) : numP p l ≤ l.length := by
  have := numGo_le p l 0 0 (Nat.le_refl _)
  unfold numP; omega

/-- Between two rounds of the loop in Of. -/
structure OfI (w : World) (n1 : Nat) (a b : Nat) (s1 L : ByteArray) (num cnt : Int) (W : World) : Prop where
  blk : Row W n1 #[.string s1, .string L, .int .i64 num] 28
  cn : Row W (n1 + 1) #[.int .i64 cnt] 3
  ba : Row W w.heap.size #[.int .i64 a] 3
  bb : Row W (w.heap.size + 1) #[.int .i64 b] 3
  res : Row W (w.heap.size + 1 + 1) #[.string ⟨#[]⟩, .string ⟨#[]⟩, .int .i64 0] 28
  bel : Below w.heap.size w W
theorem OfI.grown {w W W' : World} {n1 a b : Nat} {s1 L : ByteArray} {num cnt : Int} {row : Option Nat} (h : OfI w n1 a b s1 L num cnt W) (hg : W.grownBy W' row) (hr : ∀ r, row = some r → w.heap.size ≤ r ∧ ∃ o : Obj, W.heap[r]? = some o ∧ o.isCells = false) : OfI w n1 a b s1 L num cnt W' :=
  have hr2 := fun r e => (hr r e).2
  ⟨h.blk.grown hg hr2, h.cn.grown hg hr2, h.ba.grown hg hr2, h.bb.grown hg hr2, h.res.grown hg hr2, h.bel.grown hg h.bel.size (fun k e => (hr k e).1)⟩
theorem OfI.cast {w W : World} {n1 a b : Nat} {s1 L : ByteArray} {num cnt num' cnt' : Int} (h : OfI w n1 a b s1 L num cnt W) (h1 : num' = num) (h2 : cnt' = cnt) : OfI w n1 a b s1 L num' cnt' W := by
  subst h1; subst h2; exact h
theorem OfI.count {w W : World} {n1 a b : Nat} {s1 L : ByteArray} {num cnt : Int} (h : OfI w n1 a b s1 L num cnt W) (hn : w.heap.size + 3 ≤ n1) (c : Int) : OfI w n1 a b s1 L num c (W.setCell ⟨n1 + 1, 0, none⟩ (.int .i64 c)) :=
  ⟨h.blk.other _ _ (by simp), h.cn.set 0 _, h.ba.other _ _ (by simp; omega), h.bb.other _ _ (by simp; omega), h.res.other _ _ (by simp; omega), h.bel.setCell (p := ⟨n1 + 1, 0, none⟩) (by simp; omega) _⟩
theorem OfI.number {w W : World} {n1 a b : Nat} {s1 L : ByteArray} {num cnt : Int} (h : OfI w n1 a b s1 L num cnt W) (hn : w.heap.size + 3 ≤ n1) (c : Int) : OfI w n1 a b s1 L c cnt (W.setCell ⟨n1, 2, none⟩ (.int .i64 c)) :=
  ⟨h.blk.set 2 _, h.cn.other _ _ (by simp), h.ba.other _ _ (by simp; omega), h.bb.other _ _ (by simp; omega), h.res.other _ _ (by simp; omega), h.bel.setCell (p := ⟨n1, 2, none⟩) (by simp; omega) _⟩

set_option maxRecDepth 100000 in
set_option maxHeartbeats 2000000 in
theorem of_any (ws : List ByteArray) (a b : Nat) (v : Value) (w : World) (he : Env w) (hr : RdS w v ws) (hz : ∀ s ∈ ws, s.size ≤ 65536) (hlen : ws.length ≤ 13) (hck : lcheckI ws = 0) (hab : a < b) (hbl : b ≤ ws.length) (hne : ∀ s ∈ ws, s.size ≠ 0) :
    Calls Tryz.prog 80 #[v, .int .i64 a, .int .i64 b] w fun e w' => e = .returned (.tuple #[.agg #[.string (ws.getD a ⟨#[]⟩), .string (lastW ws a b), .int .i64 (ofNum (occ ws (ws.getD a ⟨#[]⟩) (lastW ws a b)) (a, b - 1))], .int .i64 0]) ∧ Below w.heap.size w w' := by
  refine (callsIn_wide (n := 9)).1 ?_
  have HCK := fun w' (h : Below w.heap.size w w') => hid (lcheck_any v ws w' (he.below h) (hr.below h) hz)
  rw [hck] at HCK
  have HMEM := hid (part_mem hne hab hbl)
  obtain ⟨ad, cap, rfl, hlc, hcm, hcell⟩ := hr.open
  obtain ⟨s1, b1, o1, hs1, rfl, hc1⟩ := hcell a (by omega)
  have hg1 : ws.getD a ⟨#[]⟩ = s1 := by rw [List.getD_eq_getElem?_getD, hs1]; rfl
  have hblk := World.block_lt_of_cell? w _ hc1
  dsimp only at hblk
  have HR := hid hr
  have hbo := below_al w (.cells #[.int .i64 a] 3)
  have hbo2 := below_al (w.alloc (.cells #[.int .i64 a] 3)) (.cells #[.int .i64 b] 3)
  have hbo3 := below_al ((w.alloc (.cells #[.int .i64 a] 3)).alloc (.cells #[.int .i64 b] 3)) (.cells #[.string ⟨#[]⟩, .string ⟨#[]⟩, .int .i64 0] 28)
  have HB0 := hid (below_tr hbo (below_tr hbo2 hbo3))
  have hra : Row (((w.alloc (.cells #[.int .i64 a] 3)).alloc (.cells #[.int .i64 b] 3)).alloc (.cells #[.string ⟨#[]⟩, .string ⟨#[]⟩, .int .i64 0] 28)) w.heap.size #[.int .i64 a] 3 := ((row_nw w _ _ rfl).al _).al _
  have hrb : Row (((w.alloc (.cells #[.int .i64 a] 3)).alloc (.cells #[.int .i64 b] 3)).alloc (.cells #[.string ⟨#[]⟩, .string ⟨#[]⟩, .int .i64 0] 28)) (w.heap.size + 1) #[.int .i64 b] 3 := (row_nw _ _ _ (by simp)).al _
  have hrr : Row (((w.alloc (.cells #[.int .i64 a] 3)).alloc (.cells #[.int .i64 b] 3)).alloc (.cells #[.string ⟨#[]⟩, .string ⟨#[]⟩, .int .i64 0] 28)) (w.heap.size + 1 + 1) #[.string ⟨#[]⟩, .string ⟨#[]⟩, .int .i64 0] 28 := row_nw _ _ _ (by simp)
  have hsz1 : (((w.alloc (.cells #[.int .i64 a] 3)).alloc (.cells #[.int .i64 b] 3)).alloc (.cells #[.string ⟨#[]⟩, .string ⟨#[]⟩, .int .i64 0] 28)).heap.size = w.heap.size + 3 := by simp
  have hq1 : ¬ (a : Int) < 0 := by omega
  have hq2 : ¬ (b : Int) ≤ (a : Int) := by omega
  have hq3 : ¬ (ws.length : Int) < (b : Int) := by omega
  have hq4 : (a : Int) < (ws.length : Int) := by omega
  clear hbo hbo2 hbo3 hcell hs1
  by_cases hd : b - a = 1
  · have HL : Hid (lastW ws a b = ⟨#[]⟩) := by unfold Hid lastW; rw [if_pos hd]
    have hd2 : ¬ (1 : Int) < (b : Int) - (a : Int) := by omega
    rw [hg1, HL.out] at HMEM ⊢
    refine callsIn_of_wp_marks Tryz.func80 rfl trivial ?_ rfl
    simp only [Tryz.ntmps80, List.size_toArray, List.length_cons, List.length_nil, Nat.reduceAdd, Nat.reduceSub, Array.replicate_succ, Array.replicate_zero, List.push_toArray, List.append_toArray, List.nil_append, List.cons_append]
    refine wpIn_wide.2 ?_
    have hca := hra.cell 0 rfl
    have hcb := hrb.cell 0 rfl
    go_wp2_with fail
    generalize ((w.alloc (.cells #[.int .i64 a] 3)).alloc (.cells #[.int .i64 b] 3)).alloc (.cells #[.string ⟨#[]⟩, .string ⟨#[]⟩, .int .i64 0] 28) = W1 at *
    refine (HCK _ HB0.out).out.mono ?_
    rintro e w2 ⟨rfl, hB1⟩
    have HB2 := hid (below_tr HB0.out hB1)
    have hra2 := hid (hra.below hB1)
    have hrb2 := hid (hrb.below hB1)
    have hrr2 := hid (hrr.below hB1)
    have hsz2 : w.heap.size + 3 ≤ w2.heap.size := by have := hB1.size; omega
    have hca2 := hra2.out.cell 0 rfl
    have hcb2 := hrb2.out.cell 0 rfl
    have hc12 := Below.keeps HB2.out _ _ hc1
    have hca3 := fun ob => cell_al hca2 ob
    have hcb3 := fun ob => cell_al hcb2 ob
    have HR2 := hid (HR.out.below HB2.out)
    clear hca hcb hc1 HCK hra hrb hrr hsz1
    go_wp2_with fail
    obtain ⟨W5, hW5⟩ : ∃ W5, W5 = (w2.alloc (.cells #[.string s1, .string ⟨#[]⟩, .int .i64 0] 28)).alloc (.cells #[.int .i64 0] 3) := ⟨_, rfl⟩
    have hb5 : Below w2.heap.size w2 W5 := by rw [hW5]; exact below_tr (below_al _ _) (below_al _ _)
    have HI5 : Hid (OfI w w2.heap.size a b s1 ⟨#[]⟩ 0 0 W5) := by
      refine ⟨?_, ?_, hra2.out.below hb5, hrb2.out.below hb5, hrr2.out.below hb5, below_tr HB2.out hb5⟩
      · rw [hW5]; exact (row_nw _ _ _ rfl).al _
      · rw [hW5]; exact row_nw _ _ _ (by simp)
    have hs5 : W5.heap.size = w2.heap.size + 2 := by rw [hW5]; simp
    have HR5 := hid (HR2.out.below hb5)
    rw [← hW5]
    clear hW5 hca2 hcb2 hc12 hca3 hcb3 hra2 hrb2 hrr2 hb5 HR2
    refine (occurrences_any _ _ _ _ _ _).mono ?_
    rintro e w3 ⟨rfl, rfl⟩
    have hb6 : Below W5.heap.size W5 (((W5.alloc (.cells #[.slice (some ⟨b1, o1, none⟩) ws.length cap] 23)).alloc (.cells #[.string s1] 9)).alloc (.cells #[.string ⟨#[]⟩] 9)) := below_tr (below_al _ _) (below_tr (below_al _ _) (below_al _ _))
    have HM6 : Hid (OccM W5.heap.size (W5.heap.size + 1) (W5.heap.size + 2) (some ⟨b1, o1, none⟩) cap ws s1 ⟨#[]⟩ (((W5.alloc (.cells #[.slice (some ⟨b1, o1, none⟩) ws.length cap] 23)).alloc (.cells #[.string s1] 9)).alloc (.cells #[.string ⟨#[]⟩] 9))) := by
      refine ⟨cell_al (cell_al (cell_nw _ _ _ 0 rfl) _) _, cell_al (cell_nwE _ _ _ 0 (by simp) rfl) _, cell_nwE _ _ _ 0 (by simp) rfl, HR5.out.below hb6⟩
    have hs6 : (((W5.alloc (.cells #[.slice (some ⟨b1, o1, none⟩) ws.length cap] 23)).alloc (.cells #[.string s1] 9)).alloc (.cells #[.string ⟨#[]⟩] 9)).heap.size = w2.heap.size + 5 := by simp; omega
    have HI6 : Hid (OfI w w2.heap.size a b s1 ⟨#[]⟩ 0 0 (((W5.alloc (.cells #[.slice (some ⟨b1, o1, none⟩) ws.length cap] 23)).alloc (.cells #[.string s1] 9)).alloc (.cells #[.string ⟨#[]⟩] 9))) :=
      ⟨HI5.out.blk.below hb6, HI5.out.cn.below hb6, HI5.out.ba.below hb6, HI5.out.bb.below hb6, HI5.out.res.below hb6, below_tr HI5.out.bel hb6⟩
    rw [hs5] at HM6 ⊢
    clear HI5 HR5 hb6
    go_wp2_with fail
    generalize ((W5.alloc (.cells #[.slice (some ⟨b1, o1, none⟩) ws.length cap] 23)).alloc (.cells #[.string s1] 9)).alloc (.cells #[.string ⟨#[]⟩] 9) = W6 at *
    generalize w2.heap.size = n1 at *
    have hol : (occ ws s1 ⟨#[]⟩).length ≤ 182 := occ_len hlen _ _
    refine (wpIn_wide (n := 9)).1 ?_
    refine wpIn_rangeFunc_ownG rfl (by omega) (gf := 114) (lb := #[.pointer (some ⟨n1 + 2, 0, none⟩), .pointer (some ⟨n1 + 2 + 1, 0, none⟩), .pointer (some ⟨n1 + 2 + 2, 0, none⟩)]) rfl trivial (enters_of Tryz.func114 (by kernel_rfl) rfl)
      (encs := fun x : Nat × Nat => #[.int .i64 (x.1 : Int), .int .i64 (x.2 : Int)]) (Kp := KpX W6.heap.size n1 (n1 + 1))
      (S := fun l => l = occ ws s1 ⟨#[]⟩) (Sp := fun l => ∃ r, l ++ r = occ ws s1 ⟨#[]⟩) (N := 182) (w0 := W6)
      ?hseq1 (fun h k => h.tr k) (KpX.put (Nat.le_refl _)) (Below.refl _ _) (fun _ => rfl)
      (fun pre W => OfI w n1 a b s1 ⟨#[]⟩ (numP (a, b - 1) pre) pre.length W)
      (fun c pre W => c = .exit 0 ∧ 1 < pre.length ∧ 0 < numP (a, b - 1) pre ∧ OfI w n1 a b s1 ⟨#[]⟩ (numP (a, b - 1) pre) pre.length W)
      ?own1 ?ownx1 HI6.out ?a11 ?assign1 ?body1 ?done1 ?stop1
    case own1 =>
      intro pre A B row hs2 hg hr
      exact hs2.grown hg (fun r e => ⟨by have := (hr r e).1; omega, (hr r e).2⟩)
    case ownx1 =>
      intro c pre A B row hs2 hg hr
      exact ⟨hs2.1, hs2.2.1, hs2.2.2.1, hs2.2.2.2.grown hg (fun r e => ⟨by have := (hr r e).1; omega, (hr r e).2⟩)⟩
    case assign1 =>
      intro l x W' K hK
      gi_wp2
      exact hK
    case hseq1 =>
      intro l J Jx W' hW' hJ _ hY h0
      refine (occs1_in (9 - 1) (by omega) ws s1 ⟨#[]⟩ _ cap (n1 + 2) (n1 + 2 + 1) (n1 + 2 + 2) 182 (by omega) hol (KpX W6.heap.size n1 (n1 + 1))
        (fun A B hk hM => ⟨hk.cell hM.cw (show n1 + 2 < _ by omega) (show n1 + 2 ≠ n1 by omega) (show n1 + 2 ≠ n1 + 1 by omega), hk.cell hM.cf (show n1 + 2 + 1 < _ by omega) (show n1 + 2 + 1 ≠ n1 by omega) (show n1 + 2 + 1 ≠ n1 + 1 by omega), hk.cell hM.cl (show n1 + 2 + 2 < _ by omega) (show n1 + 2 + 2 ≠ n1 by omega) (show n1 + 2 + 2 ≠ n1 + 1 by omega), hM.rd.blk (fun k e => by have e' : b1 = k := Option.some.inj e; subst e'; exact hk.2 _ (by omega) (by omega) (by omega))⟩)
        l J Jx hY W' hJ (HM6.out.below hW') h0).mono ?_
      rintro e W3 ⟨h1, h2⟩
      exact ⟨h1, h2.imp (fun j => ⟨_, rfl, j⟩) (fun h => h)⟩
    case body1 =>
      rintro l pre x W' hI hpl
      have hnn := numP_le2 (a, b - 1) pre
      have HS0 := hid (numP_snoc (a, b - 1) x pre)
      have HV := hid (hI.count hsz2 ((pre.length : Int) + 1))
      have HV2 := hid (HV.out.number hsz2 ((pre.length : Int) + 1))
      have c1 := hI.cn.cell 0 rfl
      have d1 := hI.cn.frozen 0
      have v1 := HV.out.ba.cell 0 rfl
      have v2 := HV.out.bb.cell 0 rfl
      have v3 := HV.out.cn.cell 0 rfl
      have v4 := HV.out.blk.cell 2 rfl
      have v5 := HV.out.blk.frozen 2
      have u3 := HV2.out.cn.cell 0 rfl
      have u4 := HV2.out.blk.cell 2 rfl
      clear hI HM6 HI6
      obtain ⟨x1, x2⟩ := x
      generalize numP (a, b - 1) pre = nn at *
      by_cases ha : x1 = a
      · by_cases hb : x2 = b - 1
        · have HS : Hid (numP (a, b - 1) (pre ++ [(x1, x2)]) = pre.length + 1) := by unfold Hid; rw [HS0.out, if_pos (by rw [ha, hb])]
          have e1 : ((x1 : Int) == (a : Int)) = true := by simp [ha]
          have e2 : ((x2 : Int) == (b : Int) - 1) = true := by simp; omega
          have e3 : (x1 : Int) = (a : Int) := by omega
          have e4 : (x2 : Int) = (b : Int) - 1 := by omega
          clear ha hb
          by_cases h0 : pre.length = 0
          · have i1 : ¬ (1 : Int) < (pre.length : Int) + 1 := by omega
            clear h0
            gi_wp2
            exact ⟨keepsFrom_tr (keepsFrom_set _ _ _ _ (by omega)) (keepsFrom_set _ _ _ _ (by omega)), (kpX_set2 _ _ _ _ (.inr rfl)).tr (kpX_set2 _ _ _ _ (.inl rfl)), HV2.out.cast (by have := HS.out; omega) (by rw [List.length_append, List.length_singleton]; omega)⟩
          · have i1 : (1 : Int) < (pre.length : Int) + 1 := by omega
            have i2 : (0 : Int) < (pre.length : Int) + 1 := by omega
            have H0 := hid h0
            clear h0
            gi_wp2
            exact ⟨keepsFrom_tr (keepsFrom_set _ _ _ _ (by omega)) (keepsFrom_set _ _ _ _ (by omega)), rfl, by rw [List.length_append, List.length_singleton]; omega, by have := HS.out; omega, HV2.out.cast (by have := HS.out; omega) (by rw [List.length_append, List.length_singleton]; omega)⟩
        · have HS : Hid (numP (a, b - 1) (pre ++ [(x1, x2)]) = nn) := by unfold Hid; rw [HS0.out, if_neg (by intro h; exact hb (Prod.mk.inj h).2)]
          have e1 : ((x1 : Int) == (a : Int)) = true := by simp [ha]
          have e2 : ((x2 : Int) == (b : Int) - 1) = false := by simp; omega
          have e3 : (x1 : Int) = (a : Int) := by omega
          have e4 : ¬ (x2 : Int) = (b : Int) - 1 := by omega
          clear ha hb
          by_cases h0 : pre.length = 0
          · have i1 : ¬ (1 : Int) < (pre.length : Int) + 1 := by omega
            clear h0
            gi_wp2
            exact ⟨keepsFrom_set _ _ _ _ (by omega), kpX_set2 _ _ _ _ (.inr rfl), HV.out.cast (by have := HS.out; omega) (by rw [List.length_append, List.length_singleton]; omega)⟩
          · have i1 : (1 : Int) < (pre.length : Int) + 1 := by omega
            by_cases hn : nn = 0
            · have i2 : ¬ (0 : Int) < (nn : Int) := by omega
              have HN := hid hn
              clear hn h0
              gi_wp2
              exact ⟨keepsFrom_set _ _ _ _ (by omega), kpX_set2 _ _ _ _ (.inr rfl), HV.out.cast (by have := HS.out; omega) (by rw [List.length_append, List.length_singleton]; omega)⟩
            · have i2 : (0 : Int) < (nn : Int) := by omega
              have H0 := hid h0
              have HN := hid hn
              clear hn h0
              gi_wp2
              exact ⟨keepsFrom_set _ _ _ _ (by omega), rfl, by rw [List.length_append, List.length_singleton]; omega, by have := HS.out; omega, HV.out.cast (by have := HS.out; omega) (by rw [List.length_append, List.length_singleton]; omega)⟩
      · have HS : Hid (numP (a, b - 1) (pre ++ [(x1, x2)]) = nn) := by unfold Hid; rw [HS0.out, if_neg (by intro h; exact ha (Prod.mk.inj h).1)]
        have e1 : ((x1 : Int) == (a : Int)) = false := by simp; omega
        have e3 : ¬ (x1 : Int) = (a : Int) := by omega
        clear ha
        by_cases h0 : pre.length = 0
        · have i1 : ¬ (1 : Int) < (pre.length : Int) + 1 := by omega
          clear h0
          gi_wp2
          exact ⟨keepsFrom_set _ _ _ _ (by omega), kpX_set2 _ _ _ _ (.inr rfl), HV.out.cast (by have := HS.out; omega) (by rw [List.length_append, List.length_singleton]; omega)⟩
        · have i1 : (1 : Int) < (pre.length : Int) + 1 := by omega
          by_cases hn : nn = 0
          · have i2 : ¬ (0 : Int) < (nn : Int) := by omega
            have HN := hid hn
            clear hn h0
            gi_wp2
            exact ⟨keepsFrom_set _ _ _ _ (by omega), kpX_set2 _ _ _ _ (.inr rfl), HV.out.cast (by have := HS.out; omega) (by rw [List.length_append, List.length_singleton]; omega)⟩
          · have i2 : (0 : Int) < (nn : Int) := by omega
            have H0 := hid h0
            have HN := hid hn
            clear hn h0
            gi_wp2
            exact ⟨keepsFrom_set _ _ _ _ (by omega), rfl, by rw [List.length_append, List.length_singleton]; omega, by have := HS.out; omega, HV.out.cast (by have := HS.out; omega) (by rw [List.length_append, List.length_singleton]; omega)⟩
    case done1 =>
      rintro D ys W' hD rfl hI hK
      have hple := numP_le (p := (a, b - 1)) (occ_sorted ws s1 ⟨#[]⟩)
      have hw1 := hI.cn.cell 0 rfl
      have hw2 := hI.blk.cell 2 rfl
      have hw3 := hI.blk.frozen 2
      by_cases h1 : (occ ws s1 ⟨#[]⟩).length = 1
      · have HON : Hid (ofNum (occ ws s1 ⟨#[]⟩) (a, b - 1) = 0) := by unfold Hid ofNum; rw [if_pos h1]
        have i1 : ((occ ws s1 ⟨#[]⟩).length : Int) = 1 := by omega
        rw [i1] at hw1
        have HV := hid (hI.number hsz2 0)
        have v1 := HV.out.blk.cell 0 rfl
        have v2 := HV.out.blk.cell 1 rfl
        have v3 := HV.out.blk.cell 2 rfl
        have g0 := HV.out.res.cell 0 rfl
        have g1 := HV.out.res.cell 1 rfl
        have g2 := HV.out.res.cell 2 rfl
        have d0 := HV.out.res.frozen 0
        have d1 := HV.out.res.frozen 1
        have d2 := HV.out.res.frozen 2
        have HKK := hid ((KeepsOthers.setCell W' ⟨n1, 2, none⟩ (.int .i64 0)).same D _ hK rfl)
        go_wp2_with fail
        generalize W'.setCell ⟨n1, 2, none⟩ (.int .i64 0) = V at *
        have hR := ((HV.out.res.set 0 (.string s1)).set 1 (.string ⟨#[]⟩)).set 2 (.int .i64 0)
        have hK3 := (KeepsOthers.setCell _ ⟨w.heap.size + 1 + 1, 2, none⟩ (.int .i64 0)).same D _ ((KeepsOthers.setCell _ ⟨w.heap.size + 1 + 1, 1, none⟩ (.string ⟨#[]⟩)).same D _ ((KeepsOthers.setCell V ⟨w.heap.size + 1 + 1, 0, none⟩ (.string s1)).same D _ HKK.out rfl) rfl) rfl
        have hB3 := ((HV.out.bel.setCell (p := ⟨w.heap.size + 1 + 1, 0, none⟩) (by simp; omega) (.string s1)).setCell (p := ⟨w.heap.size + 1 + 1, 1, none⟩) (by simp; omega) (.string ⟨#[]⟩)).setCell (p := ⟨w.heap.size + 1 + 1, 2, none⟩) (by simp; omega) (.int .i64 0)
        have hq0 := hR.cell 0 rfl
        have hq1 := hR.cell 1 rfl
        have hq2 := hR.cell 2 rfl
        clear hR
        generalize ((V.setCell ⟨w.heap.size + 1 + 1, 0, none⟩ (.string s1)).setCell ⟨w.heap.size + 1 + 1, 1, none⟩ (.string ⟨#[]⟩)).setCell ⟨w.heap.size + 1 + 1, 2, none⟩ (.int .i64 0) = V9 at *
        refine ⟨by simp, .inl ⟨_, _, rfl, run_takeDeferred hK3, ?_⟩⟩
        have hz0 := cell_kept hq0 (grownBy_putObj' _ D (.deferred none)) (fun r e => by cases e; exact ⟨_, hK3, rfl⟩)
        have hz1 := cell_kept hq1 (grownBy_putObj' _ D (.deferred none)) (fun r e => by cases e; exact ⟨_, hK3, rfl⟩)
        have hz2 := cell_kept hq2 (grownBy_putObj' _ D (.deferred none)) (fun r e => by cases e; exact ⟨_, hK3, rfl⟩)
        refine ⟨.tuple #[.agg #[.string s1, .string ⟨#[]⟩, .int .i64 0], .int .i64 0], ?_, by rw [HON.out]; rfl, hB3.grown (grownBy_putObj' _ D _) hB3.size (fun k e => by cases e; omega)⟩
        simp [results, Tryz.f80, go_sem, hz0, hz1, hz2]
      · have HON : Hid (ofNum (occ ws s1 ⟨#[]⟩) (a, b - 1) = numP (a, b - 1) (occ ws s1 ⟨#[]⟩)) := by unfold Hid ofNum; rw [if_neg h1]
        have i1 : ¬ ((occ ws s1 ⟨#[]⟩).length : Int) = 1 := by omega
        have i2 : ¬ (65536 : Int) < (numP (a, b - 1) (occ ws s1 ⟨#[]⟩) : Int) := by omega
        have v1 := hI.blk.cell 0 rfl
        have v2 := hI.blk.cell 1 rfl
        have g0 := hI.res.cell 0 rfl
        have g1 := hI.res.cell 1 rfl
        have g2 := hI.res.cell 2 rfl
        have d0 := hI.res.frozen 0
        have d1 := hI.res.frozen 1
        have d2 := hI.res.frozen 2
        generalize numP (a, b - 1) (occ ws s1 ⟨#[]⟩) = nn at *
        go_wp2_with fail
        have hR := ((hI.res.set 0 (.string s1)).set 1 (.string ⟨#[]⟩)).set 2 (.int .i64 nn)
        have hK3 := (KeepsOthers.setCell _ ⟨w.heap.size + 1 + 1, 2, none⟩ (.int .i64 nn)).same D _ ((KeepsOthers.setCell _ ⟨w.heap.size + 1 + 1, 1, none⟩ (.string ⟨#[]⟩)).same D _ ((KeepsOthers.setCell W' ⟨w.heap.size + 1 + 1, 0, none⟩ (.string s1)).same D _ hK rfl) rfl) rfl
        have hB3 := ((hI.bel.setCell (p := ⟨w.heap.size + 1 + 1, 0, none⟩) (by simp; omega) (.string s1)).setCell (p := ⟨w.heap.size + 1 + 1, 1, none⟩) (by simp; omega) (.string ⟨#[]⟩)).setCell (p := ⟨w.heap.size + 1 + 1, 2, none⟩) (by simp; omega) (.int .i64 nn)
        have hq0 := hR.cell 0 rfl
        have hq1 := hR.cell 1 rfl
        have hq2 := hR.cell 2 rfl
        clear hR
        generalize ((W'.setCell ⟨w.heap.size + 1 + 1, 0, none⟩ (.string s1)).setCell ⟨w.heap.size + 1 + 1, 1, none⟩ (.string ⟨#[]⟩)).setCell ⟨w.heap.size + 1 + 1, 2, none⟩ (.int .i64 nn) = V9 at *
        refine ⟨by simp, .inl ⟨_, _, rfl, run_takeDeferred hK3, ?_⟩⟩
        have hz0 := cell_kept hq0 (grownBy_putObj' _ D (.deferred none)) (fun r e => by cases e; exact ⟨_, hK3, rfl⟩)
        have hz1 := cell_kept hq1 (grownBy_putObj' _ D (.deferred none)) (fun r e => by cases e; exact ⟨_, hK3, rfl⟩)
        have hz2 := cell_kept hq2 (grownBy_putObj' _ D (.deferred none)) (fun r e => by cases e; exact ⟨_, hK3, rfl⟩)
        refine ⟨.tuple #[.agg #[.string s1, .string ⟨#[]⟩, .int .i64 nn], .int .i64 0], ?_, by rw [HON.out], hB3.grown (grownBy_putObj' _ D _) hB3.size (fun k e => by cases e; omega)⟩
        simp [results, Tryz.f80, go_sem, hz0, hz1, hz2]
    case stop1 =>
      rintro D c pre W' hD ⟨r, hsp⟩ ⟨rfl, hc1, hn0, hI⟩ hK
      have hple := numP_le (p := (a, b - 1)) (occ_sorted ws s1 ⟨#[]⟩)
      have HON : Hid (ofNum (occ ws s1 ⟨#[]⟩) (a, b - 1) = numP (a, b - 1) pre) := by
        have hl := congrArg List.length hsp
        rw [List.length_append] at hl
        unfold Hid ofNum
        rw [if_neg (by omega), ← hsp]
        exact (numP_part (by rw [hsp]; exact occ_sorted _ _ _) hn0).symm
      have hw1 := hI.cn.cell 0 rfl
      have hw2 := hI.blk.cell 2 rfl
      have hw3 := hI.blk.frozen 2
      have i1 : ¬ (pre.length : Int) = 1 := by omega
      have hnl := numP_le2 (a, b - 1) pre
      have hpl : pre.length ≤ 182 := by
        have hl := congrArg List.length hsp
        rw [List.length_append] at hl
        omega
      have i2 : ¬ (65536 : Int) < (numP (a, b - 1) pre : Int) := by omega
      have v1 := hI.blk.cell 0 rfl
      have v2 := hI.blk.cell 1 rfl
      have g0 := hI.res.cell 0 rfl
      have g1 := hI.res.cell 1 rfl
      have g2 := hI.res.cell 2 rfl
      have d0 := hI.res.frozen 0
      have d1 := hI.res.frozen 1
      have d2 := hI.res.frozen 2
      generalize numP (a, b - 1) pre = nn at *
      clear hsp hc1 hn0
      gi_wp2_with fail
      go_wp2_with fail
      have hR := ((hI.res.set 0 (.string s1)).set 1 (.string ⟨#[]⟩)).set 2 (.int .i64 nn)
      have hK3 := (KeepsOthers.setCell _ ⟨w.heap.size + 1 + 1, 2, none⟩ (.int .i64 nn)).same D _ ((KeepsOthers.setCell _ ⟨w.heap.size + 1 + 1, 1, none⟩ (.string ⟨#[]⟩)).same D _ ((KeepsOthers.setCell W' ⟨w.heap.size + 1 + 1, 0, none⟩ (.string s1)).same D _ hK rfl) rfl) rfl
      have hB3 := ((hI.bel.setCell (p := ⟨w.heap.size + 1 + 1, 0, none⟩) (by simp; omega) (.string s1)).setCell (p := ⟨w.heap.size + 1 + 1, 1, none⟩) (by simp; omega) (.string ⟨#[]⟩)).setCell (p := ⟨w.heap.size + 1 + 1, 2, none⟩) (by simp; omega) (.int .i64 nn)
      have hq0 := hR.cell 0 rfl
      have hq1 := hR.cell 1 rfl
      have hq2 := hR.cell 2 rfl
      clear hR
      generalize ((W'.setCell ⟨w.heap.size + 1 + 1, 0, none⟩ (.string s1)).setCell ⟨w.heap.size + 1 + 1, 1, none⟩ (.string ⟨#[]⟩)).setCell ⟨w.heap.size + 1 + 1, 2, none⟩ (.int .i64 nn) = V9 at *
      refine ⟨by simp, .inl ⟨_, _, rfl, run_takeDeferred hK3, ?_⟩⟩
      have hz0 := cell_kept hq0 (grownBy_putObj' _ D (.deferred none)) (fun r e => by cases e; exact ⟨_, hK3, rfl⟩)
      have hz1 := cell_kept hq1 (grownBy_putObj' _ D (.deferred none)) (fun r e => by cases e; exact ⟨_, hK3, rfl⟩)
      have hz2 := cell_kept hq2 (grownBy_putObj' _ D (.deferred none)) (fun r e => by cases e; exact ⟨_, hK3, rfl⟩)
      refine ⟨.tuple #[.agg #[.string s1, .string ⟨#[]⟩, .int .i64 nn], .int .i64 0], ?_, by rw [HON.out], hB3.grown (grownBy_putObj' _ D _) hB3.size (fun k e => by cases e; omega)⟩
      simp [results, Tryz.f80, go_sem, hz0, hz1, hz2]
  · obtain ⟨_, _, he2, _, _, hcell⟩ := HR.out.open
    obtain ⟨s2, b2, o2, hs2, he3, hc2⟩ := hcell (b - 1) (by omega)
    cases he2
    cases he3
    have HL : Hid (lastW ws a b = s2) := by unfold Hid lastW; rw [if_neg hd, List.getD_eq_getElem?_getD, hs2]; rfl
    have hd2 : (1 : Int) < (b : Int) - (a : Int) := by omega
    clear hcell hs2
    rw [hg1, HL.out] at HMEM ⊢
    refine callsIn_of_wp_marks Tryz.func80 rfl trivial ?_ rfl
    simp only [Tryz.ntmps80, List.size_toArray, List.length_cons, List.length_nil, Nat.reduceAdd, Nat.reduceSub, Array.replicate_succ, Array.replicate_zero, List.push_toArray, List.append_toArray, List.nil_append, List.cons_append]
    refine wpIn_wide.2 ?_
    have hca := hra.cell 0 rfl
    have hcb := hrb.cell 0 rfl
    go_wp2_with fail
    generalize ((w.alloc (.cells #[.int .i64 a] 3)).alloc (.cells #[.int .i64 b] 3)).alloc (.cells #[.string ⟨#[]⟩, .string ⟨#[]⟩, .int .i64 0] 28) = W1 at *
    refine (HCK _ HB0.out).out.mono ?_
    rintro e w2 ⟨rfl, hB1⟩
    have HB2 := hid (below_tr HB0.out hB1)
    have hra2 := hid (hra.below hB1)
    have hrb2 := hid (hrb.below hB1)
    have hrr2 := hid (hrr.below hB1)
    have hsz2 : w.heap.size + 3 ≤ w2.heap.size := by have := hB1.size; omega
    have hca2 := hra2.out.cell 0 rfl
    have hcb2 := hrb2.out.cell 0 rfl
    have hc12 := Below.keeps HB2.out _ _ hc1
    have hca3 := fun ob => cell_al hca2 ob
    have hcb3 := fun ob => cell_al hcb2 ob
    have HR2 := hid (HR.out.below HB2.out)
    have hc22 := Below.keeps HB2.out _ _ hc2
    have hc23 := fun ob => cell_al hc22 ob
    have hbi : IntKind.i64.wrap ((b : Int) - 1) = (b : Int) - 1 := IntWalk.i64_in _ (by omega)
    have hbj : (b : Int) - 1 < (ws.length : Int) := by omega
    have hbk : ((b : Int) - 1).toNat = b - 1 := by omega
    have hbm : (0 : Int) ≤ (b : Int) - 1 := by omega
    clear hca hcb hc1 HCK hra hrb hrr hsz1
    go_wp2_with fail
    obtain ⟨W5, hW5⟩ : ∃ W5, W5 = (w2.alloc (.cells #[.string s1, .string s2, .int .i64 0] 28)).alloc (.cells #[.int .i64 0] 3) := ⟨_, rfl⟩
    have hb5 : Below w2.heap.size w2 W5 := by rw [hW5]; exact below_tr (below_al _ _) (below_al _ _)
    have HI5 : Hid (OfI w w2.heap.size a b s1 s2 0 0 W5) := by
      refine ⟨?_, ?_, hra2.out.below hb5, hrb2.out.below hb5, hrr2.out.below hb5, below_tr HB2.out hb5⟩
      · rw [hW5]; exact (row_nw _ _ _ rfl).al _
      · rw [hW5]; exact row_nw _ _ _ (by simp)
    have hs5 : W5.heap.size = w2.heap.size + 2 := by rw [hW5]; simp
    have HR5 := hid (HR2.out.below hb5)
    rw [← hW5]
    clear hW5 hca2 hcb2 hc12 hca3 hcb3 hra2 hrb2 hrr2 hb5 HR2 hc2 hc22
    refine (occurrences_any _ _ _ _ _ _).mono ?_
    rintro e w3 ⟨rfl, rfl⟩
    have hb6 : Below W5.heap.size W5 (((W5.alloc (.cells #[.slice (some ⟨b1, o1, none⟩) ws.length cap] 23)).alloc (.cells #[.string s1] 9)).alloc (.cells #[.string s2] 9)) := below_tr (below_al _ _) (below_tr (below_al _ _) (below_al _ _))
    have HM6 : Hid (OccM W5.heap.size (W5.heap.size + 1) (W5.heap.size + 2) (some ⟨b1, o1, none⟩) cap ws s1 s2 (((W5.alloc (.cells #[.slice (some ⟨b1, o1, none⟩) ws.length cap] 23)).alloc (.cells #[.string s1] 9)).alloc (.cells #[.string s2] 9))) := by
      refine ⟨cell_al (cell_al (cell_nw _ _ _ 0 rfl) _) _, cell_al (cell_nwE _ _ _ 0 (by simp) rfl) _, cell_nwE _ _ _ 0 (by simp) rfl, HR5.out.below hb6⟩
    have hs6 : (((W5.alloc (.cells #[.slice (some ⟨b1, o1, none⟩) ws.length cap] 23)).alloc (.cells #[.string s1] 9)).alloc (.cells #[.string s2] 9)).heap.size = w2.heap.size + 5 := by simp; omega
    have HI6 : Hid (OfI w w2.heap.size a b s1 s2 0 0 (((W5.alloc (.cells #[.slice (some ⟨b1, o1, none⟩) ws.length cap] 23)).alloc (.cells #[.string s1] 9)).alloc (.cells #[.string s2] 9))) :=
      ⟨HI5.out.blk.below hb6, HI5.out.cn.below hb6, HI5.out.ba.below hb6, HI5.out.bb.below hb6, HI5.out.res.below hb6, below_tr HI5.out.bel hb6⟩
    rw [hs5] at HM6 ⊢
    clear HI5 HR5 hb6
    go_wp2_with fail
    generalize ((W5.alloc (.cells #[.slice (some ⟨b1, o1, none⟩) ws.length cap] 23)).alloc (.cells #[.string s1] 9)).alloc (.cells #[.string s2] 9) = W6 at *
    generalize w2.heap.size = n1 at *
    have hol : (occ ws s1 s2).length ≤ 182 := occ_len hlen _ _
    refine (wpIn_wide (n := 9)).1 ?_
    refine wpIn_rangeFunc_ownG rfl (by omega) (gf := 114) (lb := #[.pointer (some ⟨n1 + 2, 0, none⟩), .pointer (some ⟨n1 + 2 + 1, 0, none⟩), .pointer (some ⟨n1 + 2 + 2, 0, none⟩)]) rfl trivial (enters_of Tryz.func114 (by kernel_rfl) rfl)
      (encs := fun x : Nat × Nat => #[.int .i64 (x.1 : Int), .int .i64 (x.2 : Int)]) (Kp := KpX W6.heap.size n1 (n1 + 1))
      (S := fun l => l = occ ws s1 s2) (Sp := fun l => ∃ r, l ++ r = occ ws s1 s2) (N := 182) (w0 := W6)
      ?hseq2 (fun h k => h.tr k) (KpX.put (Nat.le_refl _)) (Below.refl _ _) (fun _ => rfl)
      (fun pre W => OfI w n1 a b s1 s2 (numP (a, b - 1) pre) pre.length W)
      (fun c pre W => c = .exit 0 ∧ 1 < pre.length ∧ 0 < numP (a, b - 1) pre ∧ OfI w n1 a b s1 s2 (numP (a, b - 1) pre) pre.length W)
      ?own2 ?ownx2 HI6.out ?a12 ?assign2 ?body2 ?done2 ?stop2
    case own2 =>
      intro pre A B row hs2 hg hr
      exact hs2.grown hg (fun r e => ⟨by have := (hr r e).1; omega, (hr r e).2⟩)
    case ownx2 =>
      intro c pre A B row hs2 hg hr
      exact ⟨hs2.1, hs2.2.1, hs2.2.2.1, hs2.2.2.2.grown hg (fun r e => ⟨by have := (hr r e).1; omega, (hr r e).2⟩)⟩
    case assign2 =>
      intro l x W' K hK
      gi_wp2
      exact hK
    case hseq2 =>
      intro l J Jx W' hW' hJ _ hY h0
      refine (occs1_in (9 - 1) (by omega) ws s1 s2 _ cap (n1 + 2) (n1 + 2 + 1) (n1 + 2 + 2) 182 (by omega) hol (KpX W6.heap.size n1 (n1 + 1))
        (fun A B hk hM => ⟨hk.cell hM.cw (show n1 + 2 < _ by omega) (show n1 + 2 ≠ n1 by omega) (show n1 + 2 ≠ n1 + 1 by omega), hk.cell hM.cf (show n1 + 2 + 1 < _ by omega) (show n1 + 2 + 1 ≠ n1 by omega) (show n1 + 2 + 1 ≠ n1 + 1 by omega), hk.cell hM.cl (show n1 + 2 + 2 < _ by omega) (show n1 + 2 + 2 ≠ n1 by omega) (show n1 + 2 + 2 ≠ n1 + 1 by omega), hM.rd.blk (fun k e => by have e' : b1 = k := Option.some.inj e; subst e'; exact hk.2 _ (by omega) (by omega) (by omega))⟩)
        l J Jx hY W' hJ (HM6.out.below hW') h0).mono ?_
      rintro e W3 ⟨h1, h2⟩
      exact ⟨h1, h2.imp (fun j => ⟨_, rfl, j⟩) (fun h => h)⟩
    case body2 =>
      rintro l pre x W' hI hpl
      have hnn := numP_le2 (a, b - 1) pre
      have HS0 := hid (numP_snoc (a, b - 1) x pre)
      have HV := hid (hI.count hsz2 ((pre.length : Int) + 1))
      have HV2 := hid (HV.out.number hsz2 ((pre.length : Int) + 1))
      have c1 := hI.cn.cell 0 rfl
      have d1 := hI.cn.frozen 0
      have v1 := HV.out.ba.cell 0 rfl
      have v2 := HV.out.bb.cell 0 rfl
      have v3 := HV.out.cn.cell 0 rfl
      have v4 := HV.out.blk.cell 2 rfl
      have v5 := HV.out.blk.frozen 2
      have u3 := HV2.out.cn.cell 0 rfl
      have u4 := HV2.out.blk.cell 2 rfl
      clear hI HM6 HI6
      obtain ⟨x1, x2⟩ := x
      generalize numP (a, b - 1) pre = nn at *
      by_cases ha : x1 = a
      · by_cases hb : x2 = b - 1
        · have HS : Hid (numP (a, b - 1) (pre ++ [(x1, x2)]) = pre.length + 1) := by unfold Hid; rw [HS0.out, if_pos (by rw [ha, hb])]
          have e1 : ((x1 : Int) == (a : Int)) = true := by simp [ha]
          have e2 : ((x2 : Int) == (b : Int) - 1) = true := by simp; omega
          have e3 : (x1 : Int) = (a : Int) := by omega
          have e4 : (x2 : Int) = (b : Int) - 1 := by omega
          clear ha hb
          by_cases h0 : pre.length = 0
          · have i1 : ¬ (1 : Int) < (pre.length : Int) + 1 := by omega
            clear h0
            gi_wp2
            exact ⟨keepsFrom_tr (keepsFrom_set _ _ _ _ (by omega)) (keepsFrom_set _ _ _ _ (by omega)), (kpX_set2 _ _ _ _ (.inr rfl)).tr (kpX_set2 _ _ _ _ (.inl rfl)), HV2.out.cast (by have := HS.out; omega) (by rw [List.length_append, List.length_singleton]; omega)⟩
          · have i1 : (1 : Int) < (pre.length : Int) + 1 := by omega
            have i2 : (0 : Int) < (pre.length : Int) + 1 := by omega
            have H0 := hid h0
            clear h0
            gi_wp2
            exact ⟨keepsFrom_tr (keepsFrom_set _ _ _ _ (by omega)) (keepsFrom_set _ _ _ _ (by omega)), rfl, by rw [List.length_append, List.length_singleton]; omega, by have := HS.out; omega, HV2.out.cast (by have := HS.out; omega) (by rw [List.length_append, List.length_singleton]; omega)⟩
        · have HS : Hid (numP (a, b - 1) (pre ++ [(x1, x2)]) = nn) := by unfold Hid; rw [HS0.out, if_neg (by intro h; exact hb (Prod.mk.inj h).2)]
          have e1 : ((x1 : Int) == (a : Int)) = true := by simp [ha]
          have e2 : ((x2 : Int) == (b : Int) - 1) = false := by simp; omega
          have e3 : (x1 : Int) = (a : Int) := by omega
          have e4 : ¬ (x2 : Int) = (b : Int) - 1 := by omega
          clear ha hb
          by_cases h0 : pre.length = 0
          · have i1 : ¬ (1 : Int) < (pre.length : Int) + 1 := by omega
            clear h0
            gi_wp2
            exact ⟨keepsFrom_set _ _ _ _ (by omega), kpX_set2 _ _ _ _ (.inr rfl), HV.out.cast (by have := HS.out; omega) (by rw [List.length_append, List.length_singleton]; omega)⟩
          · have i1 : (1 : Int) < (pre.length : Int) + 1 := by omega
            by_cases hn : nn = 0
            · have i2 : ¬ (0 : Int) < (nn : Int) := by omega
              have HN := hid hn
              clear hn h0
              gi_wp2
              exact ⟨keepsFrom_set _ _ _ _ (by omega), kpX_set2 _ _ _ _ (.inr rfl), HV.out.cast (by have := HS.out; omega) (by rw [List.length_append, List.length_singleton]; omega)⟩
            · have i2 : (0 : Int) < (nn : Int) := by omega
              have H0 := hid h0
              have HN := hid hn
              clear hn h0
              gi_wp2
              exact ⟨keepsFrom_set _ _ _ _ (by omega), rfl, by rw [List.length_append, List.length_singleton]; omega, by have := HS.out; omega, HV.out.cast (by have := HS.out; omega) (by rw [List.length_append, List.length_singleton]; omega)⟩
      · have HS : Hid (numP (a, b - 1) (pre ++ [(x1, x2)]) = nn) := by unfold Hid; rw [HS0.out, if_neg (by intro h; exact ha (Prod.mk.inj h).1)]
        have e1 : ((x1 : Int) == (a : Int)) = false := by simp; omega
        have e3 : ¬ (x1 : Int) = (a : Int) := by omega
        clear ha
        by_cases h0 : pre.length = 0
        · have i1 : ¬ (1 : Int) < (pre.length : Int) + 1 := by omega
          clear h0
          gi_wp2
          exact ⟨keepsFrom_set _ _ _ _ (by omega), kpX_set2 _ _ _ _ (.inr rfl), HV.out.cast (by have := HS.out; omega) (by rw [List.length_append, List.length_singleton]; omega)⟩
        · have i1 : (1 : Int) < (pre.length : Int) + 1 := by omega
          by_cases hn : nn = 0
          · have i2 : ¬ (0 : Int) < (nn : Int) := by omega
            have HN := hid hn
            clear hn h0
            gi_wp2
            exact ⟨keepsFrom_set _ _ _ _ (by omega), kpX_set2 _ _ _ _ (.inr rfl), HV.out.cast (by have := HS.out; omega) (by rw [List.length_append, List.length_singleton]; omega)⟩
          · have i2 : (0 : Int) < (nn : Int) := by omega
            have H0 := hid h0
            have HN := hid hn
            clear hn h0
            gi_wp2
            exact ⟨keepsFrom_set _ _ _ _ (by omega), rfl, by rw [List.length_append, List.length_singleton]; omega, by have := HS.out; omega, HV.out.cast (by have := HS.out; omega) (by rw [List.length_append, List.length_singleton]; omega)⟩
    case done2 =>
      rintro D ys W' hD rfl hI hK
      have hple := numP_le (p := (a, b - 1)) (occ_sorted ws s1 s2)
      have hw1 := hI.cn.cell 0 rfl
      have hw2 := hI.blk.cell 2 rfl
      have hw3 := hI.blk.frozen 2
      by_cases h1 : (occ ws s1 s2).length = 1
      · have HON : Hid (ofNum (occ ws s1 s2) (a, b - 1) = 0) := by unfold Hid ofNum; rw [if_pos h1]
        have i1 : ((occ ws s1 s2).length : Int) = 1 := by omega
        rw [i1] at hw1
        have HV := hid (hI.number hsz2 0)
        have v1 := HV.out.blk.cell 0 rfl
        have v2 := HV.out.blk.cell 1 rfl
        have v3 := HV.out.blk.cell 2 rfl
        have g0 := HV.out.res.cell 0 rfl
        have g1 := HV.out.res.cell 1 rfl
        have g2 := HV.out.res.cell 2 rfl
        have d0 := HV.out.res.frozen 0
        have d1 := HV.out.res.frozen 1
        have d2 := HV.out.res.frozen 2
        have HKK := hid ((KeepsOthers.setCell W' ⟨n1, 2, none⟩ (.int .i64 0)).same D _ hK rfl)
        go_wp2_with fail
        generalize W'.setCell ⟨n1, 2, none⟩ (.int .i64 0) = V at *
        have hR := ((HV.out.res.set 0 (.string s1)).set 1 (.string s2)).set 2 (.int .i64 0)
        have hK3 := (KeepsOthers.setCell _ ⟨w.heap.size + 1 + 1, 2, none⟩ (.int .i64 0)).same D _ ((KeepsOthers.setCell _ ⟨w.heap.size + 1 + 1, 1, none⟩ (.string s2)).same D _ ((KeepsOthers.setCell V ⟨w.heap.size + 1 + 1, 0, none⟩ (.string s1)).same D _ HKK.out rfl) rfl) rfl
        have hB3 := ((HV.out.bel.setCell (p := ⟨w.heap.size + 1 + 1, 0, none⟩) (by simp; omega) (.string s1)).setCell (p := ⟨w.heap.size + 1 + 1, 1, none⟩) (by simp; omega) (.string s2)).setCell (p := ⟨w.heap.size + 1 + 1, 2, none⟩) (by simp; omega) (.int .i64 0)
        have hq0 := hR.cell 0 rfl
        have hq1 := hR.cell 1 rfl
        have hq2 := hR.cell 2 rfl
        clear hR
        generalize ((V.setCell ⟨w.heap.size + 1 + 1, 0, none⟩ (.string s1)).setCell ⟨w.heap.size + 1 + 1, 1, none⟩ (.string s2)).setCell ⟨w.heap.size + 1 + 1, 2, none⟩ (.int .i64 0) = V9 at *
        refine ⟨by simp, .inl ⟨_, _, rfl, run_takeDeferred hK3, ?_⟩⟩
        have hz0 := cell_kept hq0 (grownBy_putObj' _ D (.deferred none)) (fun r e => by cases e; exact ⟨_, hK3, rfl⟩)
        have hz1 := cell_kept hq1 (grownBy_putObj' _ D (.deferred none)) (fun r e => by cases e; exact ⟨_, hK3, rfl⟩)
        have hz2 := cell_kept hq2 (grownBy_putObj' _ D (.deferred none)) (fun r e => by cases e; exact ⟨_, hK3, rfl⟩)
        refine ⟨.tuple #[.agg #[.string s1, .string s2, .int .i64 0], .int .i64 0], ?_, by rw [HON.out]; rfl, hB3.grown (grownBy_putObj' _ D _) hB3.size (fun k e => by cases e; omega)⟩
        simp [results, Tryz.f80, go_sem, hz0, hz1, hz2]
      · have HON : Hid (ofNum (occ ws s1 s2) (a, b - 1) = numP (a, b - 1) (occ ws s1 s2)) := by unfold Hid ofNum; rw [if_neg h1]
        have i1 : ¬ ((occ ws s1 s2).length : Int) = 1 := by omega
        have i2 : ¬ (65536 : Int) < (numP (a, b - 1) (occ ws s1 s2) : Int) := by omega
        have v1 := hI.blk.cell 0 rfl
        have v2 := hI.blk.cell 1 rfl
        have g0 := hI.res.cell 0 rfl
        have g1 := hI.res.cell 1 rfl
        have g2 := hI.res.cell 2 rfl
        have d0 := hI.res.frozen 0
        have d1 := hI.res.frozen 1
        have d2 := hI.res.frozen 2
        generalize numP (a, b - 1) (occ ws s1 s2) = nn at *
        go_wp2_with fail
        have hR := ((hI.res.set 0 (.string s1)).set 1 (.string s2)).set 2 (.int .i64 nn)
        have hK3 := (KeepsOthers.setCell _ ⟨w.heap.size + 1 + 1, 2, none⟩ (.int .i64 nn)).same D _ ((KeepsOthers.setCell _ ⟨w.heap.size + 1 + 1, 1, none⟩ (.string s2)).same D _ ((KeepsOthers.setCell W' ⟨w.heap.size + 1 + 1, 0, none⟩ (.string s1)).same D _ hK rfl) rfl) rfl
        have hB3 := ((hI.bel.setCell (p := ⟨w.heap.size + 1 + 1, 0, none⟩) (by simp; omega) (.string s1)).setCell (p := ⟨w.heap.size + 1 + 1, 1, none⟩) (by simp; omega) (.string s2)).setCell (p := ⟨w.heap.size + 1 + 1, 2, none⟩) (by simp; omega) (.int .i64 nn)
        have hq0 := hR.cell 0 rfl
        have hq1 := hR.cell 1 rfl
        have hq2 := hR.cell 2 rfl
        clear hR
        generalize ((W'.setCell ⟨w.heap.size + 1 + 1, 0, none⟩ (.string s1)).setCell ⟨w.heap.size + 1 + 1, 1, none⟩ (.string s2)).setCell ⟨w.heap.size + 1 + 1, 2, none⟩ (.int .i64 nn) = V9 at *
        refine ⟨by simp, .inl ⟨_, _, rfl, run_takeDeferred hK3, ?_⟩⟩
        have hz0 := cell_kept hq0 (grownBy_putObj' _ D (.deferred none)) (fun r e => by cases e; exact ⟨_, hK3, rfl⟩)
        have hz1 := cell_kept hq1 (grownBy_putObj' _ D (.deferred none)) (fun r e => by cases e; exact ⟨_, hK3, rfl⟩)
        have hz2 := cell_kept hq2 (grownBy_putObj' _ D (.deferred none)) (fun r e => by cases e; exact ⟨_, hK3, rfl⟩)
        refine ⟨.tuple #[.agg #[.string s1, .string s2, .int .i64 nn], .int .i64 0], ?_, by rw [HON.out], hB3.grown (grownBy_putObj' _ D _) hB3.size (fun k e => by cases e; omega)⟩
        simp [results, Tryz.f80, go_sem, hz0, hz1, hz2]
    case stop2 =>
      rintro D c pre W' hD ⟨r, hsp⟩ ⟨rfl, hc1, hn0, hI⟩ hK
      have hple := numP_le (p := (a, b - 1)) (occ_sorted ws s1 s2)
      have HON : Hid (ofNum (occ ws s1 s2) (a, b - 1) = numP (a, b - 1) pre) := by
        have hl := congrArg List.length hsp
        rw [List.length_append] at hl
        unfold Hid ofNum
        rw [if_neg (by omega), ← hsp]
        exact (numP_part (by rw [hsp]; exact occ_sorted _ _ _) hn0).symm
      have hw1 := hI.cn.cell 0 rfl
      have hw2 := hI.blk.cell 2 rfl
      have hw3 := hI.blk.frozen 2
      have i1 : ¬ (pre.length : Int) = 1 := by omega
      have hnl := numP_le2 (a, b - 1) pre
      have hpl : pre.length ≤ 182 := by
        have hl := congrArg List.length hsp
        rw [List.length_append] at hl
        omega
      have i2 : ¬ (65536 : Int) < (numP (a, b - 1) pre : Int) := by omega
      have v1 := hI.blk.cell 0 rfl
      have v2 := hI.blk.cell 1 rfl
      have g0 := hI.res.cell 0 rfl
      have g1 := hI.res.cell 1 rfl
      have g2 := hI.res.cell 2 rfl
      have d0 := hI.res.frozen 0
      have d1 := hI.res.frozen 1
      have d2 := hI.res.frozen 2
      generalize numP (a, b - 1) pre = nn at *
      clear hsp hc1 hn0
      gi_wp2_with fail
      go_wp2_with fail
      have hR := ((hI.res.set 0 (.string s1)).set 1 (.string s2)).set 2 (.int .i64 nn)
      have hK3 := (KeepsOthers.setCell _ ⟨w.heap.size + 1 + 1, 2, none⟩ (.int .i64 nn)).same D _ ((KeepsOthers.setCell _ ⟨w.heap.size + 1 + 1, 1, none⟩ (.string s2)).same D _ ((KeepsOthers.setCell W' ⟨w.heap.size + 1 + 1, 0, none⟩ (.string s1)).same D _ hK rfl) rfl) rfl
      have hB3 := ((hI.bel.setCell (p := ⟨w.heap.size + 1 + 1, 0, none⟩) (by simp; omega) (.string s1)).setCell (p := ⟨w.heap.size + 1 + 1, 1, none⟩) (by simp; omega) (.string s2)).setCell (p := ⟨w.heap.size + 1 + 1, 2, none⟩) (by simp; omega) (.int .i64 nn)
      have hq0 := hR.cell 0 rfl
      have hq1 := hR.cell 1 rfl
      have hq2 := hR.cell 2 rfl
      clear hR
      generalize ((W'.setCell ⟨w.heap.size + 1 + 1, 0, none⟩ (.string s1)).setCell ⟨w.heap.size + 1 + 1, 1, none⟩ (.string s2)).setCell ⟨w.heap.size + 1 + 1, 2, none⟩ (.int .i64 nn) = V9 at *
      refine ⟨by simp, .inl ⟨_, _, rfl, run_takeDeferred hK3, ?_⟩⟩
      have hz0 := cell_kept hq0 (grownBy_putObj' _ D (.deferred none)) (fun r e => by cases e; exact ⟨_, hK3, rfl⟩)
      have hz1 := cell_kept hq1 (grownBy_putObj' _ D (.deferred none)) (fun r e => by cases e; exact ⟨_, hK3, rfl⟩)
      have hz2 := cell_kept hq2 (grownBy_putObj' _ D (.deferred none)) (fun r e => by cases e; exact ⟨_, hK3, rfl⟩)
      refine ⟨.tuple #[.agg #[.string s1, .string s2, .int .i64 nn], .int .i64 0], ?_, by rw [HON.out], hB3.grown (grownBy_putObj' _ D _) hB3.size (fun k e => by cases e; omega)⟩
      simp [results, Tryz.f80, go_sem, hz0, hz1, hz2]
end Go.Proofs.YtjhdeoniafahbaaGreatDoor
