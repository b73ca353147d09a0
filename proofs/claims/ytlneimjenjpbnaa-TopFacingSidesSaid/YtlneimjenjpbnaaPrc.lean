/-
  facing.prices: the prices of the pages of one side.
-/
import Derived.Test.YtlneimjenjpbnaaFpg
import Derived.Test.YtlneimjenjpbnaaOwG
namespace Go.Proofs.Ytlneimjenjpbnaa
open Go.RowKit

def encP (x : Int × Int) : List Value := [.int .i64 x.1, .int .i64 x.2]
theorem encP_len (x : Int × Int) : (encP x).length = 2 := rfl
/-- The rows of the prices while they are found. -/
def prcM (p : PP) (N k : Nat) : List (List (Int × Int)) := (List.range N).map fun i => if i < k then prs p i else []
theorem prcM_len (p : PP) (N k : Nat) : (prcM p N k).length = N := by unfold prcM; simp
theorem prcM_at (p : PP) (N k i : Nat) (h : i < N) : (prcM p N k)[i]? = some (if i < k then prs p i else []) := by unfold prcM; simp [h]
theorem prcM_set (p : PP) {N k : Nat} (h : k < N) : (prcM p N k).set k (prs p k) = prcM p N (k + 1) := by
  refine List.ext_getElem? fun i => ?_
  by_cases hi : i < N
  · by_cases e : k = i
    · subst e
      rw [List.getElem?_set_self (by rw [prcM_len]; exact h), prcM_at _ _ _ _ hi, if_pos (by omega)]
    · rw [List.getElem?_set_ne e, prcM_at _ _ _ _ hi, prcM_at _ _ _ _ hi]
      by_cases h2 : i < k
      · rw [if_pos h2, if_pos (by omega)]
      · rw [if_neg h2, if_neg (by omega)]
  · rw [List.getElem?_eq_none (by simp [prcM_len]; omega), List.getElem?_eq_none (by rw [prcM_len]; omega)]
theorem prsF_len (p : PP) (f : Nat) : ∀ (k t : Nat), (prsF p f t k).length ≤ k
  | 0, t => by simp [prsF]
  | k + 1, t => by
    have := prsF_len p f k (t + 1)
    unfold prsF
    split
    · simp
    · simp only [List.length_cons]; omega
theorem infoPr : (Try.prog.info? 73).map (fun i => (i.zero, i.size, i.bytes)) = some (some (.agg #[.int .i64 0, .int .i64 0]), 2, 16) := by kernel_rfl
theorem infoSPr : (Try.prog.info? 71).map (fun i => (i.zero, i.size, i.bytes)) = some (some (.slice none 0 0), 1, 24) := by kernel_rfl
abbrev OwP := OwG (α := Int × Int) 71 73 2 encP

theorem set_same {α : Type} {l : List α} {k : Nat} {x : α} (h : l[k]? = some x) : l.set k x = l := by
  refine List.ext_getElem? fun i => ?_
  by_cases e : k = i
  · subst e; rw [List.getElem?_set_self (List.getElem?_eq_some_iff.1 h).1, h]
  · rw [List.getElem?_set_ne e]
/-- While the prices are found. -/
structure PrcI (w : World) (B0 : Array Value) (G : Nat) (vs : List Value) (M : List (List (Int × Int))) (W : World) : Prop where
  bel : Below w.heap.size w W
  box : Row W w.heap.size B0 25
  om : OwP W w.heap.size G vs M
  lo : w.heap.size ≤ G
theorem PrcI.below {w : World} {B0 : Array Value} {G : Nat} {vs : List Value} {M : List (List (Int × Int))} {W W' : World} (h : PrcI w B0 G vs M W) (hb : Below W.heap.size W W') : PrcI w B0 G vs M W' := ⟨below_tr h.bel hb, h.box.below hb, h.om.below hb, h.lo⟩
theorem PrcI.at {w : World} {B0 : Array Value} {G k : Nat} {vs : List Value} {M : List (List (Int × Int))} {L : List (Int × Int)} {W : World} (h : PrcI w B0 G vs M W) (hL : M[k]? = some L) : ∃ v, vs[k]? = some v ∧ W.cell? ⟨G, k, none⟩ = some v ∧ W.ownsRow w.heap.size 73 2 v L.length (L.flatMap encP) := by
  have hl : k < vs.length := by rw [h.om.len]; exact (List.getElem?_eq_some_iff.1 hL).1
  exact ⟨vs[k], List.getElem?_eq_getElem hl, h.om.outer.cell k (by simp [hl]), h.om.rows k _ _ (List.getElem?_eq_getElem hl) hL⟩
theorem PrcI.push {w : World} {B0 : Array Value} {G k g cap : Nat} {vs : List Value} {M : List (List (Int × Int))} {L : List (Int × Int)} {x : Int × Int} {v : Value} {W W' : World} (h : PrcI w B0 G vs M W) (hL : M[k]? = some L) (hv : vs[k]? = some v)
    (ho : W'.ownsRow w.heap.size 73 2 (.slice (some ⟨g, 0, none⟩) (L.length + 1) cap) (L.length + 1) (L.flatMap encP ++ encP x)) (hb : Below w.heap.size W W') (hg : W.grownBy W' v.ownBlock) (hat : v.ownBlock = some g ∨ W.heap.size < g) :
    PrcI w B0 G (vs.set k (.slice (some ⟨g, 0, none⟩) (L.length + 1) cap)) (M.set k (L ++ [x])) (W'.setCell ⟨G, k, none⟩ (.slice (some ⟨g, 0, none⟩) (L.length + 1) cap)) ∧ W'.cell? ⟨G, k, none⟩ = some v ∧ W'.frozen? ⟨G, k, none⟩ = false := by
  have hro := h.om.rows k v L hv hL
  have hG1 := row_own_neX h.om.outer hro (by decide)
  have hB1 := row_own_neX h.box hro (by decide)
  have hout : Row W' G vs.toArray 71 := (hg.block G h.om.outer.lt (fun e => hG1 e.symm)).trans h.om.outer
  have hbox : Row W' w.heap.size B0 25 := (hg.block _ h.box.lt (fun e => hB1 e.symm)).trans h.box
  have hne : w.heap.size ≠ G := fun e => by
    have h3 : W'.heap[G]? = _ := hout
    have h4 : W'.heap[w.heap.size]? = _ := hbox
    rw [e, h3] at h4
    simp only [Option.some.injEq, Obj.cells.injEq] at h4
    exact absurd h4.2.1 (by decide)
  refine ⟨⟨?_, hbox.other _ _ (by simpa using hne), h.om.put (by decide) hv hL hg (.inr rfl) (by rw [List.length_append, List.flatMap_append]; simpa using ho) (hat.imp id (fun e => by omega)), h.lo⟩, hout.cell k (by simpa using hv), hout.frozen k⟩
  exact (h.bel.trans hb).setCell h.lo _

/-- The prices, each row in a block of its own. -/
def PrR (W : World) (v : Value) (p : PP) : Prop :=
  ∃ base G vs cap, v = .slice (some ⟨G, 0, none⟩) (prcM p (p.lines.length + 1) (p.lines.length + 1)).length cap ∧ OwG 71 73 2 encP W base G vs (prcM p (p.lines.length + 1) (p.lines.length + 1)) ∧ (prcM p (p.lines.length + 1) (p.lines.length + 1)).length ≤ cap ∧ cap ≤ maxLen
theorem PrR.rd {W : World} {v : Value} {p : PP} (h : PrR W v p) : RdMC 2 encP W v (prcM p (p.lines.length + 1) (p.lines.length + 1)) := by
  obtain ⟨base, G, vs, cap, rfl, h2, h3, h4⟩ := h
  exact h2.rd encP_len h3 h4
theorem PrR.sl {W : World} {v : Value} {p : PP} (h : PrR W v p) : ∃ a c, v = .slice a (prcM p (p.lines.length + 1) (p.lines.length + 1)).length c := by
  obtain ⟨base, G, vs, cap, rfl, _⟩ := h
  exact ⟨_, _, rfl⟩
theorem PrR.below {W W' : World} {v : Value} {p : PP} (h : PrR W v p) (hb : Below W.heap.size W W') : PrR W' v p := by
  obtain ⟨base, G, vs, cap, h1, h2, h3⟩ := h
  exact ⟨base, G, vs, cap, h1, h2.below hb, h3⟩
theorem PrR.set {W : World} {v : Value} {p : PP} {B : Nat} {cs : Array Value} {t : TypeId} (h : PrR W v p) (hr : Row W B cs t) (h1 : t ≠ 71) (h2 : t ≠ 73) (i : Nat) (u : Value) : PrR (W.setCell ⟨B, i, none⟩ u) v p := by
  obtain ⟨base, G, vs, cap, e1, e2, e3⟩ := h
  have hG : G ≠ B := fun e => by
    have h3 : W.heap[G]? = _ := e2.outer
    have h4 : W.heap[B]? = _ := hr
    rw [e, h4] at h3
    simp only [Option.some.injEq, Obj.cells.injEq] at h3
    exact h1 h3.2.1
  exact ⟨base, G, vs, cap, e1, ⟨e2.outer.other _ _ (by simpa using hG), e2.len, fun j x row hv hrow => own_setX (e2.rows j x row hv hrow) _ _ (row_own_neX hr (e2.rows j x row hv hrow) h2), e2.apart⟩, e3⟩

set_option maxRecDepth 100000 in
set_option maxHeartbeats 4000000 in
theorem prices_any2 (p : PP) (vl vn vp : Value) (w : World) (hr : RdP5 w vl vn vp p) (hz : ppI p = 0) :
    Calls Try.prog 13 #[.agg (ppC p vl vn vp)] w fun e w' => ∃ v, e = .returned v ∧ PrR w' v p ∧ Below w.heap.size w w' := by
  have HB0 := hid (below_al w (.cells (ppC p vl vn vp) 25))
  have HR0 := hid (row_nw w (ppC p vl vn vp) 25 rfl)
  have HRW := hid hr
  have n4 := (pp_ok hz).n4
  obtain ⟨a1, c1, rfl, _, _, _⟩ := hr.l.open
  obtain ⟨a2, c2, rfl, hl2, hm2, _⟩ := hr.n.open
  obtain ⟨a3, c3, rfl, _, _, _⟩ := hr.s.open
  have HPG := hid (fun f t w' h h1 h2 => fpage_any p (.slice a1 p.lines.length c1) (.slice a2 p.notes.length c2) (.slice a3 p.pens.length c3) f t w' h hz h1 h2)
  clear hr hz
  unfold ppC at HB0 HR0 HPG ⊢
  unfold PrR
  obtain ⟨N, hN⟩ : ∃ N, N = p.lines.length + 1 := ⟨_, rfl⟩
  have hw1 : IntKind.i64.wrap ((p.lines.length : Int) + 1) = (N : Int) := by rw [show (p.lines.length : Int) + 1 = (N : Int) by omega]; exact IntWalk.i64_in _ (by omega)
  rw [← hN]
  have hN5 : N ≤ 4097 := by omega
  have HN := hid hN
  clear hN
  have c0 := HR0.out.cell 0 (x := .slice a1 p.lines.length c1) rfl
  obtain ⟨i8, hi8, hz80, hz81, hz82⟩ := info_parts infoSPr
  go_enter Try.func13, Try.ntmps13
  go_upto_region 1 with fail
  generalize hW0 : w.alloc (.cells #[.slice a1 p.lines.length c1, .slice a2 p.notes.length c2, .slice a3 p.pens.length c3, .int .i64 p.h, .int .i64 p.gap] 25) = W0 at *
  go_wp2_with (at_make; refine wpList_make_full _ rfl _ _ 43 rfl w.heap.size 71 i8 (.slice none 0 0) 1 Try.underlying43 hi8 hz80 hz81 .i64 .i64 _ _ N rfl rfl rfl rfl (by rw [hz82]; omega) (by unfold maxLen; omega) HB0.out.size ?_; intro w2 hown2 hg2; have hb2 : Below W0.heap.size W0 w2 := ⟨hg2.os, hg2.tape, hg2.output, hg2.size, fun k hk => hg2.block k hk (by simp)⟩)
  obtain ⟨hG2, _⟩ := own_full hown2
  have hGr : Row w2 W0.heap.size (List.replicate N (Value.slice none 0 0)).toArray 71 := by
    have h : w2.heap[W0.heap.size]? = some (.cells (madeCells #[Value.slice none 0 0] (N * 1)).toList.toArray 71 (0, 0)) := hG2
    rw [Nat.mul_one, toList_madeCells_one] at h
    exact h
  have HM0 : prcM p N 0 = List.replicate N [] := by
    refine List.ext_getElem? fun i => ?_
    by_cases hi : i < N
    · rw [prcM_at _ _ _ _ hi, List.getElem?_replicate, if_pos hi, if_neg (by omega)]
    · rw [List.getElem?_eq_none (by rw [prcM_len]; omega), List.getElem?_eq_none (by simp; omega)]
  have HI0 : Hid (PrcI w #[.slice a1 p.lines.length c1, .slice a2 p.notes.length c2, .slice a3 p.pens.length c3, .int .i64 p.h, .int .i64 p.gap] W0.heap.size (List.replicate N (.slice none 0 0)) (prcM p N 0) w2) :=
    ⟨below_tr HB0.out hb2, HR0.out.below hb2, by rw [HM0]; exact OwG.nil hGr, HB0.out.size⟩
  clear hown2 hg2 hG2 hGr HM0 c0
  generalize W0.heap.size = G at *
  go_loopw [15] (fun i wr => ∃ (k : Nat) (vs : List Value), k ≤ N ∧ i = .int .i64 k ∧ Hid (PrcI w #[.slice a1 p.lines.length c1, .slice a2 p.notes.length c2, .slice a3 p.pens.length c3, .int .i64 p.h, .int .i64 p.gap] G vs (prcM p N k) wr)) (fun i _ => N - (intOf i).toNat)
  case atStart => exact ⟨0, _, Nat.zero_le _, rfl, HI0.out⟩
  case round =>
    obtain ⟨w1, rfl⟩ : ∃ w1 : World, w1 = wr := ⟨_, rfl⟩
    obtain ⟨k, vs, hk, rfl, HI⟩ := hrel
    clear HI0
    by_cases hlt : k < N
    · have hki : (k : Int) < (N : Int) := by omega
      have HSET := hid (prcM_set p hlt)
      go_wp2_with fail
      go_loopw [5] (fun i wr => ∃ (t : Nat) (vs : List Value) (L : List (Int × Int)), k ≤ t ∧ t ≤ N ∧ i = .int .i64 t ∧ L.length ≤ t ∧ Hid (L ++ prsF p k t (N - t) = prs p k) ∧ Hid (PrcI w #[.slice a1 p.lines.length c1, .slice a2 p.notes.length c2, .slice a3 p.pens.length c3, .int .i64 p.h, .int .i64 p.gap] G vs ((prcM p N k).set k L) wr)) (fun i _ => N - (intOf i).toNat)
      case atStart => exact ⟨k, vs, [], Nat.le_refl _, hk, rfl, by simp, by rw [List.nil_append, HN.out]; exact rfl, by
          have h := HI.out
          rw [show (prcM p N k).set k [] = prcM p N k from set_same (by rw [prcM_at _ _ _ _ hlt, if_neg (by omega)])]
          exact h⟩
      case round =>
        obtain ⟨t, vs2, L, hkt, ht, rfl, hLl, HL, HI2⟩ := hrel
        clear HI
        have b0 := HI2.out.box.cell 0 (x := .slice a1 p.lines.length c1) rfl
        by_cases htl : t < N
        · have htn : t ≤ p.lines.length := by have := HN.out; omega
          have hti : (t : Int) ≤ (p.lines.length : Int) := by omega
          have HP := hid (HPG.out k t wr (HRW.out.below HI2.out.bel) hkt htn)
          have b1 := HI2.out.box.cell 1 (x := .slice a2 p.notes.length c2) rfl
          have b2 := HI2.out.box.cell 2 (x := .slice a3 p.pens.length c3) rfl
          have b3 := HI2.out.box.cell 3 (x := .int .i64 p.h) rfl
          have b4 := HI2.out.box.cell 4 (x := .int .i64 p.gap) rfl
          obtain ⟨m, hm⟩ : ∃ m, N - t = m + 1 := ⟨N - t - 1, by omega⟩
          have HM : Hid (N - (t + 1) = m) := by show _ = _; omega
          have HL2 : Hid (L ++ (pgF p k t :: if (pgF p k t).2 = 22 then [] else prsF p k (t + 1) m) = prs p k) := by
            have h := HL.out
            rw [hm, prsF] at h
            exact h
          clear hm HL
          have hL0 : ((prcM p N k).set k L)[k]? = some L := List.getElem?_set_self (by rw [prcM_len]; exact hlt)
          have HL0 := hid hL0
          clear hL0
          generalize pgF p k t = R at *
          obtain ⟨c, e⟩ := R
          dsimp only at HP HL2
          go_wp2_with fail
          (with_reducible refine HP.out.mono ?_)
          rintro e w3 ⟨rfl, hb3⟩
          have HI3 := hid (HI2.out.below hb3)
          clear hb3 HI2 b0 b1 b2 b3 b4
          obtain ⟨v, hv, cv, hown⟩ := HI3.out.at HL0.out
          have HV := hid hv
          clear hv
          have hkt' : (k : Int) < (N : Int) := hki
          by_cases h22 : e = 22
          · have i1 : (e == 22) = true := by rw [h22]; rfl
            have HL3 : Hid (L ++ [(c, e)] = prs p k) := by
              have h := HL2.out
              rw [if_pos h22] at h
              exact h
            clear HL2 h22
            go_wp2_with (at_builtin; refine wpList_ap2 rfl _ _ 71 rfl w.heap.size 73 Try.underlying71 infoPr rfl (by decide) (by decide) _ _ _ rfl hown [.int .i64 c, .int .i64 e] rfl (by simp [Value.oneCell']) rfl (by simp) (by omega) HI3.out.bel.size ?_; intro g1 cap1 w9 hown' hb1 hgr hat _; have HP9 := hid (HI3.out.push (x := (c, e)) HL0.out HV.out hown' hb1 hgr hat); have cG := HP9.out.2.1; have fG := HP9.out.2.2; clear hown' hb1 hgr hat)
            go_roundw
            case rel => exact ⟨k + 1, _, by omega, by go_num, by
              have h := HP9.out.1
              rw [List.set_set, HL3.out, HSET.out] at h
              exact h⟩
            case measure => simp [intOf]; omega
          · have i1 : (e == 22) = false := beq_eq_false_iff_ne.2 h22
            have HL3 : Hid ((L ++ [(c, e)]) ++ prsF p k (t + 1) m = prs p k) := by
              have h := HL2.out
              rw [if_neg h22] at h
              rw [List.append_assoc]
              exact h
            clear HL2 h22
            go_wp2_with (at_builtin; refine wpList_ap2 rfl _ _ 71 rfl w.heap.size 73 Try.underlying71 infoPr rfl (by decide) (by decide) _ _ _ rfl hown [.int .i64 c, .int .i64 e] rfl (by simp [Value.oneCell']) rfl (by simp) (by omega) HI3.out.bel.size ?_; intro g1 cap1 w9 hown' hb1 hgr hat _; have HP9 := hid (HI3.out.push (x := (c, e)) HL0.out HV.out hown' hb1 hgr hat); have cG := HP9.out.2.1; have fG := HP9.out.2.2; clear hown' hb1 hgr hat)
            go_roundw
            case rel => exact ⟨t + 1, _, L ++ [(c, e)], by omega, by omega, by go_num, by simp; omega, by rw [HM.out]; exact HL3.out, by
              have h := HP9.out.1
              rw [List.set_set] at h
              exact h⟩
            case measure => simp [intOf]; omega
        · have hti : ¬ (t : Int) ≤ (p.lines.length : Int) := by have := HN.out; omega
          have HL3 : Hid (L = prs p k) := by
            have h := HL.out
            rw [show N - t = 0 by omega, prsF, List.append_nil] at h
            exact h
          clear HL
          go_wp2_with fail
          go_roundw
          case rel => exact ⟨k + 1, vs2, by omega, by go_num, by
            have h := HI2.out
            rw [HL3.out, HSET.out] at h
            exact h⟩
          case measure => simp [intOf]; omega
    · obtain rfl : k = N := by omega
      have hki : ¬ (k : Int) < (k : Int) := by omega
      go_wp2_with fail
      go_ret
      exact ⟨_, rfl, ⟨_, _, _, k, by rw [prcM_len]; rfl, HI.out.om, by rw [prcM_len]; exact Nat.le_refl _, by unfold maxLen; omega⟩, HI.out.bel⟩
theorem prices_any (p : PP) (vl vn vp : Value) (w : World) (hr : RdP5 w vl vn vp p) (hz : ppI p = 0) :
    Calls Try.prog 13 #[.agg (ppC p vl vn vp)] w fun e w' => ∃ v, e = .returned v ∧ RdMC 2 encP w' v (prcM p (p.lines.length + 1) (p.lines.length + 1)) ∧ Below w.heap.size w w' :=
  (prices_any2 p vl vn vp w hr hz).mono fun _ _ ⟨v, h1, h2, h3⟩ => ⟨v, h1, h2.rd, h3⟩
end Go.Proofs.Ytlneimjenjpbnaa
