/-
  notation.Parse: plain facts, and what is kept while it runs.
-/
import Derived.Test.YtjhdeoniafahbaaGreatDoorFnt
import Derived.Test.YtjhdeoniafahbaaGreatDoorJ04
import Derived.Test.YtjhdeoniafahbaaGreatDoorPrt45
import Derived.Test.YtjhdeoniafahbaaGreatDoorJ08
namespace Go.Proofs.YtjhdeoniafahbaaGreatDoor
open Go.RowKit

theorem split_sz16 {s : ByteArray} (h : s.size ≤ 65536) : Sz16 (splitS s) := fun x hx => Nat.le_trans (splitS_size s x hx) h
theorem sigL_sz {l : List ByteArray} (h : (joinB l).size ≤ 65536) : Sz16 (sigL l) := by
  unfold sigL
  split
  · split
    · intro x hx; cases hx
    · refine split_sz16 ?_
      have h1 := cutPS_size (joinB l) lbrB
      have h2 := cutXS_size (cutPS (joinB l) lbrB) rbrB
      unfold inrB; omega
  · intro x hx; cases hx
theorem unqL_sz {s : ByteArray} (h : s.size ≤ 65536) : Sz16 (unqL s) := by
  unfold unqL
  split
  · intro x hx; cases hx
  · split
    · intro x hx; cases hx
    · split
      · exact split_sz16 h
      · intro x hx; cases hx
theorem vrP_sz {l : List ByteArray} (h : (joinB l).size ≤ 65536) : Sz16 (vrP l).ws ∧ Sz16 (vrP l).sg := by
  unfold vrP
  split
  · constructor <;> (intro x hx; cases hx)
  · exact ⟨unqL_sz (Nat.le_trans (take_join_le _ _) h), sigL_sz (Nat.le_trans (drop_join_le _ _) h)⟩
theorem sub_join_le (l : List ByteArray) (i n : Nat) : (joinB ((l.drop i).take n)).size ≤ (joinB l).size := Nat.le_trans (take_join_le _ _) (drop_join_le _ _)
theorem bars_sub : ∀ (n : Nat) (l : List ByteArray), l.length ≤ n → ∀ g ∈ barsP l, ∃ i m, g = (l.drop i).take m
  | 0, l, h, g, hg => by
    obtain rfl : l = [] := List.eq_nil_of_length_eq_zero (by omega)
    exact ⟨0, 0, by simpa [barsP] using hg⟩
  | n + 1, l, h, g, hg => by
    rcases fIdx_cases (fun x => decide (x = barB)) l with hI | ⟨k, x, hI, _, hk, _⟩
    · rw [barsP_neg hI] at hg
      exact ⟨0, l.length, by rw [List.mem_singleton.1 hg]; simp⟩
    · rw [barsP_pos hI] at hg
      rcases List.mem_cons.1 hg with rfl | hg
      · exact ⟨0, k, by simp⟩
      · obtain ⟨i, m, e⟩ := bars_sub n (l.drop (k + 1)) (by rw [List.length_drop]; omega) g hg
        exact ⟨k + 1 + i, m, by rw [e, List.drop_drop]⟩
theorem lm_sz {s : ByteArray} (h : (parseLm s).e = 0) : (parseLm s).f.size ≤ 65536 ∧ (parseLm s).l.size ≤ 65536 := by
  have e : parseLm s = ⟨(parseLm s).f, (parseLm s).l, (parseLm s).n, 0⟩ := by rw [← h]
  obtain ⟨h1, h2, _, _⟩ := lck_parts (print_parse43 e).1
  refine ⟨by have := wordB_66 h1; omega, ?_⟩
  rcases h2 with h2 | h2
  · omega
  · have := wordB_66 h2; omega
theorem noteP_sz {s : ByteArray} (hs : s.size ≤ 65536) (hh : hdB (frP s) = true) : SzN (noteP s) := by
  have hj : ∀ i n, (joinB (((splitS s).drop i).take n)).size ≤ 65536 := fun i n => by have := sub_join_le (splitS s) i n; rw [joinB_split] at this; omega
  have hlm : (hdLm (frP s)).f.size ≤ 65536 ∧ (hdLm (frP s)).l.size ≤ 65536 := by
    unfold hdB at hh
    simp only [Bool.and_eq_true] at hh
    unfold hdLm at hh ⊢
    split
    · exact ⟨Nat.zero_le _, Nat.zero_le _⟩
    · rename_i h4
      rw [if_neg h4, if_neg h4] at hh
      exact lm_sz (of_decide_eq_true hh.2.2)
  refine ⟨hlm.1, hlm.2, ?_, ?_⟩
  · show Sz16 (supL (frP s))
    unfold supL
    split
    · intro x hx; cases hx
    · refine sigL_sz ?_
      refine Nat.le_trans (drop_join_le _ _) (Nat.le_trans (drop_join_le _ 1) ?_)
      have := hj 0 (endI (splitS s)).toNat
      simpa [frP] using this
  · intro v hv
    obtain ⟨g, hg, rfl⟩ := List.mem_map.1 (show v ∈ (grpsP s).map vrP from hv)
    obtain ⟨i, m, rfl⟩ := bars_sub _ _ (Nat.le_refl _) g hg
    rw [List.drop_drop]
    exact vrP_sz (hj _ _)

theorem okP_big {s : ByteArray} (h : 65536 < s.size) : okP s = false := by
  cases ho : okP s with
  | false => rfl
  | true =>
    unfold okP at ho
    simp only [Bool.and_eq_true, decide_eq_true_eq] at ho
    obtain ⟨_, _, _, h1, h2⟩ := ho
    unfold prE at h1
    split at h1
    · split at h1
      · cases h1
      · rw [h2] at *; omega
    · rename_i hc; exact absurd h1 hc
theorem par_big {s : ByteArray} (h : 65536 < s.size) : parI s = 4 ∧ parN s = nt0 := by
  unfold parI parN
  rw [okP_big h, if_neg (by simp), if_pos h, if_neg (by simp)]
  exact ⟨rfl, rfl⟩
theorem par_fail {s : ByteArray} (h : okP s = false) (hs : ¬ 65536 < s.size) : parI s = 3 ∧ parN s = nt0 := by
  unfold parI parN
  rw [h, if_neg (by simp), if_neg hs, if_neg (by simp)]
  exact ⟨rfl, rfl⟩
theorem par_yes {s : ByteArray} (h : okP s = true) : parI s = 0 ∧ parN s = noteP s := by
  unfold parI parN
  rw [h, if_pos rfl, if_pos rfl]
  exact ⟨rfl, rfl⟩

/-- The result's cells while Parse runs. -/
structure PaS (w W : World) : Prop where
  res : Row W w.heap.size zeroN 30
  err : Row W (w.heap.size + 1) #[.int .i64 0] 35
  bel : Below w.heap.size w W
theorem PaS.below {w W W' : World} (h : PaS w W) (hb : Below W.heap.size W W') : PaS w W' := ⟨h.res.below hb, h.err.below hb, below_tr h.bel hb⟩
theorem PaS.other {w W : World} (h : PaS w W) {B : Nat} (hB : w.heap.size + 2 ≤ B) (i : Nat) (c : Value) : PaS w (W.setCell ⟨B, i, none⟩ c) :=
  ⟨h.res.other _ _ (by simp; omega), h.err.other _ _ (by simp; omega), h.bel.setCell (by simp; omega) c⟩
theorem PaS.grown {w W W' : World} {row : Option Nat} (h : PaS w W) (hg : W.grownBy W' row) (hr : ∀ r, row = some r → w.heap.size ≤ r ∧ ∃ o : Obj, W.heap[r]? = some o ∧ o.isCells = false) : PaS w W' :=
  ⟨h.res.grown hg (fun r e => (hr r e).2), h.err.grown hg (fun r e => (hr r e).2), h.bel.grown hg h.bel.size (fun k e => (hr k e).1)⟩
theorem PaS.fin {w W : World} (h : PaS w W) (y : Nt) (u s : Value) (c : Int) :
    Row ((((((((((W.setCell ⟨w.heap.size, 0, none⟩ (.int .i64 y.fr)).setCell ⟨w.heap.size, 1, none⟩ (.int .i64 y.to_)).setCell ⟨w.heap.size, 2, none⟩ (.int .i64 y.pl)).setCell ⟨w.heap.size, 3, none⟩ (.string y.lf)).setCell ⟨w.heap.size, 4, none⟩ (.string y.ll)).setCell ⟨w.heap.size, 5, none⟩ (.int .i64 y.ln)).setCell ⟨w.heap.size, 6, none⟩ (.bool y.pos)).setCell ⟨w.heap.size, 7, none⟩ u).setCell ⟨w.heap.size, 8, none⟩ s).setCell ⟨w.heap.size + 1, 0, none⟩ (.int .i64 c)) w.heap.size (y.cells u s) 30 ∧
    Row ((((((((((W.setCell ⟨w.heap.size, 0, none⟩ (.int .i64 y.fr)).setCell ⟨w.heap.size, 1, none⟩ (.int .i64 y.to_)).setCell ⟨w.heap.size, 2, none⟩ (.int .i64 y.pl)).setCell ⟨w.heap.size, 3, none⟩ (.string y.lf)).setCell ⟨w.heap.size, 4, none⟩ (.string y.ll)).setCell ⟨w.heap.size, 5, none⟩ (.int .i64 y.ln)).setCell ⟨w.heap.size, 6, none⟩ (.bool y.pos)).setCell ⟨w.heap.size, 7, none⟩ u).setCell ⟨w.heap.size, 8, none⟩ s).setCell ⟨w.heap.size + 1, 0, none⟩ (.int .i64 c)) (w.heap.size + 1) #[.int .i64 c] 35 ∧
    Below w.heap.size w ((((((((((W.setCell ⟨w.heap.size, 0, none⟩ (.int .i64 y.fr)).setCell ⟨w.heap.size, 1, none⟩ (.int .i64 y.to_)).setCell ⟨w.heap.size, 2, none⟩ (.int .i64 y.pl)).setCell ⟨w.heap.size, 3, none⟩ (.string y.lf)).setCell ⟨w.heap.size, 4, none⟩ (.string y.ll)).setCell ⟨w.heap.size, 5, none⟩ (.int .i64 y.ln)).setCell ⟨w.heap.size, 6, none⟩ (.bool y.pos)).setCell ⟨w.heap.size, 7, none⟩ u).setCell ⟨w.heap.size, 8, none⟩ s).setCell ⟨w.heap.size + 1, 0, none⟩ (.int .i64 c)) := by
  refine ⟨(row9 h.res _ _ _ _ _ _ _ _ _).other _ _ (by simp), ?_, (bel_set9 h.bel (Nat.le_refl _) y u s).setCell (by simp) _⟩
  have e : ∀ (V : World) (i : Nat) (c : Value), Row V (w.heap.size + 1) #[.int .i64 0] 35 → Row (V.setCell ⟨w.heap.size, i, none⟩ c) (w.heap.size + 1) #[.int .i64 0] 35 := fun V i c hv => hv.other _ _ (by simp)
  exact (e _ _ _ (e _ _ _ (e _ _ _ (e _ _ _ (e _ _ _ (e _ _ _ (e _ _ _ (e _ _ _ (e _ _ _ h.err))))))))).set 0 _
theorem OwN.set9e {W : World} {w : World} {u s : Value} {y : Nt} (h : OwN W u s y) (hp : PaS w W) (c : Int) : OwN ((((((((((W.setCell ⟨w.heap.size, 0, none⟩ (.int .i64 y.fr)).setCell ⟨w.heap.size, 1, none⟩ (.int .i64 y.to_)).setCell ⟨w.heap.size, 2, none⟩ (.int .i64 y.pl)).setCell ⟨w.heap.size, 3, none⟩ (.string y.lf)).setCell ⟨w.heap.size, 4, none⟩ (.string y.ll)).setCell ⟨w.heap.size, 5, none⟩ (.int .i64 y.ln)).setCell ⟨w.heap.size, 6, none⟩ (.bool y.pos)).setCell ⟨w.heap.size, 7, none⟩ u).setCell ⟨w.heap.size, 8, none⟩ s).setCell ⟨w.heap.size + 1, 0, none⟩ (.int .i64 c)) u s y := by
  obtain ⟨h1, base, phs, h2, h3, h4⟩ := h.set9 hp.res y
  have e : ∀ (V : World) (i : Nat) (c : Value), Row V (w.heap.size + 1) #[.int .i64 0] 35 → Row (V.setCell ⟨w.heap.size, i, none⟩ c) (w.heap.size + 1) #[.int .i64 0] 35 := fun V i c hv => hv.other _ _ (by simp)
  have hr := e _ 8 s (e _ 7 u (e _ 6 (.bool y.pos) (e _ 5 (.int .i64 y.ln) (e _ 4 (.string y.ll) (e _ 3 (.string y.lf) (e _ 2 (.int .i64 y.pl) (e _ 1 (.int .i64 y.to_) (e _ 0 (.int .i64 y.fr) hp.err))))))))
  exact ⟨h1.setR hr (by decide) _, base, phs, own_setR h2 _ _ (row_own_ne2 hr h2 (by decide)), fun q hq => ⟨(h3 q hq).1.setR hr (by decide) _, (h3 q hq).2.setR hr (by decide) _⟩, h4⟩

theorem keeps_box8 {n B o : Nat} {W w1 : World} {row : Option Nat} (hg : W.grownBy w1 row) (hrow : ∀ r, row = some r → n ≤ r) (hc : ∀ r, row = some r → ∃ o : Obj, W.heap[r]? = some o ∧ o.isCells = true) (hB : B < n) (hn : n ≤ W.heap.size) (v' : Value) :
    KeepsFrom n W (w1.setCell ⟨B, o, none⟩ v') ∧ KpX n B B W (w1.setCell ⟨B, o, none⟩ v') := by
  have hsz : (w1.setCell ⟨B, o, none⟩ v').heap.size = w1.heap.size := by simp [World.setCell]
  refine ⟨⟨by rw [hsz]; exact hg.size, fun k o hB' hk ho => ?_⟩, ⟨by rw [hsz]; exact hg.size, fun k hk hk1 _ => ?_⟩⟩
  · rw [Below.heap_setCell _ _ _ _ (by simp; omega)]
    refine (hg.block k (Array.getElem?_eq_some_iff.1 hk).1 (fun e => ?_)).trans hk
    obtain ⟨o', ho', hc'⟩ := hc k e.symm
    rw [hk] at ho'; cases ho'; rw [ho] at hc'; cases hc'
  · rw [Below.heap_setCell _ _ _ _ (by simpa using hk1)]
    exact hg.block k (by omega) (fun e => by have := hrow k e.symm; omega)
theorem OwS.grownC {W W' : World} {v : Value} {l : List ByteArray} {row : Option Nat} (h : OwS W v l) (hg : W.grownBy W' row) (hr : ∀ r, row = some r → ∃ o : Obj, W.heap[r]? = some o ∧ o.isCells = false) : OwS W' v l :=
  h.kept hg (by
    cases hv : v.ownBlock with
    | none => exact .inl rfl
    | some k =>
      refine .inr fun e => ?_
      obtain ⟨o, ho, hc⟩ := own_cells h k hv
      obtain ⟨o', ho', hc'⟩ := hr k e.symm
      rw [ho] at ho'; cases ho'; rw [hc] at hc'; cases hc')
theorem own_grownC {W W' : World} {base : Nat} {e : TypeId} {size n : Nat} {v : Value} {xs : List Value} {row : Option Nat} (h : W.ownsRow base e size v n xs) (hg : W.grownBy W' row) (hr : ∀ r, row = some r → ∃ o : Obj, W.heap[r]? = some o ∧ o.isCells = false) : W'.ownsRow base e size v n xs :=
  h.kept hg (by
    cases hv : v.ownBlock with
    | none => exact .inl rfl
    | some k =>
      refine .inr fun e => ?_
      obtain ⟨o, ho, hc⟩ := own_cells h k hv
      obtain ⟨o', ho', hc'⟩ := hr k e.symm
      rw [ho] at ho'; cases ho'; rw [hc] at hc'; cases hc')
theorem cell_cells {W : World} {p : Addr} {x : Value} (h : W.cell? p = some x) : ∃ o : Obj, W.heap[p.block]? = some o ∧ o.isCells = true := by
  unfold World.cell? at h
  split at h
  · rename_i ho; exact ⟨_, ho, rfl⟩
  all_goals cases h
theorem RdS.grownC {W W' : World} {v : Value} {l : List ByteArray} {row : Option Nat} (h : RdS W v l) (hg : W.grownBy W' row) (hr : ∀ r, row = some r → ∃ o : Obj, W.heap[r]? = some o ∧ o.isCells = false) : RdS W' v l :=
  Rd.mono h fun p x hx => grown_cell hg hx (fun e => by
    obtain ⟨o, ho, hc⟩ := cell_cells hx
    obtain ⟨o', ho', hc'⟩ := hr _ e.symm
    rw [ho] at ho'; cases ho'; rw [hc] at hc'; cases hc')
theorem OwN.grownC {W W' : World} {u s : Value} {y : Nt} {row : Option Nat} (h : OwN W u s y) (hg : W.grownBy W' row) (hr : ∀ r, row = some r → ∃ o : Obj, W.heap[r]? = some o ∧ o.isCells = false) : OwN W' u s y := by
  obtain ⟨h1, base, phs, h2, h3, h4⟩ := h
  exact ⟨h1.grownC hg hr, base, phs, own_grownC h2 hg hr, fun p hp => ⟨(h3 p hp).1.grownC hg hr, (h3 p hp).2.grownC hg hr⟩, h4⟩
/-- Between two rounds of the loop over the groups. -/
structure PaI (w : World) (n₁ Bs Bn : Nat) (ws : List ByteArray) (A0 : Option Addr) (c0 : Nat) (y : Nt) (u sv : Value) (phs : List VrV) (W : World) : Prop where
  ps : PaS w W
  box : ∃ v, Row W Bs #[v] 23
  nt : Row W Bn (y.cells u sv) 30
  sup : OwS W u y.sup
  own : W.ownsRow n₁ 63 2 sv phs.length (vrCs phs)
  rds : RdVs W phs
  rd : RdS W (.slice A0 ws.length c0) ws
  siz : n₁ ≤ W.heap.size
theorem PaI.below {w : World} {n₁ Bs Bn : Nat} {ws : List ByteArray} {A0 : Option Addr} {c0 : Nat} {y : Nt} {u sv : Value} {phs : List VrV} {W W' : World} (h : PaI w n₁ Bs Bn ws A0 c0 y u sv phs W) (hb : Below W.heap.size W W') : PaI w n₁ Bs Bn ws A0 c0 y u sv phs W' :=
  ⟨h.ps.below hb, h.box.imp fun _ r => r.below hb, h.nt.below hb, h.sup.below hb, own_below h.own hb, h.rds.below hb, h.rd.below hb, Nat.le_trans h.siz hb.size⟩
theorem PaI.grown {w : World} {n₁ Bs Bn : Nat} {ws : List ByteArray} {A0 : Option Addr} {c0 : Nat} {y : Nt} {u sv : Value} {phs : List VrV} {W W' : World} {row : Option Nat} (h : PaI w n₁ Bs Bn ws A0 c0 y u sv phs W) (hg : W.grownBy W' row)
    (hr : ∀ r, row = some r → w.heap.size ≤ r ∧ ∃ o : Obj, W.heap[r]? = some o ∧ o.isCells = false) : PaI w n₁ Bs Bn ws A0 c0 y u sv phs W' :=
  have hr2 := fun r e => (hr r e).2
  ⟨h.ps.grown hg hr, h.box.imp fun _ r => r.grown hg hr2, h.nt.grown hg hr2, h.sup.grownC hg hr2, own_grownC h.own hg hr2, fun p hp => ⟨(h.rds p hp).1.grownC hg hr2, (h.rds p hp).2.grownC hg hr2⟩, h.rd.grownC hg hr2, Nat.le_trans h.siz hg.size⟩
/-- The iterator writes its own variable. -/
theorem PaI.setB {w : World} {n₁ Bs Bn : Nat} {ws : List ByteArray} {A0 : Option Addr} {c0 : Nat} {y : Nt} {u sv : Value} {phs : List VrV} {W : World} (h : PaI w n₁ Bs Bn ws A0 c0 y u sv phs W) (hB : w.heap.size + 2 ≤ Bs) (hne : Bn ≠ Bs) (hb : 0 < ws.length → ∀ b o, A0 = some ⟨b, o, none⟩ → b ≠ Bs) (v : Value) : PaI w n₁ Bs Bn ws A0 c0 y u sv phs (W.setCell ⟨Bs, 0, none⟩ v) := by
  obtain ⟨v0, hv⟩ := h.box
  refine ⟨h.ps.other hB 0 v, ⟨v, hv.set 0 v⟩, h.nt.other _ _ (by simpa using hne), h.sup.setR hv (by decide) _, own_setR h.own _ _ (row_own_ne2 hv h.own (by decide)), fun p hp => ⟨(h.rds p hp).1.setR hv (by decide) _, (h.rds p hp).2.setR hv (by decide) _⟩, ?_, by simpa [World.setCell] using h.siz⟩
  obtain ⟨a, cap, e, h2, h3, h4⟩ := h.rd
  refine ⟨a, cap, e, h2, h3, fun i x hx => ?_⟩
  obtain ⟨b, off, rfl, hc⟩ := h4 i x hx
  refine ⟨b, off, rfl, ?_⟩
  cases e
  rw [World.cell?_of_block (Below.heap_setCell _ _ _ _ (by simpa using hb (by have := (List.getElem?_eq_some_iff.1 hx).1; omega) b off rfl))]
  exact hc
/-- Behind 'n.Variants = append(n.Variants, v)'. -/
theorem PaI.push {w : World} {n₁ Bs Bn : Nat} {ws : List ByteArray} {A0 : Option Addr} {c0 : Nat} {y : Nt} {u sv : Value} {phs : List VrV} {W w9 : World} {g cap : Nat} (h : PaI w n₁ Bs Bn ws A0 c0 y u sv phs W) (p : VrV) (h1 : OwS W p.2.1 p.1.ws) (h2 : OwS W p.2.2 p.1.sg)
    (hn : w.heap.size + 2 ≤ Bn) (hBn : Bn < n₁) (hBs : Bs < n₁) (hne : Bs ≠ Bn) (hb : 0 < ws.length → ∀ b o, A0 = some ⟨b, o, none⟩ → b ≠ Bn ∧ b < n₁)
    (ho : w9.ownsRow n₁ 63 2 (.slice (some ⟨g, 0, none⟩) (phs.length + 1) cap) (phs.length + 1) (vrCs phs ++ [p.2.1, p.2.2])) (hbw : Below n₁ W w9) (hg : W.grownBy w9 sv.ownBlock) :
    KeepsFrom n₁ W (w9.setCell ⟨Bn, 8, none⟩ (.slice (some ⟨g, 0, none⟩) (phs.length + 1) cap)) ∧ KpX n₁ Bn Bn W (w9.setCell ⟨Bn, 8, none⟩ (.slice (some ⟨g, 0, none⟩) (phs.length + 1) cap)) ∧
      PaI w n₁ Bs Bn ws A0 c0 y u (.slice (some ⟨g, 0, none⟩) (phs.length + 1) cap) (phs ++ [p]) (w9.setCell ⟨Bn, 8, none⟩ (.slice (some ⟨g, 0, none⟩) (phs.length + 1) cap)) := by
  have hlt := hbw.size
  have hsz := h.siz
  have hblk : ∀ {k : Nat} {cs : Array Value} {t : TypeId}, Row W k cs t → k < n₁ → Row w9 k cs t := fun hr hk => (hbw.block _ (by omega)).trans hr
  have hw0 : w.heap.size ≤ n₁ := by omega
  have hps : PaS w w9 := ⟨hblk h.ps.res (by omega), hblk h.ps.err (by omega), h.ps.bel.trans (hbw.mono (by omega))⟩
  have hnt := hblk h.nt hBn
  obtain ⟨v0, hv⟩ := h.box
  have hbx := hblk hv hBs
  have hsup : OwS w9 u y.sup := h.sup.grown h.own (by decide) hg
  obtain ⟨k1, k2⟩ := keeps_box8 (o := 8) hg (fun r hr => (h.own.lt r hr).1) (own_cells h.own) hBn h.siz (.slice (some ⟨g, 0, none⟩) (phs.length + 1) cap)
  refine ⟨k1, k2, hps.other hn 8 _, ⟨v0, hbx.other _ _ (by simpa using hne)⟩, hnt.set 8 _, hsup.setR hnt (by decide) _, ?_, fun q hq => ?_, ?_, ?_⟩
  · rw [List.length_append, vrCs_snoc]
    exact own_setR ho _ _ (row_own_ne2 hnt ho (by decide))
  · rcases List.mem_append.1 hq with hq | hq
    · exact ⟨((h.rds q hq).1.grown h.own (by decide) hg).setR hnt (by decide) _, ((h.rds q hq).2.grown h.own (by decide) hg).setR hnt (by decide) _⟩
    · rw [List.mem_singleton.1 hq]
      exact ⟨(h1.grown h.own (by decide) hg).setR hnt (by decide) _, (h2.grown h.own (by decide) hg).setR hnt (by decide) _⟩
  · obtain ⟨a, cap', e, h3, h4, h5⟩ := h.rd
    refine ⟨a, cap', e, h3, h4, fun i x hx => ?_⟩
    obtain ⟨b, off, rfl, hc⟩ := h5 i x hx
    refine ⟨b, off, rfl, ?_⟩
    cases e
    obtain ⟨hb1, hb2⟩ := hb (by have := (List.getElem?_eq_some_iff.1 hx).1; omega) b off rfl
    rw [World.cell?_of_block (Below.heap_setCell _ _ _ _ (by simpa using hb1)), World.cell?_of_block (hbw.block b (by omega))]
    exact hc
  · simp [World.setCell]; omega
theorem PaI.ownN {w : World} {n₁ Bs Bn : Nat} {ws : List ByteArray} {A0 : Option Addr} {c0 : Nat} {y : Nt} {u sv : Value} {phs : List VrV} {W : World} (h : PaI w n₁ Bs Bn ws A0 c0 y u sv phs W) {z : Nt} (h1 : z.sup = y.sup) (h2 : phs.map (·.1) = z.vs) : OwN W u sv z :=
  ⟨by rw [h1]; exact h.sup, n₁, phs, h.own, h.rds, h2⟩
theorem leaveR {F : Fence} {n : Nat} {P : Program} {fn : Func} {tmps : Array Value} {R : Ending → World → Prop} {w : World} {v : Value} (hr : (results fn tmps).run P w = .ok v w) (hR : R (.returned v) w) : LeavesInM F n P fn tmps R [] .returning w := ⟨v, hr, hR⟩
/-- The result's cells behind a return of an error out of the loop. -/
structure PaX (w : World) (W : World) : Prop where
  res : Row W w.heap.size zeroN 30
  err : Row W (w.heap.size + 1) #[.int .i64 3] 35
  bel : Below w.heap.size w W
theorem PaX.grown {w W W' : World} {row : Option Nat} (h : PaX w W) (hg : W.grownBy W' row) (hr : ∀ r, row = some r → w.heap.size ≤ r ∧ ∃ o : Obj, W.heap[r]? = some o ∧ o.isCells = false) : PaX w W' :=
  ⟨h.res.grown hg (fun r e => (hr r e).2), h.err.grown hg (fun r e => (hr r e).2), h.bel.grown hg h.bel.size (fun k e => (hr k e).1)⟩
end Go.Proofs.YtjhdeoniafahbaaGreatDoor
