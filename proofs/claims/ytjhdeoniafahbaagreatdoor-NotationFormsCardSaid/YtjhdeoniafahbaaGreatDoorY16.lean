/-
  Joined, what is needed of: PaP RPar SzEn Rsv.
-/
import Derived.Test.YtjhdeoniafahbaaGreatDoorY13
import Derived.Test.YtjhdeoniafahbaaGreatDoorY06
import Derived.Test.YtjhdeoniafahbaaGreatDoorY12
import Derived.Test.YtjhdeoniafahbaaGreatDoorY11
import Derived.Test.YtjhdeoniafahbaaGreatDoorY15
import Derived.Test.YtjhdeoniafahbaaGreatDoorY10
namespace Go.Proofs.YtjhdeoniafahbaaGreatDoor
open Go.RowKit
theorem split_sz16 {s : ByteArray} (h : s.size ≤ 65536) : Sz16 (splitS s) := fun x hx => Nat.le_trans (splitS_size s x hx) h
theorem sigL_sz {l : List ByteArray} (h : (joinB l).size ≤ 65536) : Sz16 (sigL l) := by
  unfold sigL
  split
  · split
    · intro x hx; cases hx
    · refine split_sz16 ?_
      have h1 := cutPS_size (joinB l) lbrB
      have h2 := cutXS_size (cutPS (joinB l) lbrB) rbrB
      unfold inrB; omega
  · intro x hx; cases hx
theorem unqL_sz {s : ByteArray} (h : s.size ≤ 65536) : Sz16 (unqL s) := by
  unfold unqL
  split
  · intro x hx; cases hx
  · split
    · intro x hx; cases hx
    · split
      · exact split_sz16 h
      · intro x hx; cases hx
theorem vrP_sz {l : List ByteArray} (h : (joinB l).size ≤ 65536) : Sz16 (vrP l).ws ∧ Sz16 (vrP l).sg := by
  unfold vrP
  split
  · constructor <;> (intro x hx; cases hx)
  · exact ⟨unqL_sz (Nat.le_trans (take_join_le _ _) h), sigL_sz (Nat.le_trans (drop_join_le _ _) h)⟩
theorem sub_join_le (l : List ByteArray) (i n : Nat) : (joinB ((l.drop i).take n)).size ≤ (joinB l).size := Nat.le_trans (take_join_le _ _) (drop_join_le _ _)
theorem bars_sub : ∀ (n : Nat) (l : List ByteArray), l.length ≤ n → ∀ g ∈ barsP l, ∃ i m, g = (l.drop i).take m
  | 0, l, h, g, hg => by
    obtain rfl : l = [] := List.eq_nil_of_length_eq_zero (by omega)
    exact ⟨0, 0, by simpa [barsP] using hg⟩
  | n + 1, l, h, g, hg => by
    rcases fIdx_cases (fun x => decide (x = barB)) l with hI | ⟨k, x, hI, _, hk, _⟩
    · rw [barsP_neg hI] at hg
      exact ⟨0, l.length, by rw [List.mem_singleton.1 hg]; simp⟩
    · rw [barsP_pos hI] at hg
      rcases List.mem_cons.1 hg with rfl | hg
      · exact ⟨0, k, by simp⟩
      · obtain ⟨i, m, e⟩ := bars_sub n (l.drop (k + 1)) (by rw [List.length_drop]; omega) g hg
        exact ⟨k + 1 + i, m, by rw [e, List.drop_drop]⟩
theorem lm_sz {s : ByteArray} (h : (parseLm s).e = 0) : (parseLm s).f.size ≤ 65536 ∧ (parseLm s).l.size ≤ 65536 := by
  have e : parseLm s = ⟨(parseLm s).f, (parseLm s).l, (parseLm s).n, 0⟩ := by rw [← h]
  obtain ⟨h1, h2, _, _⟩ := lck_parts (print_parse43 e).1
  refine ⟨by have := wordB_66 h1; omega, ?_⟩
  rcases h2 with h2 | h2
  · omega
  · have := wordB_66 h2; omega
theorem noteP_sz {s : ByteArray} (hs : s.size ≤ 65536) (hh : hdB (frP s) = true) : SzN (noteP s) := by
  have hj : ∀ i n, (joinB (((splitS s).drop i).take n)).size ≤ 65536 := fun i n => by have := sub_join_le (splitS s) i n; rw [joinB_split] at this; omega
  have hlm : (hdLm (frP s)).f.size ≤ 65536 ∧ (hdLm (frP s)).l.size ≤ 65536 := by
    unfold hdB at hh
    simp only [Bool.and_eq_true] at hh
    unfold hdLm at hh ⊢
    split
    · exact ⟨Nat.zero_le _, Nat.zero_le _⟩
    · rename_i h4
      rw [if_neg h4, if_neg h4] at hh
      exact lm_sz (of_decide_eq_true hh.2.2)
  refine ⟨hlm.1, hlm.2, ?_, ?_⟩
  · show Sz16 (supL (frP s))
    unfold supL
    split
    · intro x hx; cases hx
    · refine sigL_sz ?_
      refine Nat.le_trans (drop_join_le _ _) (Nat.le_trans (drop_join_le _ 1) ?_)
      have := hj 0 (endI (splitS s)).toNat
      simpa [frP] using this
  · intro v hv
    obtain ⟨g, hg, rfl⟩ := List.mem_map.1 (show v ∈ (grpsP s).map vrP from hv)
    obtain ⟨i, m, rfl⟩ := bars_sub _ _ (Nat.le_refl _) g hg
    rw [List.drop_drop]
    exact vrP_sz (hj _ _)
theorem okP_big {s : ByteArray} (h : 65536 < s.size) : okP s = false := by
  cases ho : okP s with
  | false => rfl
  | true =>
    unfold okP at ho
    simp only [Bool.and_eq_true, decide_eq_true_eq] at ho
    obtain ⟨_, _, _, h1, h2⟩ := ho
    unfold prE at h1
    split at h1
    · split at h1
      · cases h1
      · rw [h2] at *; omega
    · rename_i hc; exact absurd h1 hc
theorem par_big {s : ByteArray} (h : 65536 < s.size) : parI s = 4 ∧ parN s = nt0 := by
  unfold parI parN
  rw [okP_big h, if_neg (by simp), if_pos h, if_neg (by simp)]
  exact ⟨rfl, rfl⟩
theorem par_fail {s : ByteArray} (h : okP s = false) (hs : ¬ 65536 < s.size) : parI s = 3 ∧ parN s = nt0 := by
  unfold parI parN
  rw [h, if_neg (by simp), if_neg hs, if_neg (by simp)]
  exact ⟨rfl, rfl⟩
theorem par_yes {s : ByteArray} (h : okP s = true) : parI s = 0 ∧ parN s = noteP s := by
  unfold parI parN
  rw [h, if_pos rfl, if_pos rfl]
  exact ⟨rfl, rfl⟩
/-- The result's cells while Parse runs. -/
structure PaS (w W : World) : Prop where
  res : Row W w.heap.size zeroN 30
  err : Row W (w.heap.size + 1) #[.int .i64 0] 35
  bel : Below w.heap.size w W
theorem PaS.below {w W W' : World} (h : PaS w W) (hb : Below W.heap.size W W') : PaS w W' := ⟨h.res.below hb, h.err.below hb, below_tr h.bel hb⟩
theorem PaS.other {w W : World} (h : PaS w W) {B : Nat} (hB : w.heap.size + 2 ≤ B) (i : Nat) (c : Value) : PaS w (W.setCell ⟨B, i, none⟩ c) :=
  ⟨h.res.other _ _ (by simp; omega), h.err.other _ _ (by simp; omega), h.bel.setCell (by simp; omega) c⟩
theorem PaS.grown {w W W' : World} {row : Option Nat} (h : PaS w W) (hg : W.grownBy W' row) (hr : ∀ r, row = some r → w.heap.size ≤ r ∧ ∃ o : Obj, W.heap[r]? = some o ∧ o.isCells = false) : PaS w W' :=
  ⟨h.res.grown hg (fun r e => (hr r e).2), h.err.grown hg (fun r e => (hr r e).2), h.bel.grown hg h.bel.size (fun k e => (hr k e).1)⟩
theorem PaS.fin {w W : World} (h : PaS w W) (y : Nt) (u s : Value) (c : Int) :
    Row ((((((((((W.setCell ⟨w.heap.size, 0, none⟩ (.int .i64 y.fr)).setCell ⟨w.heap.size, 1, none⟩ (.int .i64 y.to_)).setCell ⟨w.heap.size, 2, none⟩ (.int .i64 y.pl)).setCell ⟨w.heap.size, 3, none⟩ (.string y.lf)).setCell ⟨w.heap.size, 4, none⟩ (.string y.ll)).setCell ⟨w.heap.size, 5, none⟩ (.int .i64 y.ln)).setCell ⟨w.heap.size, 6, none⟩ (.bool y.pos)).setCell ⟨w.heap.size, 7, none⟩ u).setCell ⟨w.heap.size, 8, none⟩ s).setCell ⟨w.heap.size + 1, 0, none⟩ (.int .i64 c)) w.heap.size (y.cells u s) 30 ∧
    Row ((((((((((W.setCell ⟨w.heap.size, 0, none⟩ (.int .i64 y.fr)).setCell ⟨w.heap.size, 1, none⟩ (.int .i64 y.to_)).setCell ⟨w.heap.size, 2, none⟩ (.int .i64 y.pl)).setCell ⟨w.heap.size, 3, none⟩ (.string y.lf)).setCell ⟨w.heap.size, 4, none⟩ (.string y.ll)).setCell ⟨w.heap.size, 5, none⟩ (.int .i64 y.ln)).setCell ⟨w.heap.size, 6, none⟩ (.bool y.pos)).setCell ⟨w.heap.size, 7, none⟩ u).setCell ⟨w.heap.size, 8, none⟩ s).setCell ⟨w.heap.size + 1, 0, none⟩ (.int .i64 c)) (w.heap.size + 1) #[.int .i64 c] 35 ∧
    Below w.heap.size w ((((((((((W.setCell ⟨w.heap.size, 0, none⟩ (.int .i64 y.fr)).setCell ⟨w.heap.size, 1, none⟩ (.int .i64 y.to_)).setCell ⟨w.heap.size, 2, none⟩ (.int .i64 y.pl)).setCell ⟨w.heap.size, 3, none⟩ (.string y.lf)).setCell ⟨w.heap.size, 4, none⟩ (.string y.ll)).setCell ⟨w.heap.size, 5, none⟩ (.int .i64 y.ln)).setCell ⟨w.heap.size, 6, none⟩ (.bool y.pos)).setCell ⟨w.heap.size, 7, none⟩ u).setCell ⟨w.heap.size, 8, none⟩ s).setCell ⟨w.heap.size + 1, 0, none⟩ (.int .i64 c)) := by
  refine ⟨(row9 h.res _ _ _ _ _ _ _ _ _).other _ _ (by simp), ?_, (bel_set9 h.bel (Nat.le_refl _) y u s).setCell (by simp) _⟩
  have e : ∀ (V : World) (i : Nat) (c : Value), Row V (w.heap.size + 1) #[.int .i64 0] 35 → Row (V.setCell ⟨w.heap.size, i, none⟩ c) (w.heap.size + 1) #[.int .i64 0] 35 := fun V i c hv => hv.other _ _ (by simp)
  exact (e _ _ _ (e _ _ _ (e _ _ _ (e _ _ _ (e _ _ _ (e _ _ _ (e _ _ _ (e _ _ _ (e _ _ _ h.err))))))))).set 0 _
theorem OwN.set9e {W : World} {w : World} {u s : Value} {y : Nt} (h : OwN W u s y) (hp : PaS w W) (c : Int) : OwN ((((((((((W.setCell ⟨w.heap.size, 0, none⟩ (.int .i64 y.fr)).setCell ⟨w.heap.size, 1, none⟩ (.int .i64 y.to_)).setCell ⟨w.heap.size, 2, none⟩ (.int .i64 y.pl)).setCell ⟨w.heap.size, 3, none⟩ (.string y.lf)).setCell ⟨w.heap.size, 4, none⟩ (.string y.ll)).setCell ⟨w.heap.size, 5, none⟩ (.int .i64 y.ln)).setCell ⟨w.heap.size, 6, none⟩ (.bool y.pos)).setCell ⟨w.heap.size, 7, none⟩ u).setCell ⟨w.heap.size, 8, none⟩ s).setCell ⟨w.heap.size + 1, 0, none⟩ (.int .i64 c)) u s y := by
  obtain ⟨h1, base, phs, h2, h3, h4⟩ := h.set9 hp.res y
  have e : ∀ (V : World) (i : Nat) (c : Value), Row V (w.heap.size + 1) #[.int .i64 0] 35 → Row (V.setCell ⟨w.heap.size, i, none⟩ c) (w.heap.size + 1) #[.int .i64 0] 35 := fun V i c hv => hv.other _ _ (by simp)
  have hr := e _ 8 s (e _ 7 u (e _ 6 (.bool y.pos) (e _ 5 (.int .i64 y.ln) (e _ 4 (.string y.ll) (e _ 3 (.string y.lf) (e _ 2 (.int .i64 y.pl) (e _ 1 (.int .i64 y.to_) (e _ 0 (.int .i64 y.fr) hp.err))))))))
  exact ⟨h1.setR hr (by decide) _, base, phs, own_setR h2 _ _ (row_own_ne2 hr h2 (by decide)), fun q hq => ⟨(h3 q hq).1.setR hr (by decide) _, (h3 q hq).2.setR hr (by decide) _⟩, h4⟩
theorem keeps_box8 {n B o : Nat} {W w1 : World} {row : Option Nat} (hg : W.grownBy w1 row) (hrow : ∀ r, row = some r → n ≤ r) (hc : ∀ r, row = some r → ∃ o : Obj, W.heap[r]? = some o ∧ o.isCells = true) (hB : B < n) (hn : n ≤ W.heap.size) (v' : Value) :
    KeepsFrom n W (w1.setCell ⟨B, o, none⟩ v') ∧ KpX n B B W (w1.setCell ⟨B, o, none⟩ v') := by
  have hsz : (w1.setCell ⟨B, o, none⟩ v').heap.size = w1.heap.size := by simp [World.setCell]
  refine ⟨⟨by rw [hsz]; exact hg.size, fun k o hB' hk ho => ?_⟩, ⟨by rw [hsz]; exact hg.size, fun k hk hk1 _ => ?_⟩⟩
  · rw [Below.heap_setCell _ _ _ _ (by simp; omega)]
    refine (hg.block k (Array.getElem?_eq_some_iff.1 hk).1 (fun e => ?_)).trans hk
    obtain ⟨o', ho', hc'⟩ := hc k e.symm
    rw [hk] at ho'; cases ho'; rw [ho] at hc'; cases hc'
  · rw [Below.heap_setCell _ _ _ _ (by simpa using hk1)]
    exact hg.block k (by omega) (fun e => by have := hrow k e.symm; omega)
theorem OwS.grownC {W W' : World} {v : Value} {l : List ByteArray} {row : Option Nat} (h : OwS W v l) (hg : W.grownBy W' row) (hr : ∀ r, row = some r → ∃ o : Obj, W.heap[r]? = some o ∧ o.isCells = false) : OwS W' v l :=
  h.kept hg (by
    cases hv : v.ownBlock with
    | none => exact .inl rfl
    | some k =>
      refine .inr fun e => ?_
      obtain ⟨o, ho, hc⟩ := own_cells h k hv
      obtain ⟨o', ho', hc'⟩ := hr k e.symm
      rw [ho] at ho'; cases ho'; rw [hc] at hc'; cases hc')
theorem own_grownC {W W' : World} {base : Nat} {e : TypeId} {size n : Nat} {v : Value} {xs : List Value} {row : Option Nat} (h : W.ownsRow base e size v n xs) (hg : W.grownBy W' row) (hr : ∀ r, row = some r → ∃ o : Obj, W.heap[r]? = some o ∧ o.isCells = false) : W'.ownsRow base e size v n xs :=
  h.kept hg (by
    cases hv : v.ownBlock with
    | none => exact .inl rfl
    | some k =>
      refine .inr fun e => ?_
      obtain ⟨o, ho, hc⟩ := own_cells h k hv
      obtain ⟨o', ho', hc'⟩ := hr k e.symm
      rw [ho] at ho'; cases ho'; rw [hc] at hc'; cases hc')
theorem cell_cells {W : World} {p : Addr} {x : Value} (h : W.cell? p = some x) : ∃ o : Obj, W.heap[p.block]? = some o ∧ o.isCells = true := by
  unfold World.cell? at h
  split at h
  · rename_i ho; exact ⟨_, ho, rfl⟩
  all_goals cases h
theorem RdS.grownC {W W' : World} {v : Value} {l : List ByteArray} {row : Option Nat} (h : RdS W v l) (hg : W.grownBy W' row) (hr : ∀ r, row = some r → ∃ o : Obj, W.heap[r]? = some o ∧ o.isCells = false) : RdS W' v l :=
  Rd.mono h fun p x hx => grown_cell hg hx (fun e => by
    obtain ⟨o, ho, hc⟩ := cell_cells hx
    obtain ⟨o', ho', hc'⟩ := hr _ e.symm
    rw [ho] at ho'; cases ho'; rw [hc] at hc'; cases hc')
theorem OwN.grownC {W W' : World} {u s : Value} {y : Nt} {row : Option Nat} (h : OwN W u s y) (hg : W.grownBy W' row) (hr : ∀ r, row = some r → ∃ o : Obj, W.heap[r]? = some o ∧ o.isCells = false) : OwN W' u s y := by
  obtain ⟨h1, base, phs, h2, h3, h4⟩ := h
  exact ⟨h1.grownC hg hr, base, phs, own_grownC h2 hg hr, fun p hp => ⟨(h3 p hp).1.grownC hg hr, (h3 p hp).2.grownC hg hr⟩, h4⟩
/-- Between two rounds of the loop over the groups. -/
structure PaI (w : World) (n₁ Bs Bn : Nat) (ws : List ByteArray) (A0 : Option Addr) (c0 : Nat) (y : Nt) (u sv : Value) (phs : List VrV) (W : World) : Prop where
  ps : PaS w W
  box : ∃ v, Row W Bs #[v] 23
  nt : Row W Bn (y.cells u sv) 30
  sup : OwS W u y.sup
  own : W.ownsRow n₁ 63 2 sv phs.length (vrCs phs)
  rds : RdVs W phs
  rd : RdS W (.slice A0 ws.length c0) ws
  siz : n₁ ≤ W.heap.size
theorem PaI.below {w : World} {n₁ Bs Bn : Nat} {ws : List ByteArray} {A0 : Option Addr} {c0 : Nat} {y : Nt} {u sv : Value} {phs : List VrV} {W W' : World} (h : PaI w n₁ Bs Bn ws A0 c0 y u sv phs W) (hb : Below W.heap.size W W') : PaI w n₁ Bs Bn ws A0 c0 y u sv phs W' :=
  ⟨h.ps.below hb, h.box.imp fun _ r => r.below hb, h.nt.below hb, h.sup.below hb, own_below h.own hb, h.rds.below hb, h.rd.below hb, Nat.le_trans h.siz hb.size⟩
theorem PaI.grown {w : World} {n₁ Bs Bn : Nat} {ws : List ByteArray} {A0 : Option Addr} {c0 : Nat} {y : Nt} {u sv : Value} {phs : List VrV} {W W' : World} {row : Option Nat} (h : PaI w n₁ Bs Bn ws A0 c0 y u sv phs W) (hg : W.grownBy W' row)
    (hr : ∀ r, row = some r → w.heap.size ≤ r ∧ ∃ o : Obj, W.heap[r]? = some o ∧ o.isCells = false) : PaI w n₁ Bs Bn ws A0 c0 y u sv phs W' :=
  have hr2 := fun r e => (hr r e).2
  ⟨h.ps.grown hg hr, h.box.imp fun _ r => r.grown hg hr2, h.nt.grown hg hr2, h.sup.grownC hg hr2, own_grownC h.own hg hr2, fun p hp => ⟨(h.rds p hp).1.grownC hg hr2, (h.rds p hp).2.grownC hg hr2⟩, h.rd.grownC hg hr2, Nat.le_trans h.siz hg.size⟩
/-- The iterator writes its own variable. -/
theorem PaI.setB {w : World} {n₁ Bs Bn : Nat} {ws : List ByteArray} {A0 : Option Addr} {c0 : Nat} {y : Nt} {u sv : Value} {phs : List VrV} {W : World} (h : PaI w n₁ Bs Bn ws A0 c0 y u sv phs W) (hB : w.heap.size + 2 ≤ Bs) (hne : Bn ≠ Bs) (hb : 0 < ws.length → ∀ b o, A0 = some ⟨b, o, none⟩ → b ≠ Bs) (v : Value) : PaI w n₁ Bs Bn ws A0 c0 y u sv phs (W.setCell ⟨Bs, 0, none⟩ v) := by
  obtain ⟨v0, hv⟩ := h.box
  refine ⟨h.ps.other hB 0 v, ⟨v, hv.set 0 v⟩, h.nt.other _ _ (by simpa using hne), h.sup.setR hv (by decide) _, own_setR h.own _ _ (row_own_ne2 hv h.own (by decide)), fun p hp => ⟨(h.rds p hp).1.setR hv (by decide) _, (h.rds p hp).2.setR hv (by decide) _⟩, ?_, by simpa [World.setCell] using h.siz⟩
  obtain ⟨a, cap, e, h2, h3, h4⟩ := h.rd
  refine ⟨a, cap, e, h2, h3, fun i x hx => ?_⟩
  obtain ⟨b, off, rfl, hc⟩ := h4 i x hx
  refine ⟨b, off, rfl, ?_⟩
  cases e
  rw [World.cell?_of_block (Below.heap_setCell _ _ _ _ (by simpa using hb (by have := (List.getElem?_eq_some_iff.1 hx).1; omega) b off rfl))]
  exact hc
/-- Behind 'n.Variants = append(n.Variants, v)'. -/
theorem PaI.push {w : World} {n₁ Bs Bn : Nat} {ws : List ByteArray} {A0 : Option Addr} {c0 : Nat} {y : Nt} {u sv : Value} {phs : List VrV} {W w9 : World} {g cap : Nat} (h : PaI w n₁ Bs Bn ws A0 c0 y u sv phs W) (p : VrV) (h1 : OwS W p.2.1 p.1.ws) (h2 : OwS W p.2.2 p.1.sg)
    (hn : w.heap.size + 2 ≤ Bn) (hBn : Bn < n₁) (hBs : Bs < n₁) (hne : Bs ≠ Bn) (hb : 0 < ws.length → ∀ b o, A0 = some ⟨b, o, none⟩ → b ≠ Bn ∧ b < n₁)
    (ho : w9.ownsRow n₁ 63 2 (.slice (some ⟨g, 0, none⟩) (phs.length + 1) cap) (phs.length + 1) (vrCs phs ++ [p.2.1, p.2.2])) (hbw : Below n₁ W w9) (hg : W.grownBy w9 sv.ownBlock) :
    KeepsFrom n₁ W (w9.setCell ⟨Bn, 8, none⟩ (.slice (some ⟨g, 0, none⟩) (phs.length + 1) cap)) ∧ KpX n₁ Bn Bn W (w9.setCell ⟨Bn, 8, none⟩ (.slice (some ⟨g, 0, none⟩) (phs.length + 1) cap)) ∧
      PaI w n₁ Bs Bn ws A0 c0 y u (.slice (some ⟨g, 0, none⟩) (phs.length + 1) cap) (phs ++ [p]) (w9.setCell ⟨Bn, 8, none⟩ (.slice (some ⟨g, 0, none⟩) (phs.length + 1) cap)) := by
  have hlt := hbw.size
  have hsz := h.siz
  have hblk : ∀ {k : Nat} {cs : Array Value} {t : TypeId}, Row W k cs t → k < n₁ → Row w9 k cs t := fun hr hk => (hbw.block _ (by omega)).trans hr
  have hw0 : w.heap.size ≤ n₁ := by omega
  have hps : PaS w w9 := ⟨hblk h.ps.res (by omega), hblk h.ps.err (by omega), h.ps.bel.trans (hbw.mono (by omega))⟩
  have hnt := hblk h.nt hBn
  obtain ⟨v0, hv⟩ := h.box
  have hbx := hblk hv hBs
  have hsup : OwS w9 u y.sup := h.sup.grown h.own (by decide) hg
  obtain ⟨k1, k2⟩ := keeps_box8 (o := 8) hg (fun r hr => (h.own.lt r hr).1) (own_cells h.own) hBn h.siz (.slice (some ⟨g, 0, none⟩) (phs.length + 1) cap)
  refine ⟨k1, k2, hps.other hn 8 _, ⟨v0, hbx.other _ _ (by simpa using hne)⟩, hnt.set 8 _, hsup.setR hnt (by decide) _, ?_, fun q hq => ?_, ?_, ?_⟩
  · rw [List.length_append, vrCs_snoc]
    exact own_setR ho _ _ (row_own_ne2 hnt ho (by decide))
  · rcases List.mem_append.1 hq with hq | hq
    · exact ⟨((h.rds q hq).1.grown h.own (by decide) hg).setR hnt (by decide) _, ((h.rds q hq).2.grown h.own (by decide) hg).setR hnt (by decide) _⟩
    · rw [List.mem_singleton.1 hq]
      exact ⟨(h1.grown h.own (by decide) hg).setR hnt (by decide) _, (h2.grown h.own (by decide) hg).setR hnt (by decide) _⟩
  · obtain ⟨a, cap', e, h3, h4, h5⟩ := h.rd
    refine ⟨a, cap', e, h3, h4, fun i x hx => ?_⟩
    obtain ⟨b, off, rfl, hc⟩ := h5 i x hx
    refine ⟨b, off, rfl, ?_⟩
    cases e
    obtain ⟨hb1, hb2⟩ := hb (by have := (List.getElem?_eq_some_iff.1 hx).1; omega) b off rfl
    rw [World.cell?_of_block (Below.heap_setCell _ _ _ _ (by simpa using hb1)), World.cell?_of_block (hbw.block b (by omega))]
    exact hc
  · simp [World.setCell]; omega
theorem PaI.ownN {w : World} {n₁ Bs Bn : Nat} {ws : List ByteArray} {A0 : Option Addr} {c0 : Nat} {y : Nt} {u sv : Value} {phs : List VrV} {W : World} (h : PaI w n₁ Bs Bn ws A0 c0 y u sv phs W) {z : Nt} (h1 : z.sup = y.sup) (h2 : phs.map (·.1) = z.vs) : OwN W u sv z :=
  ⟨by rw [h1]; exact h.sup, n₁, phs, h.own, h.rds, h2⟩
theorem leaveR {F : Fence} {n : Nat} {P : Program} {fn : Func} {tmps : Array Value} {R : Ending → World → Prop} {w : World} {v : Value} (hr : (results fn tmps).run P w = .ok v w) (hR : R (.returned v) w) : LeavesInM F n P fn tmps R [] .returning w := ⟨v, hr, hR⟩
/-- The result's cells behind a return of an error out of the loop. -/
structure PaX (w : World) (W : World) : Prop where
  res : Row W w.heap.size zeroN 30
  err : Row W (w.heap.size + 1) #[.int .i64 3] 35
  bel : Below w.heap.size w W
theorem PaX.grown {w W W' : World} {row : Option Nat} (h : PaX w W) (hg : W.grownBy W' row) (hr : ∀ r, row = some r → w.heap.size ≤ r ∧ ∃ o : Obj, W.heap[r]? = some o ∧ o.isCells = false) : PaX w W' :=
  ⟨h.res.grown hg (fun r e => (hr r e).2), h.err.grown hg (fun r e => (hr r e).2), h.bel.grown hg h.bel.size (fun k e => (hr k e).1)⟩
end Go.Proofs.YtjhdeoniafahbaaGreatDoor
namespace Go.Proofs.YtjhdeoniafahbaaGreatDoor
open Go.RowKit
theorem pfin {y : Nt} {u s : Value} {w W : World} (hr : Row W w.heap.size zeroN 30) (hbel : Below w.heap.size w W) :
    Row (((((((((W.setCell ⟨w.heap.size, 0, none⟩ (.int .i64 y.fr)).setCell ⟨w.heap.size, 1, none⟩ (.int .i64 y.to_)).setCell ⟨w.heap.size, 2, none⟩ (.int .i64 y.pl)).setCell ⟨w.heap.size, 3, none⟩ (.string y.lf)).setCell ⟨w.heap.size, 4, none⟩ (.string y.ll)).setCell ⟨w.heap.size, 5, none⟩ (.int .i64 y.ln)).setCell ⟨w.heap.size, 6, none⟩ (.bool y.pos)).setCell ⟨w.heap.size, 7, none⟩ u).setCell ⟨w.heap.size, 8, none⟩ s) w.heap.size (y.cells u s) 30 ∧ Below w.heap.size w (((((((((W.setCell ⟨w.heap.size, 0, none⟩ (.int .i64 y.fr)).setCell ⟨w.heap.size, 1, none⟩ (.int .i64 y.to_)).setCell ⟨w.heap.size, 2, none⟩ (.int .i64 y.pl)).setCell ⟨w.heap.size, 3, none⟩ (.string y.lf)).setCell ⟨w.heap.size, 4, none⟩ (.string y.ll)).setCell ⟨w.heap.size, 5, none⟩ (.int .i64 y.ln)).setCell ⟨w.heap.size, 6, none⟩ (.bool y.pos)).setCell ⟨w.heap.size, 7, none⟩ u).setCell ⟨w.heap.size, 8, none⟩ s) :=
  ⟨row9 hr _ _ _ _ _ _ _ _ _, bel_set9 hbel (Nat.le_refl _) y _ _⟩
/-- While the reference's Parse runs: the result's cells, the parts. -/
structure RpS (w : World) (pv : Value) (ps : List ByteArray) (W : World) : Prop where
  res : Row W w.heap.size zeroN 30
  rd : OwS W pv ps
  bel : Below w.heap.size w W
theorem RpS.below {w : World} {pv : Value} {ps : List ByteArray} {W W' : World} (h : RpS w pv ps W) (hb : Below W.heap.size W W') : RpS w pv ps W' := ⟨h.res.below hb, h.rd.below hb, below_tr h.bel hb⟩
/-- The note's cells too, and the variants that were read. -/
structure RpI (w : World) (B : Nat) (pv : Value) (ps : List ByteArray) (y : Nt) (u sv : Value) (phs : List VrV) (W : World) : Prop where
  st : RpS w pv ps W
  nt : Row W B (y.cells u sv) 30
  sup : OwS W u y.sup
  own : W.ownsRow (w.heap.size + 1) 63 2 sv phs.length (vrCs phs)
  rds : RdVs W phs
theorem RpI.below {w : World} {B : Nat} {pv : Value} {ps : List ByteArray} {y : Nt} {u sv : Value} {phs : List VrV} {W W' : World} (h : RpI w B pv ps y u sv phs W) (hb : Below W.heap.size W W') : RpI w B pv ps y u sv phs W' :=
  ⟨h.st.below hb, h.nt.below hb, h.sup.below hb, own_below h.own hb, h.rds.below hb⟩
theorem RpI.push {w W w9 : World} {B : Nat} {pv : Value} {ps : List ByteArray} {y : Nt} {u sv sv' : Value} {phs : List VrV} (h : RpI w B pv ps y u sv phs W) (hBlo : w.heap.size + 1 ≤ B) (p : VrV) (h1 : OwS W p.2.1 p.1.ws) (h2 : OwS W p.2.2 p.1.sg)
    (ho : w9.ownsRow (w.heap.size + 1) 63 2 sv' (phs.length + 1) (vrCs phs ++ [p.2.1, p.2.2])) (hb : Below (w.heap.size + 1) W w9) (hg : W.grownBy w9 sv.ownBlock) :
    RpI w B pv ps y u sv' (phs ++ [p]) (w9.setCell ⟨B, 8, none⟩ sv') := by
  have hres : Row w9 w.heap.size zeroN 30 := (hb.block _ (by omega)).trans h.st.res
  have hnt : Row w9 B (y.cells u sv) 30 := (hg.block _ h.nt.lt (Ne.symm (row_own_ne2 h.nt h.own (by decide)))).trans h.nt
  have g1 : OwS w9 p.2.1 p.1.ws := h1.grown h.own (by decide) hg
  have g2 : OwS w9 p.2.2 p.1.sg := h2.grown h.own (by decide) hg
  refine ⟨⟨hres.other _ _ (by simp; omega), (h.st.rd.grown h.own (by decide) hg).setR hnt (by decide) _, (h.st.bel.trans (hb.mono (by omega))).setCell (by simp; omega) _⟩, hnt.set 8 sv', (h.sup.grown h.own (by decide) hg).setR hnt (by decide) _, ?_, fun q hq => ?_⟩
  · rw [List.length_append, vrCs_snoc]
    exact own_setR ho _ _ (row_own_ne2 hnt ho (by decide))
  · rcases List.mem_append.1 hq with hq | hq
    · exact ⟨((h.rds q hq).1.grown h.own (by decide) hg).setR hnt (by decide) _, ((h.rds q hq).2.grown h.own (by decide) hg).setR hnt (by decide) _⟩
    · rw [List.mem_singleton.1 hq]
      exact ⟨g1.setR hnt (by decide) _, g2.setR hnt (by decide) _⟩
theorem RpI.ownN {w : World} {B : Nat} {pv : Value} {ps : List ByteArray} {y : Nt} {u sv : Value} {phs : List VrV} {W : World} (h : RpI w B pv ps y u sv phs W) {z : Nt} (h1 : z.sup = y.sup) (h2 : phs.map (·.1) = z.vs) : OwN W u sv z :=
  ⟨by rw [h1]; exact h.sup, _, phs, h.own, h.rds, h2⟩
/-- Which groups were met: fa the beginning of the group that is being read, i the part that is looked at. -/
def BrI (T ps : List ByteArray) (dn : List (List ByteArray)) (fa i : Nat) : Prop :=
  (fa ≤ ps.length ∧ fa ≤ i ∧ i ≤ ps.length ∧ barsP T = dn ++ barsP (ps.drop fa) ∧ ∀ t ∈ (ps.drop fa).take (i - fa), t ≠ barB) ∨ (fa = ps.length + 1 ∧ i = ps.length + 1 ∧ barsP T = dn)
theorem BrI.start (ps : List ByteArray) (K : Nat) (h : K ≤ ps.length) : BrI (ps.drop K) ps [] K K := .inl ⟨h, Nat.le_refl _, h, rfl, by simp⟩
theorem BrI.bounds {T ps : List ByteArray} {dn : List (List ByteArray)} {fa i : Nat} (h : BrI T ps dn fa i) : fa ≤ i ∧ i ≤ ps.length + 1 ∧ (i ≤ ps.length → fa ≤ ps.length) := by
  rcases h with ⟨h1, h2, h3, _⟩ | ⟨h1, h2, _⟩ <;> omega
theorem BrI.skip {T ps : List ByteArray} {dn : List (List ByteArray)} {fa i : Nat} (h : BrI T ps dn fa i) {t : ByteArray} (ht : ps[i]? = some t) (hb : t ≠ barB) : BrI T ps dn fa (i + 1) := by
  have hi := (List.getElem?_eq_some_iff.1 ht).1
  rcases h with ⟨h1, h2, h3, h4, h5⟩ | ⟨h1, h2, _⟩
  · refine .inl ⟨h1, by omega, by omega, h4, fun x hx => ?_⟩
    have e : i + 1 - fa = (i - fa) + 1 := by omega
    rw [e, List.take_add_one, List.getElem?_drop, show fa + (i - fa) = i by omega, ht] at hx
    rcases List.mem_append.1 hx with hx | hx
    · exact h5 x hx
    · have : x = t := by simpa using hx
      rw [this]; exact hb
  · omega
theorem BrI.bar {T ps : List ByteArray} {dn : List (List ByteArray)} {fa i : Nat} (h : BrI T ps dn fa i) (ht : ps[i]? = some barB) : BrI T ps (dn ++ [(ps.drop fa).take (i - fa)]) (i + 1) (i + 1) ∧ (ps.drop fa).take (i - fa) ∈ barsP T := by
  obtain ⟨hi, hti⟩ := List.getElem?_eq_some_iff.1 ht
  rcases h with ⟨h1, h2, h3, h4, h5⟩ | ⟨h1, h2, _⟩
  · have e : ps.drop fa = (ps.drop fa).take (i - fa) ++ barB :: ps.drop (i + 1) := by
      have h6 : (ps.drop fa).drop (i - fa) = barB :: ps.drop (i + 1) := by
        rw [List.drop_drop, show fa + (i - fa) = i by omega, List.drop_eq_getElem_cons hi, hti]
      rw [← h6, List.take_append_drop]
    have e2 : barsP (ps.drop fa) = (ps.drop fa).take (i - fa) :: barsP (ps.drop (i + 1)) := by
      conv => lhs; rw [e]
      exact barsP_app h5
    have e3 : barsP T = (dn ++ [(ps.drop fa).take (i - fa)]) ++ barsP (ps.drop (i + 1)) := by rw [h4, e2]; simp
    refine ⟨.inl ⟨by omega, Nat.le_refl _, by omega, e3, by simp⟩, ?_⟩
    rw [e3]; simp
  · omega
theorem BrI.last {T ps : List ByteArray} {dn : List (List ByteArray)} {fa i : Nat} (h : BrI T ps dn fa i) (hi : i = ps.length) : BrI T ps (dn ++ [(ps.drop fa).take (i - fa)]) (i + 1) (i + 1) ∧ (ps.drop fa).take (i - fa) ∈ barsP T := by
  rcases h with ⟨h1, h2, h3, h4, h5⟩ | ⟨h1, h2, _⟩
  · have e : (ps.drop fa).take (i - fa) = ps.drop fa := List.take_of_length_le (by rw [List.length_drop]; omega)
    rw [e] at h5 ⊢
    rw [barsP_none h5] at h4
    refine ⟨.inr ⟨by omega, by omega, h4⟩, ?_⟩
    rw [h4]; simp
  · omega
theorem BrI.fin {T ps : List ByteArray} {dn : List (List ByteArray)} {fa i : Nat} (h : BrI T ps dn fa i) (hi : ps.length < i) : barsP T = dn := by
  rcases h with ⟨h1, h2, h3, _⟩ | ⟨_, _, h3⟩
  · omega
  · exact h3
/-- Where the ] stands; behind the last part if there is none. -/
def endK (l : List ByteArray) : Nat := if endI l < 0 then l.length else (endI l).toNat
theorem endK_at {l : List ByteArray} {k : Nat} (h : ∀ y ∈ l.take k, decide (y = behB) = false) (ht : l[k]? = some behB) : endK l = k ∧ endI l = (k : Int) := by
  have e : endI l = (k : Int) := fIdx_hit _ _ k behB h ht (decide_eq_true rfl)
  refine ⟨?_, e⟩
  unfold endK
  rw [e, if_neg (by omega), Int.toNat_natCast]
theorem endK_no {l : List ByteArray} (h : ∀ y ∈ l, decide (y = behB) = false) : endK l = l.length ∧ endI l = -1 := by
  have e : endI l = -1 := fIdx_none _ _ h
  refine ⟨?_, e⟩
  unfold endK
  rw [e, if_pos (by omega)]
/-- Sizes. -/
theorem brL_sz {l : List ByteArray} (h : Sz16 l) : Sz16 (brL l) := by
  have hw : ∀ s ∈ brW l, s.size ≤ 65536 := by
    intro s hs
    cases l with
    | nil => cases hs
    | cons x r =>
      rcases List.mem_cons.1 hs with rfl | hs
      · have := h x (by simp)
        rw [ByteArray.size_extract]; omega
      · exact h s (by simp [hs])
  unfold brL
  split
  · intro s hs; cases hs
  split
  · intro s hs; cases hs
  split
  · intro s hs; cases hs
  intro s hs
  rcases List.mem_append.1 hs with hs | hs
  · exact hw s (List.mem_of_mem_take hs)
  · rw [List.mem_singleton.1 hs, ByteArray.size_extract]
    have : ((brW l).getD (brI l).toNat ⟨#[]⟩).size ≤ 65536 := by
      rw [List.getD_eq_getElem?_getD]
      cases hq : (brW l)[(brI l).toNat]? with
      | none => show 0 ≤ _; omega
      | some z => exact hw z (List.mem_of_getElem? hq)
    omega
theorem sz_drop {l : List ByteArray} (h : Sz16 l) (k : Nat) : Sz16 (l.drop k) := fun s hs => h s (List.mem_of_mem_drop hs)
theorem sz_take {l : List ByteArray} (h : Sz16 l) (k : Nat) : Sz16 (l.take k) := fun s hs => h s (List.mem_of_mem_take hs)
theorem rvP_sz {l : List ByteArray} (h : (joinB l).size ≤ 65536) (hz : Sz16 l) : Sz16 (rvP l).ws ∧ Sz16 (rvP l).sg := by
  unfold rvP
  cases rvF l with
  | none => exact ⟨fun s hs => (by cases hs), fun s hs => (by cases hs)⟩
  | some i => exact ⟨unqL_sz (Nat.le_trans (take_join_le l i) h), brL_sz (sz_drop hz i)⟩
theorem rnoteP_sz {s : ByteArray} (hs : s.size ≤ 65536) (hh : rhdB (frP s) = true) : SzN (rnoteP s) := by
  have hj : (joinB (splitS s)).size ≤ 65536 := by rw [joinB_split]; exact hs
  have hz := split_sz16 hs
  unfold rhdB at hh
  simp only [Bool.and_eq_true] at hh
  have hlm : (hdLm (frP s)).f.size ≤ 65536 ∧ (hdLm (frP s)).l.size ≤ 65536 := by
    have h3 := hh.2.2
    by_cases hp : plcI (ownP (frP s)) = 4
    · unfold hdLm
      rw [if_pos hp]
      exact ⟨Nat.zero_le _, Nat.zero_le _⟩
    · rw [if_neg hp, decide_eq_true_eq] at h3
      unfold hdLm at h3 ⊢
      rw [if_neg hp] at h3 ⊢
      exact lm_sz h3
  refine ⟨hlm.1, hlm.2, ?_, fun v hv => ?_⟩
  · show Sz16 (rsupL (frP s))
    unfold rsupL
    split
    · intro s hs; cases hs
    · exact brL_sz (sz_drop (sz_drop (sz_take hz _) _) _)
  · have hv2 : v ∈ (grpsP s).map rvP := hv
    obtain ⟨g, hg, rfl⟩ := List.mem_map.1 hv2
    unfold grpsP at hg
    obtain ⟨i, n, rfl⟩ := bars_sub _ _ (Nat.le_refl _) g hg
    exact rvP_sz (Nat.le_trans (Nat.le_trans (sub_join_le _ _ _) (drop_join_le _ _)) hj) (sz_take (sz_drop (sz_drop hz _) _) _)
set_option maxRecDepth 100000 in
set_option maxHeartbeats 8000000 in
theorem rpar45_any (s : ByteArray) (w : World) (he : Env w) (hs : s.size ≤ 65536) :
    Calls Tryz.prog 29 #[.string s] w fun r w' => OfQ (parN s) (parI s) w r w' := by
  have HE := fun w' (h : Below w.heap.size w w') => hid (he.below h)
  have h1i : ¬ (65536 : Int) < (s.size : Int) := by omega
  have hb0 := below_al w (.cells zeroN 30)
  have HR0 := hid (row_nw w zeroN 30 rfl)
  have HB0 := hid hb0
  have HPT := hid (rparts_any s (w.alloc (.cells zeroN 30)) (by omega))
  have hsl := splitS_len s
  have HSZ := hid (split_sz16 hs)
  have HSJ : Hid ((joinB (splitS s)).size ≤ 65536) := by show _ ≤ _; rw [joinB_split]; omega
  have HOK : Hid (rokP s = (decide (0 < endI (splitS s)) && (rhdB (frP s) && ((grpsP s).all rvB && (decide (prE (rnoteP s) = 0) && decide (prN (rnoteP s) = s)))))) := rfl
  have HFR : Hid (frP s = (splitS s).take (endI (splitS s)).toNat) := rfl
  have HGR : Hid (grpsP s = barsP ((splitS s).drop ((endI (splitS s)).toNat + 1))) := rfl
  have HNP : Hid (rnoteP s = { rhdP (frP s) with vs := (grpsP s).map rvP }) := rfl
  have HNZ := fun h => hid (rnoteP_sz (s := s) hs h)
  have HFA : rokP s = false → Hid (parI s = 3 ∧ parN s = nt0) := fun h => hid (par_fail (s := s) (by rw [← (rpar_eq s).1]; exact h) (by omega))
  have HYE : rokP s = true → Hid (parI s = 0 ∧ parN s = rnoteP s) := fun h => by
    have := par_yes (s := s) (by rw [← (rpar_eq s).1]; exact h)
    rw [← (rpar_eq s).2 h] at this
    exact hid this
  have HPL : Hid ((splitS s).length ≤ 65537) := by show _ ≤ _; omega
  have HEI : Hid (0 ≤ 1) := Nat.zero_le 1
  clear hsl hs he hb0
  generalize splitS s = ps at *
  unfold zeroN at HPT HR0 HB0
  go_enter Tryz.func29, Tryz.ntmps29
  go_wp2_with fail
  (with_reducible refine HPT.out.mono ?_)
  rintro e w1 ⟨pv, rfl, hps, hB1⟩
  obtain ⟨ap, cp, rfl⟩ := hps.form
  have HS1 : Hid (RpS w (.slice ap ps.length cp) ps w1) := ⟨HR0.out.below hB1, hps, below_tr HB0.out hB1⟩
  obtain ⟨_, cp', hcpe, hpc, hpm, hpcell⟩ := hps.rd.open
  cases hcpe
  have HCL := hid hpcell
  clear HPT HR0 HB0 hps hB1 hpcell
  go_upto_block 0 with fail
  go_cut [5] from 20 to 32 (fun kv wx => kv = .int .i64 (endK ps : Nat) ∧ Hid (w1 = wx) ∧ Hid ((endK ps = ps.length ∧ endI ps = -1) ∨ endI ps = (endK ps : Nat) ∧ endK ps < ps.length))
  case first =>
    clear HOK HFR HGR HNP HNZ HFA HYE HE HS1
    go_wp2_with fail
    go_loop [5] (fun kv => ∃ k : Nat, k ≤ ps.length ∧ kv = .int .i64 k ∧ Hid (∀ y ∈ ps.take k, decide (y = behB) = false)) (fun kv => ps.length - (intOf kv).toNat)
    case atStart => exact ⟨0, Nat.zero_le _, rfl, by simp [Hid]⟩
    case round =>
      obtain ⟨k, hk, rfl, HN⟩ := hrel
      have hpl := HPL.out
      by_cases hlt : k < ps.length
      · obtain ⟨t, b2, o2, ht, rfl, ct⟩ := HCL.out k hlt
        have hki : (k : Int) < (ps.length : Int) := by omega
        have hk0 : (0 : Int) ≤ (k : Int) := by omega
        by_cases htb : t = behB
        · have HK := hid (endK_at HN.out (by rw [ht, htb]))
          subst htb
          clear HN ht
          unfold behB at ct
          go_wp2_with fail
          go_meet
          refine ⟨by rw [HK.out.1], rfl, .inr ⟨by rw [HK.out.1, HK.out.2], by rw [HK.out.1]; exact hlt⟩⟩
        · have q1 : ¬ t.toList = [93] := fun e => htb (ba_ext (by rw [← ByteArray.toList_eq]; exact e))
          have q2 : (t.toList == [93]) = false := beq_eq_false_iff_ne.2 q1
          have q3 : (t.toList != [93]) = true := by rw [bne, q2]; rfl
          have HN2 : Hid (∀ y ∈ ps.take (k + 1), decide (y = behB) = false) := take_none HN.out ht (decide_eq_false htb)
          clear HN ht htb
          go_wp2_with fail
          go_round
          case rel => exact ⟨k + 1, by omega, by go_num, HN2.out⟩
          case measure => simp [intOf]; omega
      · have hki : ¬ (k : Int) < (ps.length : Int) := by omega
        have hke : k = ps.length := by omega
        have HK := hid (endK_no (l := ps) (by have h := HN.out; rw [hke, List.take_length] at h; exact h))
        have HKE := hid hke
        clear HN hke
        go_wp2_with fail
        go_meet
        refine ⟨by rw [HK.out.1, HKE.out], rfl, .inl HK.out⟩
  case rest =>
    obtain ⟨rfl, hwc, HKK⟩ := hcut
    obtain rfl := hwc.out
    clear hwc HCL
    have hpl := HPL.out
    generalize endK ps = K at *
    by_cases hK0 : K = 0
    · have q1 : ((K : Int) == 0) = true := by rw [hK0]; rfl
      have hE : Hid (¬ 0 < endI ps) := by show ¬ _; rcases HKK.out with ⟨_, h⟩ | ⟨h, _⟩ <;> rw [h] <;> omega
      clear hK0 HKK
      have hok : rokP s = false := by rw [HOK.out, decide_eq_false hE.out]; rfl
      have HPF := HFA hok
      clear HOK HEI HFR HGR HNP HNZ HFA HYE hok
      have r0 := (HS1.out.res).cell 0 (x := .int .i64 0) rfl
      have r1 := (HS1.out.res).cell 1 (x := .int .i64 0) rfl
      have r2 := (HS1.out.res).cell 2 (x := .int .i64 0) rfl
      have r3 := (HS1.out.res).cell 3 (x := .string ⟨#[]⟩) rfl
      have r4 := (HS1.out.res).cell 4 (x := .string ⟨#[]⟩) rfl
      have r5 := (HS1.out.res).cell 5 (x := .int .i64 0) rfl
      have r6 := (HS1.out.res).cell 6 (x := .bool false) rfl
      have r7 := (HS1.out.res).cell 7 (x := .slice none 0 0) rfl
      have r8 := (HS1.out.res).cell 8 (x := .slice none 0 0) rfl
      have g0 := (HS1.out.res).frozen 0
      have g1 := (HS1.out.res).frozen 1
      have g2 := (HS1.out.res).frozen 2
      have g3 := (HS1.out.res).frozen 3
      have g4 := (HS1.out.res).frozen 4
      have g5 := (HS1.out.res).frozen 5
      have g6 := (HS1.out.res).frozen 6
      have g7 := (HS1.out.res).frozen 7
      have g8 := (HS1.out.res).frozen 8
      go_wp2_with fail
      have HY := pfin (y := nt0) (u := .slice none 0 0) (s := .slice none 0 0) (HS1.out.res) (HS1.out.bel)
      dsimp only [nt0] at HY
      have z0 := HY.1.cell 0 (x := .int .i64 0) rfl
      have z1 := HY.1.cell 1 (x := .int .i64 0) rfl
      have z2 := HY.1.cell 2 (x := .int .i64 0) rfl
      have z3 := HY.1.cell 3 (x := .string ⟨#[]⟩) rfl
      have z4 := HY.1.cell 4 (x := .string ⟨#[]⟩) rfl
      have z5 := HY.1.cell 5 (x := .int .i64 0) rfl
      have z6 := HY.1.cell 6 (x := .bool false) rfl
      have z7 := HY.1.cell 7 (x := .slice none 0 0) rfl
      have z8 := HY.1.cell 8 (x := .slice none 0 0) rfl
      have hq := HPF.out
      exact bodyPost_ret (v := .tuple #[.agg #[.int .i64 0, .int .i64 0, .int .i64 0, .string ⟨#[]⟩, .string ⟨#[]⟩, .int .i64 0, .bool false, .slice none 0 0, .slice none 0 0], .int .i64 3]) (by simp [results, Tryz.f29, go_sem, z0, z1, z2, z3, z4, z5, z6, z7, z8]) rfl ⟨none, 0, 0, none, 0, 0, by rw [hq.1, hq.2]; rfl, by rw [hq.2]; exact ⟨Rd.nil _, RdV.nil _⟩, HY.2⟩
    by_cases hKn : K = ps.length
    · have q1 : ((K : Int) == 0) = false := beq_eq_false_iff_ne.2 (by omega)
      have q2 : ((K : Int) == (ps.length : Int)) = true := by rw [hKn]; simp
      have hE : Hid (¬ 0 < endI ps) := by show ¬ _; rcases HKK.out with ⟨_, h⟩ | ⟨_, h⟩ <;> omega
      clear hK0 hKn HKK
      have hok : rokP s = false := by rw [HOK.out, decide_eq_false hE.out]; rfl
      have HPF := HFA hok
      clear HOK HEI HFR HGR HNP HNZ HFA HYE hok
      have r0 := (HS1.out.res).cell 0 (x := .int .i64 0) rfl
      have r1 := (HS1.out.res).cell 1 (x := .int .i64 0) rfl
      have r2 := (HS1.out.res).cell 2 (x := .int .i64 0) rfl
      have r3 := (HS1.out.res).cell 3 (x := .string ⟨#[]⟩) rfl
      have r4 := (HS1.out.res).cell 4 (x := .string ⟨#[]⟩) rfl
      have r5 := (HS1.out.res).cell 5 (x := .int .i64 0) rfl
      have r6 := (HS1.out.res).cell 6 (x := .bool false) rfl
      have r7 := (HS1.out.res).cell 7 (x := .slice none 0 0) rfl
      have r8 := (HS1.out.res).cell 8 (x := .slice none 0 0) rfl
      have g0 := (HS1.out.res).frozen 0
      have g1 := (HS1.out.res).frozen 1
      have g2 := (HS1.out.res).frozen 2
      have g3 := (HS1.out.res).frozen 3
      have g4 := (HS1.out.res).frozen 4
      have g5 := (HS1.out.res).frozen 5
      have g6 := (HS1.out.res).frozen 6
      have g7 := (HS1.out.res).frozen 7
      have g8 := (HS1.out.res).frozen 8
      go_wp2_with fail
      have HY := pfin (y := nt0) (u := .slice none 0 0) (s := .slice none 0 0) (HS1.out.res) (HS1.out.bel)
      dsimp only [nt0] at HY
      have z0 := HY.1.cell 0 (x := .int .i64 0) rfl
      have z1 := HY.1.cell 1 (x := .int .i64 0) rfl
      have z2 := HY.1.cell 2 (x := .int .i64 0) rfl
      have z3 := HY.1.cell 3 (x := .string ⟨#[]⟩) rfl
      have z4 := HY.1.cell 4 (x := .string ⟨#[]⟩) rfl
      have z5 := HY.1.cell 5 (x := .int .i64 0) rfl
      have z6 := HY.1.cell 6 (x := .bool false) rfl
      have z7 := HY.1.cell 7 (x := .slice none 0 0) rfl
      have z8 := HY.1.cell 8 (x := .slice none 0 0) rfl
      have hq := HPF.out
      exact bodyPost_ret (v := .tuple #[.agg #[.int .i64 0, .int .i64 0, .int .i64 0, .string ⟨#[]⟩, .string ⟨#[]⟩, .int .i64 0, .bool false, .slice none 0 0, .slice none 0 0], .int .i64 3]) (by simp [results, Tryz.f29, go_sem, z0, z1, z2, z3, z4, z5, z6, z7, z8]) rfl ⟨none, 0, 0, none, 0, 0, by rw [hq.1, hq.2]; rfl, by rw [hq.2]; exact ⟨Rd.nil _, RdV.nil _⟩, HY.2⟩
    have q1 : ((K : Int) == 0) = false := beq_eq_false_iff_ne.2 (by omega)
    have q2 : ((K : Int) == (ps.length : Int)) = false := beq_eq_false_iff_ne.2 (by omega)
    have hEK : endI ps = (K : Int) := by rcases HKK.out with ⟨h, _⟩ | ⟨h, _⟩ <;> omega
    have hklt : K < ps.length := by rcases HKK.out with ⟨h, _⟩ | ⟨_, h⟩ <;> omega
    obtain ⟨x, l0, hxl⟩ : ∃ x l0, ps.take K = x :: l0 := List.exists_cons_of_ne_nil (by
      intro e
      have := congrArg List.length e
      rw [List.length_take, List.length_nil] at this
      omega)
    have hF : frP s = x :: l0 := by rw [HFR.out, hEK, Int.toNat_natCast]; exact hxl
    have hG : grpsP s = barsP (ps.drop (K + 1)) := by rw [HGR.out, hEK, Int.toNat_natCast]
    have HOK2 : Hid (rokP s = (rhdB (x :: l0) && ((barsP (ps.drop (K + 1))).all rvB && (decide (prE (rnoteP s) = 0) && decide (prN (rnoteP s) = s))))) := by show _ = _; rw [HOK.out, hEK, decide_eq_true (by omega), hF, hG]; rfl
    have HNP2 : Hid (rnoteP s = { rhdP (x :: l0) with vs := (barsP (ps.drop (K + 1))).map rvP }) := by show _ = _; rw [HNP.out, hF, hG]
    have HNZ2 : rhdB (x :: l0) = true → Hid (SzN (rnoteP s)) := fun h => HNZ (by rw [hF]; exact h)
    have hki : (K : Int) ≤ (ps.length : Int) := by omega
    have hk0 : (0 : Int) ≤ (K : Int) := by omega
    have hkn : K ≤ ps.length := by omega
    have hkc : (K : Int) ≤ (cp : Int) := by omega
    have hkcn : K ≤ cp := by omega
    have hjt := take_join_le ps K
    have htl : (ps.take K).length ≤ 65537 := by rw [List.length_take]; omega
    have hrt := HS1.out.rd.rd.take K hkn
    have hzt := sz_take HSZ.out K
    rw [hxl] at hjt htl hrt hzt
    have HRH := hid (rhead45_any x l0 _ w1 (HE _ HS1.out.bel).out hrt hzt (by omega) (by have := HSJ.out; omega))
    have HKLT := hid hklt
    clear HOK HFR HGR HNP HNZ hF hG hEK hjt htl hrt hzt hxl hK0 hKn HKK hklt
    have HOK := HOK2
    have HNP := HNP2
    have HNZ := HNZ2
    have HFR := HEI
    have HGR := HEI
    clear HOK2 HNP2 HNZ2
    generalize x :: l0 = L at *
    go_wp2_with fail
    (with_reducible refine HRH.out.mono ?_)
    rintro e w2 ⟨y, au, nu, cu, rfl, hq, hB2⟩
    have HS2 := hid (HS1.out.below hB2)
    have HQ := hid hq
    clear HS1 HRH hB2 hq
    unfold Nt.cells
    have HS3 := hid (HS2.out.below (below_al w2 (.cells #[.int .i64 y.fr, .int .i64 y.to_, .int .i64 y.pl, .string y.lf, .string y.ll, .int .i64 y.ln, .bool y.pos, .slice au nu cu, .slice none 0 0] 30)))
    have HN3 : Hid (Row (w2.alloc (.cells #[.int .i64 y.fr, .int .i64 y.to_, .int .i64 y.pl, .string y.lf, .string y.ll, .int .i64 y.ln, .bool y.pos, .slice au nu cu, .slice none 0 0] 30)) w2.heap.size (y.cells (.slice au nu cu) (.slice none 0 0)) 30) := row_nw w2 _ _ rfl
    have HQ3 : Hid (rhdB L = true → y = rhdP L ∧ OwS (w2.alloc (.cells #[.int .i64 y.fr, .int .i64 y.to_, .int .i64 y.pl, .string y.lf, .string y.ll, .int .i64 y.ln, .bool y.pos, .slice au nu cu, .slice none 0 0] 30)) (.slice au nu cu) y.sup) := fun h => ⟨(HQ.out h).1, (HQ.out h).2.below (below_al _ _)⟩
    have HLo : Hid (w.heap.size + 1 ≤ w2.heap.size) := HS2.out.res.lt
    go_upto_region 10 with fail
    clear HQ HS2
    generalize w2.alloc (.cells #[.int .i64 y.fr, .int .i64 y.to_, .int .i64 y.pl, .string y.lf, .string y.ll, .int .i64 y.ln, .bool y.pos, .slice au nu cu, .slice none 0 0] 30) = W3 at *
    generalize w2.heap.size = B at *
    cases hrb : rhdB L with
    | false =>
      have HRB := hid hrb
      clear hrb HQ3 HN3
      have hok : rokP s = false := by rw [HOK.out, HRB.out]; rfl
      have HPF := HFA hok
      clear HOK HEI HFR HGR HNP HNZ HFA HYE hok
      have r0 := (HS3.out.res).cell 0 (x := .int .i64 0) rfl
      have r1 := (HS3.out.res).cell 1 (x := .int .i64 0) rfl
      have r2 := (HS3.out.res).cell 2 (x := .int .i64 0) rfl
      have r3 := (HS3.out.res).cell 3 (x := .string ⟨#[]⟩) rfl
      have r4 := (HS3.out.res).cell 4 (x := .string ⟨#[]⟩) rfl
      have r5 := (HS3.out.res).cell 5 (x := .int .i64 0) rfl
      have r6 := (HS3.out.res).cell 6 (x := .bool false) rfl
      have r7 := (HS3.out.res).cell 7 (x := .slice none 0 0) rfl
      have r8 := (HS3.out.res).cell 8 (x := .slice none 0 0) rfl
      have g0 := (HS3.out.res).frozen 0
      have g1 := (HS3.out.res).frozen 1
      have g2 := (HS3.out.res).frozen 2
      have g3 := (HS3.out.res).frozen 3
      have g4 := (HS3.out.res).frozen 4
      have g5 := (HS3.out.res).frozen 5
      have g6 := (HS3.out.res).frozen 6
      have g7 := (HS3.out.res).frozen 7
      have g8 := (HS3.out.res).frozen 8
      go_wp2_with fail
      have HY := pfin (y := nt0) (u := .slice none 0 0) (s := .slice none 0 0) (HS3.out.res) (HS3.out.bel)
      dsimp only [nt0] at HY
      have z0 := HY.1.cell 0 (x := .int .i64 0) rfl
      have z1 := HY.1.cell 1 (x := .int .i64 0) rfl
      have z2 := HY.1.cell 2 (x := .int .i64 0) rfl
      have z3 := HY.1.cell 3 (x := .string ⟨#[]⟩) rfl
      have z4 := HY.1.cell 4 (x := .string ⟨#[]⟩) rfl
      have z5 := HY.1.cell 5 (x := .int .i64 0) rfl
      have z6 := HY.1.cell 6 (x := .bool false) rfl
      have z7 := HY.1.cell 7 (x := .slice none 0 0) rfl
      have z8 := HY.1.cell 8 (x := .slice none 0 0) rfl
      have hq := HPF.out
      exact bodyPost_ret (v := .tuple #[.agg #[.int .i64 0, .int .i64 0, .int .i64 0, .string ⟨#[]⟩, .string ⟨#[]⟩, .int .i64 0, .bool false, .slice none 0 0, .slice none 0 0], .int .i64 3]) (by simp [results, Tryz.f29, go_sem, z0, z1, z2, z3, z4, z5, z6, z7, z8]) rfl ⟨none, 0, 0, none, 0, 0, by rw [hq.1, hq.2]; rfl, by rw [hq.2]; exact ⟨Rd.nil _, RdV.nil _⟩, HY.2⟩
    | true =>
      rw [hrb] at HOK
      have HYL : Hid (y = rhdP L) := (HQ3.out hrb).1
      have HI3 : Hid (RpI w B (.slice ap ps.length cp) ps y (.slice au nu cu) (.slice none 0 0) [] W3) := ⟨HS3.out, HN3.out, (HQ3.out hrb).2, World.ownsRow_nil _ _ _ _, fun p hp => by cases hp⟩
      have HSN := HNZ hrb
      clear hrb HQ3 HN3 HS3 HNZ
      have HNZ := HEI
      have HST := hid (BrI.start ps (K + 1) (by have := HKLT.out; omega))
      generalize ps.drop (K + 1) = T at *
      go_wp2_with fail
      go_loopw [8, 9] (fun fv iv wr => ∃ (fa i : Nat) (dn : List (List ByteArray)) (phs : List VrV) (asv : Option Addr) (csv : Nat), fv = .int .i64 fa ∧ iv = .int .i64 i ∧ phs.length ≤ i ∧ Hid (BrI T ps dn fa i) ∧ Hid (phs.map (·.1) = dn.map rvP) ∧ Hid (∀ g ∈ dn, rvB g = true) ∧ Hid (RpI w B (.slice ap ps.length cp) ps y (.slice au nu cu) (.slice asv phs.length csv) phs wr)) (fun _ iv _ => ps.length + 1 - (intOf iv).toNat)
      case atStart => exact ⟨K + 1, K + 1, [], [], none, 0, by go_num, by go_num, Nat.zero_le _, HST.out, rfl, fun g hg => (by cases hg), HI3.out⟩
      case round =>
        rename_i wr
        obtain ⟨fa, i, dn, phs, asv, csv, rfl, rfl, hpi, HBI, HMP, HAL, HI⟩ := hrel
        clear HST HI3
        obtain ⟨hfi, hin, hfn⟩ := HBI.out.bounds
        by_cases hle : i ≤ ps.length
        · have hlei : (i : Int) ≤ (ps.length : Int) := by omega
          have hi0 : (0 : Int) ≤ (i : Int) := by omega
          have hfl := hfn hle
          clear hfn
          go_upto_region 16 with fail
          go_cut [71] from 61 to 71 (fun bv wx => ∃ b : Bool, bv = .bool b ∧ Hid (wr = wx) ∧ Hid ((b = true ∧ ∃ t, ps[i]? = some t ∧ t ≠ barB) ∨ (b = false ∧ (i = ps.length ∨ ps[i]? = some barB))))
          case first =>
            clear HOK HNP HYE HFA
            obtain ⟨_, cq, hce, _, _, hcell⟩ := HI.out.st.rd.rd.open
            cases hce
            by_cases hlt : i < ps.length
            · obtain ⟨t, b2, o2, ht, rfl, ct⟩ := hcell i hlt
              have hlti : (i : Int) < (ps.length : Int) := by omega
              clear hcell
              by_cases htb : t = barB
              · have HT : Hid (ps[i]? = some barB) := by show _ = _; rw [ht, htb]
                subst htb
                clear ht
                unfold barB at ct
                go_wp2_with fail
                go_meet
                exact ⟨false, rfl, rfl, .inr ⟨rfl, .inr HT.out⟩⟩
              · have HT := hid ht
                have HTB := hid htb
                have q1 : ¬ t.toList = [124] := fun e => htb (ba_ext (by rw [← ByteArray.toList_eq]; exact e))
                have q2 : (t.toList == [124]) = false := beq_eq_false_iff_ne.2 q1
                have q3 : (t.toList != [124]) = true := by rw [bne, q2]; rfl
                clear ht htb
                go_wp2_with fail
                go_meet
                exact ⟨true, rfl, rfl, .inl ⟨rfl, t, HT.out, HTB.out⟩⟩
            · have hlti : ¬ (i : Int) < (ps.length : Int) := by omega
              have HIE : Hid (i = ps.length) := by show _ = _; omega
              clear hcell
              go_wp2_with fail
              go_meet
              exact ⟨false, rfl, rfl, .inr ⟨rfl, .inl HIE.out⟩⟩
          case rest =>
            obtain ⟨bq, rfl, hwc, HBQ⟩ := hcut
            obtain rfl := hwc.out
            clear hwc
            rcases HBQ.out with ⟨hbq, t, ht, htb⟩ | ⟨hbq, hor⟩
            · subst hbq
              have HB2 := hid (HBI.out.skip ht htb)
              clear HBQ ht htb
              go_wp2_with fail
              go_roundw
              case rel => exact ⟨fa, i + 1, dn, phs, asv, csv, rfl, by go_num, by omega, HB2.out, HMP.out, HAL.out, HI.out⟩
              case measure => simp [intOf]; omega
            · subst hbq
              obtain ⟨gr, hgr⟩ : ∃ gr, gr = (ps.drop fa).take (i - fa) := ⟨_, rfl⟩
              have HB2 : Hid (BrI T ps (dn ++ [gr]) (i + 1) (i + 1) ∧ gr ∈ barsP T) := by
                show _ ∧ _
                rw [hgr]
                rcases hor with h | h
                · exact HBI.out.last h
                · exact HBI.out.bar h
              clear HBQ hor HBI
              have hfil : (fa : Int) ≤ (i : Int) := by omega
              have hf0 : (0 : Int) ≤ (fa : Int) := by omega
              have hic : (i : Int) ≤ (cp : Int) := by omega
              have hicn : i ≤ cp := by omega
              have hfci : (fa : Int) ≤ (cp : Int) := by omega
              have hjg : (joinB gr).size ≤ 65536 := by have := sub_join_le ps fa (i - fa); have := HSJ.out; rw [hgr]; omega
              have hzg : Sz16 gr := by rw [hgr]; exact sz_take (sz_drop HSZ.out _) _
              have hlg : gr.length = i - fa := by rw [hgr, List.length_take, List.length_drop]; omega
              have HGR2 := hid hgr
              have HJG := hid hjg
              have HZG := hid hzg
              have HLG := hid hlg
              clear hgr hjg hzg hlg
              go_upto_region 17 with fail
              go_cut [10, 11] from 72 to 79 (fun pv2 bv wx => ∃ (V : Nat) (bu : Option Addr) (mu du : Nat) (bg : Option Addr) (mg dg : Nat), pv2 = .pointer (some ⟨V, 0, none⟩) ∧ bv = .bool (rvB gr) ∧ Hid (Row wx V #[.slice bu mu du, .slice bg mg dg] 63) ∧ Hid (rvB gr = true → OwS wx (.slice bu mu du) (rvP gr).ws ∧ OwS wx (.slice bg mg dg) (rvP gr).sg) ∧ Hid (RpI w B (.slice ap ps.length cp) ps y (.slice au nu cu) (.slice asv phs.length csv) phs wx))
              case first =>
                clear HOK HNP HYE HFA HB2 HMP HAL
                have HRD := hid HI.out.st.rd.rd
                have fin : ∀ (sv : Value), RdS wr sv gr → Hid (Calls Tryz.prog 76 #[sv] wr fun r w' => VfQ gr wr r w') := fun sv h => rvar_any sv gr wr (HE _ HI.out.st.bel).out h HZG.out (by have := HLG.out; omega) HJG.out
                by_cases hcap : cp = fa
                · have hg0 : i - fa = 0 := by omega
                  have hii : i = fa := by omega
                  have HV := fin (.slice ap (i - fa) (cp - fa)) (by
                    have h0 : gr = [] := List.eq_nil_of_length_eq_zero (by rw [HLG.out]; exact hg0)
                    rw [h0, hg0]
                    exact ⟨ap, cp - fa, rfl, Nat.zero_le _, by unfold maxLen; omega, fun j z hz => by simp at hz⟩)
                  clear fin hg0
                  subst hcap
                  subst hii
                  rw [Nat.sub_self] at HV
                  go_wp2_with fail
                  (with_reducible refine HV.out.mono ?_)
                  rintro e w4 ⟨bu, mu, du, bg, mg, dg, rfl, hq, hB4⟩
                  have HI4 := hid (HI.out.below hB4)
                  have HQ := hid hq
                  clear HV hB4 hq HI HRD
                  go_wp2_with fail
                  go_meet
                  exact ⟨w4.heap.size, bu, mu, du, bg, mg, dg, rfl, rfl, row_nw w4 _ _ rfl, fun h => ⟨(HQ.out h).1.below (below_al _ _), (HQ.out h).2.below (below_al _ _)⟩, HI4.out.below (below_al _ _)⟩
                · have HV : ∀ b o, ap = some ⟨b, o, none⟩ → Hid (Calls Tryz.prog 76 #[.slice (some ⟨b, o + fa, none⟩) (i - fa) (cp - fa)] wr fun r w' => VfQ gr wr r w') := fun b o e => fin _ (by
                    have h1 := HRD.out
                    subst e
                    have h2 := (h1.drop fa hfl).take (i - fa) (by rw [List.length_drop]; omega)
                    rw [HGR2.out]; exact h2)
                  obtain ⟨b2, o2, hap⟩ : ∃ b2 o2, ap = some ⟨b2, o2, none⟩ := by
                    have h1 := HI.out.st.rd
                    rcases h1.2 with ⟨e, _⟩ | ⟨g, c, cur, e, _⟩
                    · simp only [Value.slice.injEq] at e
                      obtain ⟨_, e1, e2⟩ := e
                      omega
                    · simp only [Value.slice.injEq] at e
                      exact ⟨_, _, e.1⟩
                  have HV2 := HV b2 o2 hap
                  subst hap
                  clear fin HV
                  go_wp2_with fail
                  (with_reducible refine HV2.out.mono ?_)
                  rintro e w4 ⟨bu, mu, du, bg, mg, dg, rfl, hq, hB4⟩
                  have HI4 := hid (HI.out.below hB4)
                  have HQ := hid hq
                  clear HV2 hB4 hq HI HRD
                  go_wp2_with fail
                  go_meet
                  exact ⟨w4.heap.size, bu, mu, du, bg, mg, dg, rfl, rfl, row_nw w4 _ _ rfl, fun h => ⟨(HQ.out h).1.below (below_al _ _), (HQ.out h).2.below (below_al _ _)⟩, HI4.out.below (below_al _ _)⟩
              case rest =>
                obtain ⟨V, bu, mu, du, bg, mg, dg, rfl, rfl, HV, HQ, HI5⟩ := hcut
                clear HI HGR2 HJG HZG HLG
                cases hrv : rvB gr with
                | false =>
                  have HRV := hid hrv
                  clear hrv HQ HV
                  have hok : rokP s = false := by
                    have : (barsP T).all rvB = false := by
                      rw [List.all_eq_false]
                      exact ⟨gr, HB2.out.2, by rw [HRV.out]; simp⟩
                    rw [HOK.out, this]; rfl
                  have HPF := HFA hok
                  clear HOK HEI HFR HGR HNP HNZ HFA HYE hok
                  have r0 := (HI5.out.st.res).cell 0 (x := .int .i64 0) rfl
                  have r1 := (HI5.out.st.res).cell 1 (x := .int .i64 0) rfl
                  have r2 := (HI5.out.st.res).cell 2 (x := .int .i64 0) rfl
                  have r3 := (HI5.out.st.res).cell 3 (x := .string ⟨#[]⟩) rfl
                  have r4 := (HI5.out.st.res).cell 4 (x := .string ⟨#[]⟩) rfl
                  have r5 := (HI5.out.st.res).cell 5 (x := .int .i64 0) rfl
                  have r6 := (HI5.out.st.res).cell 6 (x := .bool false) rfl
                  have r7 := (HI5.out.st.res).cell 7 (x := .slice none 0 0) rfl
                  have r8 := (HI5.out.st.res).cell 8 (x := .slice none 0 0) rfl
                  have g0 := (HI5.out.st.res).frozen 0
                  have g1 := (HI5.out.st.res).frozen 1
                  have g2 := (HI5.out.st.res).frozen 2
                  have g3 := (HI5.out.st.res).frozen 3
                  have g4 := (HI5.out.st.res).frozen 4
                  have g5 := (HI5.out.st.res).frozen 5
                  have g6 := (HI5.out.st.res).frozen 6
                  have g7 := (HI5.out.st.res).frozen 7
                  have g8 := (HI5.out.st.res).frozen 8
                  go_wp2_with fail
                  have HY := pfin (y := nt0) (u := .slice none 0 0) (s := .slice none 0 0) (HI5.out.st.res) (HI5.out.st.bel)
                  dsimp only [nt0] at HY
                  have z0 := HY.1.cell 0 (x := .int .i64 0) rfl
                  have z1 := HY.1.cell 1 (x := .int .i64 0) rfl
                  have z2 := HY.1.cell 2 (x := .int .i64 0) rfl
                  have z3 := HY.1.cell 3 (x := .string ⟨#[]⟩) rfl
                  have z4 := HY.1.cell 4 (x := .string ⟨#[]⟩) rfl
                  have z5 := HY.1.cell 5 (x := .int .i64 0) rfl
                  have z6 := HY.1.cell 6 (x := .bool false) rfl
                  have z7 := HY.1.cell 7 (x := .slice none 0 0) rfl
                  have z8 := HY.1.cell 8 (x := .slice none 0 0) rfl
                  have hq := HPF.out
                  exact bodyPost_ret (v := .tuple #[.agg #[.int .i64 0, .int .i64 0, .int .i64 0, .string ⟨#[]⟩, .string ⟨#[]⟩, .int .i64 0, .bool false, .slice none 0 0, .slice none 0 0], .int .i64 3]) (by simp [results, Tryz.f29, go_sem, z0, z1, z2, z3, z4, z5, z6, z7, z8]) rfl ⟨none, 0, 0, none, 0, 0, by rw [hq.1, hq.2]; rfl, by rw [hq.2]; exact ⟨Rd.nil _, RdV.nil _⟩, HY.2⟩
                | true =>
                  obtain ⟨hq1, hq2⟩ := HQ.out hrv
                  have HA2 : Hid (∀ g ∈ dn ++ [gr], rvB g = true) := fun g hg => by
                    rcases List.mem_append.1 hg with hg | hg
                    · exact HAL.out g hg
                    · rw [List.mem_singleton.1 hg]; exact hrv
                  have HM2 : Hid ((phs ++ [((rvP gr, .slice bu mu du, .slice bg mg dg) : VrV)]).map (·.1) = (dn ++ [gr]).map rvP) := by show _ = _; rw [List.map_append, List.map_append, HMP.out]; rfl
                  have hown := HI5.out.own
                  have hn0 : w.heap.size + 1 ≤ wc.heap.size := HI5.out.st.res.lt
                  have c8 := HI5.out.nt.cell 8 (x := .slice asv phs.length csv) rfl
                  have f8 := HI5.out.nt.frozen 8
                  have v0 := HV.out.cell 0 (x := .slice bu mu du) rfl
                  have v1 := HV.out.cell 1 (x := .slice bg mg dg) rfl
                  have HP := fun (sv' : Value) (w9 : World) (ho : w9.ownsRow (w.heap.size + 1) 63 2 sv' (phs.length + 1) (vrCs phs ++ [.slice bu mu du, .slice bg mg dg])) (hb : Below (w.heap.size + 1) wc w9) (hg : wc.grownBy w9 (Value.slice asv phs.length csv).ownBlock) => hid (HI5.out.push HLo.out (rvP gr, .slice bu mu du, .slice bg mg dg) hq1 hq2 ho hb hg)
                  have HR9 : Hid (∀ w9 : World, wc.grownBy w9 (Value.slice asv phs.length csv).ownBlock → Row w9 B (y.cells (.slice au nu cu) (.slice asv phs.length csv)) 30) := fun w9 hg => (hg.block _ HI5.out.nt.lt (Ne.symm (row_own_ne2 HI5.out.nt HI5.out.own (by decide)))).trans HI5.out.nt
                  clear hrv HQ HV hq1 hq2 HAL HMP HI5
                  go_wp2_with (at_builtin; refine wpList_ap2 rfl _ _ 24 rfl (w.heap.size + 1) 63 Tryz.underlying24 infoVar rfl (by decide) (by decide) (.slice asv phs.length csv) phs.length (vrCs phs) rfl hown [.slice bu mu du, .slice bg mg dg] rfl (by simp [Value.oneCell']) rfl (by simp) (by omega) hn0 ?_; intro g1 cap1 w9 hown' hb1 hgr hat _; have HP9 := HP _ w9 hown' hb1 hgr; have hr9 := HR9.out w9 hgr; have d8 := hr9.cell 8 (x := .slice asv phs.length csv) rfl; have f98 := hr9.frozen 8)
                  clear c8 f8 v0 v1 hown hown' hb1 hgr hat HP HR9 d8 f98 hr9
                  go_wp2_with fail
                  go_roundw
                  case rel => exact ⟨i + 1, i + 1, dn ++ [gr], phs ++ [((rvP gr, .slice bu mu du, .slice bg mg dg) : VrV)], some ⟨g1, 0, none⟩, cap1, by go_num, by go_num, by simp; omega, HB2.out.1, HM2.out, HA2.out, by show RpI _ _ _ _ _ _ _ _ _; rw [List.length_append]; exact HP9.out⟩
                  case measure => simp [intOf]; omega
        · have hlei : ¬ (i : Int) ≤ (ps.length : Int) := by omega
          have HBF := hid (HBI.out.fin (by omega))
          have hpl2 : phs.length ≤ 65538 := by omega
          clear hfi hin hfn HBI
          obtain ⟨z, hz⟩ : ∃ z : Nt, z = { y with vs := phs.map (·.1) } := ⟨_, rfl⟩
          have hzc : z.cells (.slice au nu cu) (.slice asv phs.length csv) = y.cells (.slice au nu cu) (.slice asv phs.length csv) := by rw [hz]; rfl
          have hzn : rnoteP s = z := by rw [HNP.out, HBF.out, ← HMP.out, hz, HYL.out]
          have hal : (barsP T).all rvB = true := by rw [HBF.out, List.all_eq_true]; exact HAL.out
          have HZO : Hid (OwN wr (.slice au nu cu) (.slice asv phs.length csv) z) := HI.out.ownN (by rw [hz]) (by rw [hz])
          have HPR := hid (rprt_any z (.slice au nu cu) (.slice asv phs.length csv) wr (HE _ HI.out.st.bel).out HZO.out.rd (by rw [← hzn]; exact HSN.out))
          rw [hzc] at HPR
          have HOK2 : Hid (rokP s = (decide (prE z = 0) && decide (prN z = s))) := by show _ = _; rw [HOK.out, hal, hzn]; rfl
          have HYE2 : rokP s = true → Hid (parI s = 0 ∧ parN s = z) := fun h => by
            have := HYE h
            rw [hzn] at this
            exact this
          have HCE : Hid (y.cells (.slice au nu cu) (.slice asv phs.length csv) = z.cells (.slice au nu cu) (.slice asv phs.length csv)) := hzc.symm
          have HPS : Hid (prS z = if prE z = 0 then prN z else ⟨#[]⟩) := rfl
          have HIP : Hid (∀ w7, Below wr.heap.size wr w7 → RpI w B (.slice ap ps.length cp) ps y (.slice au nu cu) (.slice asv phs.length csv) phs w7) := fun w7 h => HI.out.below h
          have HZP : Hid (∀ w7, Below wr.heap.size wr w7 → OwN w7 (.slice au nu cu) (.slice asv phs.length csv) z) := fun w7 h => HZO.out.below h
          clear HOK HNP HNZ HYE HSN HMP HAL HBF hz hzc hzn hal HZO
          have HOK := HOK2
          have HYE := HYE2
          have HNP := HEI
          have HNZ := HEI
          clear HOK2 HYE2
          unfold Nt.cells at HPR
          have k0 := HI.out.nt.cell 0 (x := .int .i64 y.fr) rfl
          have k1 := HI.out.nt.cell 1 (x := .int .i64 y.to_) rfl
          have k2 := HI.out.nt.cell 2 (x := .int .i64 y.pl) rfl
          have k3 := HI.out.nt.cell 3 (x := .string y.lf) rfl
          have k4 := HI.out.nt.cell 4 (x := .string y.ll) rfl
          have k5 := HI.out.nt.cell 5 (x := .int .i64 y.ln) rfl
          have k6 := HI.out.nt.cell 6 (x := .bool y.pos) rfl
          have k7 := HI.out.nt.cell 7 (x := .slice au nu cu) rfl
          have k8 := HI.out.nt.cell 8 (x := .slice asv phs.length csv) rfl
          clear hpl2
          go_upto_region 22 with fail
          go_wp2_with fail
          (with_reducible refine HPR.out.mono ?_)
          rintro e w7 ⟨rfl, hB7⟩
          have HI7 := hid (HIP.out w7 hB7)
          have HZ7 := hid (HZP.out w7 hB7)
          clear HIP HZP HI HPR hB7 k0 k1 k2 k3 k4 k5 k6 k7 k8
          by_cases hpe : prE z = 0
          case neg =>
            have hpb : (prE z != 0) = true := bne_iff_ne.2 hpe
            have HPE := hid hpe
            clear hpe HPS
            generalize prS z = ts at *
            have hok : rokP s = false := by rw [HOK.out, decide_eq_false HPE.out]; rfl
            have HPF := HFA hok
            clear HOK HEI HFR HGR HNP HNZ HFA HYE hok
            have r0 := (HI7.out.st.res).cell 0 (x := .int .i64 0) rfl
            have r1 := (HI7.out.st.res).cell 1 (x := .int .i64 0) rfl
            have r2 := (HI7.out.st.res).cell 2 (x := .int .i64 0) rfl
            have r3 := (HI7.out.st.res).cell 3 (x := .string ⟨#[]⟩) rfl
            have r4 := (HI7.out.st.res).cell 4 (x := .string ⟨#[]⟩) rfl
            have r5 := (HI7.out.st.res).cell 5 (x := .int .i64 0) rfl
            have r6 := (HI7.out.st.res).cell 6 (x := .bool false) rfl
            have r7 := (HI7.out.st.res).cell 7 (x := .slice none 0 0) rfl
            have r8 := (HI7.out.st.res).cell 8 (x := .slice none 0 0) rfl
            have g0 := (HI7.out.st.res).frozen 0
            have g1 := (HI7.out.st.res).frozen 1
            have g2 := (HI7.out.st.res).frozen 2
            have g3 := (HI7.out.st.res).frozen 3
            have g4 := (HI7.out.st.res).frozen 4
            have g5 := (HI7.out.st.res).frozen 5
            have g6 := (HI7.out.st.res).frozen 6
            have g7 := (HI7.out.st.res).frozen 7
            have g8 := (HI7.out.st.res).frozen 8
            go_wp2_with fail
            have HY := pfin (y := nt0) (u := .slice none 0 0) (s := .slice none 0 0) (HI7.out.st.res) (HI7.out.st.bel)
            dsimp only [nt0] at HY
            have z0 := HY.1.cell 0 (x := .int .i64 0) rfl
            have z1 := HY.1.cell 1 (x := .int .i64 0) rfl
            have z2 := HY.1.cell 2 (x := .int .i64 0) rfl
            have z3 := HY.1.cell 3 (x := .string ⟨#[]⟩) rfl
            have z4 := HY.1.cell 4 (x := .string ⟨#[]⟩) rfl
            have z5 := HY.1.cell 5 (x := .int .i64 0) rfl
            have z6 := HY.1.cell 6 (x := .bool false) rfl
            have z7 := HY.1.cell 7 (x := .slice none 0 0) rfl
            have z8 := HY.1.cell 8 (x := .slice none 0 0) rfl
            have hq := HPF.out
            exact bodyPost_ret (v := .tuple #[.agg #[.int .i64 0, .int .i64 0, .int .i64 0, .string ⟨#[]⟩, .string ⟨#[]⟩, .int .i64 0, .bool false, .slice none 0 0, .slice none 0 0], .int .i64 3]) (by simp [results, Tryz.f29, go_sem, z0, z1, z2, z3, z4, z5, z6, z7, z8]) rfl ⟨none, 0, 0, none, 0, 0, by rw [hq.1, hq.2]; rfl, by rw [hq.2]; exact ⟨Rd.nil _, RdV.nil _⟩, HY.2⟩
          have HPS2 : Hid (prS z = prN z) := by show _ = _; rw [HPS.out, if_pos hpe]
          have hpb : (prE z != 0) = false := by rw [hpe]; rfl
          have HPE := hid hpe
          clear hpe HPS
          rw [HPS2.out]
          clear HPS2
          have hbq := ba_beq (prN z) s
          by_cases hps : prN z = s
          · have HOT : Hid (rokP s = true) := by show _ = _; rw [HOK.out, decide_eq_true HPE.out, decide_eq_true hps]; rfl
            have HQ := HYE HOT.out
            clear HOK HFR HGR HNP HNZ HFA HYE HEI HPE HOT
            rw [decide_eq_true hps] at hbq
            have hbq2 : ((prN z).toList != s.toList) = false := by rw [bne, hbq]; rfl
            clear hps
            generalize prN z = tt at *
            generalize prE z = pe at *
            have b0 := HI7.out.nt.cell 0 (x := .int .i64 y.fr) rfl
            have b1 := HI7.out.nt.cell 1 (x := .int .i64 y.to_) rfl
            have b2 := HI7.out.nt.cell 2 (x := .int .i64 y.pl) rfl
            have b3 := HI7.out.nt.cell 3 (x := .string y.lf) rfl
            have b4 := HI7.out.nt.cell 4 (x := .string y.ll) rfl
            have b5 := HI7.out.nt.cell 5 (x := .int .i64 y.ln) rfl
            have b6 := HI7.out.nt.cell 6 (x := .bool y.pos) rfl
            have b7 := HI7.out.nt.cell 7 (x := .slice au nu cu) rfl
            have b8 := HI7.out.nt.cell 8 (x := .slice asv phs.length csv) rfl
            have r0 := (HI7.out.st.res).cell 0 (x := .int .i64 0) rfl
            have r1 := (HI7.out.st.res).cell 1 (x := .int .i64 0) rfl
            have r2 := (HI7.out.st.res).cell 2 (x := .int .i64 0) rfl
            have r3 := (HI7.out.st.res).cell 3 (x := .string ⟨#[]⟩) rfl
            have r4 := (HI7.out.st.res).cell 4 (x := .string ⟨#[]⟩) rfl
            have r5 := (HI7.out.st.res).cell 5 (x := .int .i64 0) rfl
            have r6 := (HI7.out.st.res).cell 6 (x := .bool false) rfl
            have r7 := (HI7.out.st.res).cell 7 (x := .slice none 0 0) rfl
            have r8 := (HI7.out.st.res).cell 8 (x := .slice none 0 0) rfl
            have g0 := (HI7.out.st.res).frozen 0
            have g1 := (HI7.out.st.res).frozen 1
            have g2 := (HI7.out.st.res).frozen 2
            have g3 := (HI7.out.st.res).frozen 3
            have g4 := (HI7.out.st.res).frozen 4
            have g5 := (HI7.out.st.res).frozen 5
            have g6 := (HI7.out.st.res).frozen 6
            have g7 := (HI7.out.st.res).frozen 7
            have g8 := (HI7.out.st.res).frozen 8
            go_wp2_with fail
            have HY := pfin (y := y) (u := .slice au nu cu) (s := .slice asv phs.length csv) HI7.out.st.res HI7.out.st.bel
            have HZY := HZ7.out.set9 HI7.out.st.res y
            have z0 := HY.1.cell 0 (x := .int .i64 y.fr) rfl
            have z1 := HY.1.cell 1 (x := .int .i64 y.to_) rfl
            have z2 := HY.1.cell 2 (x := .int .i64 y.pl) rfl
            have z3 := HY.1.cell 3 (x := .string y.lf) rfl
            have z4 := HY.1.cell 4 (x := .string y.ll) rfl
            have z5 := HY.1.cell 5 (x := .int .i64 y.ln) rfl
            have z6 := HY.1.cell 6 (x := .bool y.pos) rfl
            have z7 := HY.1.cell 7 (x := .slice au nu cu) rfl
            have z8 := HY.1.cell 8 (x := .slice asv phs.length csv) rfl
            have hq := HQ.out
            exact bodyPost_ret (v := .tuple #[.agg #[.int .i64 y.fr, .int .i64 y.to_, .int .i64 y.pl, .string y.lf, .string y.ll, .int .i64 y.ln, .bool y.pos, .slice au nu cu, .slice asv phs.length csv], .int .i64 0]) (by simp [results, Tryz.f29, go_sem, z0, z1, z2, z3, z4, z5, z6, z7, z8]) rfl ⟨au, nu, cu, asv, phs.length, csv, by rw [hq.1, hq.2, ← HCE.out]; rfl, by rw [hq.2]; exact HZY.rd, HY.2⟩
          · have hok2 : Hid (rokP s = false) := by show _ = _; rw [HOK.out, decide_eq_false hps]; simp
            rw [decide_eq_false hps] at hbq
            have hbq2 : ((prN z).toList != s.toList) = true := by rw [bne, hbq]; rfl
            have hbq3 : ¬ (prN z).toList = s.toList := fun e => by rw [e] at hbq; simp at hbq
            clear hps
            generalize prN z = tt at *
            have hok : rokP s = false := hok2.out
            have HPF := HFA hok
            clear HOK HEI HFR HGR HNP HNZ HFA HYE hok
            have r0 := (HI7.out.st.res).cell 0 (x := .int .i64 0) rfl
            have r1 := (HI7.out.st.res).cell 1 (x := .int .i64 0) rfl
            have r2 := (HI7.out.st.res).cell 2 (x := .int .i64 0) rfl
            have r3 := (HI7.out.st.res).cell 3 (x := .string ⟨#[]⟩) rfl
            have r4 := (HI7.out.st.res).cell 4 (x := .string ⟨#[]⟩) rfl
            have r5 := (HI7.out.st.res).cell 5 (x := .int .i64 0) rfl
            have r6 := (HI7.out.st.res).cell 6 (x := .bool false) rfl
            have r7 := (HI7.out.st.res).cell 7 (x := .slice none 0 0) rfl
            have r8 := (HI7.out.st.res).cell 8 (x := .slice none 0 0) rfl
            have g0 := (HI7.out.st.res).frozen 0
            have g1 := (HI7.out.st.res).frozen 1
            have g2 := (HI7.out.st.res).frozen 2
            have g3 := (HI7.out.st.res).frozen 3
            have g4 := (HI7.out.st.res).frozen 4
            have g5 := (HI7.out.st.res).frozen 5
            have g6 := (HI7.out.st.res).frozen 6
            have g7 := (HI7.out.st.res).frozen 7
            have g8 := (HI7.out.st.res).frozen 8
            go_wp2_with fail
            have HY := pfin (y := nt0) (u := .slice none 0 0) (s := .slice none 0 0) (HI7.out.st.res) (HI7.out.st.bel)
            dsimp only [nt0] at HY
            have z0 := HY.1.cell 0 (x := .int .i64 0) rfl
            have z1 := HY.1.cell 1 (x := .int .i64 0) rfl
            have z2 := HY.1.cell 2 (x := .int .i64 0) rfl
            have z3 := HY.1.cell 3 (x := .string ⟨#[]⟩) rfl
            have z4 := HY.1.cell 4 (x := .string ⟨#[]⟩) rfl
            have z5 := HY.1.cell 5 (x := .int .i64 0) rfl
            have z6 := HY.1.cell 6 (x := .bool false) rfl
            have z7 := HY.1.cell 7 (x := .slice none 0 0) rfl
            have z8 := HY.1.cell 8 (x := .slice none 0 0) rfl
            have hq := HPF.out
            exact bodyPost_ret (v := .tuple #[.agg #[.int .i64 0, .int .i64 0, .int .i64 0, .string ⟨#[]⟩, .string ⟨#[]⟩, .int .i64 0, .bool false, .slice none 0 0, .slice none 0 0], .int .i64 3]) (by simp [results, Tryz.f29, go_sem, z0, z1, z2, z3, z4, z5, z6, z7, z8]) rfl ⟨none, 0, 0, none, 0, 0, by rw [hq.1, hq.2]; rfl, by rw [hq.2]; exact ⟨Rd.nil _, RdV.nil _⟩, HY.2⟩
end Go.Proofs.YtjhdeoniafahbaaGreatDoor
namespace Go.Proofs.YtjhdeoniafahbaaGreatDoor
open Go.RowKit
theorem nt_sz2 {x : Nt} (h : NtSm x) : SzN x := by
  refine ⟨by have := h.lf; omega, by have := h.ll; omega, fun s hs => by have := h.sup.2 s hs; omega, fun v hv => ⟨fun s hs => ?_, fun s hs => ?_⟩⟩
  · have := (h.vs v hv).1.2 s hs; omega
  · have := (h.vs v hv).2.2 s hs; omega
end Go.Proofs.YtjhdeoniafahbaaGreatDoor
namespace Go.Proofs.YtjhdeoniafahbaaGreatDoor
open Go.RowKit
def RsQ (y : En) (err : Int) (w : World) (r : Ending) (w' : World) : Prop :=
  ∃ (au : Option Addr) (nu cu : Nat) (av : Option Addr) (nv cv : Nat), r = .returned (.tuple #[.agg (y.cells (.slice au nu cu) (.slice av nv cv)), .int .i64 err]) ∧ RdE w' (.slice au nu cu) (.slice av nv cv) y ∧ Below w.heap.size w w'
def en00 : En := ⟨0, 0, 0, false, [], []⟩
theorem rdE_zero (w : World) : RdE w (.slice none 0 0) (.slice none 0 0) en00 := ⟨Rd.nil _, RdV.nil _⟩
def rsN (ls la : List Int) (ws : List ByteArray) (ly : Int) (n : Nt) : En := if rsI ls la ws ly n = 0 then rsE ls ws ly n else en00
set_option maxRecDepth 100000 in
set_option maxHeartbeats 16000000 in
theorem pres_any (ls la : List Int) (ws : List ByteArray) (ly : Int) (x : Nt) (v1 v2 v3 u s : Value) (w : World) (he : Env w) (h1 : RdI w v1 ls) (h2 : RdI w v2 la) (h3 : RdS w v3 ws) (hN : RdN w u s x)
    (hz : Sz16 ws) (hzN : SzN x) (hlen : ws.length ≤ 13) :
    Calls Tryz.prog 17 #[v1, v2, v3, .int .i64 ly, .agg (x.cells u s)] w fun r w' => RsQ (rsN ls la ws ly x) (rsI ls la ws ly x) w r w' := by
  have HE := fun w' (h : Below w.heap.size w w') => hid (he.below h)
  have H1 := fun w' (h : Below w.heap.size w w') => hid (h1.below h)
  have H2 := fun w' (h : Below w.heap.size w w') => hid (h2.below h)
  have H3 := fun w' (h : Below w.heap.size w w') => hid (h3.below h)
  have HR := fun w' (h : Below w.heap.size w w') => hid (hN.below h)
  have hb0 := below_tr (below_al w (.cells (x.cells u s) 30)) (below_al _ (.cells zeroE 26))
  have HOS : Hid (RsS x u s w ((w.alloc (.cells (x.cells u s) 30)).alloc (.cells zeroE 26))) :=
    ⟨(row_nw w (x.cells u s) 30 rfl).al _, by
      have := row_nw (w.alloc (.cells (x.cells u s) 30)) zeroE 26 rfl
      rw [show (w.alloc (.cells (x.cells u s) 30)).heap.size = w.heap.size + 1 by simp] at this
      exact this, hb0⟩
  have HLI := hid (lists_any v1 v2 v3 ls la ws _ (h1.below hb0) (h2.below hb0) (h3.below hb0))
  have HI : Hid (rsI ls la ws ly x = if listsI ls la ws.length ≠ 0 then listsI ls la ws.length else if ly < 0 ∨ 62 < ly then 2 else if nteI x ≠ 0 then nteI x
    else if x.pl ≠ 4 ∧ (rsF ls ws x).2.2 ≠ 0 then 26
    else if ofI ls la ws (rsE ls ws ly x) ≠ 0 ∨ ntB (ofN ls la ws (rsE ls ws ly x)) x = false then 26 else 0) := rfl
  have HNN : Hid (rsN ls la ws ly x = if rsI ls la ws ly x = 0 then rsE ls ws ly x else en00) := rfl
  obtain ⟨a1, c1, rfl, _⟩ := h1.open
  obtain ⟨a2, c2, rfl, _⟩ := h2.open
  obtain ⟨a3, c3, rfl, _⟩ := h3.open
  obtain ⟨au, cu, rfl, _⟩ := hN.rs.open
  obtain ⟨av, cv, rfl, _⟩ := hN.rv.open
  have HZZ : Hid (∀ e : Int, e ≠ 0 → rsI ls la ws ly x = e → ∀ W, Below w.heap.size w W → RsQ (rsN ls la ws ly x) (rsI ls la ws ly x) w (.returned (.tuple #[.agg zeroE, .int .i64 e])) W) := fun e h0 hi W hb =>
    ⟨none, 0, 0, none, 0, 0, by rw [HNN.out, hi, if_neg h0]; rfl, by rw [HNN.out, hi, if_neg h0]; exact rdE_zero _, hb⟩
  clear he h1 h2 h3 hN hb0
  generalize hli : listsI ls la ws.length = li at *
  unfold Nt.cells zeroE at HLI HOS
  unfold Nt.cells
  go_enter Tryz.func17, Tryz.ntmps17
  go_wp2_with fail
  (with_reducible refine HLI.out.mono ?_)
  rintro e w2 ⟨rfl, hB2⟩
  have HS2 : Hid (RsS x (.slice au x.sup.length cu) (.slice av x.vs.length cv) w w2) := HOS.out.below hB2
  clear HOS HLI hB2
  by_cases k0 : li = 0
  case neg =>
    have k0b : (li == 0) = false := beq_eq_false_iff_ne.2 k0
    have HZ := hid (HZZ.out li k0 (by rw [HI.out, if_pos k0]))
    clear HZZ HI HNN k0
    have r0 := HS2.out.res.cell 0 (x := .int .i64 0) rfl
    have r1 := HS2.out.res.cell 1 (x := .int .i64 0) rfl
    have r2 := HS2.out.res.cell 2 (x := .int .i64 0) rfl
    have r3 := HS2.out.res.cell 3 (x := .bool false) rfl
    have r4 := HS2.out.res.cell 4 (x := .slice none 0 0) rfl
    have r5 := HS2.out.res.cell 5 (x := .slice none 0 0) rfl
    have g0 := HS2.out.res.frozen 0
    have g1 := HS2.out.res.frozen 1
    have g2 := HS2.out.res.frozen 2
    have g3 := HS2.out.res.frozen 3
    have g4 := HS2.out.res.frozen 4
    have g5 := HS2.out.res.frozen 5
    go_wp2_with fail
    have q := row6 HS2.out.res (.int .i64 0) (.int .i64 0) (.int .i64 0) (.bool false) (.slice none 0 0) (.slice none 0 0)
    have hb := zsets6_bel HS2.out.bel
    have z0 := q.cell 0 (x := .int .i64 0) rfl
    have z1 := q.cell 1 (x := .int .i64 0) rfl
    have z2 := q.cell 2 (x := .int .i64 0) rfl
    have z3 := q.cell 3 (x := .bool false) rfl
    have z4 := q.cell 4 (x := .slice none 0 0) rfl
    have z5 := q.cell 5 (x := .slice none 0 0) rfl
    exact bodyPost_ret (v := .tuple #[.agg zeroE, .int .i64 li]) (by simp [results, Tryz.f17, go_sem, zeroE, z0, z1, z2, z3, z4, z5]) rfl (HZ.out _ hb)
  subst k0
  obtain ⟨hl1, hl2, _⟩ := lists_len hli
  have HL1 := hid hl1
  have HL2 := hid hl2
  clear hli hl1 hl2
  by_cases k1 : ly < 0 ∨ 62 < ly
  case pos =>
    have HZ := hid (HZZ.out 2 (by decide) (by rw [HI.out, if_neg (by simp), if_pos k1]))
    clear HZZ HI HNN
    by_cases k2 : ly < 0
    · clear k1
      have r0 := HS2.out.res.cell 0 (x := .int .i64 0) rfl
      have r1 := HS2.out.res.cell 1 (x := .int .i64 0) rfl
      have r2 := HS2.out.res.cell 2 (x := .int .i64 0) rfl
      have r3 := HS2.out.res.cell 3 (x := .bool false) rfl
      have r4 := HS2.out.res.cell 4 (x := .slice none 0 0) rfl
      have r5 := HS2.out.res.cell 5 (x := .slice none 0 0) rfl
      have g0 := HS2.out.res.frozen 0
      have g1 := HS2.out.res.frozen 1
      have g2 := HS2.out.res.frozen 2
      have g3 := HS2.out.res.frozen 3
      have g4 := HS2.out.res.frozen 4
      have g5 := HS2.out.res.frozen 5
      go_wp2_with fail
      have q := row6 HS2.out.res (.int .i64 0) (.int .i64 0) (.int .i64 0) (.bool false) (.slice none 0 0) (.slice none 0 0)
      have hb := zsets6_bel HS2.out.bel
      have z0 := q.cell 0 (x := .int .i64 0) rfl
      have z1 := q.cell 1 (x := .int .i64 0) rfl
      have z2 := q.cell 2 (x := .int .i64 0) rfl
      have z3 := q.cell 3 (x := .bool false) rfl
      have z4 := q.cell 4 (x := .slice none 0 0) rfl
      have z5 := q.cell 5 (x := .slice none 0 0) rfl
      exact bodyPost_ret (v := .tuple #[.agg zeroE, .int .i64 2]) (by simp [results, Tryz.f17, go_sem, zeroE, z0, z1, z2, z3, z4, z5]) rfl (HZ.out _ hb)
    · have k3 : 62 < ly := by omega
      clear k1
      have r0 := HS2.out.res.cell 0 (x := .int .i64 0) rfl
      have r1 := HS2.out.res.cell 1 (x := .int .i64 0) rfl
      have r2 := HS2.out.res.cell 2 (x := .int .i64 0) rfl
      have r3 := HS2.out.res.cell 3 (x := .bool false) rfl
      have r4 := HS2.out.res.cell 4 (x := .slice none 0 0) rfl
      have r5 := HS2.out.res.cell 5 (x := .slice none 0 0) rfl
      have g0 := HS2.out.res.frozen 0
      have g1 := HS2.out.res.frozen 1
      have g2 := HS2.out.res.frozen 2
      have g3 := HS2.out.res.frozen 3
      have g4 := HS2.out.res.frozen 4
      have g5 := HS2.out.res.frozen 5
      go_wp2_with fail
      have q := row6 HS2.out.res (.int .i64 0) (.int .i64 0) (.int .i64 0) (.bool false) (.slice none 0 0) (.slice none 0 0)
      have hb := zsets6_bel HS2.out.bel
      have z0 := q.cell 0 (x := .int .i64 0) rfl
      have z1 := q.cell 1 (x := .int .i64 0) rfl
      have z2 := q.cell 2 (x := .int .i64 0) rfl
      have z3 := q.cell 3 (x := .bool false) rfl
      have z4 := q.cell 4 (x := .slice none 0 0) rfl
      have z5 := q.cell 5 (x := .slice none 0 0) rfl
      exact bodyPost_ret (v := .tuple #[.agg zeroE, .int .i64 2]) (by simp [results, Tryz.f17, go_sem, zeroE, z0, z1, z2, z3, z4, z5]) rfl (HZ.out _ hb)
  have k2 : ¬ ly < 0 := by omega
  have k3 : ¬ 62 < ly := by omega
  have b0 := HS2.out.ent.cell 0 (x := .int .i64 x.fr) rfl
  have b1 := HS2.out.ent.cell 1 (x := .int .i64 x.to_) rfl
  have b2 := HS2.out.ent.cell 2 (x := .int .i64 x.pl) rfl
  have b3 := HS2.out.ent.cell 3 (x := .string x.lf) rfl
  have b4 := HS2.out.ent.cell 4 (x := .string x.ll) rfl
  have b5 := HS2.out.ent.cell 5 (x := .int .i64 x.ln) rfl
  have b6 := HS2.out.ent.cell 6 (x := .bool x.pos) rfl
  have b7 := HS2.out.ent.cell 7 (x := .slice au x.sup.length cu) rfl
  have b8 := HS2.out.ent.cell 8 (x := .slice av x.vs.length cv) rfl
  have HCK := hid (pchk_any x (.slice au x.sup.length cu) (.slice av x.vs.length cv) w2 (HE _ HS2.out.bel).out (HR _ HS2.out.bel).out hzN)
  unfold Nt.cells at HCK
  go_wp2_with fail
  (with_reducible refine HCK.out.mono ?_)
  rintro e w3 ⟨rfl, hB3⟩
  have HS3 := hid (HS2.out.below hB3)
  clear HS2 HCK hB3 b0 b1 b2 b3 b4 b5 b6 b7 b8
  by_cases k4 : nteI x = 0
  case neg =>
    have k4b : (nteI x == 0) = false := beq_eq_false_iff_ne.2 k4
    have HZ := hid (HZZ.out (nteI x) k4 (by rw [HI.out, if_neg (by simp), if_neg k1, if_pos k4]))
    clear HZZ HI HNN k4 k1
    have r0 := HS3.out.res.cell 0 (x := .int .i64 0) rfl
    have r1 := HS3.out.res.cell 1 (x := .int .i64 0) rfl
    have r2 := HS3.out.res.cell 2 (x := .int .i64 0) rfl
    have r3 := HS3.out.res.cell 3 (x := .bool false) rfl
    have r4 := HS3.out.res.cell 4 (x := .slice none 0 0) rfl
    have r5 := HS3.out.res.cell 5 (x := .slice none 0 0) rfl
    have g0 := HS3.out.res.frozen 0
    have g1 := HS3.out.res.frozen 1
    have g2 := HS3.out.res.frozen 2
    have g3 := HS3.out.res.frozen 3
    have g4 := HS3.out.res.frozen 4
    have g5 := HS3.out.res.frozen 5
    go_wp2_with fail
    have q := row6 HS3.out.res (.int .i64 0) (.int .i64 0) (.int .i64 0) (.bool false) (.slice none 0 0) (.slice none 0 0)
    have hb := zsets6_bel HS3.out.bel
    have z0 := q.cell 0 (x := .int .i64 0) rfl
    have z1 := q.cell 1 (x := .int .i64 0) rfl
    have z2 := q.cell 2 (x := .int .i64 0) rfl
    have z3 := q.cell 3 (x := .bool false) rfl
    have z4 := q.cell 4 (x := .slice none 0 0) rfl
    have z5 := q.cell 5 (x := .slice none 0 0) rfl
    exact bodyPost_ret (v := .tuple #[.agg zeroE, .int .i64 (nteI x)]) (by simp [results, Tryz.f17, go_sem, zeroE, z0, z1, z2, z3, z4, z5]) rfl (HZ.out _ hb)
  have HI2 : Hid (rsI ls la ws ly x = if x.pl ≠ 4 ∧ (rsF ls ws x).2.2 ≠ 0 then 26
    else if ofI ls la ws (rsE ls ws ly x) ≠ 0 ∨ ntB (ofN ls la ws (rsE ls ws ly x)) x = false then 26 else 0) := by
    show _ = _
    rw [HI.out, if_neg (by simp), if_neg k1, if_neg (by simp [k4])]
  have HOK := hid (note_ok k4)
  rw [k4]
  clear HI k1 k4
  go_upto_region 9 with fail
  generalize w3 = W3 at *
  have hI := HS3.out
  have EC := enters_of Tryz.func42 (by kernel_rfl) rfl
  have e6 := hI.ent.cell 6 (x := .bool x.pos) rfl
  have e7 := hI.ent.cell 7 (x := .slice au x.sup.length cu) rfl
  have e6a := cell_al e6 (.cells #[.int .i64 0, .int .i64 0, .int .i64 0, .bool false, .slice none 0 0, .slice none 0 0] 26)
  have e7a := cell_al e7 (.cells #[.int .i64 0, .int .i64 0, .int .i64 0, .bool false, .slice none 0 0, .slice none 0 0] 26)
  have hWs : w.heap.size + 2 ≤ W3.heap.size := hI.res.lt
  have HCL := fun w' (h : Below w.heap.size w w') => hid (cloneF_any (.slice au x.sup.length cu) x.sup w' (HR w' h).out.rs (by have := HOK.out.sl; omega))
  go_cut [14] from 45 to 51 (fun p wx => RsC x (.slice au x.sup.length cu) (.slice av x.vs.length cv) ly w p wx)
  case first =>
    go_region_law (first
      | (refine step_callC rfl 42 EC (.tmp 49) #[23] rfl (.slice au x.sup.length cu) (by simp [Act.eval]) x.sup (HCL W3.drew hI.drew.bel).out ?_; intro ad c w6 hr6 hB6; have z3 := Below.keeps hB6 _ _ e6; have z3a := cell_al z3 (.cells #[.int .i64 0, .int .i64 0, .int .i64 0, .bool false, .slice none 0 0, .slice none 0 0] 26); have z1 := hI.drew.below hB6)
      | (refine step_callC rfl 42 EC (.tmp 49) #[23] rfl (.slice au x.sup.length cu) (by simp [Act.eval]) x.sup (HCL (W3.alloc (.cells zeroE 26)).drew (hI.al _).drew.bel).out ?_; intro ad c w6 hr6 hB6; have z3 := Below.keeps hB6 _ _ (cell_al e6 (.cells zeroE 26)); have z1 := (hI.al (.cells zeroE 26)).drew.below hB6; have zr := Row.below (Row.drew (row_nw W3 zeroE 26 rfl)) hB6; have q0 := zr.cell 0 (x := .int .i64 0) rfl; have q1 := zr.cell 1 (x := .int .i64 0) rfl; have q2 := zr.cell 2 (x := .int .i64 0) rfl; have q3 := zr.cell 3 (x := .bool false) rfl; have q4 := zr.cell 4 (x := .slice none 0 0) rfl; have q5 := zr.cell 5 (x := .slice none 0 0) rfl; have g0 := zr.frozen 0; have g1 := zr.frozen 1; have g2 := zr.frozen 2; have g3 := zr.frozen 3; have g4 := zr.frozen 4; have g5 := zr.frozen 5))
    all_goals (go_wp2_with fail; go_meet)
    all_goals first
      | with_reducible exact RsC.fold hr6 z1
      | with_reducible exact RsC.sets zr hWs hr6 z1
  case rest =>
    obtain ⟨B, ab, cb, rfl, hBlo, hRB, hSB, hOS⟩ := hcut
    have e8 := hOS.ent.cell 8 (x := .slice av x.vs.length cv) rfl
    have HLP : Hid (RsM x (.slice au x.sup.length cu) (.slice av x.vs.length cv) w B (.slice ab x.sup.length cb) (.slice none 0 0) [] ⟨ly, 0, 0, x.pos, x.sup, x.vs⟩ wc) := ⟨hOS, hRB, hSB, World.ownsRow_nil _ _ _ _, fun p hp => by cases hp⟩
    have HVC := hid (HR w (Below.refl _ _)).out.rv
    clear hRB hSB hOS e6 e7 e6a e7a hWs HCL hI HS3
    go_wp2_with fail
    obtain ⟨_, _, he8, _, _, hcell⟩ := HVC.out.open
    simp only [Value.slice.injEq] at he8
    obtain ⟨rfl, _, rfl⟩ := he8
    have HC := hid hcell
    clear hcell HVC e8
    go_loopw [55] (fun i wr => ∃ (k : Nat) (sv : Value) (phs : List VrV), k ≤ x.vs.length ∧ i = .int .i64 k ∧ Hid (RsM x (.slice au x.sup.length cu) (.slice av x.vs.length cv) w B (.slice ab x.sup.length cb) sv phs ⟨ly, 0, 0, x.pos, x.sup, x.vs⟩ wr) ∧ Hid (phs.map (·.1) = x.vs.take k)) (fun i _ => x.vs.length - (intOf i).toNat)
    case atStart => exact ⟨0, _, [], Nat.zero_le _, rfl, HLP.out, rfl⟩
    case round =>
      clear HLP
      obtain ⟨k, sv, phs, hk, rfl, HL, HPH⟩ := hrel
      by_cases hlt : k < x.vs.length
      · obtain ⟨y, b, o, vw, vg, hx, rfl, d0, d1, rw0, rs0⟩ := HC.out k hlt
        have hki : (k : Int) < (x.vs.length : Int) := by omega
        have hbel := HL.out.os.bel
        have e0 := Below.keeps hbel _ _ d0
        have e1 := Below.keeps hbel _ _ d1
        have hel := HOK.out.vs y (List.mem_of_getElem? hx)
        have hel1 := hel.wl
        have hel2 := hel.sl
        have HQ1 := fun w' (h : Below w.heap.size w w') => hid (cloneF_any vw y.ws w' (rw0.below h) (by omega))
        have HQ2 := fun w' (h : Below w.heap.size w w') => hid (cloneF_any vg y.sg w' (rs0.below h) (by omega))
        obtain ⟨aw, cw, rfl, hlw, hmw, _⟩ := rw0.open
        obtain ⟨ag, cg, rfl, hlg, hmg, _⟩ := rs0.open
        have hpl : phs.length ≤ 65536 := by
          have := congrArg List.length HPH.out
          rw [List.length_map, List.length_take] at this
          have := HOK.out.vl; omega
        have HPH2 : Hid ((phs.map (·.1)) ++ [y] = x.vs.take (k + 1)) := by show _ = _; rw [HPH.out, List.take_add_one, hx]; rfl
        have HL1' := hid (HL.out.al (.cells #[.slice aw y.ws.length cw, .slice ag y.sg.length cg] 63))
        have HRv := hid (row_nw wr #[.slice aw y.ws.length cw, .slice ag y.sg.length cg] 63 rfl)
        obtain ⟨asv, csv, hsv⟩ : ∃ a c, sv = .slice a phs.length c := by
          rcases HL.out.own.2 with ⟨rfl, hn⟩ | ⟨g, cap, cur, rfl, _⟩
          · exact ⟨none, 0, by rw [hn]⟩
          · exact ⟨_, cap, rfl⟩
        subst hsv
        clear d0 d1 rw0 rs0 hel hel1 hel2 hx hbel HL HPH
        go_upto_region 13 with fail
        generalize wr.alloc (.cells #[.slice aw y.ws.length cw, .slice ag y.sg.length cg] 63) = W1 at *
        generalize wr.heap.size = nv at *
        have hL := HL1'.out
        have hrv := HRv.out
        have r0 := hrv.cell 0 (x := .slice aw y.ws.length cw) rfl
        have r1 := hrv.cell 1 (x := .slice ag y.sg.length cg) rfl
        have r8 := hL.row.cell 5 (x := .slice asv phs.length csv) rfl
        clear HL1' HRv e0 e1
        go_region_law (first
          | (refine step_callC rfl 42 EC (.tmp 62) #[23] rfl (.slice aw y.ws.length cw) (by simp [Act.eval]) y.ws (HQ1 W1.drew hL.drew.os.bel).out ?_; intro ad1 cc1 w6 hr6 hB6; have z1 := hL.drew.below hB6; have zv := hrv.drew.below hB6; have zr1 := zv.cell 1 (x := .slice ag y.sg.length cg) rfl; have z8 := z1.row.cell 5 (x := .slice asv phs.length csv) rfl)
          | (refine step_callC rfl 42 EC (.tmp 65) #[23] rfl (.slice ag y.sg.length cg) (by simp [Act.eval]) y.sg (HQ2 w6 z1.os.bel).out ?_; intro ad2 cc2 w7 hr7 hB7; have z2 := z1.below hB7; have zv2 := hr6.below hB7; have z28 := z2.row.cell 5 (x := .slice asv phs.length csv) rfl; have z28a := cell_al z28 (.cells #[.slice ad1 y.ws.length cc1, .slice ad2 y.sg.length cc2] 63))
          | (refine step_ap rfl (.tmp 60) (.tmp 68) 24 rfl (w.heap.size + 2) 63 Tryz.underlying24 infoVar rfl (by decide) (by decide) (.slice asv phs.length csv) phs.length (vrCs phs) ?_ (z2.al (.cells #[.slice ad1 y.ws.length cc1, .slice ad2 y.sg.length cc2] 63)).own 1 (by decide) [.slice ad1 y.ws.length cc1, .slice ad2 y.sg.length cc2] rfl ?_ w7.heap.size ?_ ?_ ?_ ?_ ?_; (focus (simp [Act.eval]; done)); (focus (simp [Value.oneCell']; done)); (focus (simp [Act.eval]; done)); (focus (intro j q hj; exact cell_nw w7 #[.slice ad1 y.ws.length cc1, .slice ad2 y.sg.length cc2] _ j (by simpa using hj))); (focus omega); (focus (have := z2.os.res.lt; simp; omega)); intro g9 c9 w9 ho9 hb9 hg9 _; have zp := RsM.push (z2.al (.cells #[.slice ad1 y.ws.length cc1, .slice ad2 y.sg.length cc2] 63)) hBlo (y, .slice ad1 y.ws.length cc1, .slice ad2 y.sg.length cc2) (zv2.below (below_al _ _)) (hr7.below (below_al _ _)) ho9 hb9 hg9; have zq := (hg9.block _ (z2.al (.cells #[.slice ad1 y.ws.length cc1, .slice ad2 y.sg.length cc2] 63)).row.lt (Ne.symm (row_own_ne2 (z2.al (.cells #[.slice ad1 y.ws.length cc1, .slice ad2 y.sg.length cc2] 63)).row (z2.al (.cells #[.slice ad1 y.ws.length cc1, .slice ad2 y.sg.length cc2] 63)).own (by decide)))).trans (z2.al (.cells #[.slice ad1 y.ws.length cc1, .slice ad2 y.sg.length cc2] 63)).row; have z98 := Row.cell zq 5 (x := .slice asv phs.length csv) rfl; have f98 := Row.frozen zq 5))
        all_goals (go_wp2_with fail; go_roundw)
        all_goals (first | (simp [intOf]; omega; done) | (refine ⟨k + 1, _, _, by omega, by go_num, zp, ?_⟩; show _ = _; rw [List.map_append]; exact HPH2.out))
      · have hki : ¬ (k : Int) < (x.vs.length : Int) := by omega
        have HX : Hid (phs.map (·.1) = x.vs) := by show _ = _; rw [HPH.out, List.take_of_length_le (by omega)]
        clear HPH HC
        obtain ⟨asv, csv, hsv⟩ : ∃ a c, sv = .slice a phs.length c := by
          rcases HL.out.own.2 with ⟨rfl, hn⟩ | ⟨g, cap, cur, rfl, _⟩
          · exact ⟨none, 0, by rw [hn]⟩
          · exact ⟨_, cap, rfl⟩
        subst hsv
        have c2n := HL.out.os.ent.cell 2 (x := .int .i64 x.pl) rfl
        have n0 := HL.out.os.ent.cell 0 (x := .int .i64 x.fr) rfl
        have n1 := HL.out.os.ent.cell 1 (x := .int .i64 x.to_) rfl
        have n3 := HL.out.os.ent.cell 3 (x := .string x.lf) rfl
        have n4 := HL.out.os.ent.cell 4 (x := .string x.ll) rfl
        have n5 := HL.out.os.ent.cell 5 (x := .int .i64 x.ln) rfl
        have HWI := hid (within_any _ _ ls ws x.fr x.to_ wr (H1 _ HL.out.os.bel).out (H3 _ HL.out.os.bel).out HL1.out (by have := HL1.out; omega))
        go_upto_if 74 with fail
        go_cut [16] from 17 to 117 (fun _ wx => Hid (RsM x (.slice au x.sup.length cu) (.slice av x.vs.length cv) w B (.slice ab x.sup.length cb) (.slice asv phs.length csv) phs (rsE ls ws ly x) wx) ∧ Hid (rsI ls la ws ly x = if ofI ls la ws (rsE ls ws ly x) ≠ 0 ∨ ntB (ofN ls la ws (rsE ls ws ly x)) x = false then 26 else 0))
        case first =>
          by_cases k5 : x.pl = 4
          · have k5b : (x.pl != 4) = false := by simp [k5]
            have HE4 : Hid (rsE ls ws ly x = ⟨ly, 0, 0, x.pos, x.sup, x.vs⟩) := by
              show _ = _; unfold rsE rsP; rw [if_neg (by omega), if_neg (by omega)]
            have HI4 : Hid (rsI ls la ws ly x = if ofI ls la ws (rsE ls ws ly x) ≠ 0 ∨ ntB (ofN ls la ws (rsE ls ws ly x)) x = false then 26 else 0) := by
              show _ = _; rw [HI2.out, if_neg (by simp [k5])]
            clear k5
            go_wp2_with fail
            go_meet
            exact ⟨by rw [HE4.out]; exact HL, HI4⟩
          · have k5b : (x.pl != 4) = true := by simp [k5]
            go_wp2_with fail
            (with_reducible refine HWI.out.mono ?_)
            rintro e w5 ⟨r, rfl, hr5, hB5⟩
            have HM5 := hid (HL.out.below hB5)
            clear n0 n1 n3 n4 n5 c2n HL HWI
            have n3 := HM5.out.os.ent.cell 3 (x := .string x.lf) rfl
            have n4 := HM5.out.os.ent.cell 4 (x := .string x.ll) rfl
            have n5 := HM5.out.os.ent.cell 5 (x := .int .i64 x.ln) rfl
            have HFI := hid (findAll_any (wWs ls ws x.fr x.to_) x.lf x.ll x.ln r w5 (HE _ HM5.out.os.bel).out hr5 (fun s hs => hz s (wWs_mem hs)) hzN.lf hzN.ll (fun _ => Nat.le_trans (wWs_len ls ws x.fr x.to_) hlen))
            have HFB := hid (findRes_bound (wWs ls ws x.fr x.to_) x.lf x.ll x.ln (by have := wWs_len ls ws x.fr x.to_; omega))
            have HFL := hid (wWs_len ls ws x.fr x.to_)
            have HAB := hid (wAt_bound ls x.fr x.to_)
            have HFD : Hid (rsF ls ws x = findRes (wWs ls ws x.fr x.to_) x.lf x.ll x.ln) := rfl
            have HPD : Hid (rsP ls ws x = if x.pl = 1 then (wAt ls x.fr x.to_ + (rsF ls ws x).1, wAt ls x.fr x.to_ + (rsF ls ws x).2.1) else if x.pl = 2 then (wAt ls x.fr x.to_ + (rsF ls ws x).2.1, wAt ls x.fr x.to_ + (rsF ls ws x).2.1) else (0, 0)) := rfl
            generalize findRes (wWs ls ws x.fr x.to_) x.lf x.ll x.ln = fr at *
            obtain ⟨ff, ft, fe⟩ := fr
            unfold findVal at HFI
            simp only at HFI HFB
            generalize wAt ls x.fr x.to_ = A at *
            generalize wWs ls ws x.fr x.to_ = wo at *
            obtain ⟨ar, cr, rfl, _⟩ := hr5.open
            clear hr5 hB5
            go_wp2_with fail
            (with_reducible refine HFI.out.mono ?_)
            rintro e w6 ⟨rfl, hB6⟩
            have HM6 := hid (HM5.out.below hB6)
            clear HM5 HFI hB6 n3 n4 n5
            by_cases k6 : fe = 0
            case neg =>
              have k6b : (fe != 0) = true := by simp [k6]
              have HZ := hid (HZZ.out 26 (by decide) (by rw [HI2.out, if_pos ⟨k5, by rw [HFD.out]; exact k6⟩]))
              have HS6 := hid HM6.out.os
              have r0 := HS6.out.res.cell 0 (x := .int .i64 0) rfl
              have r1 := HS6.out.res.cell 1 (x := .int .i64 0) rfl
              have r2 := HS6.out.res.cell 2 (x := .int .i64 0) rfl
              have r3 := HS6.out.res.cell 3 (x := .bool false) rfl
              have r4 := HS6.out.res.cell 4 (x := .slice none 0 0) rfl
              have r5 := HS6.out.res.cell 5 (x := .slice none 0 0) rfl
              have g0 := HS6.out.res.frozen 0
              have g1 := HS6.out.res.frozen 1
              have g2 := HS6.out.res.frozen 2
              have g3 := HS6.out.res.frozen 3
              have g4 := HS6.out.res.frozen 4
              have g5 := HS6.out.res.frozen 5
              go_wp2_with fail
              have q := row6 HS6.out.res (.int .i64 0) (.int .i64 0) (.int .i64 0) (.bool false) (.slice none 0 0) (.slice none 0 0)
              have hb := zsets6_bel HS6.out.bel
              have z0 := q.cell 0 (x := .int .i64 0) rfl
              have z1 := q.cell 1 (x := .int .i64 0) rfl
              have z2 := q.cell 2 (x := .int .i64 0) rfl
              have z3 := q.cell 3 (x := .bool false) rfl
              have z4 := q.cell 4 (x := .slice none 0 0) rfl
              have z5 := q.cell 5 (x := .slice none 0 0) rfl
              exact bodyPost_ret (v := .tuple #[.agg zeroE, .int .i64 26]) (by simp [results, Tryz.f17, go_sem, zeroE, z0, z1, z2, z3, z4, z5]) rfl (HZ.out _ hb)
            subst k6
            have c2n := HM6.out.os.ent.cell 2 (x := .int .i64 x.pl) rfl
            have HI3 : Hid (rsI ls la ws ly x = if ofI ls la ws (rsE ls ws ly x) ≠ 0 ∨ ntB (ofN ls la ws (rsE ls ws ly x)) x = false then 26 else 0) := by
              show _ = _; rw [HI2.out, if_neg (by rw [HFD.out]; simp)]
            have hb1 := HFB.out
            have hb2 := HFL.out
            have hb3 := HAB.out
            have hb4 := HL1.out
            have w1 : IntKind.i64.wrap (A + ff) = A + ff := IntWalk.i64_in _ (by omega)
            have w2 : IntKind.i64.wrap (A + ft) = A + ft := IntWalk.i64_in _ (by omega)
            clear hb1 hb2 hb3 hb4
            have y1 := HM6.out.row.cell 1 (x := .int .i64 0) rfl
            have y2 := HM6.out.row.cell 2 (x := .int .i64 0) rfl
            have f1 := HM6.out.row.frozen 1
            have f2 := HM6.out.row.frozen 2
            by_cases k7 : x.pl = 1
            · have k7b : (x.pl == 1) = true := by simp [k7]
              have HE4 : Hid (rsE ls ws ly x = ⟨ly, A + ff, A + ft, x.pos, x.sup, x.vs⟩) := by
                show _ = _; unfold rsE; rw [HPD.out, if_pos k7, HFD.out]
              clear k7
              go_wp2_with fail
              go_meet
              refine ⟨?_, HI3⟩
              · rw [HE4.out]; exact hid ((HM6.out.put hBlo 1 (.int .i64 (A + ff)) ⟨ly, A + ff, 0, x.pos, x.sup, x.vs⟩ rfl).put hBlo 2 (.int .i64 (A + ft)) ⟨ly, A + ff, A + ft, x.pos, x.sup, x.vs⟩ rfl)
            · have k7b : (x.pl == 1) = false := by simp [k7]
              by_cases k8 : x.pl = 2
              · have k8b : (x.pl == 2) = true := by simp [k8]
                have HE4 : Hid (rsE ls ws ly x = ⟨ly, A + ft, A + ft, x.pos, x.sup, x.vs⟩) := by
                  show _ = _; unfold rsE; rw [HPD.out, if_neg k7, if_pos k8, HFD.out]
                clear k8 k7
                go_wp2_with fail
                go_meet
                refine ⟨?_, HI3⟩
                · rw [HE4.out]; exact hid ((HM6.out.put hBlo 1 (.int .i64 (A + ft)) ⟨ly, A + ft, 0, x.pos, x.sup, x.vs⟩ rfl).put hBlo 2 (.int .i64 (A + ft)) ⟨ly, A + ft, A + ft, x.pos, x.sup, x.vs⟩ rfl)
              · have k8b : (x.pl == 2) = false := by simp [k8]
                have HE4 : Hid (rsE ls ws ly x = ⟨ly, 0, 0, x.pos, x.sup, x.vs⟩) := by
                  show _ = _; unfold rsE; rw [HPD.out, if_neg k7, if_neg k8]
                go_wp2_with fail
                go_meet
                exact ⟨by rw [HE4.out]; exact HM6, HI3⟩
        case rest =>
          obtain ⟨HM, HI3⟩ := hcut
          clear n0 n1 n3 n4 n5 c2n HL HWI HI2
          have HRD := hid (HM.out.rd (E := rsE ls ws ly x) rfl HX.out)
          have HSE : Hid (SzE (rsE ls ws ly x)) := ⟨hzN.sup, hzN.vs, by have := HOK.out.sl; show x.sup.length ≤ 65536; omega, by have := HOK.out.vl; show x.vs.length ≤ 65536; omega, fun v hv => by have h := HOK.out.vs v hv; have h1 := h.wl; have h2 := h.sl; exact ⟨by omega, by omega⟩⟩
          have HOF := hid (pof_any ls la ws (rsE ls ws ly x) _ _ _ _ _ wc (HE _ HM.out.os.bel).out (H1 _ HM.out.os.bel).out (H2 _ HM.out.os.bel).out (H3 _ HM.out.os.bel).out HRD.out hz HSE.out HL1.out HL2.out hlen)
          have e0 := HM.out.row.cell 0 (x := .int .i64 (rsE ls ws ly x).ly) rfl
          have e1 := HM.out.row.cell 1 (x := .int .i64 (rsE ls ws ly x).fr) rfl
          have e2 := HM.out.row.cell 2 (x := .int .i64 (rsE ls ws ly x).to_) rfl
          have e3 := HM.out.row.cell 3 (x := .bool (rsE ls ws ly x).pos) rfl
          have e4 := HM.out.row.cell 4 (x := .slice ab x.sup.length cb) rfl
          have e5 := HM.out.row.cell 5 (x := .slice asv phs.length csv) rfl
          unfold En.cells at HOF
          go_wp2_with fail
          (with_reducible refine HOF.out.mono ?_)
          rintro e w7 ⟨y, bu, nu, du, bv, nv, dv, rfl, hy, hB7⟩
          unfold Nt.cells
          have HY := hid hy
          have HM7 := hid (HM.out.below hB7)
          have HM8 := hid (HM7.out.al (.cells #[.int .i64 y.fr, .int .i64 y.to_, .int .i64 y.pl, .string y.lf, .string y.ll, .int .i64 y.ln, .bool y.pos, .slice bu nu du, .slice bv nv dv] 30))
          clear e0 e1 e2 e3 e4 e5 HRD HSE HOF HM hy hB7 HM7
          have HOI : Hid (rsI ls la ws ly x = if ofI ls la ws (rsE ls ws ly x) ≠ 0 ∨ ntB (ofN ls la ws (rsE ls ws ly x)) x = false then 26 else 0) := HI3
          clear HI3
          generalize ofI ls la ws (rsE ls ws ly x) = oi at *
          by_cases k9 : oi = 0
          case neg =>
            have k9b : (oi != 0) = true := by simp [k9]
            have HZ := hid (HZZ.out 26 (by decide) (by rw [HOI.out, if_pos (Or.inl k9)]))
            have HS8 := hid HM8.out.os
            have r0 := HS8.out.res.cell 0 (x := .int .i64 0) rfl
            have r1 := HS8.out.res.cell 1 (x := .int .i64 0) rfl
            have r2 := HS8.out.res.cell 2 (x := .int .i64 0) rfl
            have r3 := HS8.out.res.cell 3 (x := .bool false) rfl
            have r4 := HS8.out.res.cell 4 (x := .slice none 0 0) rfl
            have r5 := HS8.out.res.cell 5 (x := .slice none 0 0) rfl
            have g0 := HS8.out.res.frozen 0
            have g1 := HS8.out.res.frozen 1
            have g2 := HS8.out.res.frozen 2
            have g3 := HS8.out.res.frozen 3
            have g4 := HS8.out.res.frozen 4
            have g5 := HS8.out.res.frozen 5
            go_wp2_with fail
            have q := row6 HS8.out.res (.int .i64 0) (.int .i64 0) (.int .i64 0) (.bool false) (.slice none 0 0) (.slice none 0 0)
            have hb := zsets6_bel HS8.out.bel
            have z0 := q.cell 0 (x := .int .i64 0) rfl
            have z1 := q.cell 1 (x := .int .i64 0) rfl
            have z2 := q.cell 2 (x := .int .i64 0) rfl
            have z3 := q.cell 3 (x := .bool false) rfl
            have z4 := q.cell 4 (x := .slice none 0 0) rfl
            have z5 := q.cell 5 (x := .slice none 0 0) rfl
            exact bodyPost_ret (v := .tuple #[.agg zeroE, .int .i64 26]) (by simp [results, Tryz.f17, go_sem, zeroE, z0, z1, z2, z3, z4, z5]) rfl (HZ.out _ hb)
          subst k9
          have HYE : Hid (ofN ls la ws (rsE ls ws ly x) = y) := (HY.out rfl).1.symm
          have HYR : Hid (OwN w7 (.slice bu nu du) (.slice bv nv dv) y) := by have h := HY.out rfl; show OwN _ _ _ _; rw [h.1]; exact h.2
          clear HY
          have HSM := hid (psame_any y x _ _ _ _ (w7.alloc (.cells #[.int .i64 y.fr, .int .i64 y.to_, .int .i64 y.pl, .string y.lf, .string y.ll, .int .i64 y.ln, .bool y.pos, .slice bu nu du, .slice bv nv dv] 30)) (HYR.out.rd.below (below_al _ _)) (HR _ HM8.out.os.bel).out)
          unfold Nt.cells at HSM
          have HRW := hid (row_nw w7 #[.int .i64 y.fr, .int .i64 y.to_, .int .i64 y.pl, .string y.lf, .string y.ll, .int .i64 y.ln, .bool y.pos, .slice bu nu du, .slice bv nv dv] 30 rfl)
          have m0 := HRW.out.cell 0 (x := .int .i64 y.fr) rfl
          have m1 := HRW.out.cell 1 (x := .int .i64 y.to_) rfl
          have m2 := HRW.out.cell 2 (x := .int .i64 y.pl) rfl
          have m3 := HRW.out.cell 3 (x := .string y.lf) rfl
          have m4 := HRW.out.cell 4 (x := .string y.ll) rfl
          have m5 := HRW.out.cell 5 (x := .int .i64 y.ln) rfl
          have m6 := HRW.out.cell 6 (x := .bool y.pos) rfl
          have m7 := HRW.out.cell 7 (x := .slice bu nu du) rfl
          have m8 := HRW.out.cell 8 (x := .slice bv nv dv) rfl
          have b0 := HM8.out.os.ent.cell 0 (x := .int .i64 x.fr) rfl
          have b1 := HM8.out.os.ent.cell 1 (x := .int .i64 x.to_) rfl
          have b2 := HM8.out.os.ent.cell 2 (x := .int .i64 x.pl) rfl
          have b3 := HM8.out.os.ent.cell 3 (x := .string x.lf) rfl
          have b4 := HM8.out.os.ent.cell 4 (x := .string x.ll) rfl
          have b5 := HM8.out.os.ent.cell 5 (x := .int .i64 x.ln) rfl
          have b6 := HM8.out.os.ent.cell 6 (x := .bool x.pos) rfl
          have b7 := HM8.out.os.ent.cell 7 (x := .slice au x.sup.length cu) rfl
          have b8 := HM8.out.os.ent.cell 8 (x := .slice av x.vs.length cv) rfl
          go_wp2_with fail
          (with_reducible refine HSM.out.mono ?_)
          rintro e w8 ⟨rfl, hB8⟩
          have HM9 := hid (HM8.out.below hB8)
          clear m0 m1 m2 m3 m4 m5 m6 m7 m8 b0 b1 b2 b3 b4 b5 b6 b7 b8 HSM HRW HM8 HYR hB8
          cases k10 : ntB y x
          case false =>
            have HZ := hid (HZZ.out 26 (by decide) (by rw [HOI.out, if_pos (Or.inr (by rw [HYE.out]; exact k10))]))
            have HS9 := hid HM9.out.os
            clear k10
            have r0 := HS9.out.res.cell 0 (x := .int .i64 0) rfl
            have r1 := HS9.out.res.cell 1 (x := .int .i64 0) rfl
            have r2 := HS9.out.res.cell 2 (x := .int .i64 0) rfl
            have r3 := HS9.out.res.cell 3 (x := .bool false) rfl
            have r4 := HS9.out.res.cell 4 (x := .slice none 0 0) rfl
            have r5 := HS9.out.res.cell 5 (x := .slice none 0 0) rfl
            have g0 := HS9.out.res.frozen 0
            have g1 := HS9.out.res.frozen 1
            have g2 := HS9.out.res.frozen 2
            have g3 := HS9.out.res.frozen 3
            have g4 := HS9.out.res.frozen 4
            have g5 := HS9.out.res.frozen 5
            go_wp2_with fail
            have q := row6 HS9.out.res (.int .i64 0) (.int .i64 0) (.int .i64 0) (.bool false) (.slice none 0 0) (.slice none 0 0)
            have hb := zsets6_bel HS9.out.bel
            have z0 := q.cell 0 (x := .int .i64 0) rfl
            have z1 := q.cell 1 (x := .int .i64 0) rfl
            have z2 := q.cell 2 (x := .int .i64 0) rfl
            have z3 := q.cell 3 (x := .bool false) rfl
            have z4 := q.cell 4 (x := .slice none 0 0) rfl
            have z5 := q.cell 5 (x := .slice none 0 0) rfl
            exact bodyPost_ret (v := .tuple #[.agg zeroE, .int .i64 26]) (by simp [results, Tryz.f17, go_sem, zeroE, z0, z1, z2, z3, z4, z5]) rfl (HZ.out _ hb)
          have HI5 : Hid (rsI ls la ws ly x = 0) := by show _ = _; rw [HOI.out, if_neg (by rw [HYE.out, k10]; simp)]
          have HN5 : Hid (rsN ls la ws ly x = rsE ls ws ly x) := by show _ = _; rw [HNN.out, if_pos HI5.out]
          have HOE : Hid (OwE w8 (.slice ab x.sup.length cb) (.slice asv phs.length csv) (rsE ls ws ly x)) := ⟨HM9.out.sup, _, phs, HM9.out.own, HM9.out.rds, HX.out⟩
          clear k10 HOI HYE HZZ HNN
          have e0 := HM9.out.row.cell 0 (x := .int .i64 (rsE ls ws ly x).ly) rfl
          have e1 := HM9.out.row.cell 1 (x := .int .i64 (rsE ls ws ly x).fr) rfl
          have e2 := HM9.out.row.cell 2 (x := .int .i64 (rsE ls ws ly x).to_) rfl
          have e3 := HM9.out.row.cell 3 (x := .bool (rsE ls ws ly x).pos) rfl
          have e4 := HM9.out.row.cell 4 (x := .slice ab x.sup.length cb) rfl
          have e5 := HM9.out.row.cell 5 (x := .slice asv phs.length csv) rfl
          have r0 := HM9.out.os.res.cell 0 (x := .int .i64 0) rfl
          have r1 := HM9.out.os.res.cell 1 (x := .int .i64 0) rfl
          have r2 := HM9.out.os.res.cell 2 (x := .int .i64 0) rfl
          have r3 := HM9.out.os.res.cell 3 (x := .bool false) rfl
          have r4 := HM9.out.os.res.cell 4 (x := .slice none 0 0) rfl
          have r5 := HM9.out.os.res.cell 5 (x := .slice none 0 0) rfl
          have g0 := HM9.out.os.res.frozen 0
          have g1 := HM9.out.os.res.frozen 1
          have g2 := HM9.out.os.res.frozen 2
          have g3 := HM9.out.os.res.frozen 3
          have g4 := HM9.out.os.res.frozen 4
          have g5 := HM9.out.os.res.frozen 5
          generalize rsE ls ws ly x = E at *
          go_wp2_with fail
          have q := row6 HM9.out.os.res (.int .i64 E.ly) (.int .i64 E.fr) (.int .i64 E.to_) (.bool E.pos) (.slice ab x.sup.length cb) (.slice asv phs.length csv)
          have hq := HOE.out.set6 HM9.out.os.res E
          have hb := bel_set6 HM9.out.os.bel (B := w.heap.size + 1) (Nat.le_succ _) E (.slice ab x.sup.length cb) (.slice asv phs.length csv)
          have z0 := q.cell 0 (x := .int .i64 E.ly) rfl
          have z1 := q.cell 1 (x := .int .i64 E.fr) rfl
          have z2 := q.cell 2 (x := .int .i64 E.to_) rfl
          have z3 := q.cell 3 (x := .bool E.pos) rfl
          have z4 := q.cell 4 (x := .slice ab x.sup.length cb) rfl
          have z5 := q.cell 5 (x := .slice asv phs.length csv) rfl
          exact bodyPost_ret (v := .tuple #[.agg (E.cells (.slice ab x.sup.length cb) (.slice asv phs.length csv)), .int .i64 0]) (by simp [results, Tryz.f17, go_sem, En.cells, z0, z1, z2, z3, z4, z5]) rfl ⟨ab, _, cb, asv, _, csv, by rw [HN5.out, HI5.out], by rw [HN5.out]; exact hq.rd, hb⟩
end Go.Proofs.YtjhdeoniafahbaaGreatDoor
