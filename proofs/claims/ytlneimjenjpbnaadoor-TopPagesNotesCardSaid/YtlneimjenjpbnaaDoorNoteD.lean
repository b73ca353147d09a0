/-
  notes.Set.
-/
import Derived.Test.YtlneimjenjpbnaaDoorNoteC
namespace Go.Proofs.YtlneimjenjpbnaaDoor
open Go.RowKit Go.Shelf
attribute [local go_sem] Oper.semAt_some

def setI (st : St) (s : ByteArray) : Int := if styleI st ≠ 0 then styleI st else noteI s
def setR (st : St) (s : ByteArray) : List ByteArray := if setI st s = 0 then (setL st (splitS s)).map joinB else []

theorem cell_st {st : St} {W : World} {B : Nat} {t : TypeId} (h : W.heap[B]? = some (.cells st.cells t (0, 0))) (i : Nat) {v : Value} (hv : st.cells[i]? = some v) : W.cell? ⟨B, i, none⟩ = some v := by
  rw [cell_of_row W B i _ _ _ h]; exact hv

/-- The box that the iterator writes is no part of what the rounds gather. -/
theorem InvA.other {wr : World} {n₁ B : Nat} {t e : TypeId} {ks : List ByteArray} {W : World} (h : InvA wr n₁ B t e ks W) {B2 : Nat} (h1 : B2 ≠ B) (h2 : B2 < n₁) (h3 : wr.heap.size ≤ B2) (v' : Value) : InvA wr n₁ B t e ks (W.setCell ⟨B2, 0, none⟩ v') := by
  obtain ⟨⟨v, hb, hw⟩, hB, hn⟩ := h
  refine ⟨⟨v, ?_, hw.kept (grownBy_setCell' W B2 v') (.inr fun e => ?_)⟩, hB.setCell (p := ⟨B2, 0, none⟩) h3 _, ?_⟩
  · unfold Boxed at *
    rw [Below.heap_setCell _ _ _ _ (by simpa using fun e => h1 e.symm)]
    exact hb
  · have := (hw.lt B2 (by first | exact e | exact e.symm)).1
    omega
  · simpa [World.setCell] using hn
theorem join_le (M : Nat) : ∀ l : List (List UInt8), (∀ x ∈ l, x.length ≤ M) → (Lib.join l [32]).length ≤ l.length * (M + 1)
  | [], _ => by simp [Lib.join]
  | x :: r, h => by
    rw [Lib.join_cons, Lib.joinTail]
    have h1 := h x (by simp)
    have h2 : ∀ r : List (List UInt8), (∀ y ∈ r, y.length ≤ M) → ((r.map fun y => [32] ++ y).flatten).length ≤ r.length * (M + 1) := by
      intro r
      induction r with
      | nil => intro _; simp
      | cons y r ih =>
        intro hr
        have h3 := hr y (by simp)
        have h4 := ih fun z hz => hr z (by simp [hz])
        have h5 : (r.length + 1) * (M + 1) = r.length * (M + 1) + (M + 1) := Nat.succ_mul _ _
        simp only [List.map_cons, List.flatten_cons, List.length_append, List.length_cons, List.length_nil] at h4 ⊢
        omega
    have h6 := h2 r fun z hz => h z (by simp [hz])
    have h7 : (r.length + 1) * (M + 1) = r.length * (M + 1) + (M + 1) := Nat.succ_mul _ _
    simp only [List.length_append, List.length_cons] at h6 ⊢
    omega
theorem piece_join (ws : List ByteArray) (hws : ∀ x ∈ ws, x.size ≤ 65536) (hl : ws.length ≤ 65537) (p : Pl ws.length) : (Lib.join ((pieceOf ws p).map (·.data.toList)) [32]).length ≤ 140737488355328 := by
  refine Nat.le_trans (join_le 65536 _ fun x hx => ?_) ?_
  · obtain ⟨y, hy, rfl⟩ := List.mem_map.1 hx
    exact hws y (List.mem_of_mem_drop (List.mem_of_mem_take hy))
  · have h1 : ((pieceOf ws p).map (·.data.toList)).length ≤ 65537 := by
      rw [List.length_map]; unfold pieceOf
      rw [List.length_take, List.length_drop]; omega
    exact Nat.le_trans (Nat.mul_le_mul_right _ h1) (by decide)
theorem Rd.piece {W : World} {b off cap : Nat} {ws : List ByteArray} (h : RdS W (.slice (some ⟨b, off, none⟩) ws.length cap) ws) (p : Pl ws.length) : RdS W (lineV b off cap p) (pieceOf ws p) := by
  obtain ⟨a', cap', h1, h2, h3, h4⟩ := h
  cases h1
  have hp := p.2
  have hl : (pieceOf ws p).length = p.1.2 := by unfold pieceOf; rw [List.length_take, List.length_drop]; omega
  refine ⟨_, _, by rw [hl]; rfl, by rw [hl]; omega, by omega, fun i x hx => ?_⟩
  unfold pieceOf at hx
  rw [List.getElem?_take] at hx
  split at hx
  · rw [List.getElem?_drop] at hx
    obtain ⟨b', off', e, hc⟩ := h4 _ x hx
    cases e
    exact ⟨_, _, rfl, by rw [Nat.add_assoc]; exact hc⟩
  · cases hx
/-- append, under a name that the walk does not lay open: its run is then taken from the context. -/
def apx (ts : Array TypeId) (ty : TypeId) (args : Array Value) : Sem Value := Builtin.append_ ts ty args
theorem apx_eq (ts : Array TypeId) (ty : TypeId) (args : Array Value) : Builtin.append_ ts ty args = apx ts ty args := rfl
attribute [local go_sem ↓] apx_eq
theorem run_apx {P : Program} {W : World} (t ty : TypeId) (base : Nat) (e : TypeId) {z : Value} {size bytes : Nat} (ht : P.underlying t = some (.slice e)) (hi : (P.info? e).map (fun i => (i.zero, i.size, i.bytes)) = some (some z, size, bytes))
    (hzs : z.cells.size = size) (hsz : 0 < size) (hby : bytes ≤ 64)
    (v : Value) (n : Nat) (xs : List Value) (hown : W.ownsRow base e size v n xs) (news : List Value) (hl : news.length = size) (h1 : ∀ u ∈ news, u.oneCell' = true)
    (hn : n + 1 ≤ 4294967296) (hbase : base ≤ W.heap.size) :
    ∃ g cap w', (apx #[t, t] ty #[v, .slice (some ⟨W.heap.size, 0, none⟩) 1 1]).run P (W.alloc (.cells news.toArray e)) = .ok (.slice (some ⟨g, 0, none⟩) (n + 1) cap) w' ∧
      w'.ownsRow base e size (.slice (some ⟨g, 0, none⟩) (n + 1) cap) (n + 1) (xs ++ news) ∧ W.grownBy w' v.ownBlock := by
  obtain ⟨g, cap, w', h1, h2, _, h4, _, _⟩ := run_ap t ty base e ht hi hzs hsz hby v n xs hown news hl h1 hn hbase
  exact ⟨g, cap, w', h1, h2, h4⟩
theorem infoStrD : (Tryd.prog.info? 9).map (fun i => (i.zero, i.size, i.bytes)) = some (some (.string ⟨#[]⟩), 1, 16) := by kernel_rfl

set_option maxRecDepth 100000 in
set_option maxHeartbeats 4000000 in
theorem nSet_any (st : St) (s : ByteArray) (m : Int) (w : World) (hm : w.cell? ⟨0, 0, none⟩ = some (.int .i64 m)) :
    Calls Tryd.prog 15 #[.agg st.cells, .string s] w fun e w' => ∃ v, e = .returned (.tuple #[v, .int .i64 (setI st s)]) ∧ RdS w' v (setR st s) ∧ Below w.heap.size w w' := by
  refine (callsIn_wide (n := 9)).1 ?_
  have HS := fun w' => hid (cstyle_any st w')
  have hb0 := below_al w (.cells st.cells 25)
  have hm0 := cell_al hm (.cells st.cells 25)
  have HT := fun w' h => hid (ntext_any s m w' h)
  by_cases h0 : styleI st = 0
  · have HI : Hid (setI st s = noteI s) := by unfold setI; rw [if_neg (by omega)]; rfl
    have HR : Hid (setR st s = if noteI s = 0 then (setL st (splitS s)).map joinB else []) := by unfold setR; rw [HI.out]; rfl
    rw [h0] at HS
    refine callsIn_of_wp_marks Tryd.func15 rfl trivial ?_ rfl
    simp only [Tryd.ntmps15, List.size_toArray, List.length_cons, List.length_nil, Nat.reduceAdd, Nat.reduceSub, Array.replicate_succ, Array.replicate_zero, List.push_toArray, List.append_toArray, List.nil_append, List.cons_append]
    refine wpIn_wide.2 ?_
    unfold St.cells at *
    go_wp2_with fail
    refine (HS _).out.mono ?_
    rintro e w1 ⟨rfl, hB1⟩
    have hm1 := Below.keeps hB1 _ _ hm0
    have HB1 := hid (below_tr hb0 hB1)
    clear HS
    go_wp2_with fail
    refine (HT _ hm1).out.mono ?_
    rintro e w2 ⟨v, rfl, hr2, hB2⟩
    obtain ⟨av, capv, rfl, hlv, hcv, _⟩ := hr2.open
    have hst2 : w2.heap[w.heap.size]? = some (.cells st.cells 25 (0, 0)) := (hB2.block w.heap.size (Nat.lt_of_lt_of_le (by simp) hB1.size)).trans ((hB1.block w.heap.size (by simp)).trans (World.alloc_heap_new w _))
    have HB2 := hid (below_tr HB1.out hB2)
    clear HT hm0 hm1 hb0 hB1 hB2 HB1
    by_cases hn : noteI s = 0
    · have HL : Hid (noteL s = splitS s) := by unfold noteL; rw [if_pos hn]; rfl
      rw [hn]
      go_upto_region 7 with fail
      have hs0 : (w2.alloc (.cells #[.slice none 0 0] 23)).cell? ⟨w.heap.size, 0, none⟩ = some (.int .i64 st.width) := cell_al (cell_st hst2 0 rfl) _
      have hs1 : (w2.alloc (.cells #[.slice none 0 0] 23)).cell? ⟨w.heap.size, 1, none⟩ = some (.int .i64 st.lh) := cell_al (cell_st hst2 1 rfl) _
      have hs2 : (w2.alloc (.cells #[.slice none 0 0] 23)).cell? ⟨w.heap.size, 2, none⟩ = some (.int .i64 st.nh) := cell_al (cell_st hst2 2 rfl) _
      have hs3 : (w2.alloc (.cells #[.slice none 0 0] 23)).cell? ⟨w.heap.size, 3, none⟩ = some (.int .i64 st.ph) := cell_al (cell_st hst2 3 rfl) _
      have hs4 : (w2.alloc (.cells #[.slice none 0 0] 23)).cell? ⟨w.heap.size, 4, none⟩ = some (.int .i64 st.gap) := cell_al (cell_st hst2 4 rfl) _
      have hs5 : (w2.alloc (.cells #[.slice none 0 0] 23)).cell? ⟨w.heap.size, 5, none⟩ = some (.int .i64 st.sp) := cell_al (cell_st hst2 5 rfl) _
      have hs6 : (w2.alloc (.cells #[.slice none 0 0] 23)).cell? ⟨w.heap.size, 6, none⟩ = some (.int .i64 st.stretch) := cell_al (cell_st hst2 6 rfl) _
      have hs7 : (w2.alloc (.cells #[.slice none 0 0] 23)).cell? ⟨w.heap.size, 7, none⟩ = some (.int .i64 st.shrink) := cell_al (cell_st hst2 7 rfl) _
      have hs8 : (w2.alloc (.cells #[.slice none 0 0] 23)).cell? ⟨w.heap.size, 8, none⟩ = some (.int .i64 st.letter) := cell_al (cell_st hst2 8 rfl) _
      have hs9 : (w2.alloc (.cells #[.slice none 0 0] 23)).cell? ⟨w.heap.size, 9, none⟩ = some (.int .i64 st.hyphen) := cell_al (cell_st hst2 9 rfl) _
      have hs10 : (w2.alloc (.cells #[.slice none 0 0] 23)).cell? ⟨w.heap.size, 10, none⟩ = some (.int .i64 st.every) := cell_al (cell_st hst2 10 rfl) _
      have hs11 : (w2.alloc (.cells #[.slice none 0 0] 23)).cell? ⟨w.heap.size, 11, none⟩ = some (.slice st.pos.1 st.pos.2.1 st.pos.2.2) := cell_al (cell_st hst2 11 rfl) _
      have hs12 : (w2.alloc (.cells #[.slice none 0 0] 23)).cell? ⟨w.heap.size, 12, none⟩ = some (.slice st.lay.1 st.lay.2.1 st.lay.2.2) := cell_al (cell_st hst2 12 rfl) _
      have HNS := fun v l w' h => hid (nset_any st v l w' h)
      unfold St.cells at HNS
      go_wp2_with fail
      refine (HNS (.slice av (noteL s).length capv) (noteL s) _ (hr2.below (below_al w2 (.cells #[.slice none 0 0] 23)))).out.mono ?_
      rintro e w3 ⟨rfl, hw3⟩
      have e1 : (w2.alloc (.cells #[.slice none 0 0] 23)).heap.size = w2.heap.size + 1 := by simp
      rw [e1]
      rw [HL.out] at hr2 hw3 hlv ⊢
      obtain ⟨b, off, hav⟩ : ∃ b off, av = some ⟨b, off, none⟩ := by
        obtain ⟨_, _, e2, _, _, hc⟩ := hr2.open
        cases e2
        obtain ⟨x, b, off, _, h, _⟩ := hc 0 (by rw [splitS_count]; omega)
        exact ⟨b, off, h⟩
      subst hav
      clear hs0 hs1 hs2 hs3 hs4 hs5 hs6 hs7 hs8 hs9 hs10 hs11 hs12 HNS
      go_wp2_with fail
      have hszw : w3.heap.size = w2.heap.size + 3 := by rw [← hw3]; simp
      have hbo : Boxed w3 w2.heap.size 23 (.slice none 0 0) := by rw [← hw3]; exact ((Boxed.new w2 23 (.slice none 0 0)).alloc _).alloc _
      have hst3 : w3.heap[w2.heap.size + 1]? = some (.cells st.cells 25 (0, 0)) := by
        rw [← hw3, ← e1]; exact (Below.heap_alloc _ _ _ (by simp)).trans (World.alloc_heap_new _ _)
      have hbw : Boxed w3 (w2.heap.size + 2) 23 (.slice (some ⟨b, off, none⟩) (splitS s).length capv) := by
        rw [← hw3]
        have h := Boxed.new ((w2.alloc (.cells #[.slice none 0 0] 23)).alloc (.cells st.cells 25)) 23 (.slice (some ⟨b, off, none⟩) (splitS s).length capv)
        rwa [World.size_alloc, e1] at h
      have hB3 : Below w2.heap.size w2 w3 := by rw [← hw3]; exact below_tr (below_al _ _) (below_tr (below_al _ _) (below_al _ _))
      have hr3 := hr2.below hB3
      have hbl : b < w2.heap.size := by
        obtain ⟨_, _, e2, _, _, hc⟩ := hr2.open
        obtain ⟨x, b', off', _, h, hcc⟩ := hc 0 (by rw [splitS_count]; omega)
        cases e2
        cases h
        exact World.block_lt_of_cell? _ _ hcc
      have hws : ∀ x ∈ splitS s, x.size ≤ 65536 := fun x hx => by
        have h1 := splitS_size s x hx
        unfold noteI at hn
        split at hn
        · cases hn
        · omega
      have hwl : (splitS s).length ≤ 65537 := by
        have h1 := splitS_len s
        unfold noteI at hn
        split at hn
        · cases hn
        · omega
      clear hw3 e1
      generalize splitS s = ws at *
      have hI0 : InvA w2 w3.heap.size w2.heap.size 23 9 [] w3 := ⟨⟨_, hbo, World.ownsRow_nil _ _ _ _⟩, hB3, Nat.le_refl _⟩
      refine (wpIn_wide (n := 9)).1 ?_
      refine wpIn_rangeFunc_box rfl (by omega) (gf := 44) (lb := #[.pointer (some ⟨w2.heap.size + 1, 0, none⟩), .pointer (some ⟨w2.heap.size + 1 + 1, 0, none⟩)]) rfl trivial (enters_of Tryd.func44 (by kernel_rfl) rfl)
        (encs := fun x : Pl ws.length => #[lineV b off capv x]) (Kp := KpX w3.heap.size w2.heap.size w2.heap.size) (S := fun xs => xs.map (pieceOf ws) = setL st ws) (N := ws.length) (Bs := w2.heap.size + 2)
        ?hseq (by omega) (fun h k => h.tr k) (KpX.put (Nat.le_refl _)) (fun _ => rfl)
        (fun pre W => InvA w2 w3.heap.size w2.heap.size 23 9 (pre.map fun p => joinB (pieceOf ws p)) W)
        (InvA.own _ _ _ _ _ _ _ (by omega)) ?hIs hI0 ?a1 ?assign ?body ?done
      case assign =>
        intro l x W' K hK
        gi_wp2
        exact hK
      case hseq =>
        intro l J W' hW' hJA hJS hY h0'
        exact set1_in (9 - 1) (by omega) st ws b off capv (w2.heap.size + 1) (w2.heap.size + 2) h0 hws hwl hlv w3.heap.size w2.heap.size (by omega) (by omega) (by omega) (by omega) (by omega) (by omega) (by omega) (by omega) l J W' hJA hJS hY
          ((hW'.block _ (by omega)).trans hst3) ((hW'.block _ (by omega)).trans hbw) (hr3.below hW') h0'
      case hIs => exact fun pre W v h => h.other (by omega) (by omega) (by omega) v
      case body =>
        rintro l pre x W' ⟨⟨v, hv, hown⟩, hBb, hn0⟩ hpl
        have hrx := (hr2.below hBb).piece x
        refine wpIn_mono (Q := bodyA w2 w3.heap.size w2.heap.size 23 9 ((pre.map fun p => joinB (pieceOf ws p)) ++ [joinB (pieceOf ws x)]) W') ?_ (fun e a' w' h => by
          cases e <;> first | exact h.elim | (refine ⟨h.1, h.2.1, ?_⟩; dsimp only; rw [List.map_append]; exact h.2.2))
        have hkl : (pre.map fun p => joinB (pieceOf ws p)).length ≤ 1048576 := by rw [List.length_map]; omega
        generalize (pre.map fun p => joinB (pieceOf ws p)) = ks at *
        have hc := hv.cell
        have hte : 23 ≠ 9 := by decide
        have HJ := fun w' (h : Below W'.heap.size W' w') => hid (join_any _ _ w' (hrx.below h) (by unfold pieceOf; rw [List.length_take, List.length_drop]; omega) (piece_join ws hws hwl x))
        unfold lineV at *
        clear hr2 hr3 hrx
        gi_wp2_with fail
        have hBd : Below W'.heap.size W' W'.drew := (Below.refl _ _).drew
        have hcd := Below.keeps hBd _ _ hc
        have hmx : Tryd.prog.follows .mixedOrders = true := by kernel_rfl
        have hJw : W'.drew.heap.size = W'.heap.size := rfl
        generalize joinB (pieceOf ws x) = jx at *
        refine wpIn_region_any (by assumption) ?_
        try (change wpAnyIn _ _ _ _ _ _ _ _ _ (World.drew _))
        refine wpAnyIn_ready (rs := [0, 1]) (by kernel_rfl) (by simp) ?_
        refine AllReadyIn.cons rfl (fun K hK => ?_) (AllReadyIn.cons rfl (fun K hK => ?_) AllReadyIn.nil)
        · go_simp
          refine hK _ _ ?_
          clear hK K
          refine wpAnyIn_ready (rs := [1]) (by kernel_rfl) (by simp) ?_
          refine AllReadyIn.cons rfl (fun K hK => ?_) AllReadyIn.nil
          · go_simp
            refine hK _ _ ?_
            clear hK K
            refine wpAnyIn_ready (rs := [2]) (by kernel_rfl) (by simp) ?_
            refine AllReadyIn.cons rfl (fun K hK => ?_) AllReadyIn.nil
            · go_simp
              refine ⟨trivial, ?_⟩
              gi_at_call 36
              refine (CallsIn.inRound l (callsIn_wide.2 (HJ _ hBd).out)).mono ?_
              rintro e w5 ⟨rfl, hB5⟩
              have hc5 := Below.keeps hB5 _ _ hcd
              have hB6 := below_tr hBd hB5
              have hv5 : Boxed w5 w2.heap.size 23 v := (hB6.block _ hv.lt).trans hv
              have hown5 := own_below hown hB6
              have hn5 := Nat.le_trans hn0 hB6.size
              have hc6 := cell_al hc5 (.cells #[.string jx] 9)
              obtain ⟨g1, cap1, w1', happ, hown', hgr⟩ := run_apx (P := Tryd.prog) 23 23 w3.heap.size 9 Tryd.underlying23 infoStrD rfl (by decide) (by decide) _ _ _ hown5 [.string jx] rfl (by simp [Value.oneCell']) (by omega) hn5
              have hv1 := hv5.kept hgr (hv5.not_row hte hown5)
              have hc1 := hv1.cell
              have hf1 := hv1.frozen
              have HP := hid (InvA.push (x := jx) hv5 hte hown5 (below_tr hBb hB6) hn5 (by omega) (Nat.le_refl _) hown' hgr)
              gi_wp2_with fail
              refine wpAnyIn_ready (rs := [3]) (by kernel_rfl) (by simp) ?_
              refine AllReadyIn.cons rfl (fun K hK => ?_) AllReadyIn.nil
              · go_simp
                refine hK _ _ ?_
                clear hK K
                refine wpAnyIn_ready (rs := [4]) (by kernel_rfl) (by simp) ?_
                refine AllReadyIn.cons rfl (fun K hK => ?_) AllReadyIn.nil
                · go_simp
                  refine hK _ _ ?_
                  clear hK K
                  refine wpAnyIn_ready (rs := [5]) (by kernel_rfl) (by simp) ?_
                  refine AllReadyIn.cons rfl (fun K hK => ?_) AllReadyIn.nil
                  · go_simp
                    refine hK _ _ ?_
                    clear hK K
                    refine wpAnyIn_done (by kernel_rfl) ?_ _
                    exact ⟨(keepsFrom_below hB6).trans HP.out.1, (kpX_below hB6 hn0).tr HP.out.2.1, HP.out.2.2⟩
        · go_simp
          refine hK _ _ ?_
          clear hK K
          refine wpAnyIn_ready (rs := [0, 2]) (by kernel_rfl) (by simp) ?_
          refine AllReadyIn.cons rfl (fun K hK => ?_) (AllReadyIn.cons rfl (fun K hK => ?_) AllReadyIn.nil)
          · go_simp
            refine hK _ _ ?_
            clear hK K
            refine wpAnyIn_ready (rs := [2]) (by kernel_rfl) (by simp) ?_
            refine AllReadyIn.cons rfl (fun K hK => ?_) AllReadyIn.nil
            · go_simp
              refine ⟨trivial, ?_⟩
              gi_at_call 36
              refine (CallsIn.inRound l (callsIn_wide.2 (HJ _ hBd).out)).mono ?_
              rintro e w5 ⟨rfl, hB5⟩
              have hc5 := Below.keeps hB5 _ _ hcd
              have hB6 := below_tr hBd hB5
              have hv5 : Boxed w5 w2.heap.size 23 v := (hB6.block _ hv.lt).trans hv
              have hown5 := own_below hown hB6
              have hn5 := Nat.le_trans hn0 hB6.size
              have hc6 := cell_al hc5 (.cells #[.string jx] 9)
              obtain ⟨g1, cap1, w1', happ, hown', hgr⟩ := run_apx (P := Tryd.prog) 23 23 w3.heap.size 9 Tryd.underlying23 infoStrD rfl (by decide) (by decide) _ _ _ hown5 [.string jx] rfl (by simp [Value.oneCell']) (by omega) hn5
              have hv1 := hv5.kept hgr (hv5.not_row hte hown5)
              have hc1 := hv1.cell
              have hf1 := hv1.frozen
              have HP := hid (InvA.push (x := jx) hv5 hte hown5 (below_tr hBb hB6) hn5 (by omega) (Nat.le_refl _) hown' hgr)
              gi_wp2_with fail
              refine wpAnyIn_ready (rs := [3]) (by kernel_rfl) (by simp) ?_
              refine AllReadyIn.cons rfl (fun K hK => ?_) AllReadyIn.nil
              · go_simp
                refine hK _ _ ?_
                clear hK K
                refine wpAnyIn_ready (rs := [4]) (by kernel_rfl) (by simp) ?_
                refine AllReadyIn.cons rfl (fun K hK => ?_) AllReadyIn.nil
                · go_simp
                  refine hK _ _ ?_
                  clear hK K
                  refine wpAnyIn_ready (rs := [5]) (by kernel_rfl) (by simp) ?_
                  refine AllReadyIn.cons rfl (fun K hK => ?_) AllReadyIn.nil
                  · go_simp
                    refine hK _ _ ?_
                    clear hK K
                    refine wpAnyIn_done (by kernel_rfl) ?_ _
                    exact ⟨(keepsFrom_below hB6).trans HP.out.1, (kpX_below hB6 hn0).tr HP.out.2.1, HP.out.2.2⟩
          · go_simp
            refine ⟨trivial, ?_⟩
            gi_at_call 36
            refine (CallsIn.inRound l (callsIn_wide.2 (HJ _ hBd).out)).mono ?_
            rintro e w5 ⟨rfl, hB5⟩
            have hc5 := Below.keeps hB5 _ _ hcd
            have hB6 := below_tr hBd hB5
            have hv5 : Boxed w5 w2.heap.size 23 v := (hB6.block _ hv.lt).trans hv
            have hown5 := own_below hown hB6
            have hn5 := Nat.le_trans hn0 hB6.size
            have hc6 := cell_al hc5 (.cells #[.string jx] 9)
            obtain ⟨g1, cap1, w1', happ, hown', hgr⟩ := run_apx (P := Tryd.prog) 23 23 w3.heap.size 9 Tryd.underlying23 infoStrD rfl (by decide) (by decide) _ _ _ hown5 [.string jx] rfl (by simp [Value.oneCell']) (by omega) hn5
            have hv1 := hv5.kept hgr (hv5.not_row hte hown5)
            have hc1 := hv1.cell
            have hf1 := hv1.frozen
            have HP := hid (InvA.push (x := jx) hv5 hte hown5 (below_tr hBb hB6) hn5 (by omega) (Nat.le_refl _) hown' hgr)
            gi_wp2_with fail
            refine wpAnyIn_ready (rs := [0, 3]) (by kernel_rfl) (by simp) ?_
            refine AllReadyIn.cons rfl (fun K hK => ?_) (AllReadyIn.cons rfl (fun K hK => ?_) AllReadyIn.nil)
            · go_simp
              refine hK _ _ ?_
              clear hK K
              refine wpAnyIn_ready (rs := [3]) (by kernel_rfl) (by simp) ?_
              refine AllReadyIn.cons rfl (fun K hK => ?_) AllReadyIn.nil
              · go_simp
                refine hK _ _ ?_
                clear hK K
                refine wpAnyIn_ready (rs := [4]) (by kernel_rfl) (by simp) ?_
                refine AllReadyIn.cons rfl (fun K hK => ?_) AllReadyIn.nil
                · go_simp
                  refine hK _ _ ?_
                  clear hK K
                  refine wpAnyIn_ready (rs := [5]) (by kernel_rfl) (by simp) ?_
                  refine AllReadyIn.cons rfl (fun K hK => ?_) AllReadyIn.nil
                  · go_simp
                    refine hK _ _ ?_
                    clear hK K
                    refine wpAnyIn_done (by kernel_rfl) ?_ _
                    exact ⟨(keepsFrom_below hB6).trans HP.out.1, (kpX_below hB6 hn0).tr HP.out.2.1, HP.out.2.2⟩
            · go_simp
              refine hK _ _ ?_
              clear hK K
              refine wpAnyIn_ready (rs := [0]) (by kernel_rfl) (by simp) ?_
              refine AllReadyIn.cons rfl (fun K hK => ?_) AllReadyIn.nil
              · go_simp
                refine hK _ _ ?_
                clear hK K
                refine wpAnyIn_ready (rs := [4]) (by kernel_rfl) (by simp) ?_
                refine AllReadyIn.cons rfl (fun K hK => ?_) AllReadyIn.nil
                · go_simp
                  refine hK _ _ ?_
                  clear hK K
                  refine wpAnyIn_ready (rs := [5]) (by kernel_rfl) (by simp) ?_
                  refine AllReadyIn.cons rfl (fun K hK => ?_) AllReadyIn.nil
                  · go_simp
                    refine hK _ _ ?_
                    clear hK K
                    refine wpAnyIn_done (by kernel_rfl) ?_ _
                    exact ⟨(keepsFrom_below hB6).trans HP.out.1, (kpX_below hB6 hn0).tr HP.out.2.1, HP.out.2.2⟩
      case done =>
        rintro D ys W' hD hys ⟨⟨v, hv, hown⟩, hBb, hn0⟩ hK
        have hc := hv.cell
        have hr := Rd.of_own hown
        go_wp2_with fail
        refine ⟨by simp, .inl ⟨_, _, rfl, run_takeDeferred hK, ?_⟩⟩
        refine leave2 rfl ⟨_, by rw [HI.out, hn]; rfl, ?_, ?_⟩
        · rw [HR.out, if_pos hn, ← hys, List.map_map]
          exact Rd.of_own (ownsRow_putObj hown _ hK rfl)
        · exact below_tr HB2.out (hBb.grown (grownBy_putObj' _ D _) hBb.size (fun k e => by cases e; omega))
    · have HL : Hid (setR st s = []) := by rw [HR.out, if_neg hn]; rfl
      have hb : (noteI s == 0) = false := by simpa using hn
      have HI2 := hid HI.out
      generalize noteI s = ne at *
      go_upto_region 5 with fail
      go_wp2_with fail
      exact leave2 rfl ⟨_, by rw [HI2.out]; rfl, by rw [HL.out]; exact Rd.nil _, HB2.out⟩
  · have HI : Hid (setI st s = styleI st) := by unfold setI; rw [if_pos h0]; rfl
    have HR : Hid (setR st s = []) := by unfold setR; rw [HI.out, if_neg h0]; rfl
    have hb : (styleI st == 0) = false := by simpa using h0
    clear HT hm hm0
    generalize styleI st = se at *
    unfold St.cells at *
    refine callsIn_of_wp_marks Tryd.func15 rfl trivial ?_ rfl
    simp only [Tryd.ntmps15, List.size_toArray, List.length_cons, List.length_nil, Nat.reduceAdd, Nat.reduceSub, Array.replicate_succ, Array.replicate_zero, List.push_toArray, List.append_toArray, List.nil_append, List.cons_append]
    gi_wp2_with (first | (refine ⟨trivial, ?_⟩; gi_at_call 18; refine (callsIn_wide.2 (HS _).out).mono ?_; rintro e w1 ⟨rfl, hB1⟩))
    exact leave2 rfl ⟨_, by rw [HI.out]; rfl, by rw [HR.out]; exact Rd.nil _, below_tr hb0 (by assumption)⟩
end Go.Proofs.YtlneimjenjpbnaaDoor
