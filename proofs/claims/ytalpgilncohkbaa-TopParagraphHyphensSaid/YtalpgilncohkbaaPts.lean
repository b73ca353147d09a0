/-
  hyphenation.points, hyphenation.Points.
-/
import Derived.Test.YtalpgilncohkbaaLev
import Derived.Test.YtalpgilncohkbaaTwr
namespace Go.Proofs.Ytalpgilncohkbaa
open Go.RowKit

/-- Where the i-th unit begins. -/
def offN (L : List ByteArray) (i : Nat) : Nat := ((L.take i).map (·.size)).sum
def ptOk (L : List ByteArray) (V : List Int) (i : Nat) : Bool := ((V.getD i 0).tmod 2 == 1) && (decide (1 ≤ i) && decide (i + 3 ≤ L.length))
def ptN (L : List ByteArray) (V : List Int) : Nat → List Nat
  | 0 => []
  | i + 1 => ptN L V i ++ (if ptOk L V i = true then [offN L (i + 1)] else [])
def ptsF (P : List Grp) (s : ByteArray) : List Nat := ptN (clL s) (levF P s) (levF P s).length
theorem offN_succ {L : List ByteArray} {i : Nat} {x : ByteArray} (h : L[i]? = some x) : offN L (i + 1) = offN L i + x.size := by
  unfold offN
  rw [List.take_add_one, h, List.map_append, List.sum_append]
  simp
theorem ptN_len (L : List ByteArray) (V : List Int) : ∀ i, (ptN L V i).length ≤ i
  | 0 => Nat.le_refl _
  | i + 1 => by
    rw [ptN, List.length_append]
    have := ptN_len L V i
    split
    · simp; omega
    · simp; omega
theorem tile_off {s : ByteArray} : ∀ (l : List (Nat × Nat)) (f i : Nat), Tile f s.size l → i ≤ l.length → f + (((l.map fun p => s.extract p.1 p.2).take i).map (·.size)).sum ≤ s.size ∧ i ≤ (((l.map fun p => s.extract p.1 p.2).take i).map (·.size)).sum
  | l, f, 0, h, _ => by
    refine ⟨?_, by simp⟩
    simp only [List.take_zero, List.map_nil, List.sum_nil]
    cases l with
    | nil => have h2 : f = s.size := h; omega
    | cons p r =>
      have key : ∀ (l : List (Nat × Nat)) (f : Nat), Tile f s.size l → f ≤ s.size := by
        intro l
        induction l with
        | nil => intro f h; have h2 : f = s.size := h; omega
        | cons p r ih => intro f h; have h3 := ih _ h.2.2; have h4 := h.2.1; omega
      have := key _ _ h; omega
  | [], _, i + 1, _, hi => by simp at hi
  | p :: r, f, i + 1, h, hi => by
    have ih := tile_off r p.2 i h.2.2 (by simpa using hi)
    have h1 := h.1
    have h2 := h.2.1
    have h3 : p.2 ≤ s.size := by omega
    have h4 : (s.extract p.1 p.2).size = p.2 - p.1 := by rw [ByteArray.size_extract]; omega
    rw [List.map_cons, List.take_succ_cons, List.map_cons, List.sum_cons, h4]
    omega
theorem clL_map (s : ByteArray) : clL s = (cl s.data.toList).map fun p => s.extract p.1 p.2 := by unfold clL clP; rw [List.map_map]; rfl
theorem offN_bd {s : ByteArray} {i : Nat} (h : i ≤ clN s) : offN (clL s) i ≤ s.size ∧ i ≤ offN (clL s) i := by
  have ht : Tile 0 s.size (cl s.data.toList) := cl_tile s.data.toList
  have hl : (cl s.data.toList).length = clN s := by
    have := clL_len s
    rw [clL_map, List.length_map] at this
    exact this
  have h1 := tile_off _ 0 i ht (by omega)
  unfold offN
  rw [clL_map]
  omega
/-- The numbers go up from f on, below k. -/
def Upw (f : Nat) : List Nat → Nat → Prop
  | [], k => f < k
  | x :: r, k => f < x ∧ Upw x r k
theorem Upw.weak : ∀ {L : List Nat} {f k l : Nat}, Upw f L k → k ≤ l → Upw f L l
  | [], _, _, _, h, hl => Nat.lt_of_lt_of_le h hl
  | _ :: _, _, _, _, h, hl => ⟨h.1, Upw.weak h.2 hl⟩
theorem Upw.snoc : ∀ {L : List Nat} {f k l : Nat}, Upw f L k → k < l → Upw f (L ++ [k]) l
  | [], _, _, _, h, hl => ⟨h, hl⟩
  | _ :: _, _, _, _, h, hl => ⟨h.1, Upw.snoc h.2 hl⟩
theorem Upw.lt : ∀ {L : List Nat} {f k : Nat}, Upw f L k → f < k
  | [], _, _, h => h
  | _ :: _, _, _, h => Nat.lt_trans h.1 (Upw.lt h.2)
theorem ptN_up (s : ByteArray) (V : List Int) : ∀ i, i + 1 ≤ clN s → Upw 0 (ptN (clL s) V i) (offN (clL s) (i + 1))
  | 0, h => by have := offN_bd h; show 0 < _; omega
  | i + 1, h => by
    have ih := ptN_up s V i (by omega)
    have hx : ∃ x, (clL s)[i + 1]? = some x := ⟨_, List.getElem?_eq_getElem (by rw [clL_len]; omega)⟩
    obtain ⟨x, hx⟩ := hx
    have hlt : offN (clL s) (i + 1) < offN (clL s) (i + 1 + 1) := by
      have e := offN_succ hx
      have hs : 0 < x.size := by
        rw [clL_map, List.getElem?_map] at hx
        cases hp : (cl s.data.toList)[i + 1]? with
        | none => rw [hp] at hx; cases hx
        | some p =>
          rw [hp] at hx
          cases hx
          have key : ∀ (l : List (Nat × Nat)) (f : Nat), Tile f s.size l → ∀ p ∈ l, p.1 < p.2 ∧ p.2 ≤ s.size := by
            intro l
            induction l with
            | nil => intro f _ p hp; cases hp
            | cons q r ih =>
              intro f h p hp
              have hq : ∀ (l : List (Nat × Nat)) (f : Nat), Tile f s.size l → f ≤ s.size := by
                intro l
                induction l with
                | nil => intro f h; have h2 : f = s.size := h; omega
                | cons p r ih => intro f h; have h3 := ih _ h.2.2; have h4 := h.2.1; omega
              rcases List.mem_cons.1 hp with rfl | hp
              · have h1 := h.1; have h2 := h.2.1; have h3 := hq _ _ h.2.2; omega
              · exact ih _ h.2.2 p hp
          have h2 := key _ 0 (cl_tile s.data.toList) p (List.mem_of_getElem? hp)
          rw [ByteArray.size_extract]; omega
      omega
    rw [ptN]
    split
    · exact ih.snoc hlt
    · rw [List.append_nil]; exact ih.weak (by omega)
/-- The points go up within the word. -/
theorem ptsF_up (P : List Grp) (s : ByteArray) (h : 1 ≤ s.size) : Upw 0 (ptsF P s) s.size := by
  have hc := lev_word h
  have hl := levF_len P s
  have h1 := ptN_up s (levF P s) (levF P s).length (by omega)
  have h2 := offN_bd (s := s) (i := (levF P s).length + 1) (by omega)
  exact h1.weak h2.1

set_option maxRecDepth 100000 in
set_option maxHeartbeats 4000000 in
theorem points_any (v : Value) (P : List Grp) (s : ByteArray) (w : World) (hv : RdG w v P) (hz : SzG P) (hP : P.length ≤ 4096) (hok : ∀ g ∈ P, ckPat g.name g.mem = 0) (hs : s.size ≤ 20) (hs1 : 1 ≤ s.size) :
    Calls Try.prog 24 #[v, .string s] w fun e w' => ∃ v1 v2, e = .returned (.tuple #[v1, v2]) ∧ RdI w' v1 ((ptsF P s).map Int.ofNat) ∧ Below w.heap.size w w' := by
  have HU := hid (hunits_any s w (by omega))
  have HLV := hid (fun w' (h : RdG w' v P) => lev_any v P s w' h hz hP hok hs hs1)
  have HV := hid hv
  have hcl := clL_len s
  have hc2 := clN_le s
  have hc1 := lev_word hs1
  have HCL := hid hcl
  have HLL := hid (levF_len P s)
  obtain ⟨aP, cP, rfl, _, _, _⟩ := hv.open
  clear hv hz hok hcl
  go_enter Try.func24, Try.ntmps24
  go_wp2_with fail
  refine HU.out.mono ?_
  rintro e w2 ⟨vu, rfl, hvu, hb2⟩
  have HVU := hid hvu
  have HV2 := hid (HV.out.below hb2)
  have HB2 := hid hb2
  obtain ⟨au, cu, rfl, _, _, _⟩ := hvu.open
  clear hvu hb2 HU HV
  go_wp2_with fail
  refine (HLV.out _ HV2.out).mono ?_
  rintro e w3 ⟨vl, rfl, hvl, hb3⟩
  have HVU3 := hid (HVU.out.below hb3)
  have HB3 := hid (below_tr HB2.out hb3)
  have HLr := hid hvl
  obtain ⟨V, hV⟩ : ∃ V, V = levF P s := ⟨_, rfl⟩
  obtain ⟨L, hL⟩ : ∃ L, L = clL s := ⟨_, rfl⟩
  rw [← hV] at HLr HLL hvl
  rw [← hL] at HCL HVU3 ⊢
  have HPV : Hid (ptsF P s = ptN L V V.length) := by show _ = _; rw [hV, hL]; rfl
  have HOF : Hid (∀ i, i ≤ L.length → offN L i ≤ s.size) := fun i hi => by rw [hL]; exact (offN_bd (by rw [← HCL.out]; exact hi)).1
  have hl20 : L.length ≤ 20 := by rw [HCL.out]; omega
  have hvL : V.length + 1 ≤ L.length := by rw [HCL.out, HLL.out]; omega
  obtain ⟨al, cl', rfl, _, _, _⟩ := hvl.open
  clear hvl hb3 HV2 HVU HB2 HLV hV hL
  go_wp2_with fail
  obtain ⟨W0, rfl⟩ : ∃ W0 : World, W0 = w3 := ⟨_, rfl⟩
  go_loopw [6, 7, 9, 18] (fun v1 v2 o i wr => ∃ (k : Nat) (H : List Int), k ≤ V.length ∧ i = .int .i64 k ∧ o = .int .i64 (offN L k : Nat) ∧ Hid (TwI wr W0.heap.size v1 v2 ((ptN L V k).map Int.ofNat) H) ∧ H.length ≤ k ∧ Hid (Below W0.heap.size W0 wr)) (fun _ _ _ i _ => V.length - (intOf i).toNat)
  case atStart => exact ⟨0, [], Nat.zero_le _, rfl, rfl, TwI.nil _ _, Nat.le_refl _, Below.refl _ _⟩
  case round =>
    obtain ⟨k, H, hk, rfl, rfl, HT, hH, HB⟩ := hrel
    by_cases hlt : k < V.length
    · have hti : (k : Int) < (V.length : Int) := by omega
      have hk0 : (0 : Int) ≤ (k : Int) := by omega
      obtain ⟨lv, bl, ol, hlv, rfl, hcl0⟩ := HLr.out.open51 hlt
      obtain ⟨u, bu, ou, hu, rfl, hcu0⟩ := HVU3.out.open51 (i := k) (by omega)
      have hcl := Below.keeps HB.out _ _ hcl0
      have hcu := Below.keeps HB.out _ _ hcu0
      have hkL : (k : Int) < (L.length : Int) := by omega
      have HO1 := hid (offN_succ hu)
      have hob := HOF.out (k + 1) (by omega)
      rw [HO1.out] at hob
      have hwo : IntKind.i64.wrap ((offN L k : Nat) + (u.size : Int)) = ((offN L k : Nat) : Int) + (u.size : Int) := IntWalk.i64_in _ (by omega)
      have HPK : Hid (ptN L V (k + 1) = ptN L V k ++ (if ptOk L V k = true then [offN L (k + 1)] else [])) := rfl
      have HOKd : Hid (ptOk L V k = ((lv.tmod 2 == 1) && (decide (1 ≤ k) && decide (k + 3 ≤ L.length)))) := by show _ = _; unfold ptOk; rw [List.getD_eq_getElem?_getD, hlv]; rfl
      have hws1 : IntKind.i64.wrap ((L.length : Int) - (k : Int)) = (L.length : Int) - (k : Int) := IntWalk.i64_in _ (by omega)
      have hws2 : IntKind.i64.wrap ((L.length : Int) - (k : Int) - 1) = (L.length : Int) - (k : Int) - 1 := IntWalk.i64_in _ (by omega)
      obtain ⟨Q, hQ⟩ : ∃ Q, Q = (ptN L V k).map Int.ofNat := ⟨_, rfl⟩
      have hQl : Q.length ≤ k := by rw [hQ, List.length_map]; exact ptN_len L V k
      rw [← hQ] at HT
      have HQ := hid hQ
      have o1 := HT.out.o1
      have hsz := HB.out.size
      clear hcl0 hcu0 hlv hu hQ
      by_cases t1 : lv.tmod 2 = 1
      · have b1 : (lv.tmod 2 == 1) = true := beq_iff_eq.2 t1
        by_cases t2 : 1 ≤ k
        · have b2 : (1 : Int) ≤ (k : Int) := by omega
          by_cases t3 : k + 3 ≤ L.length
          · have b3 : (2 : Int) ≤ (L.length : Int) - (k : Int) - 1 := by omega
            have HNQ : Hid ((ptN L V (k + 1)).map Int.ofNat = Q ++ [((offN L k : Nat) : Int) + (u.size : Int)]) := by
              show _ = _
              rw [HPK.out, HOKd.out, b1, decide_eq_true t2, decide_eq_true t3, if_pos (show (true && (true && true)) = true from rfl), List.map_append, ← HQ.out, HO1.out]
              rfl
            go_wp2_with (at_builtin; first
              | (refine wpList_ap2 rfl (.tmp 45) _ 38 rfl W0.heap.size 3 Try.underlying38 infoCI rfl (by decide) (by decide) _ _ _ rfl o1 [.int .i64 (((offN L k : Nat) : Int) + (u.size : Int))] rfl (by simp [Value.oneCell']) rfl (by simp) (by omega) hsz ?_; intro g1 cap1 w8 hown' hb8 hgr hat _; have T1 := hid (HT.out.push1 (((offN L k : Nat) : Int) + (u.size : Int)) hown' hgr hat); have o2 := T1.out.o2; have hs8 : W0.heap.size ≤ w8.heap.size := Nat.le_trans hsz hb8.size; clear hown' hgr hat)
              | (refine wpList_ap2 rfl (.tmp 49) _ 38 rfl W0.heap.size 3 Try.underlying38 infoCI rfl (by decide) (by decide) _ _ _ rfl o2 [.int .i64 lv] rfl (by simp [Value.oneCell']) rfl (by simp) (by omega) hs8 ?_; intro g2 cap2 w9 hown' hb9 hgr hat _; have T2 := hid (T1.out.push2 lv hown' hgr hat); clear hown' hgr hat))
            go_roundw
            case rel => exact ⟨k + 1, H ++ [lv], by omega, by go_num, by rw [HO1.out, Int.natCast_add], hid (by have h := T2.out; rw [← HNQ.out] at h; first | exact h | (rw [HNQ.out]; rw [HNQ.out] at h; simpa using h)), by simp; omega, hid ((HB.out.trans hb8).trans hb9)⟩
            case measure => simp [intOf]; omega
          · have b3 : ¬ (2 : Int) ≤ (L.length : Int) - (k : Int) - 1 := by omega
            have HNQ : Hid ((ptN L V (k + 1)).map Int.ofNat = Q) := by
              show _ = _
              rw [HPK.out, HOKd.out, b1, decide_eq_true t2, decide_eq_false t3, if_neg (by simp), List.append_nil, ← HQ.out]
            go_wp2_with fail
            go_roundw
            case rel => exact ⟨k + 1, H, by omega, by go_num, by rw [HO1.out, Int.natCast_add], by have h := HT.out; rw [← HNQ.out] at h; exact h, by omega, HB.out⟩
            case measure => simp [intOf]; omega
        · have b2 : ¬ (1 : Int) ≤ (k : Int) := by omega
          have HNQ : Hid ((ptN L V (k + 1)).map Int.ofNat = Q) := by
            show _ = _
            rw [HPK.out, HOKd.out, b1, decide_eq_false t2, if_neg (by simp), List.append_nil, ← HQ.out]
          go_wp2_with fail
          go_roundw
          case rel => exact ⟨k + 1, H, by omega, by go_num, by rw [HO1.out, Int.natCast_add], by have h := HT.out; rw [← HNQ.out] at h; exact h, by omega, HB.out⟩
          case measure => simp [intOf]; omega
      · have b1 : (lv.tmod 2 == 1) = false := beq_eq_false_iff_ne.2 t1
        have HNQ : Hid ((ptN L V (k + 1)).map Int.ofNat = Q) := by
          show _ = _
          rw [HPK.out, HOKd.out, b1, Bool.false_and, if_neg (by simp), List.append_nil, ← HQ.out]
        go_wp2_with fail
        go_roundw
        case rel => exact ⟨k + 1, H, by omega, by go_num, by rw [HO1.out, Int.natCast_add], by have h := HT.out; rw [← HNQ.out] at h; exact h, by omega, HB.out⟩
        case measure => simp [intOf]; omega
    · obtain rfl : k = V.length := by omega
      have hti : ¬ (V.length : Int) < (V.length : Int) := by omega
      go_wp2_with fail
      refine bodyPost_ret (results_tmp2 rfl _ _ _) rfl ?_
      have h1 := HT.out.rd1
      rw [← HPV.out] at h1
      have h2 := below_tr HB3.out HB.out
      exact ⟨_, ⟨_, rfl⟩, h1, h2⟩
set_option maxHeartbeats 1000000 in
theorem hpoints_any (v : Value) (P : List Grp) (s : ByteArray) (w : World) (hv : RdG w v P) (hz : SzG P) (hs : s.size ≤ 20) :
    Calls Try.prog 10 #[v, .string s] w fun e w' => ∃ v1, e = .returned (.tuple #[v1, .int .i64 (hckI P s)]) ∧ (hckI P s = 0 → RdI w' v1 ((ptsF P s).map Int.ofNat)) ∧ Below w.heap.size w w' := by
  have HC := hid (hck_any v P s w hv hz (by omega))
  obtain ⟨aP, cP, rfl, _, _, _⟩ := hv.open
  by_cases h0 : hckI P s = 0
  · have HPT := hid (fun w' (h : RdG w' (.slice aP P.length cP) P) => by
      have hc := h0
      unfold hckI at hc
      split at hc
      · cases hc
      rename_i h1
      split at hc
      · cases hc
      rename_i h2
      have h3 := hchkI_ok (Classical.not_not.1 h1)
      have h4 : isWordB s = true := by simpa using h2
      have h5 : 1 ≤ s.size := by
        unfold isWordB at h4
        simp only [Bool.and_eq_true, decide_eq_true_eq] at h4
        have := h4.1.1.1.1
        omega
      exact points_any (.slice aP P.length cP) P s w' h hz h3.1 h3.2 hs h5)
    have HV := hid hv
    have HE := hid h0
    rw [h0] at HC
    clear hv hz h0
    go_enter Try.func10, Try.ntmps10
    go_wp2_with fail
    refine HC.out.mono ?_
    rintro e w1 ⟨rfl, hb1⟩
    go_wp2_with fail
    refine (HPT.out _ (HV.out.below hb1)).mono ?_
    rintro e w2 ⟨v1, v2, rfl, hv1, hb2⟩
    go_wp2
    refine bodyPost_ret (results_tmp2 rfl _ _ _) rfl ?_
    exact ⟨_, by rw [HE.out]; rfl, fun _ => hv1, below_tr hb1 hb2⟩
  · have g2 : (hckI P s != 0) = true := bne_iff_ne.2 h0
    have HN := hid h0
    clear hv h0
    generalize hckI P s = E at *
    go_enter Try.func10, Try.ntmps10
    go_wp2_with fail
    refine HC.out.mono ?_
    rintro e w1 ⟨rfl, hb1⟩
    go_wp2
    refine bodyPost_ret (results_tmp2 rfl _ _ _) rfl ?_
    exact ⟨_, rfl, fun h => absurd h HN.out, hb1⟩
end Go.Proofs.Ytalpgilncohkbaa
