/-
  The reference's Order.
-/
import Derived.Test.YtajhkfmhoihjfaaDoorPlO
namespace Go.Proofs.YtajhkfmhoihjfaaDoor
open Go.RowKit

theorem lt_cases {l1 l2 : List Int} {i y : Nat} {li ly ai ay : Int} (h1 : l2[i]? = some li) (h2 : l2[y]? = some ly) (h3 : l1[i]? = some ai) (h4 : l1[y]? = some ay) :
    (ltN l2 l1 i y = true ∧ (li < ly ∨ (ly = li ∧ ai < ay))) ∨ (ltN l2 l1 i y = false ∧ (ly < li ∨ (ly = li ∧ ay ≤ ai))) := by
  have h := ltN_iff l2 l1 i y
  rw [List.getD_eq_getElem?_getD, List.getD_eq_getElem?_getD, List.getD_eq_getElem?_getD, List.getD_eq_getElem?_getD, h1, h2, h3, h4] at h
  simp only [Option.getD_some] at h
  cases hl : ltN l2 l1 i y with
  | true => left; exact ⟨rfl, by have := h.1 hl; omega⟩
  | false =>
    right
    refine ⟨rfl, ?_⟩
    have : ¬ (li < ly ∨ (li = ly ∧ ai < ay)) := fun h5 => by rw [h.2 h5] at hl; cases hl
    omega
theorem row_set (A B : List Nat) (z x : Nat) : ((A ++ z :: B).map encN).set A.length (encN x) = (A ++ x :: B).map encN := by
  rw [List.map_append, List.map_append, List.set_append_right _ _ (by simp)]
  simp

set_option maxHeartbeats 8000000 in
set_option maxRecDepth 100000 in
theorem rorder_any (v1 v2 : Value) (l1 l2 : List Int) (w : World) (hr1 : RdI w v1 l1) (hr2 : RdI w v2 l2) (h1 : l1.length ≤ 12) (h2 : l2.length ≤ 12) :
    Calls Tryd.prog 33 #[v1, v2] w fun e w' => ∃ v, e = .returned (.tuple #[v, .int .i64 (ordI l1 l2)]) ∧ RdI w' v (natI (ordL l1 l2)) ∧ Below w.heap.size w w' := by
  have HI : Hid (ordI l1 l2 = if l1.length = l2.length then 0 else 9) := rfl
  have HL : Hid (ordL l1 l2 = if l1.length = l2.length then srtL (ltN l2 l1) (List.range l1.length) else []) := rfl
  obtain ⟨a1, cap1, rfl, hc1, hm1, hcell1⟩ := hr1.open
  obtain ⟨a2, cap2, rfl, hc2, hm2, hcell2⟩ := hr2.open
  have q1 : ¬ (4096 : Int) < (l1.length : Int) := by omega
  have q2 : ¬ (4096 : Int) < (l2.length : Int) := by omega
  have HC1 := hid hcell1
  have HC2 := hid hcell2
  clear hcell1 hcell2 hr1 hr2
  by_cases heq : l1.length = l2.length
  · have HI2 : Hid (ordI l1 l2 = 0) := by rw [HI.out, if_pos heq]; rfl
    have HL2 : Hid (ordL l1 l2 = srtL (ltN l2 l1) (List.range l1.length)) := by rw [HL.out, if_pos heq]; rfl
    have HEQ := hid heq
    have q3 : ((l1.length : Int) != (l2.length : Int)) = false := by simp [heq]
    clear HI HL heq
    go_enter Tryd.func33, Tryd.ntmps33
    go_wp2
    obtain ⟨W2, hW2⟩ : ∃ W2, W2 = w.alloc (.cells #[] 3) := ⟨_, rfl⟩
    have HB2 : Hid (Below w.heap.size w W2) := by rw [hW2]; exact below_al _ _
    have HOWN0 : Hid (W2.ownsRow w.heap.size 3 1 (.slice (some ⟨w.heap.size, 0, none⟩) 0 0) 0 []) := by rw [hW2]; exact World.ownsRow_made w #[] 0 (Nat.le_refl _) (by unfold maxLen; omega) rfl
    go_loopw [6, 7] (fun o i wr => ∃ (k g cap : Nat) (S : List Nat), k ≤ l1.length ∧ i = .int .i64 k ∧ o = .slice (some ⟨g, 0, none⟩) k cap ∧ Hid (S = srtL (ltN l2 l1) (List.range k)) ∧ Hid (wr.ownsRow w.heap.size 3 1 (.slice (some ⟨g, 0, none⟩) k cap) k (S.map encN)) ∧ Hid (Below w.heap.size w wr)) (fun _ i _ => l1.length - (intOf i).toNat)
    case atStart => exact ⟨0, _, _, [], by omega, rfl, rfl, rfl, by rw [← hW2]; exact HOWN0.out, by rw [← hW2]; exact HB2.out⟩
    case round =>
      clear HOWN0 HB2 hW2
      obtain ⟨k, g, cap, S, hk, rfl, rfl, HSE, HOWN, HB⟩ := hrel
      by_cases hlt : k < l1.length
      · obtain ⟨ai, ba, oa, hai, rfl, hca0⟩ := HC1.out k hlt
        obtain ⟨li, bl, ol, hli, rfl, hcl0⟩ := HC2.out k (by have := HEQ.out; omega)
        have hslen : S.length = k := by rw [HSE.out, (srtL_perm _ _).length_eq, List.length_range]
        have hsm : ∀ y ∈ S, y < k := fun y hy => by
          have h := HSE.out
          rw [h] at hy
          exact List.mem_range.1 ((srtL_perm _ _).mem_iff.1 hy)
        have HSL := hid hslen
        have HSM := hid hsm
        have HAI := hid hai
        have HLI := hid hli
        have HCA := hid hca0
        have HCL := hid hcl0
        have HSN : Hid (srtL (ltN l2 l1) (List.range (k + 1)) = insR (ltN l2 l1) S k) := by show _ = _; rw [List.range_succ, srtL_snoc, HSE.out]
        have hki : (k : Int) < (l1.length : Int) := by omega
        have hki2 : (k : Int) < (l2.length : Int) := by have := HEQ.out; omega
        have HSZ := hid HB.out.size
        have hown := HOWN.out
        clear hslen hsm hai hli hca0 hcl0 HSE HOWN
        go_wp2_with (at_builtin; refine wpList_ap2 rfl _ _ 50 rfl w.heap.size 3 Tryd.underlying50 infoIntO rfl (by decide) (by decide) _ _ _ rfl hown [.int .i64 (k : Int)] rfl (by simp [Value.oneCell']) rfl (by simp) (by omega) HSZ.out ?_; intro g9 cap9 w9 hown9 hb9 _ _ _; have HOWN9 := hid hown9; have HB9 := hid (HB.out.trans hb9); clear hown hown9 hb9 HB)
        have HROW9 : Hid (w9.ownsRow w.heap.size 3 1 (.slice (some ⟨g9, 0, none⟩) (k + 1) cap9) (k + 1) ((S ++ k :: []).map encN)) := by rw [List.map_append]; exact HOWN9.out
        clear HOWN9
        obtain ⟨wo, rfl⟩ : ∃ wo : World, wo = w9 := ⟨_, rfl⟩
        go_loopw [8] (fun kk wi => ∃ (q z : Nat) (Al Bl : List Nat), kk = .int .i64 q ∧ q ≤ k ∧ Hid (Al.length = q) ∧ Hid (S = Al ++ Bl) ∧ Hid (∀ y ∈ Bl, ltN l2 l1 k y = true) ∧ Hid (wi.ownsRow w.heap.size 3 1 (.slice (some ⟨g9, 0, none⟩) (k + 1) cap9) (k + 1) ((Al ++ z :: Bl).map encN)) ∧ Hid (Below w.heap.size w wi)) (fun kk _ => (intOf kk).toNat)
        case atStart => exact ⟨k, k, S, [], rfl, Nat.le_refl _, HSL.out, by simp [Hid], by simp [Hid], HROW9.out, HB9.out⟩
        case round =>
          clear HROW9 HB9
          obtain ⟨q, z, Al, Bl, rfl, hqk, HQ, HSA, HBL, HOWN, HB⟩ := hrel
          have hown := HOWN.out
          have hcz : wr.cell? ⟨g9, q, none⟩ = some (.int .i64 (z : Int)) := by
            rw [hown.cellAt q (by omega), List.map_append, List.getElem?_append_right (by rw [List.length_map, HQ.out]; exact Nat.le_refl _), List.length_map, HQ.out, Nat.sub_self]; rfl
          have hfz := hown.frozenAt q
          have hst := hown.stored q (encN k)
          have HSTK : Hid ((wr.setCell ⟨g9, q, none⟩ (.int .i64 (k : Int))).ownsRow w.heap.size 3 1 (.slice (some ⟨g9, 0, none⟩) (k + 1) cap9) (k + 1) ((Al ++ k :: Bl).map encN)) := by
            have h := hst.1
            rw [← HQ.out, row_set] at h
            rw [← HQ.out]
            exact h
          have hgb := (hown.lt g9 rfl).1
          have HGB := hid hgb
          have HBK := hid (HB.out.setCell (p := ⟨g9, q, none⟩) hgb (.int .i64 (k : Int)))
          have hqi : (q : Int) < (k : Int) + 1 := by omega
          clear hst hown hgb
          rcases getLast?_cases Al with rfl | ⟨Am, y, rfl⟩
          · have hq0 : q = 0 := HQ.out.symm
            subst hq0
            have HSE2 : Hid (Bl = S) := HSA.out.symm
            have HNEW : Hid (srtL (ltN l2 l1) (List.range (k + 1)) = k :: Bl) := by show _ = _; rw [HSN.out, HSA.out]; exact insR_at [] Bl HBL.out (fun y hy => by cases hy)
            go_wp2
            go_quiet (fail)
            have hcz2 : (wr.drewN nq).cell? ⟨g9, 0, none⟩ = some (.int .i64 (z : Int)) := hcz
            have hfz2 : (wr.drewN nq).frozen? ⟨g9, 0, none⟩ = false := hfz
            have HSTK2 : Hid (((wr.drewN nq).setCell ⟨g9, 0, none⟩ (.int .i64 (k : Int))).ownsRow w.heap.size 3 1 (.slice (some ⟨g9, 0, none⟩) (k + 1) cap9) (k + 1) ((k :: Bl).map encN)) := HSTK.out
            have HBK2 : Hid (Below w.heap.size w ((wr.drewN nq).setCell ⟨g9, 0, none⟩ (.int .i64 (k : Int)))) := HBK.out.trans (b := wr.setCell ⟨g9, 0, none⟩ (.int .i64 (k : Int))) ⟨rfl, rfl, rfl, Nat.le_refl _, fun _ _ => rfl⟩
            clear hcz hfz HSTK HBK HOWN HB
            generalize wr.drewN nq = w3 at *
            go_wp2
            go_roundw
            case rel => exact ⟨k + 1, g9, cap9, _, by omega, by go_num, rfl, HNEW.out.symm, HSTK2.out, HBK2.out⟩
            case measure => simp [intOf]; omega
          · obtain ⟨p, rfl⟩ : ∃ p, q = p + 1 := ⟨Am.length, by rw [← HQ.out]; simp⟩
            have hp : Am.length = p := by have := HQ.out; simp at this; exact this
            have hyk := HSM.out y (by rw [HSA.out]; simp)
            have hyl : y < l1.length := by omega
            obtain ⟨ay, ba', oa', hay, ea, hcy0⟩ := HC1.out y hyl
            cases ea
            obtain ⟨ly, bl', ol', hly, el, hcz0⟩ := HC2.out y (by have := HEQ.out; omega)
            cases el
            have hcy : wr.cell? ⟨g9, p, none⟩ = some (.int .i64 (y : Int)) := by
              have h := HOWN.out
              rw [h.cellAt p (by omega), List.map_append, List.map_append, List.getElem?_append_left (by simp; omega), List.getElem?_append_right (by rw [List.length_map, hp]; exact Nat.le_refl _), List.length_map, hp, Nat.sub_self]; rfl
            have d1 := Below.keeps HB.out _ _ HCA.out
            have d2 := Below.keeps HB.out _ _ HCL.out
            have d3 := Below.keeps HB.out _ _ hcy0
            have d4 := Below.keeps HB.out _ _ hcz0
            have e1 : (0 : Int) < (p : Int) + 1 := by omega
            have e2 : decide ((p : Int) + 1 > 0) = true := decide_eq_true (by omega)
            have e3 : IntKind.i64.wrap (p : Int) = (p : Int) := IntWalk.i64_in _ (by omega)
            have e4 : (p : Int) < (k : Int) + 1 := by omega
            have e5 : (y : Int) < (l1.length : Int) := by omega
            have e6 : (y : Int) < (l2.length : Int) := by have := HEQ.out; omega
            have HP := hid hp
            have hcmp := lt_cases HLI.out hly HAI.out hay
            clear hp hay hly hcy0 hcz0
            rcases hcmp with ⟨hl, h3 | ⟨h3, h4⟩⟩ | ⟨hl, h3 | ⟨h3, h4⟩⟩
            · have t1 : decide (ly > li) = true := decide_eq_true (by omega)
              have HLT := hid hl
              clear hl
              have HST2 : Hid ((wr.setCell ⟨g9, p + 1, none⟩ (.int .i64 (y : Int))).ownsRow w.heap.size 3 1 (.slice (some ⟨g9, 0, none⟩) (k + 1) cap9) (k + 1) ((Am ++ y :: (y :: Bl)).map encN)) := by
                have h := (HOWN.out.stored (p + 1) (encN y)).1
                rw [← HQ.out, row_set, List.append_assoc, List.singleton_append] at h
                rw [← HQ.out]
                exact h
              have HBK3 := hid (HB.out.setCell (p := ⟨g9, p + 1, none⟩) HGB.out (.int .i64 (y : Int)))
              clear HSTK HBK
              go_wp2
              go_quiet (fail)
              have c1 : (wr.drewN nq).cell? _ = _ := hcz
              have c2 : (wr.drewN nq).cell? _ = _ := hcy
              have c3 : (wr.drewN nq).frozen? _ = _ := hfz
              have HST3 : Hid (((wr.drewN nq).setCell ⟨g9, p + 1, none⟩ (.int .i64 (y : Int))).ownsRow w.heap.size 3 1 (.slice (some ⟨g9, 0, none⟩) (k + 1) cap9) (k + 1) ((Am ++ y :: (y :: Bl)).map encN)) := HST2.out
              have HBK4 : Hid (Below w.heap.size w ((wr.drewN nq).setCell ⟨g9, p + 1, none⟩ (.int .i64 (y : Int)))) := HBK3.out.trans (b := wr.setCell ⟨g9, p + 1, none⟩ (.int .i64 (y : Int))) ⟨rfl, rfl, rfl, Nat.le_refl _, fun _ _ => rfl⟩
              have HSA2 : Hid (S = Am ++ (y :: Bl)) := by show _ = _; rw [HSA.out]; exact List.append_assoc Am [y] Bl
              have HBL2 : Hid (∀ z' ∈ y :: Bl, ltN l2 l1 k z' = true) := fun z' hz' => by
                rcases List.mem_cons.1 hz' with rfl | h
                · exact HLT.out
                · exact HBL.out z' h
              clear hcz hcy hfz d1 d2 d3 d4 HST2 HBK3 HOWN HB
              generalize wr.drewN nq = w3 at *
              go_wp2
              go_roundw
              case rel => exact ⟨p, y, Am, y :: Bl, by go_num, by omega, HP.out, HSA2.out, HBL2.out, HST3.out, HBK4.out⟩
              case measure => simp [intOf]
            · subst h3
              have t1 : decide (ay > ai) = true := decide_eq_true (by omega)
              have HLT := hid hl
              clear hl
              have HST2 : Hid ((wr.setCell ⟨g9, p + 1, none⟩ (.int .i64 (y : Int))).ownsRow w.heap.size 3 1 (.slice (some ⟨g9, 0, none⟩) (k + 1) cap9) (k + 1) ((Am ++ y :: (y :: Bl)).map encN)) := by
                have h := (HOWN.out.stored (p + 1) (encN y)).1
                rw [← HQ.out, row_set, List.append_assoc, List.singleton_append] at h
                rw [← HQ.out]
                exact h
              have HBK3 := hid (HB.out.setCell (p := ⟨g9, p + 1, none⟩) HGB.out (.int .i64 (y : Int)))
              clear HSTK HBK
              go_wp2
              go_quiet (fail)
              have c1 : (wr.drewN nq).cell? _ = _ := hcz
              have c2 : (wr.drewN nq).cell? _ = _ := hcy
              have c3 : (wr.drewN nq).frozen? _ = _ := hfz
              have HST3 : Hid (((wr.drewN nq).setCell ⟨g9, p + 1, none⟩ (.int .i64 (y : Int))).ownsRow w.heap.size 3 1 (.slice (some ⟨g9, 0, none⟩) (k + 1) cap9) (k + 1) ((Am ++ y :: (y :: Bl)).map encN)) := HST2.out
              have HBK4 : Hid (Below w.heap.size w ((wr.drewN nq).setCell ⟨g9, p + 1, none⟩ (.int .i64 (y : Int)))) := HBK3.out.trans (b := wr.setCell ⟨g9, p + 1, none⟩ (.int .i64 (y : Int))) ⟨rfl, rfl, rfl, Nat.le_refl _, fun _ _ => rfl⟩
              have HSA2 : Hid (S = Am ++ (y :: Bl)) := by show _ = _; rw [HSA.out]; exact List.append_assoc Am [y] Bl
              have HBL2 : Hid (∀ z' ∈ y :: Bl, ltN l2 l1 k z' = true) := fun z' hz' => by
                rcases List.mem_cons.1 hz' with rfl | h
                · exact HLT.out
                · exact HBL.out z' h
              clear hcz hcy hfz d1 d2 d3 d4 HST2 HBK3 HOWN HB
              generalize wr.drewN nq = w3 at *
              go_wp2
              go_roundw
              case rel => exact ⟨p, y, Am, y :: Bl, by go_num, by omega, HP.out, HSA2.out, HBL2.out, HST3.out, HBK4.out⟩
              case measure => simp [intOf]
            · have t1 : decide (ly > li) = false := decide_eq_false (by omega)
              have t2 : (ly == li) = false := by simp; omega
              have HNEW : Hid (srtL (ltN l2 l1) (List.range (k + 1)) = (Am ++ [y]) ++ k :: Bl) := by
                show _ = _
                rw [HSN.out, HSA.out]
                exact insR_at (Am ++ [y]) Bl HBL.out (fun z' hz' => by
                  have : y = z' := by simpa using hz'
                  subst this; exact hl)
              clear hl
              go_wp2
              go_quiet (fail)
              have c1 : (wr.drewN nq).cell? _ = _ := hcz
              have c3 : (wr.drewN nq).frozen? _ = _ := hfz
              have HSTK2 : Hid (((wr.drewN nq).setCell ⟨g9, p + 1, none⟩ (.int .i64 (k : Int))).ownsRow w.heap.size 3 1 (.slice (some ⟨g9, 0, none⟩) (k + 1) cap9) (k + 1) (((Am ++ [y]) ++ k :: Bl).map encN)) := HSTK.out
              have HBK2 : Hid (Below w.heap.size w ((wr.drewN nq).setCell ⟨g9, p + 1, none⟩ (.int .i64 (k : Int)))) := HBK.out.trans (b := wr.setCell ⟨g9, p + 1, none⟩ (.int .i64 (k : Int))) ⟨rfl, rfl, rfl, Nat.le_refl _, fun _ _ => rfl⟩
              clear hcz hcy hfz d1 d2 d3 d4 HSTK HBK HOWN HB
              generalize wr.drewN nq = w3 at *
              go_wp2
              go_roundw
              case rel => exact ⟨k + 1, g9, cap9, _, by omega, by go_num, rfl, HNEW.out.symm, HSTK2.out, HBK2.out⟩
              case measure => simp [intOf]; omega
            · subst h3
              have t1 : decide (ay > ai) = false := decide_eq_false (by omega)
              have HNEW : Hid (srtL (ltN l2 l1) (List.range (k + 1)) = (Am ++ [y]) ++ k :: Bl) := by
                show _ = _
                rw [HSN.out, HSA.out]
                exact insR_at (Am ++ [y]) Bl HBL.out (fun z' hz' => by
                  have : y = z' := by simpa using hz'
                  subst this; exact hl)
              clear hl
              go_wp2
              go_quiet (fail)
              have c1 : (wr.drewN nq).cell? _ = _ := hcz
              have c3 : (wr.drewN nq).frozen? _ = _ := hfz
              have HSTK2 : Hid (((wr.drewN nq).setCell ⟨g9, p + 1, none⟩ (.int .i64 (k : Int))).ownsRow w.heap.size 3 1 (.slice (some ⟨g9, 0, none⟩) (k + 1) cap9) (k + 1) (((Am ++ [y]) ++ k :: Bl).map encN)) := HSTK.out
              have HBK2 : Hid (Below w.heap.size w ((wr.drewN nq).setCell ⟨g9, p + 1, none⟩ (.int .i64 (k : Int)))) := HBK.out.trans (b := wr.setCell ⟨g9, p + 1, none⟩ (.int .i64 (k : Int))) ⟨rfl, rfl, rfl, Nat.le_refl _, fun _ _ => rfl⟩
              clear hcz hcy hfz d1 d2 d3 d4 HSTK HBK HOWN HB
              generalize wr.drewN nq = w3 at *
              go_wp2
              go_roundw
              case rel => exact ⟨k + 1, g9, cap9, _, by omega, by go_num, rfl, HNEW.out.symm, HSTK2.out, HBK2.out⟩
              case measure => simp [intOf]; omega
      · have hke : k = l1.length := by omega
        have hown := HOWN.out
        have hsl : S.length = k := by rw [HSE.out, (srtL_perm _ _).length_eq, List.length_range]
        have hr : RdI wr (.slice (some ⟨g, 0, none⟩) k cap) (natI S) := by
          have h := Rd.of_own (l := S) (enc := encN) (by rw [hsl]; exact hown)
          obtain ⟨a, c, e1, e2, e3, e4⟩ := h
          unfold natI
          refine ⟨a, c, by rw [List.length_map]; exact e1, by rw [List.length_map]; exact e2, e3, fun i x hx => ?_⟩
          rw [List.getElem?_map] at hx
          cases hy : S[i]? with
          | none => rw [hy] at hx; cases hx
          | some y =>
            rw [hy] at hx
            cases hx
            exact e4 i y hy
        have HRD := hid hr
        have HFIN : Hid (ordL l1 l2 = S) := by show _ = _; rw [HL2.out, HSE.out, hke]
        clear hown hsl hr HOWN HSE hke
        go_wp2
        go_ret2
        exact ⟨_, by rw [HI2.out]; rfl, by rw [HFIN.out]; exact HRD.out, HB.out⟩
  · have HI2 : Hid (ordI l1 l2 = 9) := by rw [HI.out, if_neg heq]; rfl
    have HL2 : Hid (ordL l1 l2 = []) := by rw [HL.out, if_neg heq]; rfl
    have q3 : ((l1.length : Int) != (l2.length : Int)) = true := by simpa using (fun e => heq (Int.ofNat.inj e))
    go_enter Tryd.func33, Tryd.ntmps33
    go_wp2
    go_ret2
    exact ⟨_, by rw [HI2.out]; rfl, by rw [HL2.out]; exact Rd.nil _, Below.refl _ _⟩
end Go.Proofs.YtajhkfmhoihjfaaDoor
