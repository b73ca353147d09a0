/-
  The reference's Keep and Same; slices.ContainsFunc over strings.
-/
import Derived.Test.YtigaflmhdbgmdaaDoorRefD
import Derived.Test.YtigaflmhdbgmdaaDoorKeep
namespace Go.Proofs.YtigaflmhdbgmdaaDoor
open Go.RowKit

set_option maxHeartbeats 400000 in
theorem indexFuncS_any (K : Nat) (eK : ∀ args w, (callFunc K args).run Tryd.prog w = .ok (.enter K args) w) (p : ByteArray → Bool) (v : Value) (l : List ByteArray) (w : World) (hr : RdS w v l)
    (hC : ∀ (x : ByteArray) (W' : World), x ∈ l → Calls Tryd.prog K #[.string x] W' fun e W'' => e = .returned (.bool (p x)) ∧ W' = W'') :
    Calls Tryd.prog 28 #[v, .func (.func K) #[] #[]] w fun e w' => e = .returned (.int .i64 (fIdx p l)) ∧ w = w' := by
  obtain ⟨a, cap, rfl, hlc, hcm, hcell⟩ := hr.open
  have HCell := hid hcell; clear hcell
  have HC := hid hC; clear hC
  go_enter Tryd.func28, Tryd.ntmps28
  go_wp2
  go_loop [8] (fun i => ∃ k : Nat, k ≤ l.length ∧ i = .int .i64 k ∧ Hid (∀ y ∈ l.take k, p y = false)) (fun i => l.length - (intOf i).toNat)
  case atStart => exact ⟨0, Nat.zero_le _, rfl, by simp [Hid]⟩
  case round =>
    obtain ⟨k, hk, rfl, HK⟩ := hrel
    by_cases hlt : k < l.length
    · obtain ⟨x, b, off, hx, rfl, hc⟩ := HCell.out k hlt
      have HX := hid hx; clear hx
      have HM := hid (List.mem_of_getElem? HX.out)
      by_cases hp : p x = true
      · have HP := hid hp
        go_wp2_with (refine (HC.out _ _ HM.out).mono ?_; rintro e w' ⟨rfl, rfl⟩)
        go_ret
        exact ⟨ret_int (fIdx_hit _ l k x HK.out HX.out HP.out).symm, rfl⟩
      · have hp' : p x = false := by simpa using hp
        have HP := hid hp'
        clear hp
        go_wp2_with (refine (HC.out _ _ HM.out).mono ?_; rintro e w' ⟨rfl, rfl⟩)
        go_round
        case rel => exact ⟨k + 1, by omega, by go_num, take_none HK.out HX.out HP.out⟩
        case measure => simp [intOf]; omega
    · go_wp2
      go_ret
      refine ⟨ret_int ?_, rfl⟩
      have h := HK.out
      rw [List.take_of_length_le (by omega)] at h
      exact (fIdx_none _ l h).symm

theorem containsFuncS_any (K : Nat) (eK : ∀ args w, (callFunc K args).run Tryd.prog w = .ok (.enter K args) w) (p : ByteArray → Bool) (v : Value) (l : List ByteArray) (w : World) (hr : RdS w v l)
    (hC : ∀ (x : ByteArray) (W' : World), x ∈ l → Calls Tryd.prog K #[.string x] W' fun e W'' => e = .returned (.bool (p x)) ∧ W' = W'') :
    Calls Tryd.prog 11 #[v, .func (.func K) #[] #[]] w fun e w' => e = .returned (.bool (l.any p)) ∧ w = w' := by
  have HI := indexFuncS_any K eK p v l w hr hC
  have HF := hid (fIdx_pos p l)
  generalize fIdx p l = r at *
  have H2 := hid HI; clear HI hC
  go_enter Tryd.func11, Tryd.ntmps11
  go_wp2_with (go_at_call 28; refine H2.out.mono ?_; rintro e w' ⟨rfl, rfl⟩)
  go_ret
  exact ⟨ret_bool HF.out, rfl⟩

set_option maxHeartbeats 400000 in
theorem sameInts_any (v u : Value) (l : List Int) (w : World) (hr : RdI w v l) (hs : RdI w u l) :
    Calls Tryd.prog 43 #[v, u] w fun e w' => e = .returned (.bool true) ∧ ∃ m, w' = w.drewN m := by
  obtain ⟨a, cap, rfl, hlc, hcm, hcell⟩ := hr.open
  obtain ⟨a2, cap2, rfl, hlc2, hcm2, hcell2⟩ := hs.open
  have HCell := hid hcell; clear hcell
  have HCell2 := hid hcell2; clear hcell2
  go_enter Tryd.func43, Tryd.ntmps43
  go_wp2
  go_loopw [5] (fun i wr => ∃ k : Nat, k ≤ l.length ∧ i = .int .i64 k ∧ ∃ m, wr = w.drewN m) (fun i _ => l.length - (intOf i).toNat)
  case atStart => exact ⟨0, Nat.zero_le _, rfl, 0, rfl⟩
  case round =>
    obtain ⟨k, hk, rfl, m, rfl⟩ := hrel
    by_cases hlt : k < l.length
    · obtain ⟨x, b, off, hx, rfl, hc⟩ := HCell.out k hlt
      obtain ⟨x2, b2, off2, hx2, rfl, hc2⟩ := HCell2.out k hlt
      obtain rfl : x = x2 := Option.some.inj (hx.symm.trans hx2)
      clear hx hx2
      go_wp2
      go_quiet ((fail))
      go_wp2
      go_roundw
      case rel => exact ⟨k + 1, by omega, by go_num, m + nq, rfl⟩
      case measure => simp [intOf]; omega
    · go_wp2
      go_ret
      exact ⟨rfl, m, rfl⟩

set_option maxHeartbeats 1000000 in
set_option maxRecDepth 100000 in
theorem same_any (v u : Value) (l : List Grp) (w : World) (hr : RdG w v l) (hs : RdG w u l) :
    Calls Tryd.prog 20 #[v, u] w fun e w' => e = .returned (.bool true) ∧ Below w.heap.size w w' := by
  obtain ⟨a, cap, rfl, hlc, hcm, hcell⟩ := hr.open
  obtain ⟨a2, cap2, rfl, hlc2, hcm2, hcell2⟩ := hs.open
  have HCell := hid hcell; clear hcell
  have HCell2 := hid hcell2; clear hcell2
  go_enter Tryd.func20, Tryd.ntmps20
  go_wp2
  go_loopw [5] (fun i wr => ∃ k : Nat, k ≤ l.length ∧ i = .int .i64 k ∧ Below w.heap.size w wr) (fun i _ => l.length - (intOf i).toNat)
  case atStart => exact ⟨0, Nat.zero_le _, rfl, Below.refl _ _⟩
  case round =>
    rename_i wr
    obtain ⟨k, hk, rfl, hB⟩ := hrel
    by_cases hlt : k < l.length
    · obtain ⟨x, b, off, m, hx, rfl, hc0, hd0, hm0⟩ := HCell.out k hlt
      obtain ⟨x2, b2, off2, m2, hx2, rfl, hc02, hd02, hm02⟩ := HCell2.out k hlt
      obtain rfl : x = x2 := Option.some.inj (hx.symm.trans hx2)
      have hc := Below.keeps hB _ _ hc0
      have hd := Below.keeps hB _ _ hd0
      have hm := hm0.below hB
      have hc2 := Below.keeps hB _ _ hc02
      have hd2 := Below.keeps hB _ _ hd02
      have hm2 := hm02.below hB
      obtain ⟨am, capm, rfl, hlm, hcmm, _⟩ := hm.open
      obtain ⟨am2, capm2, rfl, hlm2, hcmm2, _⟩ := hm2.open
      have HSI := fun w' h h2 => hid (sameInts_any (.slice am x.mem.length capm) (.slice am2 x.mem.length capm2) x.mem w' h h2)
      clear hx hx2 hc0 hd0 hm0 hc02 hd02 hm02
      go_wp2
      go_quiet ((go_at_call 43; exact Calls.quiet_of (HSI _ (hm.drewN _) (hm2.drewN _)).out))
      go_wp2
      go_roundw
      case rel => exact ⟨k + 1, by omega, by go_num, below_drewN hB nq⟩
      case measure => simp [intOf]; omega
    · go_wp2
      go_ret
      exact ⟨rfl, hB⟩
set_option maxHeartbeats 4000000 in
set_option maxRecDepth 100000 in
theorem rkeep_any (u s : Value) (gs : List Grp) (old : List Int) (w : World) (hg : RdG w u gs) (hs : RdI w s old) (hol : old.length ≤ 1000) :
    Calls Tryd.prog 18 #[u, s] w fun e w' => ∃ r, e = .returned (.tuple #[r, .int .i64 (keepI gs old)]) ∧ RdG w' r (keepL gs old) ∧ Below w.heap.size w w' := by
  obtain ⟨ag, capg, rfl, hlcg, hcmg, hcellg⟩ := hg.open
  have HCellg := hid hcellg; clear hcellg
  obtain ⟨ao, capo, rfl, hlco, hcmo, hcello⟩ := hs.open
  have HCello := hid hcello; clear hcello
  by_cases h16 : 16 < gs.length
  · have HI : Hid (keepI gs old = 4) := by unfold keepI; rw [if_pos h16]; rfl
    have hL : Hid (keepL gs old = []) := by unfold keepL; rw [HI.out]; rfl
    have q0 : (16 : Int) < (gs.length : Int) := by omega
    go_enter Tryd.func18, Tryd.ntmps18
    go_wp2
    go_ret2
    exact ⟨_, by rw [HI.out]; rfl, by rw [hL.out]; exact RdG.nil _, Below.refl _ _⟩
  have q0 : ¬ (16 : Int) < (gs.length : Int) := by omega
  have hCO := hid (fun w' h => rset_any (.slice ao old.length capo) old 32 w' h)
  by_cases h0 : ckSet 32 none old = 0
  · have HI : Hid (keepI gs old = keepE gs) := by unfold keepI; rw [if_neg h16, if_neg (by omega)]; rfl
    rw [h0] at hCO
    clear h0
    go_enter Tryd.func18, Tryd.ntmps18
    go_wp2_with fail
    refine (hCO.out _ hs).mono ?_
    rintro e w1 ⟨rfl, hB1⟩
    clear hCO
    go_wp2_with fail
    go_loopw [7] (fun i wr => ∃ j : Nat, j ≤ gs.length ∧ i = .int .i64 j ∧ Hid (keepE gs = keepE (gs.drop j)) ∧ Below w.heap.size w wr) (fun i _ => gs.length - (intOf i).toNat)
    case atStart => exact ⟨0, by omega, rfl, by simp [Hid], hB1⟩
    case round =>
      clear hB1
      obtain ⟨j, hj, rfl, HE, hB⟩ := hrel
      by_cases hlt : j < gs.length
      · obtain ⟨x, b2, off2, m, hx, rfl, hca0, hcb0, hxm0⟩ := HCellg.out j hlt
        obtain ⟨am, capm, rfl, hlm, hcmm, _⟩ := hxm0.open
        have hcb := Below.keeps hB _ _ hcb0
        have hxm := hxm0.below hB
        have HKE := hid (keepE_at gs j x hx)
        have hCM := hid (rset_any (.slice am x.mem.length capm) x.mem 32 _ hxm)
        clear hx hca0 hcb0 hxm0 hxm
        have hccase : ((ckSet 32 none x.mem != 0) = true ∧ Hid (ckSet 32 none x.mem ≠ 0)) ∨ ((ckSet 32 none x.mem != 0) = false ∧ Hid (ckSet 32 none x.mem = 0)) := by
          by_cases hc0 : ckSet 32 none x.mem = 0
          · right; exact ⟨by simp [hc0], hc0⟩
          · left; exact ⟨by simpa using hc0, hc0⟩
        generalize ckSet 32 none x.mem = c at *
        rcases hccase with ⟨hb, H0⟩ | ⟨hb, H0⟩
        · have HI2 : Hid (keepI gs old = c) := by rw [HI.out, HE.out, HKE.out, if_pos H0.out]; rfl
          have hL : Hid (keepL gs old = []) := by unfold keepL; rw [if_neg (by rw [HI2.out]; exact H0.out)]; rfl
          go_wp2_with fail
          refine hCM.out.mono ?_
          rintro e w2 ⟨rfl, hB2⟩
          have HB2 := hid (below_tr hB hB2)
          clear hB2
          go_wp2
          go_ret2
          exact ⟨_, by rw [HI2.out]; rfl, by rw [hL.out]; exact RdG.nil _, HB2.out⟩
        · go_wp2_with fail
          refine hCM.out.mono ?_
          rintro e w2 ⟨rfl, hB2⟩
          have HB2 := hid (below_tr hB hB2)
          clear hB2
          go_wp2
          go_roundw
          case rel => exact ⟨j + 1, by omega, by go_num, by rw [HE.out, HKE.out, H0.out]; simp [Hid], HB2.out⟩
          case measure => simp [intOf]; omega
      · have HI2 : Hid (keepI gs old = 0) := by rw [HI.out, HE.out, List.drop_of_length_le (by omega)]; rfl
        have hL : Hid (keepL gs old = keepTo gs old gs.length) := by unfold keepL; rw [if_pos HI2.out]; rfl
        clear HE HI
        go_wp2_with fail
        clear hlt hj
        obtain ⟨wo, rfl⟩ : ∃ wo : World, wo = wr := ⟨_, rfl⟩
        go_loopw [9, 10] (fun o i wr => ∃ (k : Nat) (ks : List (Grp × Value)), k ≤ gs.length ∧ i = .int .i64 k ∧ Hid (ks.map (·.1) = keepTo gs old k) ∧ ks.length ≤ k ∧ wr.ownsRow wo.heap.size 45 2 o ks.length (flatG ks) ∧
            Hid (∀ p ∈ ks, RdI wr p.2 p.1.mem ∧ Apart p.1.mem p.2 o) ∧ Below wo.heap.size wo wr) (fun _ i _ => gs.length - (intOf i).toNat)
        case atStart => exact ⟨0, [], by omega, rfl, rfl, by simp, World.ownsRow_made wo #[] 0 (Nat.le_refl _) (by unfold maxLen; omega) rfl, (by unfold Hid; intro p hp; cases hp), below_al wo _⟩
        case round =>
          have HBo := hid hB
          clear hB
          obtain ⟨k, ks, hk, rfl, HK, hkl, hown, HR, hB⟩ := hrel
          by_cases hltk : k < gs.length
          · obtain ⟨x, b2, off2, m, hx, rfl, hca0, hcb0, hxm0⟩ := HCellg.out k hltk
            obtain ⟨am, capm, rfl, hlm, hcmm, _⟩ := hxm0.open
            have hBw := below_tr HBo.out hB
            have HCA := hid (Below.keeps hBw _ _ hca0)
            have HCB := hid (Below.keeps hBw _ _ hcb0)
            have hxa := hxm0.below hBw
            have hoa := hs.below hBw
            have HKS := hid (keepTo_succ gs old k x hx)
            clear hx hca0 hcb0 hxm0 hBw
            go_wp2_with fail
            obtain ⟨wa, hwa⟩ : ∃ wa : World, wa = wr := ⟨_, rfl⟩
            go_loopw [11, 12] (fun l i wi => ∃ (q : Nat) (ys : List Int), q ≤ old.length ∧ i = .int .i64 q ∧ Hid (ys = idxTo old x.mem q) ∧ ys.length ≤ q ∧ wi.ownsRow wa.heap.size 3 1 l ys.length (ys.map (Value.int .i64)) ∧ Below wa.heap.size wa wi) (fun _ i _ => old.length - (intOf i).toNat)
            case atStart => exact ⟨0, [], by omega, rfl, rfl, by simp, by rw [hwa]; exact World.ownsRow_made wr #[] 0 (Nat.le_refl _) (by unfold maxLen; omega) rfl, by rw [hwa]; exact below_al wr _⟩
            case round =>
              subst hwa
              have HBr := hid hB
              clear hB
              obtain ⟨q, ys, hq, rfl, HY, hyl, hownl, hB⟩ := hrel
              by_cases hltq : q < old.length
              · obtain ⟨n, bo, oo, hn, rfl, hcn0⟩ := HCello.out q hltq
                have hcn := Below.keeps (below_tr (below_tr HBo.out HBr.out) hB) _ _ hcn0
                have hb1 := Below.keeps hB _ _ HCB.out
                have HIS := hid (idxTo_succ old x.mem q n hn)
                have hxw := hxa.below hB
                have HHs := fun w' h => hid (has_any (.slice am x.mem.length capm) x.mem n w' h)
                have heq : (fun y => decide (y = n)) = fun y => decide (n = y) := by funext y; rw [decide_eq_decide]; exact eq_comm
                rw [heq] at HHs
                clear heq hn hcn0
                generalize (x.mem.any fun y => decide (n = y)) = cb at *
                cases cb with
                | true =>
                  go_wp2
                  go_quiet ((go_at_call 38; exact Calls.quiet_of_same ((HHs _ (hxw.drewN _)).out.mono fun _ _ h => ⟨h.1, h.2.symm⟩)))
                  have hownq := own_below hownl (below_drewN (Below.refl _ _) nq)
                  have hBq := below_drewN hB nq
                  go_wp2_with (at_builtin; refine wpList_ap rfl _ _ 33 rfl wa.heap.size 3 Tryd.underlying33 infoInt rfl (by decide) (by decide) _ _ _ rfl hownq [.int .i64 q] rfl (by simp [Value.oneCell']) rfl (by simp) (by omega) hBq.size ?_; intro v' w4 hown' hb1 _)
                  go_roundw
                  case rel => exact ⟨q + 1, ys ++ [(q : Int)], by omega, by go_num, by rw [HIS.out, ← HY.out]; rfl, by rw [List.length_append, List.length_singleton]; omega, by simpa using hown', hBq.trans hb1⟩
                  case measure => simp [intOf]; omega
                | false =>
                  go_wp2
                  go_quiet ((go_at_call 38; exact Calls.quiet_of_same ((HHs _ (hxw.drewN _)).out.mono fun _ _ h => ⟨h.1, h.2.symm⟩)))
                  have hownq := own_below hownl (below_drewN (Below.refl _ _) nq)
                  have hBq := below_drewN hB nq
                  go_wp2
                  go_roundw
                  case rel => exact ⟨q + 1, ys, by omega, by go_num, by rw [HIS.out, ← HY.out, if_neg (by simp), List.append_nil]; rfl, by omega, hownq, hBq⟩
                  case measure => simp [intOf]; omega
              · obtain rfl : q = old.length := by omega
                have hlto := hown.lt
                have hltl := hownl.lt
                have hrn := Rd.of_own (enc := Value.int .i64) hownl
                have hb0 := Below.keeps hB _ _ HCA.out
                have hownI := own_below hown hB
                have hBz := HBr.out.trans (hB.mono HBr.out.size)
                have HRI : Hid (∀ p ∈ ks, RdI _ p.2 p.1.mem ∧ Apart p.1.mem p.2 _) := fun p hp => ⟨(HR.out p hp).1.below hB, (HR.out p hp).2⟩
                have hyne : (ys.length = 0 ∧ Hid (keepG old x = [])) ∨ (0 < ys.length ∧ Hid (keepG old x = [⟨x.name, ys⟩])) := by
                  unfold keepG
                  rw [← HY.out]
                  cases ys with
                  | nil => left; exact ⟨rfl, rfl⟩
                  | cons a l => right; exact ⟨by simp, rfl⟩
                have hapn := apart_new (ys := ys) hltl hlto (Nat.le_refl _)
                clear hoa hxa hown hownl HR hltq
                obtain ⟨al, capl, rfl, hlcl, hcml, _⟩ := hrn.open
                rcases hyne with ⟨hy0, HKG⟩ | ⟨hy0, HKG⟩
                · go_wp2
                  go_roundw
                  case rel => exact ⟨k + 1, ks, by omega, by go_num, by rw [HKS.out, HKG.out, List.append_nil]; exact HK.out, by omega, hownI, HRI, hBz⟩
                  case measure => simp [intOf]; omega
                · go_wp2_with (at_builtin; refine wpList_ap2 rfl _ _ 32 rfl wo.heap.size 45 Tryd.underlying32 infoGrp rfl (by decide) (by decide) _ _ _ rfl hownI [.string x.name, .slice al ys.length capl] rfl (by simp [Value.oneCell']) rfl (by simp) (by omega) hBz.size ?_; intro gB capB w4 hown4 hb1 hgr hat hg4)
                  go_roundw
                  case rel =>
                    have e : flatG (ks ++ [((⟨x.name, ys⟩ : Grp), Value.slice al ys.length capl)]) = flatG ks ++ [.string x.name, .slice al ys.length capl] := by simp [flatG]
                    refine ⟨k + 1, ks ++ [(⟨x.name, ys⟩, .slice al ys.length capl)], by omega, by go_num, ?_, by rw [List.length_append, List.length_singleton]; omega, ?_, ?_, hBz.trans hb1⟩
                    · rw [List.map_append, HK.out, HKS.out, HKG.out]; rfl
                    · rw [e, List.length_append, List.length_singleton]; exact hown4
                    · unfold Hid
                      intro p hp
                      rcases List.mem_append.1 hp with h | h
                      · exact ⟨(HRI.out p h).1.grown2 hgr (fun hne b hb => (HRI.out p h).2 hne b hb), (HRI.out p h).2.app (HRI.out p h).1 hat⟩
                      · obtain rfl := List.mem_singleton.1 h
                        exact ⟨hrn.grown2 hgr (fun hne b hb => hapn hne b hb), hapn.app hrn hat⟩
                  case measure => simp [intOf]; omega
          · obtain rfl : k = gs.length := by omega
            have hBz := below_tr HBo.out hB
            have hrz := RdG.of_own ks hown (fun p hp => (HR.out p hp).1)
            have HZ : Hid (keepL gs old = ks.map (·.1)) := by rw [hL.out, ← HK.out]; rfl
            go_wp2
            go_ret2
            exact ⟨_, by rw [HI2.out]; rfl, by rw [HZ.out]; exact hrz, hBz⟩
  · have hb : (ckSet 32 none old != 0) = true := by simpa using h0
    have HI : Hid (keepI gs old = ckSet 32 none old) := by unfold keepI; rw [if_neg h16, if_pos h0]; rfl
    have hL : Hid (keepL gs old = []) := by unfold keepL; rw [if_neg (by rw [HI.out]; exact h0)]; rfl
    clear h0
    generalize ckSet 32 none old = c at *
    go_enter Tryd.func18, Tryd.ntmps18
    go_wp2_with fail
    refine (hCO.out _ hs).mono ?_
    rintro e w1 ⟨rfl, hB1⟩
    go_wp2
    go_ret2
    exact ⟨_, by rw [HI.out]; rfl, by rw [hL.out]; exact RdG.nil _, hB1⟩
end Go.Proofs.YtigaflmhdbgmdaaDoor
