/-
  The reference's Expand.
-/
import Derived.Test.YtigaflmhdbgmdaaDoorRefD
import Derived.Test.YtigaflmhdbgmdaaDoorSigC
import Derived.Test.YtigaflmhdbgmdaaDoorAp
import Derived.Test.YtigaflmhdbgmdaaDoorShort
import Derived.Deep.RegionHeld3
namespace Go.Proofs.YtigaflmhdbgmdaaDoor
open Go.RowKit

theorem RdI.cellsAt {W : World} {ad : Addr} {n cap : Nat} {l : List Int} (h : RdI W (.slice (some ad) n cap) l) : ∀ j u, (l.map (Value.int .i64))[j]? = some u → W.cell? (ad.add j) = some u := by
  obtain ⟨a', cap', e, _, _, hc⟩ := h
  cases e
  intro j u hj
  rw [List.getElem?_map] at hj
  cases hx : l[j]? with
  | none => rw [hx] at hj; cases hj
  | some x =>
    rw [hx] at hj; cases hj
    obtain ⟨b, off, e2, hcell⟩ := hc j x hx
    cases e2
    rw [Go.WideShapes.add_plain]; exact hcell
theorem ints_one (l : List Int) : ∀ u ∈ l.map (Value.int .i64), u.oneCell' = true := by
  intro u hu
  obtain ⟨x, _, rfl⟩ := List.mem_map.1 hu
  rfl
theorem fIdx_map {α β : Type} (f : α → β) (p : β → Bool) (l : List α) : fIdx p (l.map f) = fIdx (fun x => p (f x)) l := by
  unfold fIdx; rw [List.findIdx?_map]; rfl
theorem expGo_at2 (names : List ByteArray) (gs : List Grp) (l : List ByteArray) (k : Nat) (s : ByteArray) (all : Nat) (h : l[k]? = some s) :
    expGo names gs (l.take k) (l.drop k) all = if ridx s names < 0 ∧ ridx s (gs.map (·.name)) < 0 then (6, 0) else if 0 ≤ ridx s (l.take k) then (7, 0)
    else if 0 ≤ ridx s names then expGo names gs (l.take (k + 1)) (l.drop (k + 1)) (all ||| 2 ^ (ridx s names).toNat)
    else expGo names gs (l.take (k + 1)) (l.drop (k + 1)) (all ||| maskN (memAt gs (ridx s (gs.map (·.name))))) := by
  have e1 : (fun x => decide (s = x)) = fun x => decide (x = s) := by funext x; rw [decide_eq_decide]; exact eq_comm
  have e2 : ridx s (gs.map (·.name)) = fIdx (fun x : Grp => decide (x.name = s)) gs := fIdx_map _ _ _
  have e3 : ((l.take k).any fun x => decide (s = x)) = decide (0 ≤ ridx s (l.take k)) := by rw [ridx, fIdx_pos, e1]
  rw [expGo_at names gs l k s all h, e3, e1, e2]
  simp only [decide_eq_true_eq]
  rfl
theorem fIdx_at {α : Type} (p : α → Bool) (l : List α) (k : Nat) (h : fIdx p l = (k : Int)) : k < l.length := by
  have := fIdx_lt p l; omega

def selTo (ys : List Int) (k : Nat) : List Int := ((List.range k).filter fun (i : Nat) => ys.any fun y => decide (y = (i : Int))).map fun (i : Nat) => (i : Int)
theorem selTo_succ (ys : List Int) (k : Nat) : selTo ys (k + 1) = selTo ys k ++ if (ys.any fun y => decide (y = (k : Int))) = true then [(k : Int)] else [] := by
  unfold selTo
  rw [List.range_succ, List.filter_append, List.map_append]
  congr 1
  split <;> rename_i h <;> simp [h]
theorem selTo_bits {ys : List Int} {M : Nat} (h : ∀ i : Nat, M.testBit i = true ↔ (i : Int) ∈ ys) (k : Nat) : selTo ys k = bitsTo M k := by
  unfold selTo bitsTo
  congr 1
  apply List.filter_congr
  intro i _
  rw [Bool.eq_iff_iff, h i]
  simp
theorem bitsTo_stop {M n : Nat} (h : ∀ i, n ≤ i → M.testBit i = false) : ∀ d, bitsTo M (n + d) = bitsTo M n
  | 0 => rfl
  | d + 1 => by rw [← Nat.add_assoc, bitsTo_succ, h (n + d) (by omega), bitsTo_stop h d]; simp
theorem selTo_all {ys : List Int} {M n : Nat} (h : ∀ i : Nat, M.testBit i = true ↔ (i : Int) ∈ ys) (hy : ∀ y ∈ ys, 0 ≤ y ∧ y < n) (hn : n ≤ 64) : selTo ys n = bitsL M := by
  rw [selTo_bits h]
  show _ = bitsTo M 64
  have := bitsTo_stop (M := M) (n := n) (fun i hi => by
    rw [← Bool.not_eq_true, h i]; intro hm; have := hy _ hm; omega) (64 - n)
  rw [show n + (64 - n) = 64 by omega] at this
  exact this.symm
theorem bits_one {ys : List Int} {M : Nat} (h : ∀ i : Nat, M.testBit i = true ↔ (i : Int) ∈ ys) (k : Nat) : ∀ i : Nat, (M ||| 2 ^ k).testBit i = true ↔ (i : Int) ∈ ys ++ [(k : Int)] := by
  intro i
  rw [Nat.testBit_or, Nat.testBit_two_pow, Bool.or_eq_true, h i, List.mem_append, List.mem_singleton, decide_eq_true_eq]
  constructor
  · rintro (h | h)
    · exact .inl h
    · exact .inr (by omega)
  · rintro (h | h)
    · exact .inl h
    · exact .inr (by omega)
theorem bits_mem {ys : List Int} {M : Nat} (h : ∀ i : Nat, M.testBit i = true ↔ (i : Int) ∈ ys) (mem : List Int) (hm : ∀ x ∈ mem, 0 ≤ x) : ∀ i : Nat, (M ||| maskN mem).testBit i = true ↔ (i : Int) ∈ ys ++ mem := by
  intro i
  rw [Nat.testBit_or, maskN_bit, Bool.or_eq_true, h i, List.mem_append, List.any_eq_true]
  constructor
  · rintro (h | ⟨x, hx, e⟩)
    · exact .inl h
    · have := hm x hx
      have e2 : x.toNat = i := by simpa using e
      exact .inr (by rw [show (i : Int) = x by omega]; exact hx)
  · rintro (h | h)
    · exact .inl h
    · exact .inr ⟨_, h, by simp⟩

set_option maxHeartbeats 4000000 in
set_option maxRecDepth 100000 in
theorem rexpand_any (v u s : Value) (names : List ByteArray) (gs : List Grp) (l : List ByteArray) (w : World) (hr : RdS w v names) (hg : RdG w u gs) (hs : RdS w s l) (hz : Szs names) (hzg : SzG gs)
    (hm40 : ∀ g ∈ gs, g.mem.length ≤ 40) (hl : l.length ≤ 66) :
    Calls Tryd.prog 14 #[v, u, s] w fun e w' => ∃ r, e = .returned (.tuple #[r, .int .i64 (expandI names gs l)]) ∧ RdI w' r (expandL names gs l) ∧ Below w.heap.size w w' := by
  have hC := hid (rcheckG_any v u names gs w hr hg hz hzg)
  clear hz hzg
  obtain ⟨a1, cap1, rfl, hlc1, hcm1, _⟩ := hr.open
  by_cases h0 : checkI names gs = 0
  · have hI : Hid (expandI names gs l = (expGo names gs [] l 0).1) := by unfold expandI; rw [if_neg (by omega)]; rfl
    have hL : Hid (expandL names gs l = if (expGo names gs [] l 0).1 = 0 then bitsL (expGo names gs [] l 0).2 else []) := by rw [expandL, hI.out]; rfl
    have hnl := (checkI_ok h0).1
    have HGO := hid (fun g hg => (ckGrps_ok names gs [] (checkI_ok h0).2.2.2 g hg).2)
    rw [h0] at hC
    have hgl := (checkI_ok h0).2.1
    clear h0
    obtain ⟨a2, cap2, rfl, hlc2, hcm2, hcell2⟩ := hg.open
    have HCell2 := hid hcell2; clear hcell2
    obtain ⟨a3, cap3, rfl, hlc3, hcm3, hcell3⟩ := hs.open
    have HCell3 := hid hcell3; clear hcell3
    go_enter Tryd.func14, Tryd.ntmps14
    go_wp2_with fail
    refine hC.out.mono ?_
    rintro e w1 ⟨rfl, hB1⟩
    clear hC
    have HB1 := hid hB1
    have hr1 := hr.below hB1
    have hg1 := hg.below hB1
    have hs1 := hs.below hB1
    clear hr hg hs hB1
    go_wp2_with fail
    go_loopw [8, 9] (fun o i wr => ∃ (k M : Nat) (ys : List Int), k ≤ l.length ∧ i = .int .i64 k ∧ Hid (expGo names gs [] l 0 = expGo names gs (l.take k) (l.drop k) M) ∧ Hid (∀ i : Nat, M.testBit i = true ↔ (i : Int) ∈ ys) ∧
        Hid (∀ y ∈ ys, 0 ≤ y ∧ y < names.length) ∧ ys.length ≤ k * 40 ∧ wr.ownsRow w1.heap.size 3 1 o ys.length (ys.map (Value.int .i64)) ∧ Below w1.heap.size w1 wr) (fun _ i _ => l.length - (intOf i).toNat)
    case atStart => exact ⟨0, 0, [], by omega, rfl, by simp [Hid], by simp [Hid], by simp [Hid], by simp, World.ownsRow_made w1 #[] 0 (Nat.le_refl _) (by unfold maxLen; omega) rfl, below_al w1 _⟩
    case round =>
      obtain ⟨k, M, ys, hk, rfl, HK, HM, HY, hyl, hown, hB⟩ := hrel
      by_cases hlt : k < l.length
      · obtain ⟨x, b3, off3, hx, rfl, hc0⟩ := HCell3.out k hlt
        have hc := Below.keeps HB1.out _ _ hc0
        have hc := Below.keeps hB _ _ hc
        have hrw := hr1.below hB
        have hgw := hg1.below hB
        have hsw := (hs1.below hB).take k hk
        have HE := hid (expGo_at2 names gs l k x M hx)
        clear hx hc0
        have hnc := fIdx_cases (fun y => decide (y = x)) names
        have hgc := fIdx_cases (fun y => decide (y = x)) (gs.map (·.name))
        have hcc := fIdx_cases (fun y => decide (y = x)) (l.take k)
        have HIL := fun w' h => hid (ridx_any (.slice (some ⟨b3, off3, none⟩) k cap3) (l.take k) x w' h)
        have HTi := fun w' h => hid (titles_any (.slice a2 gs.length cap2) gs w' h (by omega))
        rw [show fIdx (fun y => decide (y = x)) names = ridx x names from rfl] at hnc
        rw [show fIdx (fun y => decide (y = x)) (gs.map (·.name)) = ridx x (gs.map (·.name)) from rfl] at hgc
        rw [show fIdx (fun y => decide (y = x)) (l.take k) = ridx x (l.take k) from rfl] at hcc
        have hgl2 : (gs.map (·.name)).length = gs.length := List.length_map _
        have q1 : (k : Int) ≤ (cap3 : Int) := by omega
        have q2 : k ≤ cap3 := by omega
        clear hr1 hg1 hs1
        go_wp2
        go_region_held3 (fun w' => w'.cell? ⟨b3, off3 + k, none⟩ = some (.string x) ∧ RdS w' (.slice a1 names.length cap1) names ∧ RdG w' (.slice a2 gs.length cap2) gs ∧ RdS w' (.slice (some ⟨b3, off3, none⟩) k cap3) (l.take k) ∧ Below wr.heap.size wr w')
          ((refine ⟨?_, ?_, ?_, ?_, ?_⟩ <;> first | assumption | (exact Below.refl _ _) | (exact Below.drew (by assumption)) | (exact Below.drew (Below.refl _ _)) | go_keep))
          (first
            | (go_at_call 37; go_split_ands; refine (HTi _ (by assumption)).out.mono ?_; rintro e w3 ⟨v3, rfl, hr3, hB3⟩; have k1 : w3.cell? ⟨b3, off3 + k, none⟩ = some (.string x) := Below.keeps hB3 _ _ (by assumption); have k2 : RdS w3 (.slice a1 names.length cap1) names := Rd.below (by assumption) hB3; have k3 : RdG w3 (.slice a2 gs.length cap2) gs := RdG.below (by assumption) hB3; have k4 : RdS w3 (.slice (some ⟨b3, off3, none⟩) k cap3) (l.take k) := Rd.below (by assumption) hB3; have k5 : Below wr.heap.size wr w3 := below_tr (by assumption) hB3)
            | (go_at_call 36; go_split_ands; refine (ridx_any _ _ _ _ (by assumption)).mono ?_; rintro e w3 ⟨rfl, rfl⟩))
        all_goals go_split_ands
        generalize ridx x names = n at *
        generalize ridx x (gs.map (·.name)) = g at *
        generalize ridx x (l.take k) = c at *
        rename_i z1 z2 z3 z4 z5
        have HBz := hid (below_tr HB1.out (below_tr hB z5))
        have hownz := own_below hown z5
        have hBz := below_tr hB z5
        clear z1 z2 z3 z5 hown hc hrw hgw hsw HTi
        rcases hnc with rfl | ⟨i, y, rfl, _, hil, _⟩
        · rcases hgc with rfl | ⟨j, gg, rfl, hjg, hjl, _⟩
          · have e6 : expGo names gs [] l 0 = (6, 0) := by rw [HK.out, HE.out]; simp
            have hI6 : Hid (expandI names gs l = 6) := by rw [hI.out, e6]; rfl
            have hL6 : Hid (expandL names gs l = []) := by rw [hL.out, e6]; rfl
            clear e6 hcc
            go_wp2
            go_ret2
            exact ⟨_, by rw [hI6.out]; rfl, by rw [hL6.out]; exact Rd.nil _, HBz.out⟩
          · rw [hgl2] at hjl
            rcases hcc with rfl | ⟨q, yq, rfl, _, _, _⟩
            · rw [if_neg (by omega), if_neg (by omega), if_neg (by omega)] at HE
              obtain ⟨x2, b2, off2, m, hx2, rfl, hxa, hxb, hxm⟩ := HCell2.out j hjl
              have hma : memAt gs (j : Int) = x2.mem := by unfold memAt; rw [Int.toNat_natCast, hx2]
              rw [hma] at HE
              have hmm := List.mem_of_getElem? hx2
              have hgo := HGO.out x2 hmm
              have h40 := hm40 x2 hmm
              have hmr := ckSet_ok _ _ _ hgo.2
              have HM2 := hid (bits_mem HM.out x2.mem (fun y hy => (hmr y hy).1))
              have HY2 := hid (fun y (hy : y ∈ ys ++ x2.mem) => (List.mem_append.1 hy).elim (HY.out y) (fun h => by have := hmr y h; omega))
              obtain ⟨am, capm, rfl, hlm, hcmm, hcellm⟩ := hxm.open
              obtain ⟨y0, bm, om, _, rfl, _⟩ := hcellm 0 hgo.1
              clear hma hmm hgo hmr hxa hcellm hjg hx2
              go_wp2
              go_quiet ((go_at_call 36; exact Calls.quiet_of_same ((HIL _ (z4.drewN _)).out.mono fun _ _ h => ⟨h.1, h.2.symm⟩)))
              have hxb2 := Below.keeps (below_drewN HBz.out nq) _ _ hxb
              have HXM := hid (RdI.cellsAt (hxm.below (below_drewN HBz.out nq)))
              have hownq := own_below hownz (below_drewN (Below.refl _ _) nq)
              have hBq := below_drewN hBz nq
              obtain ⟨i0, hi1, hi2, hi3, hi4⟩ := info_parts infoInt
              go_wp2_with (at_builtin; refine wpList_append_own _ rfl _ _ 33 rfl w1.heap.size 3 i0 _ 1 8 Tryd.underlying33 hi1 hi2 hi3 hi4 rfl (by decide) _ _ _ rfl hownq ⟨bm, om, none⟩ x2.mem.length capm (x2.mem.map (Value.int .i64)) rfl (by simp) (fun j u h => HXM.out j u h) (ints_one _) (by unfold maxLen; omega) (by omega) hBq.size ?_; intro v' w4 hown' hgr _)
              go_roundw
              case rel => exact ⟨k + 1, _, ys ++ x2.mem, by omega, by go_num, by rw [HK.out, HE.out]; rfl, HM2.out, HY2.out, by rw [List.length_append]; omega, by simpa using hown', hBq.grown hgr hBq.size (fun b hb => (hownq.lt b hb).1)⟩
              case measure => simp [intOf]; omega
            · have e6 : expGo names gs [] l 0 = (7, 0) := by rw [HK.out, HE.out, if_neg (by omega), if_pos (by omega)]
              have hI6 : Hid (expandI names gs l = 7) := by rw [hI.out, e6]; rfl
              have hL6 : Hid (expandL names gs l = []) := by rw [hL.out, e6]; rfl
              clear e6 HE
              go_wp2
              go_quiet ((go_at_call 36; exact Calls.quiet_of_same ((HIL _ (z4.drewN _)).out.mono fun _ _ h => ⟨h.1, h.2.symm⟩)))
              go_wp2
              go_ret2
              exact ⟨_, by rw [hI6.out]; rfl, by rw [hL6.out]; exact Rd.nil _, below_drewN HBz.out nq⟩
        · clear hgc hgl2
          rcases hcc with rfl | ⟨q, yq, rfl, _, _, _⟩
          · rw [if_neg (by omega), if_neg (by omega), if_pos (by omega), Int.toNat_natCast] at HE
            have HM2 := hid (bits_one HM.out i)
            have HY2 := hid (fun y (hy : y ∈ ys ++ [(i : Int)]) => (List.mem_append.1 hy).elim (HY.out y) (fun h => by rw [List.mem_singleton] at h; omega))
            go_wp2
            go_quiet ((go_at_call 36; exact Calls.quiet_of_same ((HIL _ (z4.drewN _)).out.mono fun _ _ h => ⟨h.1, h.2.symm⟩)))
            have hownq := own_below hownz (below_drewN (Below.refl _ _) nq)
            have hBq := below_drewN hBz nq
            go_wp2_with (at_builtin; refine wpList_ap rfl _ _ 33 rfl w1.heap.size 3 Tryd.underlying33 infoInt rfl (by decide) (by decide) _ _ _ rfl hownq [.int .i64 i] rfl (by simp [Value.oneCell']) rfl (by simp) (by omega) hBq.size ?_; intro v' w4 hown' hb1 _)
            go_roundw
            case rel => exact ⟨k + 1, _, ys ++ [(i : Int)], by omega, by go_num, by rw [HK.out, HE.out]; rfl, HM2.out, HY2.out, by rw [List.length_append, List.length_singleton]; omega, by simpa using hown', hBq.trans hb1⟩
            case measure => simp [intOf]; omega
          · have e6 : expGo names gs [] l 0 = (7, 0) := by rw [HK.out, HE.out, if_neg (by omega), if_pos (by omega)]
            have hI6 : Hid (expandI names gs l = 7) := by rw [hI.out, e6]; rfl
            have hL6 : Hid (expandL names gs l = []) := by rw [hL.out, e6]; rfl
            clear e6 HE
            go_wp2
            go_quiet ((go_at_call 36; exact Calls.quiet_of_same ((HIL _ (z4.drewN _)).out.mono fun _ _ h => ⟨h.1, h.2.symm⟩)))
            go_wp2
            go_ret2
            exact ⟨_, by rw [hI6.out]; rfl, by rw [hL6.out]; exact Rd.nil _, below_drewN HBz.out nq⟩
      · obtain rfl : k = l.length := by omega
        have e0 : expGo names gs [] l 0 = (0, M) := by rw [HK.out, List.take_of_length_le (Nat.le_refl _), List.drop_of_length_le (Nat.le_refl _)]; rfl
        have hI6 : Hid (expandI names gs l = 0) := by rw [hI.out, e0]; rfl
        have hL6 : Hid (expandL names gs l = selTo ys names.length) := by rw [hL.out, e0, selTo_all HM.out HY.out (by omega)]; rfl
        clear e0 hI hL HK HM HY HCell2 HCell3 HGO
        have hro := Rd.of_own (enc := Value.int .i64) hown
        obtain ⟨ao, capo, rfl, hlo, hcmo, _⟩ := hro.open
        have HBo := hid (below_tr HB1.out hB)
        clear hr1 hg1 hs1 hB hown
        obtain ⟨wo, hwo⟩ : ∃ wo : World, wo = wr := ⟨_, rfl⟩
        go_wp2_with fail
        subst hwo
        go_loopw [12, 13] (fun o i wr => ∃ (k : Nat) (zs : List Int), k ≤ names.length ∧ i = .int .i64 k ∧ Hid (zs = selTo ys k) ∧ zs.length ≤ k ∧ wr.ownsRow wo.heap.size 3 1 o zs.length (zs.map (Value.int .i64)) ∧ Below wo.heap.size wo wr) (fun _ i _ => names.length - (intOf i).toNat)
        case atStart => exact ⟨0, [], by omega, rfl, rfl, by simp, World.ownsRow_made wo #[] 0 (Nat.le_refl _) (by unfold maxLen; omega) rfl, below_al wo _⟩
        case round =>
          obtain ⟨k, zs, hk, rfl, HZ, hzl, hown, hB⟩ := hrel
          by_cases hlt : k < names.length
          · have HS := hid (selTo_succ ys k)
            have hrk := hro.below hB
            have HH := fun w' h => hid (has_any (.slice ao ys.length capo) ys (k : Int) w' h)
            generalize (ys.any fun y => decide (y = (k : Int))) = hb at *
            cases hb with
            | true =>
              go_wp2_with fail
              refine (HH _ hrk).out.mono ?_
              rintro e w4 ⟨rfl, rfl⟩
              go_wp2_with (at_builtin; refine wpList_ap rfl _ _ 33 rfl wo.heap.size 3 Tryd.underlying33 infoInt rfl (by decide) (by decide) _ _ _ rfl hown [.int .i64 k] rfl (by simp [Value.oneCell']) rfl (by simp) (by omega) hB.size ?_; intro v' w4 hown' hb1 _)
              go_roundw
              case rel => exact ⟨k + 1, zs ++ [(k : Int)], by omega, by go_num, by rw [HS.out, HZ.out]; rfl, by rw [List.length_append, List.length_singleton]; omega, by simpa using hown', hB.trans hb1⟩
              case measure => simp [intOf]; omega
            | false =>
              go_wp2_with fail
              refine (HH _ hrk).out.mono ?_
              rintro e w4 ⟨rfl, rfl⟩
              go_wp2
              go_roundw
              case rel => exact ⟨k + 1, zs, by omega, by go_num, by rw [HS.out, HZ.out]; simp [Hid], by omega, hown, hB⟩
              case measure => simp [intOf]; omega
          · obtain rfl : k = names.length := by omega
            have hre := Rd.of_own (enc := Value.int .i64) hown
            have hBe := below_tr HBo.out hB
            go_wp2
            go_ret2
            exact ⟨_, by rw [hI6.out]; rfl, by rw [hL6.out, ← HZ.out]; exact hre, hBe⟩
  · have hI : expandI names gs l = 1 := by unfold expandI; rw [if_pos h0]
    have hL : expandL names gs l = [] := by unfold expandL; rw [hI]; rfl
    rw [hI, hL]
    generalize checkI names gs = ce at *
    have hcb : (ce == 0) = false := by simpa using h0
    go_enter Tryd.func14, Tryd.ntmps14
    go_wp2_with fail
    refine hC.out.mono ?_
    rintro e w1 ⟨rfl, hB1⟩
    go_wp2
    go_ret2
    exact ⟨_, rfl, Rd.nil _, hB1⟩
end Go.Proofs.YtigaflmhdbgmdaaDoor
