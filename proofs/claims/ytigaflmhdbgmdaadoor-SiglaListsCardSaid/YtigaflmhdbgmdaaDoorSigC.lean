/-
  Contracts: sigla.Groups, Expand.
-/
import Derived.Test.YtigaflmhdbgmdaaDoorSigB
namespace Go.Proofs.YtigaflmhdbgmdaaDoor
open Go.RowKit

theorem startI_ok {names : List ByteArray} {gs : List Grp} {set : List Int} (h : startI names gs set = 0) : checkI names gs = 0 ∧ ckSet names.length none set = 0 := by
  unfold startI at h
  split at h
  · omega
  · exact ⟨by omega, h⟩

def groupsL (names : List ByteArray) (gs : List Grp) (set : List Int) : List Int := if startI names gs set = 0 then withinL gs (maskN set) else []

theorem mask_lt {l : List Int} (h : ∀ x ∈ l, 0 ≤ x ∧ x < 64) : maskN l < 18446744073709551616 := by
  have := maskN_lt 64 l (fun x hx => by have := h x hx; omega)
  simpa using this

def memAt (gs : List Grp) (i : Int) : List Int := match gs[i.toNat]? with | some g => g.mem | none => []

def expGo (names : List ByteArray) (gs : List Grp) : List ByteArray → List ByteArray → Nat → Int × Nat
  | _, [], all => (0, all)
  | pre, s :: r, all =>
    let n := fIdx (fun x => decide (s = x)) names
    let g := fIdx (fun x : Grp => decide (x.name = s)) gs
    if n < 0 ∧ g < 0 then (6, 0) else if (pre.any fun x => decide (s = x)) = true then (7, 0)
    else if 0 ≤ n then expGo names gs (pre ++ [s]) r (all ||| 2 ^ n.toNat) else expGo names gs (pre ++ [s]) r (all ||| maskN (memAt gs g))

def expandI (names : List ByteArray) (gs : List Grp) (l : List ByteArray) : Int := if checkI names gs ≠ 0 then 1 else (expGo names gs [] l 0).1
def expandL (names : List ByteArray) (gs : List Grp) (l : List ByteArray) : List Int := if expandI names gs l = 0 then bitsL (expGo names gs [] l 0).2 else []

theorem expGo_at (names : List ByteArray) (gs : List Grp) (l : List ByteArray) (k : Nat) (s : ByteArray) (all : Nat) (h : l[k]? = some s) :
    expGo names gs (l.take k) (l.drop k) all = if fIdx (fun x => decide (s = x)) names < 0 ∧ fIdx (fun x : Grp => decide (x.name = s)) gs < 0 then (6, 0) else if ((l.take k).any fun x => decide (s = x)) = true then (7, 0)
    else if 0 ≤ fIdx (fun x => decide (s = x)) names then expGo names gs (l.take (k + 1)) (l.drop (k + 1)) (all ||| 2 ^ (fIdx (fun x => decide (s = x)) names).toNat)
    else expGo names gs (l.take (k + 1)) (l.drop (k + 1)) (all ||| maskN (memAt gs (fIdx (fun x : Grp => decide (x.name = s)) gs))) := by
  obtain ⟨hk, hx⟩ := List.getElem?_eq_some_iff.1 h
  rw [List.drop_eq_getElem_cons hk, hx, List.take_add_one, h]; rfl

set_option maxHeartbeats 2000000 in
set_option maxRecDepth 100000 in
theorem expand_any (v u s : Value) (names : List ByteArray) (gs : List Grp) (l : List ByteArray) (w : World) (hr : RdS w v names) (hg : RdG w u gs) (hs : RdS w s l) (hz : Szs names) (hzg : SzG gs) :
    Calls Tryd.prog 13 #[v, u, s] w fun e w' => ∃ r, e = .returned (.tuple #[r, .int .i64 (expandI names gs l)]) ∧ RdI w' r (expandL names gs l) ∧ Below w.heap.size w w' := by
  have hC := hid (check_any v u names gs w hr hg hz hzg)
  by_cases h0 : checkI names gs = 0
  · have hI : Hid (expandI names gs l = (expGo names gs [] l 0).1) := by unfold expandI; rw [if_neg (by omega)]; rfl
    have hL : Hid (expandL names gs l = if (expGo names gs [] l 0).1 = 0 then bitsL (expGo names gs [] l 0).2 else []) := by rw [expandL, hI.out]; rfl
    have hm := hid (checkI_mem h0)
    have hl32 := (checkI_ok h0).1
    rw [h0] at hC
    have H0 := hid h0; clear h0
    obtain ⟨a2, cap2, rfl, hlc2, hcm2, hcell2⟩ := hg.open
    have HCell2 := hid hcell2; clear hcell2
    obtain ⟨a3, cap3, rfl, hlc3, hcm3, hcell3⟩ := hs.open
    have HCell3 := hid hcell3; clear hcell3
    go_enter Tryd.func13, Tryd.ntmps13
    go_wp2_with (first | (go_at_call 29; refine hC.out.mono ?_; rintro e w1 ⟨rfl, hB1⟩))
    have hB1 : Below w.heap.size w w1 := by assumption
    go_loopw [8, 19] (fun m i wr => ∃ (k : Nat) (M : Nat), k ≤ l.length ∧ i = .int .i64 k ∧ m = .int .u64 M ∧ Hid (M < 18446744073709551616) ∧ Hid (expGo names gs [] l 0 = expGo names gs (l.take k) (l.drop k) M) ∧ Below w.heap.size w wr) (fun _ i _ => l.length - (intOf i).toNat)
    case atStart => exact ⟨0, 0, by omega, rfl, rfl, by simp [Hid], by simp [Hid], hB1⟩
    case round =>
      rename_i wr
      obtain ⟨k, M, hk, rfl, rfl, HM, HK, hB⟩ := hrel
      by_cases hlt : k < l.length
      · obtain ⟨x, b, off, hx, rfl, hc0⟩ := HCell3.out k hlt
        have hc := Below.keeps hB _ _ hc0
        clear hc0
        have HE := hid (expGo_at names gs l k x M hx)
        clear hx
        have hb1 := below_al wr (.cells #[.string x] 9)
        have hr1 := (hr.below hB).below hb1
        have hg1 := (hg.below hB).below hb1
        have hs1 := ((hs.below hB).below hb1).take k hk
        have hf0 := cell_nw wr #[.string x] 9 0 (x := .string x) rfl
        have HF := hid (indexFuncG_any 32 (enters_of Tryd.func32 (by kernel_rfl) rfl) (.pointer (some ⟨wr.heap.size, 0, none⟩)) (fun n => decide (n = x)) _ gs _ hg1
            (fun n m' W' hW' => exp1_any n x m' _ _ W' (Below.keeps hW' _ _ hf0)))
        have HN := hid (fun w' h => indexS_any v names x w' h)
        have HCt := hid (fun w' h => containsS_any (.slice (some ⟨b, off, none⟩) k cap3) (l.take k) x w' h)
        have HB1 := hid (below_tr hB hb1)
        have hnc := fIdx_cases (fun y => decide (x = y)) names
        have hgc := fIdx_cases (fun y : Grp => decide (y.name = x)) gs
        clear hb1
        generalize fIdx (fun y => decide (x = y)) names = n at *
        generalize fIdx (fun y : Grp => decide (y.name = x)) gs = g at *
        generalize ((l.take k).any fun y => decide (x = y)) = ct at *
        have q1 : (k : Int) ≤ (cap3 : Int) := by omega
        have q2 : k ≤ cap3 := by omega
        rcases hnc with rfl | ⟨i, y, rfl, hiy, hil, _⟩
        · rcases hgc with rfl | ⟨j, gg, rfl, hjg, hjl, _⟩
          · go_wp2_with (first | (go_at_call 30; refine (HN.out _ hr1).mono ?_; rintro e w' ⟨rfl, rfl⟩) | (go_at_call 31; refine HF.out.mono ?_; rintro e w2 ⟨rfl, hB2⟩; have hf2 := Below.keeps hB2 _ _ hf0; have hs2 := hs1.below hB2; have HB2 := hid (below_tr HB1.out hB2)))
            go_ret2
            have e6 : expGo names gs [] l 0 = (6, 0) := by rw [HK.out, HE.out]; simp
            exact ⟨.slice none 0 0, by rw [hI.out, e6]; rfl, by rw [hL.out, e6]; exact Rd.nil _, HB2.out⟩
          · obtain ⟨x2, b2, off2, m, hx2, rfl, hxa, hxb, hxm⟩ := HCell2.out j hjl
            have HJG := hid hjg; clear hjg
            obtain rfl : x2 = gg := Option.some.inj (hx2.symm.trans HJG.out)
            clear hx2
            have hma : memAt gs (j : Int) = x2.mem := by unfold memAt; rw [Int.toNat_natCast, HJG.out]
            rw [hma] at HE
            clear hma
            obtain ⟨am, capm, rfl, hlm, hcmm, _⟩ := hxm.open
            have hmem := hm.out x2 (List.mem_of_getElem? HJG.out)
            have HMk := fun w' h => hid (mask_any (.slice am x2.mem.length capm) x2.mem w' h hmem)
            have hMM := hid (mask_lt hmem)
            clear hmem
            generalize maskN x2.mem = MM at *
            cases ct with
            | true =>
              go_wp2_with (first | (go_at_call 30; refine (HN.out _ hr1).mono ?_; rintro e w' ⟨rfl, rfl⟩) | (go_at_call 31; refine HF.out.mono ?_; rintro e w2 ⟨rfl, hB2⟩; have hf2 := Below.keeps hB2 _ _ hf0; have hs2 := hs1.below hB2; have HB2 := hid (below_tr HB1.out hB2)))
              go_quiet ((go_at_call 24; exact Calls.quiet_of_same ((HCt.out _ (hs2.drewN _)).mono fun _ _ h => ⟨h.1, h.2.symm⟩)))
              go_wp2
              go_ret2
              have e6 : expGo names gs [] l 0 = (7, 0) := by rw [HK.out, HE.out, if_neg (by omega)]; simp
              exact ⟨.slice none 0 0, by rw [hI.out, e6]; rfl, by rw [hL.out, e6]; exact Rd.nil _, below_drewN HB2.out _⟩
            | false =>
              go_wp2_with (first | (go_at_call 30; refine (HN.out _ hr1).mono ?_; rintro e w' ⟨rfl, rfl⟩) | (go_at_call 31; refine HF.out.mono ?_; rintro e w2 ⟨rfl, hB2⟩; have hf2 := Below.keeps hB2 _ _ hf0; have hs2 := hs1.below hB2; have HB2 := hid (below_tr HB1.out hB2)))
              go_quiet ((go_at_call 24; exact Calls.quiet_of_same ((HCt.out _ (hs2.drewN _)).mono fun _ _ h => ⟨h.1, h.2.symm⟩)))
              have hxb2 := Below.keeps (below_drewN HB2.out nq) _ _ hxb
              have hxm2 := hxm.below (below_drewN HB2.out nq)
              go_wp2_with (go_at_call 33; refine (HMk _ hxm2).out.mono ?_; rintro e w' ⟨rfl, rfl⟩)
              go_roundw
              case rel => exact ⟨k + 1, M ||| MM, by omega, by go_num, by rw [bits_or_u64_nat _ _ HM.out hMM.out], Nat.or_lt_two_pow (n := 64) HM.out hMM.out, by rw [HK.out, HE.out, if_neg (by omega), if_neg (by simp), if_neg (by omega)]; rfl, below_drewN HB2.out _⟩
              case measure => simp [intOf]; omega
        · have hi32 : (i : Int) < 64 := by omega
          cases ct with
          | true =>
            go_wp2_with (first | (go_at_call 30; refine (HN.out _ hr1).mono ?_; rintro e w' ⟨rfl, rfl⟩) | (go_at_call 31; refine HF.out.mono ?_; rintro e w2 ⟨rfl, hB2⟩; have hf2 := Below.keeps hB2 _ _ hf0; have hs2 := hs1.below hB2; have HB2 := hid (below_tr HB1.out hB2)))
            go_quiet ((go_at_call 24; exact Calls.quiet_of_same ((HCt.out _ (hs2.drewN _)).mono fun _ _ h => ⟨h.1, h.2.symm⟩)))
            go_wp2
            go_ret2
            have e6 : expGo names gs [] l 0 = (7, 0) := by rw [HK.out, HE.out, if_neg (by omega)]; simp
            exact ⟨.slice none 0 0, by rw [hI.out, e6]; rfl, by rw [hL.out, e6]; exact Rd.nil _, below_drewN HB2.out _⟩
          | false =>
            go_wp2_with (first | (go_at_call 30; refine (HN.out _ hr1).mono ?_; rintro e w' ⟨rfl, rfl⟩) | (go_at_call 31; refine HF.out.mono ?_; rintro e w2 ⟨rfl, hB2⟩; have hf2 := Below.keeps hB2 _ _ hf0; have hs2 := hs1.below hB2; have HB2 := hid (below_tr HB1.out hB2)))
            go_quiet ((go_at_call 24; exact Calls.quiet_of_same ((HCt.out _ (hs2.drewN _)).mono fun _ _ h => ⟨h.1, h.2.symm⟩)))
            go_wp2
            go_roundw
            case rel => exact ⟨k + 1, M ||| 2 ^ i, by omega, by go_num, by have := or_pow M i HM.out (by omega) (by omega); rw [Int.toNat_natCast] at this; rw [this], Nat.or_lt_two_pow (n := 64) HM.out (Nat.pow_lt_pow_right (by omega) (by omega)), by rw [HK.out, HE.out, if_neg (by omega), if_neg (by simp), if_pos (by omega), Int.toNat_natCast]; rfl, below_drewN HB2.out _⟩
            case measure => simp [intOf]; omega
      · obtain rfl : k = l.length := by omega
        have eK : expGo names gs [] l 0 = (0, M) := by rw [HK.out, List.drop_length]; rfl
        have HMb := fun w' => hid (members_any M w' HM.out)
        go_wp2_with (go_at_call 34; refine (HMb _).out.mono ?_; rintro e w3 ⟨r, rfl, hr3, hB3⟩)
        go_ret2
        exact ⟨r, by rw [hI.out, eK]; rfl, by rw [hL.out, eK]; assumption, below_tr hB (by assumption)⟩
  · have hb : (checkI names gs != 0) = true := by simpa using h0
    have hI : expandI names gs l = 1 := by unfold expandI; rw [if_pos h0]
    have hL : Hid (expandL names gs l = []) := by rw [expandL, hI]; rfl
    rw [hI]
    clear h0 hI
    generalize checkI names gs = c at *
    go_enter Tryd.func13, Tryd.ntmps13
    go_wp2_with (first | (go_at_call 29; refine hC.out.mono ?_; rintro e w1 ⟨rfl, hB1⟩))
    go_ret2
    exact ⟨_, rfl, by rw [hL.out]; exact Rd.nil _, by assumption⟩
end Go.Proofs.YtigaflmhdbgmdaaDoor
