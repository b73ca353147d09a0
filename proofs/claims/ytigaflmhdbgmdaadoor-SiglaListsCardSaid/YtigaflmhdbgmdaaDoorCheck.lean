/-
  Contract: sigla.Check.
-/
import Derived.Test.YtigaflmhdbgmdaaDoorSigA
import Derived.Test.YtigaflmhdbgmdaaDoorSl2
namespace Go.Proofs.YtigaflmhdbgmdaaDoor
open Go.RowKit

def ckNames : List ByteArray → List ByteArray → Int
  | _, [] => 0
  | pre, s :: r => if sigB s = false then 14 else if (pre.any fun x => decide (s = x)) = true then 7 else ckNames (pre ++ [s]) r

def ckGrps (names : List ByteArray) : List Grp → List Grp → Int
  | _, [] => 0
  | pre, g :: r => if isNameB g.name = false then 14 else if (names.any fun x => decide (g.name = x)) = true ∨ (pre.any fun x => decide (x.name = g.name)) = true then 7
    else if g.mem.length = 0 then 5 else if ckSet names.length none g.mem ≠ 0 then ckSet names.length none g.mem else ckGrps names (pre ++ [g]) r

def checkI (names : List ByteArray) (gs : List Grp) : Int :=
  if 32 < names.length then 4 else if ckNames [] names ≠ 0 then ckNames [] names else if 16 < gs.length then 4 else ckGrps names [] gs

theorem ckNames_at (l : List ByteArray) (k : Nat) (s : ByteArray) (h : l[k]? = some s) :
    ckNames (l.take k) (l.drop k) = if sigB s = false then 14 else if ((l.take k).any fun x => decide (s = x)) = true then 7 else ckNames (l.take (k + 1)) (l.drop (k + 1)) := by
  obtain ⟨hk, hx⟩ := List.getElem?_eq_some_iff.1 h
  rw [List.drop_eq_getElem_cons hk, hx, List.take_add_one, h]; rfl
theorem ckGrps_at (names : List ByteArray) (l : List Grp) (k : Nat) (g : Grp) (h : l[k]? = some g) :
    ckGrps names (l.take k) (l.drop k) = if isNameB g.name = false then 14 else if (names.any fun x => decide (g.name = x)) = true ∨ ((l.take k).any fun x => decide (x.name = g.name)) = true then 7
    else if g.mem.length = 0 then 5 else if ckSet names.length none g.mem ≠ 0 then ckSet names.length none g.mem else ckGrps names (l.take (k + 1)) (l.drop (k + 1)) := by
  obtain ⟨hk, hx⟩ := List.getElem?_eq_some_iff.1 h
  rw [List.drop_eq_getElem_cons hk, hx, List.take_add_one, h]; rfl

set_option maxHeartbeats 1000000 in
theorem check_any (v u : Value) (names : List ByteArray) (gs : List Grp) (w : World) (hr : RdS w v names) (hg : RdG w u gs) (hz : Szs names) (hzg : SzG gs) :
    Calls Tryd.prog 29 #[v, u] w fun e w' => e = .returned (.int .i64 (checkI names gs)) ∧ Below w.heap.size w w' := by
  obtain ⟨a, cap, rfl, hlc, hcm, hcell⟩ := hr.open
  obtain ⟨a2, cap2, rfl, hlc2, hcm2, hcell2⟩ := hg.open
  have HCell := hid hcell; clear hcell
  have HCell2 := hid hcell2; clear hcell2
  have HZ := hid hz; clear hz
  have HZG := hid hzg; clear hzg
  by_cases h32 : 32 < names.length
  · have hI : checkI names gs = 4 := by unfold checkI; rw [if_pos h32]
    have HI := hid hI; clear hI
    go_enter Tryd.func29, Tryd.ntmps29
    go_wp2
    go_ret
    exact ⟨ret_int HI.out.symm, Below.refl _ _⟩
  have HI : Hid (checkI names gs = if ckNames [] names ≠ 0 then ckNames [] names else if 16 < gs.length then 4 else ckGrps names [] gs) := by unfold checkI; rw [if_neg h32]; rfl
  go_enter Tryd.func29, Tryd.ntmps29
  go_wp2
  go_loop [15] (fun i => ∃ k : Nat, k ≤ names.length ∧ i = .int .i64 k ∧ Hid (ckNames [] names = ckNames (names.take k) (names.drop k))) (fun i => names.length - (intOf i).toNat)
  case atStart => exact ⟨0, Nat.zero_le _, rfl, by simp [Hid]⟩
  case round =>
    obtain ⟨k, hk, rfl, HK⟩ := hrel
    by_cases hlt : k < names.length
    · obtain ⟨x, b, off, hx, rfl, hc⟩ := HCell.out k hlt
      have HX := hid hx
      have HS := hid (ckNames_at names k x hx)
      have hxz := HZ.out x (List.mem_of_getElem? hx)
      have hrt := hr.take k hk
      clear hx
      have HC := fun w' => hid (siglum_any x w' hxz)
      have HD := fun w' (h : RdS w' (.slice (some ⟨b, off, none⟩) k cap) (names.take k)) => hid (containsS_any _ _ x w' h)
      clear hxz
      generalize sigB x = sb at *
      generalize ((names.take k).any fun y => decide (x = y)) = ab at *
      cases sb with
      | false =>
        go_wp2_with (first | (go_at_call 22; refine (HC _).out.mono ?_; rintro e w' ⟨rfl, rfl⟩) | (go_at_call 24; refine (HD _ hrt).out.mono ?_; rintro e w' ⟨rfl, rfl⟩))
        go_ret
        refine ⟨ret_int ?_, Below.refl _ _⟩
        rw [HI.out, HK.out, HS.out]; simp
      | true =>
        cases ab with
        | true =>
          go_wp2_with (first | (go_at_call 22; refine (HC _).out.mono ?_; rintro e w' ⟨rfl, rfl⟩) | (go_at_call 24; refine (HD _ hrt).out.mono ?_; rintro e w' ⟨rfl, rfl⟩))
          go_ret
          refine ⟨ret_int ?_, Below.refl _ _⟩
          rw [HI.out, HK.out, HS.out]; simp
        | false =>
          go_wp2_with (first | (go_at_call 22; refine (HC _).out.mono ?_; rintro e w' ⟨rfl, rfl⟩) | (go_at_call 24; refine (HD _ hrt).out.mono ?_; rintro e w' ⟨rfl, rfl⟩))
          go_round
          case rel => exact ⟨k + 1, by omega, by go_num, by rw [HK.out, HS.out]; simp [Hid]⟩
          case measure => simp [intOf]; omega
    · have h0 : ckNames [] names = 0 := by rw [HK.out, List.drop_of_length_le (by omega)]; rfl
      have HI2 : Hid (checkI names gs = if 16 < gs.length then 4 else ckGrps names [] gs) := by rw [HI.out, h0]; rfl
      clear HI HK h0
      by_cases h16 : 16 < gs.length
      · go_wp2
        go_ret
        exact ⟨ret_int (by rw [HI2.out, if_pos h16]), Below.refl _ _⟩
      have HI3 : Hid (checkI names gs = ckGrps names [] gs) := by rw [HI2.out, if_neg h16]; rfl
      clear HI2
      go_wp2
      go_loopw [34] (fun i wr => ∃ j : Nat, j ≤ gs.length ∧ i = .int .i64 j ∧ Hid (ckGrps names [] gs = ckGrps names (gs.take j) (gs.drop j)) ∧ Below w.heap.size w wr) (fun i _ => gs.length - (intOf i).toNat)
      case atStart => exact ⟨0, Nat.zero_le _, rfl, by simp [Hid], Below.refl _ _⟩
      case round =>
        rename_i wr
        obtain ⟨j, hj, rfl, HJ, hB⟩ := hrel
        by_cases hltj : j < gs.length
        · obtain ⟨g, b2, off2, m, hgx, rfl, hc0, hd0, hm0⟩ := HCell2.out j hltj
          have hc := Below.keeps hB _ _ hc0
          have hd := Below.keeps hB _ _ hd0
          have hm := hm0.below hB
          clear hc0 hd0 hm0
          obtain ⟨am, capm, rfl, hlm, hcm3, _⟩ := hm.open
          have HG := hid (ckGrps_at names gs j g hgx)
          have hgz := HZG.out g (List.mem_of_getElem? hgx)
          have hb1 := below_al wr (.cells #[.string g.name, .slice am g.mem.length capm] 45)
          have hr1 := (hr.below hB).below hb1
          have hg1 := ((hg.below hB).below hb1).take j hj
          have hf0 := cell_nw wr #[.string g.name, .slice am g.mem.length capm] 45 0 (x := .string g.name) rfl
          have hf1 := cell_nw wr #[.string g.name, .slice am g.mem.length capm] 45 1 (x := .slice am g.mem.length capm) rfl
          have hm1 := hm.below hb1
          have HF := hid (containsFuncG_any 55 (enters_of Tryd.func55 (by kernel_rfl) rfl) (.pointer (some ⟨wr.heap.size, 0, none⟩)) (fun n => decide (n = g.name)) _ (gs.take j) _ hg1
            (fun n m' W' hW' => chk1_any n g.name m' _ _ W' (Below.keeps hW' _ _ hf0)))
          have HN := fun w' => hid (isName_any g.name w' hgz)
          have HC := hid (fun w' h => containsS_any (.slice a names.length cap) names g.name w' h)
          have HK := hid (fun w' h => checkSet_any (.slice am g.mem.length capm) g.mem names.length w' h)
          clear hgx hgz hg1
          have HB1 := hid (below_tr hB hb1)
          clear hb1
          generalize isNameB g.name = nb at *
          generalize (names.any fun y => decide (g.name = y)) = cn at *
          generalize ((gs.take j).any fun x => decide (x.name = g.name)) = cg at *
          generalize ckSet names.length none g.mem = cs at *
          cases nb with
          | false =>
            go_wp2_with (first | (go_at_call 50; refine (HN _).out.mono ?_; rintro e w' ⟨rfl, rfl⟩) | (go_at_call 24; refine (HC.out _ hr1).mono ?_; rintro e w' ⟨rfl, rfl⟩) | (go_at_call 54; refine HF.out.mono ?_; rintro e w2 ⟨rfl, hB2⟩; have hf2 := Below.keeps hB2 _ _ hf1; have hm2 := hm1.below hB2) | (go_at_call 40; refine (HK.out _ hm2).mono ?_; rintro e w' ⟨rfl, rfl⟩))
            go_ret
            refine ⟨ret_int ?_, HB1.out⟩
            rw [HI3.out, HJ.out, HG.out]; simp
          | true =>
          cases cn with
          | true =>
            go_wp2_with (first | (go_at_call 50; refine (HN _).out.mono ?_; rintro e w' ⟨rfl, rfl⟩) | (go_at_call 24; refine (HC.out _ hr1).mono ?_; rintro e w' ⟨rfl, rfl⟩) | (go_at_call 54; refine HF.out.mono ?_; rintro e w2 ⟨rfl, hB2⟩; have hf2 := Below.keeps hB2 _ _ hf1; have hm2 := hm1.below hB2) | (go_at_call 40; refine (HK.out _ hm2).mono ?_; rintro e w' ⟨rfl, rfl⟩))
            go_ret
            refine ⟨ret_int ?_, HB1.out⟩
            rw [HI3.out, HJ.out, HG.out]; simp
          | false =>
          cases cg with
          | true =>
            go_wp2_with (first | (go_at_call 50; refine (HN _).out.mono ?_; rintro e w' ⟨rfl, rfl⟩) | (go_at_call 24; refine (HC.out _ hr1).mono ?_; rintro e w' ⟨rfl, rfl⟩) | (go_at_call 54; refine HF.out.mono ?_; rintro e w2 ⟨rfl, hB2⟩; have hf2 := Below.keeps hB2 _ _ hf1; have hm2 := hm1.below hB2) | (go_at_call 40; refine (HK.out _ hm2).mono ?_; rintro e w' ⟨rfl, rfl⟩))
            go_ret
            refine ⟨ret_int ?_, below_tr HB1.out (by assumption)⟩
            rw [HI3.out, HJ.out, HG.out]; simp
          | false =>
          by_cases hl0 : g.mem.length = 0
          · have hl0' : ((g.mem.length : Int) == 0) = true := by simp [hl0]
            have HL := hid hl0; clear hl0
            go_wp2_with (first | (go_at_call 50; refine (HN _).out.mono ?_; rintro e w' ⟨rfl, rfl⟩) | (go_at_call 24; refine (HC.out _ hr1).mono ?_; rintro e w' ⟨rfl, rfl⟩) | (go_at_call 54; refine HF.out.mono ?_; rintro e w2 ⟨rfl, hB2⟩; have hf2 := Below.keeps hB2 _ _ hf1; have hm2 := hm1.below hB2) | (go_at_call 40; refine (HK.out _ hm2).mono ?_; rintro e w' ⟨rfl, rfl⟩))
            go_ret
            refine ⟨ret_int ?_, below_tr HB1.out (by assumption)⟩
            rw [HI3.out, HJ.out, HG.out]; simp [HL.out]
          have hl0' : ((g.mem.length : Int) == 0) = false := by simp; intro e; exact hl0 (by simp [e])
          have HL := hid hl0; clear hl0
          by_cases hc0 : cs = 0
          · have hc0' : (cs != 0) = false := by simp [hc0]
            have HS := hid hc0; clear hc0
            go_wp2_with (first | (go_at_call 50; refine (HN _).out.mono ?_; rintro e w' ⟨rfl, rfl⟩) | (go_at_call 24; refine (HC.out _ hr1).mono ?_; rintro e w' ⟨rfl, rfl⟩) | (go_at_call 54; refine HF.out.mono ?_; rintro e w2 ⟨rfl, hB2⟩; have hf2 := Below.keeps hB2 _ _ hf1; have hm2 := hm1.below hB2) | (go_at_call 40; refine (HK.out _ hm2).mono ?_; rintro e w' ⟨rfl, rfl⟩))
            go_roundw
            case rel => exact ⟨j + 1, by omega, by go_num, by rw [HJ.out, HG.out]; simp [HL.out, HS.out, Hid], below_tr HB1.out (by assumption)⟩
            case measure => simp [intOf]; omega
          · have hc0' : (cs != 0) = true := by simpa using hc0
            have HS := hid hc0; clear hc0
            go_wp2_with (first | (go_at_call 50; refine (HN _).out.mono ?_; rintro e w' ⟨rfl, rfl⟩) | (go_at_call 24; refine (HC.out _ hr1).mono ?_; rintro e w' ⟨rfl, rfl⟩) | (go_at_call 54; refine HF.out.mono ?_; rintro e w2 ⟨rfl, hB2⟩; have hf2 := Below.keeps hB2 _ _ hf1; have hm2 := hm1.below hB2) | (go_at_call 40; refine (HK.out _ hm2).mono ?_; rintro e w' ⟨rfl, rfl⟩))
            go_ret
            refine ⟨ret_int ?_, below_tr HB1.out (by assumption)⟩
            rw [HI3.out, HJ.out, HG.out]; simp [HL.out, HS.out]
        · go_wp2
          go_ret
          refine ⟨ret_int ?_, hB⟩
          rw [HI3.out, HJ.out, List.drop_of_length_le (by omega)]; rfl
end Go.Proofs.YtigaflmhdbgmdaaDoor
