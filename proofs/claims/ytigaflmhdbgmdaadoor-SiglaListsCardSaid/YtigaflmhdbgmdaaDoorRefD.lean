/-
  The reference of layer 42: set, titles, check, Check.
-/
import Derived.Test.YtigaflmhdbgmdaaDoorRefC
import Derived.Deep.RegionHeld3
namespace Go.Proofs.YtigaflmhdbgmdaaDoor
open Go.RowKit

set_option maxHeartbeats 1000000 in
theorem rset_any (v : Value) (l : List Int) (n : Int) (w : World) (hr : RdI w v l) :
    Calls Tryd.prog 42 #[.int .i64 n, v] w fun e w' => e = .returned (.int .i64 (ckSet n none l)) ∧ Below w.heap.size w w' := by
  obtain ⟨a, cap, rfl, hlc, hcm, hcell⟩ := hr.open
  have HCell := hid hcell; clear hcell
  go_enter Tryd.func42, Tryd.ntmps42
  go_wp2
  go_loopw [5] (fun i wr => ∃ k : Nat, k ≤ l.length ∧ i = .int .i64 k ∧ Hid (ckSet n none l = ckSet n (if k = 0 then none else l[k - 1]?) (l.drop k)) ∧ Below w.heap.size w wr) (fun i _ => l.length - (intOf i).toNat)
  case atStart => exact ⟨0, Nat.zero_le _, rfl, by simp [Hid], Below.refl _ _⟩
  case round =>
    rename_i wr
    obtain ⟨k, hk, rfl, HK, hB⟩ := hrel
    by_cases hlt : k < l.length
    · obtain ⟨x, b, off, hx, rfl, hc0⟩ := HCell.out k hlt
      have hc := Below.keeps hB _ _ hc0
      clear hc0
      have HX := hid hx; clear hx
      by_cases hbad : x < 0 ∨ n ≤ x
      · have HBAD := hid hbad
        rcases hbad with hx0 | hxn
        · go_wp2
          go_ret
          exact ⟨ret_int (by rw [HK.out, ckSet_drop n l k x HX.out, if_pos HBAD.out]), hB⟩
        · by_cases hx0 : x < 0
          · go_wp2
            go_ret
            exact ⟨ret_int (by rw [HK.out, ckSet_drop n l k x HX.out, if_pos HBAD.out]), hB⟩
          · go_wp2
            go_ret
            exact ⟨ret_int (by rw [HK.out, ckSet_drop n l k x HX.out, if_pos HBAD.out]), hB⟩
      · have HBAD := hid hbad
        have hx0 : 0 ≤ x := by omega
        have hxn : x < n := by omega
        clear hbad
        cases k with
        | zero =>
          have hd : decide ((0 : Int) < 0) = false := rfl
          rw [Nat.add_zero] at hc
          go_wp2
          go_quiet (fail)
          go_wp2
          go_roundw
          case rel => exact ⟨1, by omega, by go_num, by rw [HK.out, ckSet_drop n l 0 x HX.out, if_neg HBAD.out, if_neg (by simp)]; simp [HX.out, Hid], below_drewN hB _⟩
          case measure => simp [intOf]; omega
        | succ m =>
          obtain ⟨q, b', off', hq, he, hcq0⟩ := HCell.out m (by omega)
          cases he
          have hcq := Below.keeps hB _ _ hcq0
          clear hcq0
          have HQ := hid hq; clear hq
          rw [if_neg (by omega), show m + 1 - 1 = m from rfl, HQ.out] at HK
          have s1 : IntKind.i64.wrap ((m : Int) + 1 - 1) = m := by rw [IntWalk.i64_in _ (by omega)]; omega
          have s2 : IntKind.i64.wrap (m : Int) = m := by rw [IntWalk.i64_in _ (by omega)]
          have s3 : 0 ≤ (m : Int) + 1 := by omega
          have s4 : ((m : Int) + 1).toNat = m + 1 := by omega
          have s5 : (m : Int) + 1 < (l.length : Int) := by omega
          have s6 : m < l.length := by omega
          have s8 : decide ((0 : Int) < (m : Int) + 1) = true := decide_eq_true (by omega)
          by_cases hxq : x ≤ q
          · have hb : decide (x ≤ q) = true := decide_eq_true hxq
            go_wp2
            go_quiet (fail)
            go_wp2
            go_ret
            exact ⟨ret_int (by rw [HK.out, ckSet_drop n l (m + 1) x HX.out, if_neg HBAD.out, if_pos ⟨q, rfl, by omega⟩]), below_drewN hB _⟩
          · have hb : decide (x ≤ q) = false := decide_eq_false hxq
            go_wp2
            go_quiet (fail)
            go_wp2
            go_roundw
            case rel => exact ⟨m + 1 + 1, by omega, by go_num, by rw [HK.out, ckSet_drop n l (m + 1) x HX.out, if_neg HBAD.out, if_neg (by rintro ⟨q', e, h⟩; cases e; omega)]; simp [HX.out, Hid], below_drewN hB _⟩
            case measure => simp [intOf]; omega
    · go_wp2
      go_ret
      exact ⟨ret_int (by rw [HK.out, List.drop_of_length_le (by omega)]; rfl), hB⟩


set_option maxHeartbeats 400000 in
set_option maxRecDepth 100000 in
theorem titles_any (u : Value) (gs : List Grp) (w : World) (hg : RdG w u gs) (hl : gs.length ≤ 1048576) :
    Calls Tryd.prog 37 #[u] w fun e w' => ∃ v, e = .returned v ∧ RdS w' v (gs.map (·.name)) ∧ Below w.heap.size w w' := by
  obtain ⟨a2, cap2, rfl, hlc2, hcm2, hcell2⟩ := hg.open
  have HCell2 := hid hcell2; clear hcell2
  go_enter Tryd.func37, Tryd.ntmps37
  go_wp2
  go_loopw [3, 4] (fun v i wr => ∃ (k : Nat) (xs : List ByteArray), k ≤ gs.length ∧ i = .int .i64 k ∧ Hid (xs = (gs.take k).map (·.name)) ∧ xs.length ≤ k ∧ wr.ownsRow w.heap.size 9 1 v xs.length (xs.map Value.string) ∧ Below w.heap.size w wr) (fun _ i _ => gs.length - (intOf i).toNat)
  case atStart => exact ⟨0, [], by omega, rfl, by simp [Hid], by simp, World.ownsRow_made w #[] 0 (Nat.le_refl _) (by unfold maxLen; omega) rfl, below_al w _⟩
  case round =>
    rename_i wr
    obtain ⟨k, xs, hk, rfl, HX, hxl, hown, hB⟩ := hrel
    by_cases hlt : k < gs.length
    · obtain ⟨g, b2, off2, m, hgx, rfl, hc0, hd0, hm0⟩ := HCell2.out k hlt
      have hc := Below.keeps hB _ _ hc0
      clear hc0 hd0 hm0
      have HS : Hid ((gs.take (k + 1)).map (·.name) = xs ++ [g.name]) := by rw [List.take_add_one, hgx, HX.out]; simp [Hid]
      clear hgx
      go_wp2_with (at_builtin; refine wpList_ap rfl _ _ 22 rfl w.heap.size 9 Tryd.underlying22 infoStr rfl (by decide) (by decide) _ _ _ rfl hown [.string g.name] rfl (by simp [Value.oneCell']) rfl (by simp) (by omega) hB.size ?_; intro v' w1 hown' hb1 _)
      go_roundw
      case rel => exact ⟨k + 1, xs ++ [g.name], by omega, by go_num, HS.out.symm, by rw [List.length_append, List.length_singleton]; omega, by simpa using hown', hB.trans hb1⟩
      case measure => simp [intOf]; omega
    · go_wp2
      go_ret
      exact ⟨_, rfl, by rw [show gs.map (·.name) = xs by rw [HX.out, List.take_of_length_le (by omega)]]; exact Rd.of_own hown, hB⟩

/-- The first place of a string, under a name. -/
def ridx (s : ByteArray) (l : List ByteArray) : Int := fIdx (fun x => decide (x = s)) l
theorem ridx_any (v : Value) (l : List ByteArray) (s : ByteArray) (w : World) (hr : RdS w v l) :
    Calls Tryd.prog 36 #[v, .string s] w fun e w' => e = .returned (.int .i64 (ridx s l)) ∧ w = w' := rindex_any v l s w hr

set_option maxHeartbeats 2000000 in
set_option maxRecDepth 100000 in
theorem rcheckG_any (v u : Value) (names : List ByteArray) (gs : List Grp) (w : World) (hr : RdS w v names) (hg : RdG w u gs) (hz : Szs names) (hzg : SzG gs) :
    Calls Tryd.prog 35 #[v, u] w fun e w' => e = .returned (.int .i64 (checkI names gs)) ∧ Below w.heap.size w w' := by
  obtain ⟨a, cap, rfl, hlc, hcm, hcell⟩ := hr.open
  obtain ⟨a2, cap2, rfl, hlc2, hcm2, hcell2⟩ := hg.open
  have HCell := hid hcell; clear hcell
  have HCell2 := hid hcell2; clear hcell2
  have HZ := hid hz; clear hz
  have HZG := hid hzg; clear hzg
  by_cases h32 : 32 < names.length
  · have hI : checkI names gs = 4 := by unfold checkI; rw [if_pos h32]
    have HI := hid hI; clear hI
    go_enter Tryd.func35, Tryd.ntmps35
    go_wp2
    go_ret
    exact ⟨ret_int HI.out.symm, Below.refl _ _⟩
  have HI : Hid (checkI names gs = if ckNames [] names ≠ 0 then ckNames [] names else if 16 < gs.length then 4 else ckGrps names [] gs) := by unfold checkI; rw [if_neg h32]; rfl
  go_enter Tryd.func35, Tryd.ntmps35
  go_wp2
  go_loopw [5] (fun i wr => ∃ k : Nat, k ≤ names.length ∧ i = .int .i64 k ∧ Hid (ckNames [] names = ckNames (names.take k) (names.drop k)) ∧ Below w.heap.size w wr) (fun i _ => names.length - (intOf i).toNat)
  case atStart => exact ⟨0, Nat.zero_le _, rfl, by simp [Hid], Below.refl _ _⟩
  case round =>
    rename_i wr
    obtain ⟨k, hk, rfl, HK, hB⟩ := hrel
    by_cases hlt : k < names.length
    · obtain ⟨x, b, off, hx, rfl, hc0⟩ := HCell.out k hlt
      have hc := Below.keeps hB _ _ hc0
      clear hc0
      have HX := hid hx
      have HS := hid (ckNames_at names k x hx)
      have hxz := HZ.out x (List.mem_of_getElem? hx)
      have hrt := (hr.below hB).take k hk
      clear hx
      have HC := fun w' => hid (rsiglum_any x w' hxz)
      have HD := fun w' (h : RdS w' (.slice (some ⟨b, off, none⟩) k cap) (names.take k)) => hid (rindex_any _ _ x w' h)
      have hany : decide (0 ≤ fIdx (fun y => decide (y = x)) (names.take k)) = ((names.take k).any fun y => decide (x = y)) := by
        rw [fIdx_pos]; congr 1; funext y; rw [decide_eq_decide]; exact eq_comm
      clear hxz
      generalize sigB x = sb at *
      generalize ((names.take k).any fun y => decide (x = y)) = ab at *
      generalize fIdx (fun y => decide (y = x)) (names.take k) = fi at *
      have q1 : (k : Int) ≤ (cap : Int) := by omega
      have q2 : k ≤ cap := by omega
      cases sb with
      | false =>
        go_wp2_with (first | (go_at_call 39; refine (HC _).out.mono ?_; rintro e w2 ⟨rfl, hB2⟩))
        go_ret
        refine ⟨ret_int ?_, below_tr hB (by assumption)⟩
        rw [HI.out, HK.out, HS.out]; simp
      | true =>
        cases ab with
        | true =>
          go_wp2_with (first | (go_at_call 39; refine (HC _).out.mono ?_; rintro e w2 ⟨rfl, hB2⟩; have hc2 := Below.keeps hB2 _ _ hc; have hrt2 := hrt.below hB2; have HB2 := hid (below_tr hB hB2)))
          go_quiet ((go_at_call 36; exact Calls.quiet_of_same ((HD _ (hrt2.drewN _)).out.mono fun _ _ h => ⟨h.1, h.2.symm⟩)))
          go_wp2
          go_ret
          refine ⟨ret_int ?_, below_drewN HB2.out _⟩
          rw [HI.out, HK.out, HS.out]; simp
        | false =>
          go_wp2_with (first | (go_at_call 39; refine (HC _).out.mono ?_; rintro e w2 ⟨rfl, hB2⟩; have hc2 := Below.keeps hB2 _ _ hc; have hrt2 := hrt.below hB2; have HB2 := hid (below_tr hB hB2)))
          go_quiet ((go_at_call 36; exact Calls.quiet_of_same ((HD _ (hrt2.drewN _)).out.mono fun _ _ h => ⟨h.1, h.2.symm⟩)))
          go_wp2
          go_roundw
          case rel => exact ⟨k + 1, by omega, by go_num, by rw [HK.out, HS.out]; simp [Hid], below_drewN HB2.out _⟩
          case measure => simp [intOf]; omega
    · have h0 : ckNames [] names = 0 := by rw [HK.out, List.drop_of_length_le (by omega)]; rfl
      have HI2 : Hid (checkI names gs = if 16 < gs.length then 4 else ckGrps names [] gs) := by rw [HI.out, h0]; rfl
      clear HI HK h0
      by_cases h16 : 16 < gs.length
      · go_wp2
        go_ret
        exact ⟨ret_int (by rw [HI2.out, if_pos h16]), hB⟩
      have HI3 : Hid (checkI names gs = ckGrps names [] gs) := by rw [HI2.out, if_neg h16]; rfl
      clear HI2
      go_wp2
      obtain ⟨wo, rfl⟩ : ∃ wo : World, wo = wr := ⟨_, rfl⟩
      go_loopw [6] (fun i wr => ∃ j : Nat, j ≤ gs.length ∧ i = .int .i64 j ∧ Hid (ckGrps names [] gs = ckGrps names (gs.take j) (gs.drop j)) ∧ Below w.heap.size w wr) (fun i _ => gs.length - (intOf i).toNat)
      case atStart => exact ⟨0, Nat.zero_le _, rfl, by simp [Hid], hB⟩
      case round =>
        rename_i wr
        clear hB
        obtain ⟨j, hj, rfl, HJ, hB⟩ := hrel
        by_cases hltj : j < gs.length
        · obtain ⟨g, b2, off2, m, hgx, rfl, hc0, hd0, hm0⟩ := HCell2.out j hltj
          have hc := Below.keeps hB _ _ hc0
          have hd := Below.keeps hB _ _ hd0
          have hm := hm0.below hB
          obtain ⟨am, capm, rfl, hlm, hcm3, _⟩ := hm.open
          have HG := hid (ckGrps_at names gs j g hgx)
          have hgz := HZG.out g (List.mem_of_getElem? hgx)
          have hr1 := hr.below hB
          have hg1 := (hg.below hB).take j hj
          have HN := fun w' => hid (risName_any g.name w' hgz)
          have HI1 := fun w' h => hid (ridx_any (.slice a names.length cap) names g.name w' h)
          have HT := fun w' h => hid (titles_any (.slice (some ⟨b2, off2, none⟩) j cap2) (gs.take j) w' h (by rw [List.length_take]; omega))
          have HK := hid (fun w' h => rset_any (.slice am g.mem.length capm) g.mem names.length w' h)
          have hcn : decide (0 ≤ ridx g.name names) = (names.any fun x => decide (g.name = x)) := by
            rw [ridx, fIdx_pos]; congr 1; funext y; rw [decide_eq_decide]; exact eq_comm
          have hcg : decide (0 ≤ ridx g.name ((gs.map (·.name)).take j)) = ((gs.take j).any fun x => decide (x.name = g.name)) := by
            rw [ridx, fIdx_pos, ← List.map_take, List.any_map]; rfl
          clear hgx hgz hc0 hd0 hm0
          generalize isNameB g.name = nb at *
          generalize (names.any fun y => decide (g.name = y)) = cn at *
          generalize ((gs.take j).any fun x => decide (x.name = g.name)) = cg at *
          generalize ckSet names.length none g.mem = cs at *
          have q1 : (j : Int) ≤ (cap2 : Int) := by omega
          have q2 : j ≤ cap2 := by omega
          have q3 : (j : Int) < (gs.length : Int) := by omega
          cases nb with
          | false =>
            go_wp2_with (go_at_call 56; refine (HN _).out.mono ?_; rintro e w2 ⟨rfl, hB2⟩)
            go_ret
            refine ⟨ret_int ?_, below_tr hB (by assumption)⟩
            rw [HI3.out, HJ.out, HG.out]; simp
          | true =>
          cases cn with
          | true =>
            go_wp2_with (go_at_call 56; refine (HN _).out.mono ?_; rintro e w2 ⟨rfl, hB2⟩; have hc2 := Below.keeps hB2 _ _ hc; have hr2 := hr1.below hB2; have HB2 := hid (below_tr hB hB2))
            go_quiet ((go_at_call 36; exact Calls.quiet_of_same ((HI1 _ (hr2.drewN _)).out.mono fun _ _ h => ⟨h.1, h.2.symm⟩)))
            go_wp2
            go_ret
            refine ⟨ret_int ?_, below_drewN HB2.out _⟩
            rw [HI3.out, HJ.out, HG.out]; simp
          | false =>
          cases cg with
          | true =>
            go_wp2_with (go_at_call 56; refine (HN _).out.mono ?_; rintro e w2 ⟨rfl, hB2⟩; have hc2 := Below.keeps hB2 _ _ hc; have hd2 := Below.keeps hB2 _ _ hd; have hm2 := hm.below hB2; have hr2 := hr1.below hB2; have hg2 := hg1.below hB2; have hBw := below_tr hB hB2)
            go_region_held3 (fun w' => w'.cell? ⟨b2, off2 + j * 2, none⟩ = some (.string g.name) ∧ w'.cell? ⟨b2, off2 + j * 2 + 1, none⟩ = some (.slice am g.mem.length capm) ∧ RdI w' (.slice am g.mem.length capm) g.mem ∧ RdS w' (.slice a names.length cap) names ∧ RdG w' (.slice (some ⟨b2, off2, none⟩) j cap2) (gs.take j) ∧ Below w.heap.size w w')
              ((refine ⟨?_, ?_, ?_, ?_, ?_, ?_⟩ <;> first | assumption | (exact Below.drew (by assumption)) | go_keep))
              (first
                | (go_at_call 37; go_split_ands; refine (HT _ (by assumption)).out.mono ?_; rintro e w3 ⟨v3, rfl, hr3, hB3⟩; have k1 : w3.cell? ⟨b2, off2 + j * 2, none⟩ = some (.string g.name) := Below.keeps hB3 _ _ (by assumption); have k5 : w3.cell? ⟨b2, off2 + j * 2 + 1, none⟩ = some (.slice am g.mem.length capm) := Below.keeps hB3 _ _ (by assumption); have k6 : RdI w3 (.slice am g.mem.length capm) g.mem := Rd.below (by assumption) hB3; have k2 : RdS w3 (.slice a names.length cap) names := Rd.below (by assumption) hB3; have k3 : RdG w3 (.slice (some ⟨b2, off2, none⟩) j cap2) (gs.take j) := RdG.below (by assumption) hB3; have k4 : Below w.heap.size w w3 := below_tr (by assumption) hB3)
                | (go_at_call 36; go_split_ands; refine (ridx_any _ _ _ _ (by assumption)).mono ?_; rintro e w3 ⟨rfl, rfl⟩))
            all_goals go_split_ands
            all_goals
              go_wp2
              go_ret
              refine ⟨ret_int ?_, by assumption⟩
              rw [HI3.out, HJ.out, HG.out]; simp
          | false =>
            have hlcase : (((g.mem.length : Int) == 0) = true ∧ Hid (g.mem.length = 0)) ∨ (((g.mem.length : Int) == 0) = false ∧ Hid (g.mem.length ≠ 0)) := by
              by_cases hl0 : g.mem.length = 0
              · left; exact ⟨by simp [hl0], hl0⟩
              · right; exact ⟨by simp; intro e; exact hl0 (by simp [e]), hl0⟩
            have hccase : ((cs != 0) = true ∧ Hid (cs ≠ 0)) ∨ ((cs != 0) = false ∧ Hid (cs = 0)) := by
              by_cases hc0 : cs = 0
              · right; exact ⟨by simp [hc0], hc0⟩
              · left; exact ⟨by simpa using hc0, hc0⟩
            go_wp2_with (go_at_call 56; refine (HN _).out.mono ?_; rintro e w2 ⟨rfl, hB2⟩; have hc2 := Below.keeps hB2 _ _ hc; have hd2 := Below.keeps hB2 _ _ hd; have hm2 := hm.below hB2; have hr2 := hr1.below hB2; have hg2 := hg1.below hB2; have hBw := below_tr hB hB2)
            go_region_held3 (fun w' => w'.cell? ⟨b2, off2 + j * 2, none⟩ = some (.string g.name) ∧ w'.cell? ⟨b2, off2 + j * 2 + 1, none⟩ = some (.slice am g.mem.length capm) ∧ RdI w' (.slice am g.mem.length capm) g.mem ∧ RdS w' (.slice a names.length cap) names ∧ RdG w' (.slice (some ⟨b2, off2, none⟩) j cap2) (gs.take j) ∧ Below w.heap.size w w')
              ((refine ⟨?_, ?_, ?_, ?_, ?_, ?_⟩ <;> first | assumption | (exact Below.drew (by assumption)) | go_keep))
              (first
                | (go_at_call 37; go_split_ands; refine (HT _ (by assumption)).out.mono ?_; rintro e w3 ⟨v3, rfl, hr3, hB3⟩; have k1 : w3.cell? ⟨b2, off2 + j * 2, none⟩ = some (.string g.name) := Below.keeps hB3 _ _ (by assumption); have k5 : w3.cell? ⟨b2, off2 + j * 2 + 1, none⟩ = some (.slice am g.mem.length capm) := Below.keeps hB3 _ _ (by assumption); have k6 : RdI w3 (.slice am g.mem.length capm) g.mem := Rd.below (by assumption) hB3; have k2 : RdS w3 (.slice a names.length cap) names := Rd.below (by assumption) hB3; have k3 : RdG w3 (.slice (some ⟨b2, off2, none⟩) j cap2) (gs.take j) := RdG.below (by assumption) hB3; have k4 : Below w.heap.size w w3 := below_tr (by assumption) hB3)
                | (go_at_call 36; go_split_ands; refine (ridx_any _ _ _ _ (by assumption)).mono ?_; rintro e w3 ⟨rfl, rfl⟩))
            all_goals go_split_ands
            all_goals
              rcases hlcase with ⟨hl0', HL⟩ | ⟨hl0', HL⟩
              · go_wp2
                go_ret
                refine ⟨ret_int ?_, by assumption⟩
                rw [HI3.out, HJ.out, HG.out]; simp [HL.out]
              · rcases hccase with ⟨hc0', HC0⟩ | ⟨hc0', HC0⟩
                · go_wp2_with (go_at_call 42; refine (HK.out _ (by assumption)).mono ?_; rintro e w4 ⟨rfl, hB4⟩)
                  go_ret
                  refine ⟨ret_int ?_, below_tr (by assumption) hB4⟩
                  rw [HI3.out, HJ.out, HG.out]; simp [HL.out, HC0.out]
                · go_wp2_with (go_at_call 42; refine (HK.out _ (by assumption)).mono ?_; rintro e w4 ⟨rfl, hB4⟩)
                  go_roundw
                  case rel => exact ⟨j + 1, by omega, by go_num, by rw [HJ.out, HG.out]; simp [HL.out, HC0.out, Hid], below_tr (by assumption) hB4⟩
                  case measure => simp [intOf]; omega
        · go_wp2
          go_ret
          refine ⟨ret_int ?_, hB⟩
          rw [HI3.out, HJ.out, List.drop_of_length_le (by omega)]; rfl
end Go.Proofs.YtigaflmhdbgmdaaDoor
