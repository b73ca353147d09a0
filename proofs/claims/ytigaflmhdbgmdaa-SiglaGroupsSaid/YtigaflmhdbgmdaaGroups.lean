/-
  P42.5: the walk of SiglaGroups.
-/
import Derived.Test.YtigaflmhdbgmdaaPlG
import Derived.Test.YtigaflmhdbgmdaaMeans
import Derived.Test.YtigaflmhdbgmdaaSl2
namespace Go.Proofs.Ytigaflmhdbgmdaa
open Go.RowKit

set_option maxHeartbeats 4000000 in
set_option maxRecDepth 100000 in
theorem sgroups_any (v u : Value) (names : List ByteArray) (gs : List Grp) (b : Nat) (w : World) (hr : RdS w v names) (hg : RdG w u gs) (hz : Szs names) (hzg : SzG gs) (hb : b < 256) :
    Calls Try.prog 5 #[v, u, .int .u8 b] w fun e w' => e = .returned (.bool true) ∧ Below w.heap.size w w' := by
  have HF := hid (fine_any v u names gs w hr hg hz hzg)
  by_cases hf : fineB names gs = true
  · obtain ⟨hc0, hn8, hg5⟩ := fine_facts hf
    have hs0 := fine_set hf b
    rw [hf] at HF
    have hs1 := start_bare hs0
    have hbare := short_bare hs0
    have HIN := fun (j : Nat) (g : Grp) (h : gs[j]? = some g) => hid (in_groups hs0 h)
    have HNOT := fun (j : Nat) (g : Grp) (h : gs[j]? = some g) => (not_in_short hs0 h)
    have hSx := (set_facts hs0).2.2.2.1
    have HC := fun w' => hid (chosen_any names.length b w' hn8 hb)
    have HS := fun s w' h1 h2 h3 => hid (short_any v u s names gs (bitsTo b names.length) w' h1 h2 h3 hz hzg (fun _ => ⟨hn8, by omega⟩))
    rw [hs0] at HS
    have HG := fun s w' h1 h2 h3 => hid (groups_any v u s names gs (bitsTo b names.length) w' h1 h2 h3 hz hzg)
    rw [hs0] at HG
    have HS2 := fun s w' h1 h2 h3 => hid (short_any v (.slice none 0 0) s names [] (bitsTo b names.length) w' h1 h2 h3 hz (fun g h => by cases h) (fun _ => ⟨hn8, by simp⟩))
    rw [hs1] at HS2
    have hbl : (shortL names [] (bitsTo b names.length)).length = (bitsTo b names.length).length := by rw [hbare, List.length_map]
    have HBA : Hid (∀ (k : Nat) (x : Int), (bitsTo b names.length)[k]? = some x → ∃ (j : Nat) (y : ByteArray), x = (j : Int) ∧ j < names.length ∧ names[j]? = some y ∧ (shortL names [] (bitsTo b names.length))[k]? = some y) := by
      intro k x hx
      have := hSx x (List.mem_of_getElem? hx)
      have hj : x.toNat < names.length := by omega
      refine ⟨x.toNat, names[x.toNat], by omega, hj, List.getElem?_eq_getElem hj, ?_⟩
      rw [hbare, List.getElem?_map, hx, Option.map_some, List.getD_eq_getElem?_getD, List.getElem?_eq_getElem hj]; rfl
    clear hbare hSx hs0 hs1 hf hc0 hz hzg
    generalize shortL names gs (bitsTo b names.length) = L at *
    generalize shortL names [] (bitsTo b names.length) = BL at *
    generalize groupsL names gs (bitsTo b names.length) = U at *
    generalize bitsTo b names.length = S at *
    obtain ⟨a0, cap0, rfl, hlc0, hcm0, hcell0⟩ := hr.open
    obtain ⟨ag, capg, rfl, hlcg, hcmg, hcellg⟩ := hg.open
    have HCell0 := hid hcell0; clear hcell0
    have HCellg := hid hcellg; clear hcellg
    go_enter Try.func5, Try.ntmps5
    go_wp2_with fail
    refine HF.out.mono ?_
    rintro e w1 ⟨rfl, hB1⟩
    go_wp2_with fail
    refine (HC _).out.mono ?_
    rintro e w2 ⟨vs, rfl, hs2, hB2⟩
    have hB := below_tr hB1 hB2
    obtain ⟨a1, cap1, rfl, hlc1, hcm1, _⟩ := hs2.open
    have hb3 := below_al w2 (.cells #[.slice a1 S.length cap1] 26)
    have hbox := cell_nw w2 #[.slice a1 S.length cap1] 26 0 (x := .slice a1 S.length cap1) rfl
    have hB3 := below_tr hB hb3
    have hr3 := hr.below hB3
    have hg3 := hg.below hB3
    have hs3 := hs2.below hb3
    clear hB1 hB2 hB hs2 hb3
    have HSa := (HS _ _ hr3 hg3 hs3)
    have HB3 := hid hB3
    clear HS HC HF hB3
    go_wp2_with fail
    refine HSa.out.mono ?_
    rintro e w4 ⟨vl, rfl, hl4, hB4⟩
    have hr4 := hr3.below hB4
    have hg4 := hg3.below hB4
    have hs4 := hs3.below hB4
    have hbox4 := Below.keeps hB4 _ _ hbox
    have HB4 := hid (below_tr HB3.out hB4)
    have HGa := (HG _ _ hr4 hg4 hs4)
    clear HSa HG HB3 hB4 hr3 hg3 hs3 hbox
    go_wp2_with fail
    refine HGa.out.mono ?_
    rintro e w5 ⟨vu, rfl, hu5, hB5⟩
    have hr5 := hr4.below hB5
    have hs5 := hs4.below hB5
    have hl5 := hl4.below hB5
    have hbox5 := Below.keeps hB5 _ _ hbox4
    have HB5 := hid (below_tr HB4.out hB5)
    have HSb := (HS2 _ _ hr5 (RdG.nil _) hs5)
    clear HGa HS2 HB4 hB5 hr4 hg4 hs4 hl4 hbox4
    go_wp2_with fail
    refine HSb.out.mono ?_
    rintro e w6 ⟨vb, rfl, hb6, hB6⟩
    have hs6 := hs5.below hB6
    have hl6 := hl5.below hB6
    have hu6 := hu5.below hB6
    have hbox6 := Below.keeps hB6 _ _ hbox5
    have HB6 := hid (below_tr HB5.out hB6)
    clear HSb HB5 hB6 hr5 hs5 hl5 hu5 hbox5
    obtain ⟨ab, capb, eb, hlcb, hcmb, hcellb⟩ := hb6.open
    rw [hbl] at eb hlcb hcellb
    subst eb
    have HCellb := hid hcellb; clear hcellb
    obtain ⟨aS, capS, eS, _, _, hcellS⟩ := hs6.open
    cases eS
    have HCellS := hid hcellS; clear hcellS
    clear hbl
    go_wp2_with fail
    go_loopw [62] (fun i wr => ∃ k : Nat, k ≤ S.length ∧ i = .int .i64 k ∧ Below w6.heap.size w6 wr) (fun i _ => S.length - (intOf i).toNat)
    case atStart => exact ⟨0, by omega, rfl, Below.refl _ _⟩
    case round =>
      rename_i wr
      obtain ⟨k, hk, rfl, hB⟩ := hrel
      by_cases hlt : k < S.length
      · obtain ⟨x, bs, os, hx, rfl, hcx⟩ := HCellS.out k hlt
        obtain ⟨j, y, rfl, hj, hyn, hyb⟩ := HBA.out k x hx
        obtain ⟨y', bb, ob, hy', rfl, hcb⟩ := HCellb.out k hlt
        obtain rfl : y' = y := Option.some.inj (hy'.symm.trans hyb)
        obtain ⟨y'', bn, on, hy'', rfl, hcn0⟩ := HCell0.out j hj
        obtain rfl : y'' = y' := Option.some.inj (hy''.symm.trans hyn)
        have hcx1 := Below.keeps hB _ _ hcx
        have hcb1 := Below.keeps hB _ _ hcb
        have hcn1 := Below.keeps (below_tr HB6.out hB) _ _ hcn0
        clear hx hyn hyb hy' hy'' hcx hcb hcn0
        go_wp2
        go_quiet ((fail))
        go_wp2
        go_roundw
        case rel => exact ⟨k + 1, by omega, by go_num, below_drewN hB _⟩
        case measure => simp [intOf]; omega
      · clear HBA HCellb HCellS HCell0
        go_wp2_with fail
        obtain ⟨wo, rfl⟩ : ∃ wo : World, wo = wr := ⟨_, rfl⟩
        have HBo := hid (below_tr HB6.out hB)
        have hbox7 := Below.keeps hB _ _ hbox6
        have hl7 := hl6.below hB
        have hu7 := hu6.below hB
        have hs7 := hs6.below hB
        clear hB hbox6 hl6 hu6 hs6 HB6 hb6
        go_loopw [79] (fun i wr => ∃ j : Nat, j ≤ gs.length ∧ i = .int .i64 j ∧ Below wo.heap.size wo wr) (fun i _ => gs.length - (intOf i).toNat)
        case atStart => exact ⟨0, by omega, rfl, Below.refl _ _⟩
        case round =>
          rename_i wr
          obtain ⟨j, hj, rfl, hB⟩ := hrel
          by_cases hltj : j < gs.length
          · obtain ⟨x, bg, og, m, hx, rfl, hca, hcb, hxm⟩ := HCellg.out j hltj
            obtain ⟨am, capm, rfl, hlm, hcmm, _⟩ := hxm.open
            have hIN := HIN j x hx
            have hNOT := hid (HNOT j x hx)
            have hBw := below_tr HBo.out hB
            have hc1 := Below.keeps hBw _ _ hca
            have hc2 := Below.keeps hBw _ _ hcb
            have hba := below_al wr (.cells #[.string x.name, .slice am x.mem.length capm] 40)
            have hB8 := below_tr hB hba
            have hxm8 := (hxm.below hBw).below hba
            have hbox8 := Below.keeps hB8 _ _ hbox7
            have hs8 := hs7.below hB8
            have hl8 := hl7.below hB8
            have hu8 := hu7.below hB8
            have HCF := hid (containsFuncI_any 23 (enters_of Try.func23 (by kernel_rfl) rfl) (.pointer (some ⟨w2.heap.size, 0, none⟩)) (fun n => !S.any fun y => decide (n = y)) (.slice am x.mem.length capm) x.mem _ hxm8
              (fun n W' hW' => grp1_any n _ S w2.heap.size 0 W' (Below.keeps hW' _ _ hbox8) (hs8.below hW')))
            have HCU := fun w' h => hid (containsI_any vu U (j : Int) w' h)
            rw [hIN.out] at HCU
            have HCL := fun w' h => hid (containsS_any vl L x.name w' h)
            have HB8 := hid hB8
            clear hx hca hcb hxm hBw hba hxm8 hbox8 hs8 hIN hB8
            generalize (x.mem.any fun n => !S.any fun y => decide (n = y)) = ib at *
            cases ib with
            | false =>
              go_wp2_with fail
              refine HCF.out.mono ?_
              rintro e w8 ⟨rfl, hB9⟩
              have hu9 := hu8.below hB9
              have HB9 := hid (below_tr HB8.out hB9)
              clear HCF HB8 hB9 hu8 hl8
              go_wp2_with fail
              refine (HCU _ hu9).out.mono ?_
              rintro e w9 ⟨rfl, rfl⟩
              go_wp2
              go_roundw
              case rel => exact ⟨j + 1, by omega, by go_num, HB9.out⟩
              case measure => simp [intOf]; omega
            | true =>
              rw [hNOT.out rfl] at HCL
              have hn8 := cell_nw wr #[.string x.name, .slice am x.mem.length capm] 40 0 (x := .string x.name) rfl
              go_wp2_with fail
              refine HCF.out.mono ?_
              rintro e w8 ⟨rfl, hB9⟩
              have hu9 := hu8.below hB9
              have hl9 := hl8.below hB9
              have hn9 := Below.keeps hB9 _ _ hn8
              have HB9 := hid (below_tr HB8.out hB9)
              clear HCF HB8 hB9 hu8 hl8 hn8
              go_wp2_with fail
              refine (HCU _ hu9).out.mono ?_
              rintro e w9 ⟨rfl, rfl⟩
              go_wp2_with fail
              refine (HCL _ hl9).out.mono ?_
              rintro e w9 ⟨rfl, rfl⟩
              go_wp2
              go_roundw
              case rel => exact ⟨j + 1, by omega, by go_num, HB9.out⟩
              case measure => simp [intOf]; omega
          · go_wp2_with fail
            refine (awake_any _).mono ?_
            rintro e w8 ⟨rfl, hB8⟩
            have hBz := below_tr (below_tr HBo.out hB) hB8
            go_wp2
            go_ret
            exact ⟨rfl, hBz⟩
  · have hf' : fineB names gs = false := by simpa using hf
    rw [hf'] at HF
    clear hf hf'
    go_enter Try.func5, Try.ntmps5
    go_wp2_with fail
    refine HF.out.mono ?_
    rintro e w1 ⟨rfl, hB1⟩
    go_wp2_with fail
    refine (awake_any _).mono ?_
    rintro e w2 ⟨rfl, hB2⟩
    have hB := below_tr hB1 hB2
    go_wp2
    go_ret
    exact ⟨rfl, hB⟩
end Go.Proofs.Ytigaflmhdbgmdaa
