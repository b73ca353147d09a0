/-
  P42.7: the walk of SiglaKeeps.
-/
import Derived.Test.YtigaflmhdbgmdaaPlK
import Derived.Test.YtigaflmhdbgmdaaMeans
namespace Go.Proofs.Ytigaflmhdbgmdaa
open Go.RowKit

set_option maxHeartbeats 4000000 in
set_option maxRecDepth 100000 in
theorem skeeps_any (v u : Value) (names : List ByteArray) (gs : List Grp) (b : Nat) (w : World) (hr : RdS w v names) (hg : RdG w u gs) (hz : Szs names) (hzg : SzG gs) (hb : b < 256) :
    Calls Try.prog 7 #[v, u, .int .u8 b] w fun e w' => e = .returned (.bool true) ∧ Below w.heap.size w w' := by
  have HF := hid (fine_any v u names gs w hr hg hz hzg)
  by_cases hf : fineB names gs = true
  · obtain ⟨hc0, hn8, hg5⟩ := fine_facts hf
    have hs0 := fine_set hf b
    rw [hf] at HF
    have HC := fun w' => hid (chosen_any names.length b w' hn8 hb)
    have hsb : (bitsTo b names.length).length ≤ 8 := Nat.le_trans (bitsTo_len _ _) hn8
    have hsx := (set_facts hs0).2.2.2.1
    have hkl : keepL gs (bitsTo b names.length) = gs.flatMap (keepG (bitsTo b names.length)) := by unfold keepL; rw [if_pos (keep_ok hs0), keepTo_all]
    have HKp := fun s w' h1 h2 => hid (keep_any u s gs (bitsTo b names.length) w' h1 h2 (by omega))
    rw [keep_ok hs0, hkl] at HKp
    have hkle := keep_len gs (bitsTo b names.length)
    have hzl : Szs (leftL names (bitsTo b names.length)) := fun x hx => hz x (left_mem hs0 x hx)
    have hzk : SzG (gs.flatMap (keepG (bitsTo b names.length))) := by
      intro x hx
      obtain ⟨g, hg, hxg⟩ := List.mem_flatMap.1 hx
      rw [(keepG_mem hxg).1]
      exact hzg g hg
    have HCk := fun s t w' h1 h2 => hid (check_any s t (leftL names (bitsTo b names.length)) (gs.flatMap (keepG (bitsTo b names.length))) w' h1 h2 hzl hzk)
    rw [keep_check hs0] at HCk
    have HX := fun s t q l w' h1 h2 h3 => hid (expand_any s t q (leftL names (bitsTo b names.length)) (gs.flatMap (keepG (bitsTo b names.length))) l w' h1 h2 h3 hzl hzk)
    have HKE := hid (fun (g : Grp) (h : g ∈ gs) => keep_expand hs0 h)
    have HLL : Hid (leftL names (bitsTo b names.length) = (bitsTo b names.length).map fun k => names.getD k.toNat ByteArray.empty) := rfl
    have HLF : Hid (∀ (k : Nat) (x : Int), (bitsTo b names.length)[k]? = some x → ∃ (j : Nat) (y : ByteArray), x = (j : Int) ∧ j < names.length ∧ names[j]? = some y ∧ names.getD x.toNat ByteArray.empty = y) := by
      intro k x hx
      have := hsx x (List.mem_of_getElem? hx)
      have hj : x.toNat < names.length := by omega
      exact ⟨x.toNat, names[x.toNat], by omega, hj, List.getElem?_eq_getElem hj, by rw [List.getD_eq_getElem?_getD, List.getElem?_eq_getElem hj]; rfl⟩
    clear hsx hs0 hf hc0 hz hzg hkl hzl hzk
    generalize gs.flatMap (keepG (bitsTo b names.length)) = KL at *
    generalize leftL names (bitsTo b names.length) = LL at *
    generalize bitsTo b names.length = S at *
    obtain ⟨a0, cap0, rfl, hlc0, hcm0, hcell0⟩ := hr.open
    obtain ⟨ag, capg, rfl, hlcg, hcmg, hcellg⟩ := hg.open
    have HCell0 := hid hcell0; clear hcell0
    have HCellg := hid hcellg; clear hcellg
    go_enter Try.func7, Try.ntmps7
    go_wp2_with fail
    refine HF.out.mono ?_
    rintro e w1 ⟨rfl, hB1⟩
    clear HF
    go_wp2_with fail
    refine (HC _).out.mono ?_
    rintro e w2 ⟨vs, rfl, hs2, hB2⟩
    have HB2 := hid (below_tr hB1 hB2)
    clear HC hB1 hB2
    obtain ⟨a1, cap1, rfl, hlc1, hcm1, hcell1⟩ := hs2.open
    have HCell1 := hid hcell1; clear hcell1
    go_wp2_with fail
    go_loopw [8, 31] (fun s i wr => ∃ (k : Nat) (xs : List ByteArray), k ≤ S.length ∧ i = .int .i64 k ∧ Hid (xs = (S.take k).map fun k => names.getD k.toNat ByteArray.empty) ∧ xs.length ≤ k ∧ wr.ownsRow w2.heap.size 9 1 s xs.length (xs.map Value.string) ∧ Below w2.heap.size w2 wr) (fun _ i _ => S.length - (intOf i).toNat)
    case atStart => exact ⟨0, [], by omega, rfl, rfl, by simp, World.ownsRow_nil _ _ _ _, Below.refl _ _⟩
    case round =>
      obtain ⟨k, xs, hk, rfl, HXS, hxl, hown, hB⟩ := hrel
      by_cases hlt : k < S.length
      · obtain ⟨x, b1, o1, hx, rfl, hcx0⟩ := HCell1.out k hlt
        obtain ⟨j, y, rfl, hj, hyn, hyd⟩ := HLF.out k x hx
        obtain ⟨y', b0, o0, hy', rfl, hcy0⟩ := HCell0.out j hj
        obtain rfl : y' = y := Option.some.inj (hy'.symm.trans hyn)
        have hcx := Below.keeps hB _ _ hcx0
        have hcy := Below.keeps (below_tr HB2.out hB) _ _ hcy0
        have HTX : Hid ((S.take (k + 1)).map (fun k => names.getD k.toNat ByteArray.empty) = xs ++ [y']) := by rw [List.take_add_one, hx, List.map_append, ← HXS.out]; simp only [Option.toList, List.map_cons, List.map_nil, hyd]; exact trivial
        clear hx hyn hyd hy' hcx0 hcy0
        go_wp2_with (at_builtin; refine wpList_ap rfl _ _ 22 rfl w2.heap.size 9 Try.underlying22 infoStr rfl (by decide) (by decide) _ _ _ rfl hown [.string y'] rfl (by simp [Value.oneCell']) rfl (by simp) (by omega) hB.size ?_; intro v' w4 hown' hb1 _)
        go_roundw
        case rel => exact ⟨k + 1, xs ++ [y'], by omega, by go_num, HTX.out.symm, by rw [List.length_append, List.length_singleton]; omega, by simpa using hown', hB.trans hb1⟩
        case measure => simp [intOf]; omega
      · obtain rfl : k = S.length := by omega
        obtain rfl : xs = LL := by rw [HLL.out, HXS.out, List.take_of_length_le (Nat.le_refl _)]
        have hl3 := Rd.of_own (enc := Value.string) hown
        have hs3 := hs2.below hB
        have hg3 := hg.below (below_tr HB2.out hB)
        have HB3 := hid (below_tr HB2.out hB)
        have HKa := HKp _ _ hg3 hs3
        clear hown hB HXS HLL HLF HKp hxl
        go_wp2_with fail
        refine HKa.out.mono ?_
        rintro e w4 ⟨vk, rfl, hk4, hB4⟩
        have hl4 := hl3.below hB4
        have hs4 := hs3.below hB4
        have HB4 := hid (below_tr HB3.out hB4)
        have HCa := HCk _ _ _ hl4 hk4
        obtain ⟨ak, capk, rfl, hlck, hcmk, _⟩ := hk4.open
        clear HKa HB3 hB4 hl3 hs3 hg3 HCk
        go_wp2_with fail
        refine HCa.out.mono ?_
        rintro e w5 ⟨rfl, hB5⟩
        have hl5 := hl4.below hB5
        have hs5 := hs4.below hB5
        have hk5 := hk4.below hB5
        have HB5 := hid (below_tr HB4.out hB5)
        obtain ⟨aS, capS, eS, _, _, hcellS⟩ := hs5.open
        cases eS
        have HCellS := hid hcellS
        clear HCa HB4 hB5 hl4 hs4 hk4 hcellS HCell1 HCell0
        have hkn : decide (gs.length < KL.length) = false := decide_eq_false (by omega)
        have hkn2 : ¬ gs.length < KL.length := by omega
        go_wp2_with fail
        clear hlt hk hb hr hn8 hg5 hkle hlc0 hcm0 hlck hcmk hlc1 hcm1
        go_loopw [66] (fun i wr => ∃ j : Nat, j ≤ gs.length ∧ i = .int .i64 j ∧ Below w5.heap.size w5 wr) (fun i _ => gs.length - (intOf i).toNat)
        case atStart => exact ⟨0, by omega, rfl, Below.refl _ _⟩
        case round =>
          obtain ⟨j, hj, rfl, hB⟩ := hrel
          by_cases hltj : j < gs.length
          · obtain ⟨x, b2, off2, m, hx, rfl, hca0, hcb0, hxm0⟩ := HCellg.out j hltj
            obtain ⟨am, capm, rfl, hlm, hcmm, _⟩ := hxm0.open
            have hBw := below_tr HB5.out hB
            have hca := Below.keeps hBw _ _ hca0
            have hcb := Below.keeps hBw _ _ hcb0
            have hba := below_al wr (.cells #[.string x.name, .slice am x.mem.length capm] 40)
            have hxa := (hxm0.below hBw).below hba
            have hBa := below_tr hB hba
            have hbx0 := cell_nw wr #[.string x.name, .slice am x.mem.length capm] 40 0 (x := .string x.name) rfl
            have hbx1 := cell_nw wr #[.string x.name, .slice am x.mem.length capm] 40 1 (x := .slice am x.mem.length capm) rfl
            have HKX := hid (HKE.out x (List.mem_of_getElem? hx))
            clear hx hca0 hcb0 hxm0 hBw
            go_wp2_with fail
            clear hca hcb
            obtain ⟨wa, hwa⟩ : ∃ wa, wa = wr.alloc (.cells #[.string x.name, .slice am x.mem.length capm] 40) := ⟨_, rfl⟩
            rw [← hwa] at hba hxa hBa hbx0 hbx1 ⊢
            clear hwa
            go_loopw [15, 72] (fun l i wi => ∃ (q : Nat) (ys : List Int), q ≤ S.length ∧ i = .int .i64 q ∧ Hid (ys = idxTo S x.mem q) ∧ ys.length ≤ q ∧ wi.ownsRow wa.heap.size 3 1 l ys.length (ys.map (Value.int .i64)) ∧ Below wa.heap.size wa wi) (fun _ i _ => S.length - (intOf i).toNat)
            case atStart => exact ⟨0, [], by omega, rfl, rfl, by simp, World.ownsRow_nil _ _ _ _, Below.refl _ _⟩
            case round =>
              clear hB
              obtain ⟨q, ys, hq, rfl, HY, hyl, hownl, hB⟩ := hrel
              by_cases hltq : q < S.length
              · obtain ⟨n, bo, oo, hn, rfl, hcn0⟩ := HCellS.out q hltq
                have hcn := Below.keeps (below_tr hBa hB) _ _ hcn0
                have hb1 := Below.keeps hB _ _ hbx1
                have HIS := hid (idxTo_succ S x.mem q n hn)
                have HCo := hid (containsI_any _ x.mem n _ (hxa.below hB))
                clear hn hcn0
                generalize (x.mem.any fun y => decide (n = y)) = cb at *
                cases cb with
                | true =>
                  go_wp2_with fail
                  refine HCo.out.mono ?_
                  rintro e w3 ⟨rfl, rfl⟩
                  go_wp2_with (at_builtin; refine wpList_ap rfl _ _ 26 rfl wa.heap.size 3 Try.underlying26 infoInt rfl (by decide) (by decide) _ _ _ rfl hownl [.int .i64 q] rfl (by simp [Value.oneCell']) rfl (by simp) (by omega) hB.size ?_; intro v' w4 hown' hb1 _)
                  go_roundw
                  case rel => exact ⟨q + 1, ys ++ [(q : Int)], by omega, by go_num, by rw [HIS.out, ← HY.out]; rfl, by rw [List.length_append, List.length_singleton]; omega, by simpa using hown', hB.trans hb1⟩
                  case measure => simp [intOf]; omega
                | false =>
                  go_wp2_with fail
                  refine HCo.out.mono ?_
                  rintro e w3 ⟨rfl, rfl⟩
                  go_wp2
                  go_roundw
                  case rel => exact ⟨q + 1, ys, by omega, by go_num, by rw [HIS.out, ← HY.out, if_neg (by simp), List.append_nil]; rfl, by omega, hownl, hB⟩
                  case measure => simp [intOf]; omega
              · obtain rfl : q = S.length := by omega
                rw [← HY.out] at HKX
                have hBi := below_tr hBa hB
                have hrn := Rd.of_own (enc := Value.int .i64) hownl
                have hb0 := Below.keeps hB _ _ hbx0
                obtain ⟨al, capl, rfl, hlcl, hcml, _⟩ := hrn.open
                have hbs := below_al wr (.cells #[.string x.name] 9)
                have hl6 := (hl5.below hBi).below hbs
                have hk6 := (hk5.below hBi).below hbs
                have hw6 := hrn.below hbs
                have HXa := hid (HX _ _ _ [x.name] _ hl6 hk6 (Rd.lit wr [x.name] #[.string x.name] 9 1 rfl rfl (by decide))).out
                have HBi := hid (below_tr hBi hbs)
                clear hbx0 hbx1 hxa hba hownl hBa hB hltq HY hl6 hk6 hrn hbs hBi
                by_cases hy : ys = []
                · rw [HKX.out.1 hy] at HXa
                  have hy0 : ys.length = 0 := by rw [hy]; rfl
                  clear hy HKX
                  rw [hy0] at *
                  go_wp2_with fail
                  refine HXa.out.mono ?_
                  rintro e w6 ⟨r, rfl, hr6, hB6⟩
                  have hBz := below_tr HBi.out hB6
                  clear HXa hB6
                  go_wp2
                  go_roundw
                  case rel => exact ⟨j + 1, by omega, by go_num, hBz⟩
                  case measure => simp [intOf]; omega
                · obtain ⟨hk1, hk2⟩ := HKX.out.2 hy
                  rw [hk1, hk2] at HXa
                  have hy0 : ((ys.length : Int) == 0) = false := by
                    have : ys.length ≠ 0 := fun h => hy (List.eq_nil_of_length_eq_zero h)
                    simp only [beq_eq_false_iff_ne]; omega
                  clear hy HKX hk1 hk2
                  go_wp2_with fail
                  refine HXa.out.mono ?_
                  rintro e w6 ⟨r, rfl, hr6, hB6⟩
                  have hw7 := hw6.below hB6
                  have hBz := below_tr HBi.out hB6
                  have HEq := hid (equalI_any _ _ _ _ _ hr6 hw7)
                  rw [decide_eq_true rfl] at HEq
                  clear HXa hB6
                  go_wp2_with fail
                  refine HEq.out.mono ?_
                  rintro e w7 ⟨rfl, hB7⟩
                  have hBy := below_tr hBz hB7
                  clear HEq hBz hB7 hr6 hw7 hw6
                  go_wp2
                  go_roundw
                  case rel => exact ⟨j + 1, by omega, by go_num, hBy⟩
                  case measure => simp [intOf]; omega
          · go_wp2_with fail
            refine (awake_any _).mono ?_
            rintro e w8 ⟨rfl, hB8⟩
            have hBz := below_tr (below_tr HB5.out hB) hB8
            go_wp2
            go_ret
            exact ⟨rfl, hBz⟩
  · have hf' : fineB names gs = false := by simpa using hf
    rw [hf'] at HF
    clear hf hf'
    go_enter Try.func7, Try.ntmps7
    go_wp2_with fail
    refine HF.out.mono ?_
    rintro e w1 ⟨rfl, hB1⟩
    go_wp2_with fail
    refine (awake_any _).mono ?_
    rintro e w2 ⟨rfl, hB2⟩
    have hB := below_tr hB1 hB2
    go_wp2
    go_ret
    exact ⟨rfl, hB⟩
end Go.Proofs.Ytigaflmhdbgmdaa
