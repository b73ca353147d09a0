/-
  P42.3: the walk of SiglaShortest.
-/
import Derived.Test.YtigaflmhdbgmdaaPlS
import Derived.Test.YtigaflmhdbgmdaaMeans
import Derived.Test.YtigaflmhdbgmdaaClone
namespace Go.Proofs.Ytigaflmhdbgmdaa
open Go.RowKit

theorem bit_test16 (m k : Nat) (hm : m < 65536) : (bits .and .u16 ((m : Int) / 2 ^ k) 1 == 1) = m.testBit k := by
  have e1 : (m : Int) / 2 ^ k = ((m / 2 ^ k : Nat) : Int) := by simp
  have hlt : m / 2 ^ k < 65536 := Nat.lt_of_le_of_lt (Nat.div_le_self _ _) hm
  have e2 : bits .and .u16 ((m / 2 ^ k : Nat) : Int) ((1 : Nat) : Int) = ((m / 2 ^ k &&& 1 : Nat) : Int) := by
    generalize m / 2 ^ k = a at hlt
    have hx : a &&& 1 < 2 ^ 16 := Nat.and_lt_two_pow _ (by omega)
    have h1 : (BitVec.ofInt 16 (a : Int)).toNat = a := by
      rw [BitVec.ofInt_natCast, BitVec.toNat_ofNat]; exact Nat.mod_eq_of_lt (by omega)
    have h2 : (BitVec.ofInt 16 ((1 : Nat) : Int)).toNat = 1 := by decide
    show IntKind.u16.wrap ((BitVec.ofInt 16 (a : Int) &&& BitVec.ofInt 16 ((1 : Nat) : Int)).toNat : Int) = _
    rw [BitVec.toNat_and, h1, h2]
    have hw : ∀ z : Nat, z < 65536 → IntKind.u16.wrap (z : Int) = (z : Int) := by
      intro z hz
      simp [IntKind.wrap, IntKind.signed, IntKind.bits]
      omega
    exact hw _ hx
  rw [e1, show (1 : Int) = ((1 : Nat) : Int) from rfl, e2, Nat.and_one_is_mod, Nat.testBit_eq_decide_div_mod_eq]
  generalize m / 2 ^ k % 2 = r
  rw [Bool.eq_iff_iff]; simp; omega

set_option maxHeartbeats 4000000 in
set_option maxRecDepth 100000 in
theorem least_any (v u : Value) (names : List ByteArray) (gs : List Grp) (b : Nat) (w : World) (hr : RdS w v names) (hg : RdG w u gs) (hz : Szs names) (hzg : SzG gs) (hb : b < 65536) :
    Calls Try.prog 6 #[v, u, .int .u16 b] w fun e w' => e = .returned (.bool true) ∧ Below w.heap.size w w' := by
  have HF := hid (fine_any v u names gs w hr hg hz hzg)
  by_cases hf : fineB names gs = true
  · obtain ⟨hc0, hn8, hg5⟩ := fine_facts hf
    rw [hf] at HF
    obtain ⟨pe, pv, pn⟩ := sel_places (names := names) (gs := gs) b
    obtain ⟨m0, m1, m2, m3, m4⟩ := least hc0 pv pn
    rw [← pe] at m1 m2
    have hle : (selP b names.length gs.length (allL names gs).length).length = (selTo b (allL names gs) (allL names gs).length).length := by rw [pe, List.length_map]
    rw [hle] at m3
    clear pe pv pn hle
    have HX := fun s w' h1 h2 h3 => hid (expand_any v u s names gs (selTo b (allL names gs) (allL names gs).length) w' h1 h2 h3 hz hzg)
    rw [m1, m2] at HX
    clear m1 m2
    generalize bitsL (meanAll gs (selP b names.length gs.length (allL names gs).length)) = S at *
    have HS := fun s w' h1 h2 h3 => hid (short_any v u s names gs S w' h1 h2 h3 hz hzg (fun _ => ⟨hn8, by omega⟩))
    rw [m0] at HS
    generalize shortL names gs S = L at *
    have HSo := fun s w' h1 => hid (isSorted_any s S w' h1)
    rw [m4] at HSo
    have HCl := fun w' h => hid (clone_any v names w' h (by omega))
    have hall : (allL names gs).length = names.length + gs.length := by simp [allL]
    have HAL : Hid (∀ j (g : Grp), gs[j]? = some g → (names ++ (gs.take j).map (·.name)).map Value.string ++ [Value.string g.name] = (names ++ (gs.take (j + 1)).map (·.name)).map Value.string) := by
      intro j g h
      rw [List.take_add_one, h]; simp
    have HLE := hid m3
    clear m0 m3 m4 hf hc0 hz hzg
    obtain ⟨ag, capg, rfl, hlcg, hcmg, hcellg⟩ := hg.open
    have HCellg := hid hcellg; clear hcellg
    have HBT := fun k => hid (bit_test16 b k hb)
    clear hb
    go_enter Try.func6, Try.ntmps6
    go_wp2_with fail
    refine HF.out.mono ?_
    rintro e w1 ⟨rfl, hB1⟩
    have hr1 := hr.below hB1
    clear HF
    go_wp2_with fail
    refine (HCl _ hr1).out.mono ?_
    rintro e w2 ⟨v2, rfl, hown2, hB2⟩
    have HB1 := hid hB1
    clear hB1 HCl
    go_wp2_with fail
    go_loopw [7, 26] (fun s i wr => ∃ j : Nat, j ≤ gs.length ∧ i = .int .i64 j ∧ wr.ownsRow w1.heap.size 9 1 s (names.length + j) ((names ++ (gs.take j).map (·.name)).map Value.string) ∧ Below w1.heap.size w1 wr) (fun _ i _ => gs.length - (intOf i).toNat)
    case atStart => exact ⟨0, by omega, rfl, by simpa using hown2, hB2⟩
    case round =>
      clear hown2 hB2
      rename_i wr
      obtain ⟨j, hj, rfl, hown, hB⟩ := hrel
      by_cases hlt : j < gs.length
      · obtain ⟨x, b2, off2, m, hx, rfl, hca, hcb, hxm⟩ := HCellg.out j hlt
        obtain ⟨am, capm, rfl, hlm, hcmm, _⟩ := hxm.open
        clear hxm
        have HA := hid (HAL.out j x hx)
        have hBw := below_tr HB1.out hB
        have hc1 := Below.keeps hBw _ _ hca
        have hc2 := Below.keeps hBw _ _ hcb
        have hB3 := below_tr hB (below_al wr (.cells #[.string x.name, .slice am x.mem.length capm] 40))
        clear hx hca hcb hBw
        go_wp2_with (at_builtin; refine wpList_ap rfl _ _ 22 rfl w1.heap.size 9 Try.underlying22 infoStr rfl (by decide) (by decide) _ _ _ rfl (hown.alloc _) [.string x.name] rfl (by simp [Value.oneCell']) rfl (by simp) (by omega) hB3.size ?_; intro v' w3 hown' hb1 _)
        go_roundw
        case rel => exact ⟨j + 1, by omega, by go_num, by rw [← HA.out]; exact hown', hB3.trans hb1⟩
        case measure => simp [intOf]; omega
      · obtain rfl : j = gs.length := by omega
        have hall2 : (names ++ (gs.take gs.length).map (·.name)) = allL names gs := by rw [List.take_length]; rfl
        rw [hall2, ← hall] at hown
        have hra := Rd.of_own (enc := Value.string) hown
        obtain ⟨a7, cap7, rfl, hlc7, hcm7, hcell7⟩ := hra.open
        have HCell7 := hid hcell7
        clear hcell7 hown hra hall2
        have hlen13 : (allL names gs).length ≤ 13 := by omega
        clear hall HAL HCellg
        generalize allL names gs = al at *
        go_wp2_with fail
        obtain ⟨wo, rfl⟩ : ∃ wo : World, wo = wr := ⟨_, rfl⟩
        go_loopw [10, 38] (fun s i wr => ∃ (k : Nat) (xs : List ByteArray), k ≤ al.length ∧ i = .int .i64 k ∧ Hid (xs = selTo b al k) ∧ xs.length ≤ k ∧ wr.ownsRow wo.heap.size 9 1 s xs.length (xs.map Value.string) ∧ Below wo.heap.size wo wr) (fun _ i _ => al.length - (intOf i).toNat)
        case atStart => exact ⟨0, [], by omega, rfl, rfl, by simp, World.ownsRow_nil _ _ _ _, Below.refl _ _⟩
        case round =>
          rename_i wr
          have HBo := hid hB
          clear hB
          obtain ⟨k, xs, hk, rfl, HXS, hxl, hown, hB⟩ := hrel
          have hs := selTo_succ b al k
          have hbt := (HBT k).out
          by_cases hlt : k < al.length
          · have hm16 : Int.tmod (k : Int) 16 = (k : Int) := by rw [Int.tmod_eq_emod_of_nonneg (by omega)]; omega
            obtain ⟨x, b7, off7, hx, rfl, hc0⟩ := HCell7.out k hlt
            have hc := Below.keeps hB _ _ hc0
            have hgd : al.getD k ByteArray.empty = x := by rw [List.getD_eq_getElem?_getD, hx]; rfl
            rw [hgd] at hs
            clear hgd hx hc0
            by_cases hb : b.testBit k = true
            · rw [hb] at hbt
              rw [hb, if_pos rfl] at hs
              have HSS := hid hs; clear hs hb
              go_wp2_with (at_builtin; refine wpList_ap rfl _ _ 22 rfl wo.heap.size 9 Try.underlying22 infoStr rfl (by decide) (by decide) _ _ _ rfl hown [.string x] rfl (by simp [Value.oneCell']) rfl (by simp) (by omega) hB.size ?_; intro v' w4 hown' hb1 _)
              go_roundw
              case rel => exact ⟨k + 1, xs ++ [x], by omega, by go_num, by rw [HSS.out, HXS.out]; rfl, by simp; omega, by simpa using hown', hB.trans hb1⟩
              case measure => simp [intOf]; omega
            · have hb' : b.testBit k = false := by simpa using hb
              rw [hb'] at hbt
              rw [hb', if_neg (by simp)] at hs
              have HSS := hid hs; clear hs hb hb'
              go_wp2
              go_roundw
              case rel => exact ⟨k + 1, xs, by omega, by go_num, by rw [HSS.out, HXS.out, List.append_nil]; rfl, by omega, hown, hB⟩
              case measure => simp [intOf]; omega
          · clear hs hbt
            obtain rfl : k = al.length := by omega
            obtain rfl : xs = selTo b al al.length := HXS.out
            have hl4 := Rd.of_own (enc := Value.string) hown
            obtain ⟨a10, cap10, rfl, hlc10, hcm10, _⟩ := hl4.open
            have hBw := below_tr (below_tr HB1.out HBo.out) hB
            have hr4 := hr.below hBw
            have hg4 := hg.below hBw
            clear hown hB hxl HXS HCell7
            have HXa := HX _ _ hr4 hg4 hl4
            have HBw := hid hBw
            clear HX hBw
            go_wp2_with fail
            refine HXa.out.mono ?_
            rintro e w5 ⟨vs, rfl, hs5, hB5⟩
            have hr5 := hr4.below hB5
            have hg5' := hg4.below hB5
            have HBw5 := hid (below_tr HBw.out hB5)
            have HSa := HS _ _ hr5 hg5' hs5
            obtain ⟨a5, cap5, rfl, hlc5, hcm5, _⟩ := hs5.open
            clear HXa HS HBw hB5 hr4 hg4 hl4 hr5 hg5'
            go_wp2_with fail
            refine HSa.out.mono ?_
            rintro e w6 ⟨vl, rfl, hl6, hB6⟩
            have hs6 := hs5.below hB6
            have HBw6 := hid (below_tr HBw5.out hB6)
            obtain ⟨a6, cap6, rfl, hlc6, hcm6, _⟩ := hl6.open
            have hle : (L.length : Int) ≤ ((selTo b al al.length).length : Int) := by have := HLE.out; omega
            have HSb := HSo _ _ hs6
            clear HSa HSo HBw5 hB6 hs5 hl6
            go_wp2_with fail
            refine HSb.out.mono ?_
            rintro e w7 ⟨rfl, hB7⟩
            have HBw7 := hid (below_tr HBw6.out hB7)
            clear HSb HBw6 hB7
            go_wp2_with fail
            refine (awake_any _).mono ?_
            rintro e w8 ⟨rfl, hB8⟩
            have hBz := below_tr HBw7.out hB8
            go_wp2
            go_ret
            exact ⟨rfl, hBz⟩
  · have hf' : fineB names gs = false := by simpa using hf
    rw [hf'] at HF
    clear hf hf'
    go_enter Try.func6, Try.ntmps6
    go_wp2_with fail
    refine HF.out.mono ?_
    rintro e w1 ⟨rfl, hB1⟩
    go_wp2_with fail
    refine (awake_any _).mono ?_
    rintro e w2 ⟨rfl, hB2⟩
    have hB := below_tr hB1 hB2
    go_wp2
    go_ret
    exact ⟨rfl, hB⟩
end Go.Proofs.Ytigaflmhdbgmdaa
