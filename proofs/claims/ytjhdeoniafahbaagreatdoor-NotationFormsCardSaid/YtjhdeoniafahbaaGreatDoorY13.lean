/-
  Joined, what is needed of: Fnt PlNum OccR.
-/
import Derived.Test.YtjhdeoniafahbaaGreatDoorY10
import Derived.Test.YtjhdeoniafahbaaGreatDoorY04
import Derived.Deep.RegionHeld3
import Derived.Test.YtjhdeoniafahbaaGreatDoorY08
import Derived.Test.YtjhdeoniafahbaaGreatDoorY07
namespace Go.Proofs.YtjhdeoniafahbaaGreatDoor
open Go.RowKit Go.Maps
theorem lem_join_le (l : List ByteArray) : (joinB (lemP (ownP l))).size ≤ (joinB l).size := by
  have h1 : (joinB (ownP l)).size ≤ (joinB l).size := by
    have h2 := drop_join_le l 1
    unfold ownP restP
    split
    · exact h2
    · exact Nat.le_trans (take_join_le _ _) h2
  refine Nat.le_trans ?_ h1
  unfold lemP
  split
  · exact Nat.le_refl _
  · exact take_join_le _ _
theorem UntR.uni {p : ByteArray → Bool} {l : List ByteArray} {B : Nat} {w : World} {e : Ending} {w' : World} (h : UntR p l B w e w') : ∃ v1 bb, e = .returned (.tuple #[v1, .bool bb]) ∧ ∃ w2, Below w.heap.size w w2 ∧
    ((bb = false ∧ fIdx p l < 0 ∧ w' = w2) ∨ (bb = true ∧ ∃ (k : Nat) (v2 : Value), fIdx p l = (k : Int) ∧ RdS w2 v1 (l.take k) ∧ RdS w2 v2 (l.drop k) ∧ w' = w2.setCell ⟨B, 0, none⟩ v2)) := by
  obtain ⟨w2, hB, ⟨h1, rfl, rfl⟩ | ⟨k, v1, v2, h1, rfl, h2, h3, rfl⟩⟩ := h
  · exact ⟨_, _, rfl, _, hB, .inl ⟨rfl, h1, rfl⟩⟩
  · exact ⟨_, _, rfl, _, hB, .inr ⟨rfl, k, v2, h1, h2, h3, rfl⟩⟩
theorem own_len_le (l : List ByteArray) : (ownP l).length ≤ l.length := by
  unfold ownP restP
  split
  · rw [List.length_drop]; omega
  · rw [List.length_take, List.length_drop]; omega
set_option maxRecDepth 100000 in
set_option maxHeartbeats 8000000 in
theorem pfront_any (x : ByteArray) (l0 : List ByteArray) (m : Int) (v : Value) (w : World) (he : Env w) (hm : w.cell? ⟨0, 0, none⟩ = some (.int .i64 m)) (hr : RdS w v (x :: l0)) (hz : Sz16 (x :: l0)) (hlen : (x :: l0).length ≤ 1048576) (hj : (joinB (x :: l0)).size ≤ 65536) :
    Calls Tryz.prog 60 #[v] w fun r w' => FrQ (x :: l0) w r w' := by
  have HE := fun w' (h : Below w.heap.size w w') => hid (he.below h)
  have HM := fun w' (h : Below w.heap.size w w') => hid (Below.keeps h _ _ hm)
  have HR := fun w' (h : Below w.heap.size w w') => hid (hr.below h)
  have HX := hid (hz x (List.mem_cons_self ..))
  have HJL := hid hj
  have HLE := hid hlen
  have hb0 := below_tr (below_al w (.cells zeroN 30)) (below_al _ (.cells oneN 30))
  have HS0 : Hid (FrN ⟨0, 0, 1, ⟨#[]⟩, ⟨#[]⟩, 0, false, [], []⟩ (.slice none 0 0) (.slice none 0 0) w ((w.alloc (.cells zeroN 30)).alloc (.cells oneN 30))) := ⟨(row_nw w zeroN 30 rfl).al _, by
      have := row_nw (w.alloc (.cells zeroN 30)) oneN 30 rfl
      rw [show (w.alloc (.cells zeroN 30)).heap.size = w.heap.size + 1 by simp] at this
      exact this, OwS.nil _, hb0⟩
  have HHB : Hid (hdB (x :: l0) = (lineB x && (supOk (x :: l0) && (if plcI (ownP (x :: l0)) = 4 then decide ((lemP (ownP (x :: l0))).length = 0) else decide ((hdLm (x :: l0)).e = 0))))) := rfl
  have HPD : Hid (hdP (x :: l0) = ⟨decV (dashB x).1, decV (lstB x), plcI (ownP (x :: l0)), (hdLm (x :: l0)).f, (hdLm (x :: l0)).l, (hdLm (x :: l0)).n, supB (x :: l0), supL (x :: l0), []⟩) := rfl
  obtain ⟨a, cap, rfl, hlc, hcm, hcell⟩ := hr.open
  obtain ⟨x', b, off, hx, rfl, hc⟩ := hcell 0 (by simp)
  obtain rfl : x = x' := by simpa using hx
  have c0 : World.cell? _ ⟨b, off, none⟩ = some (.string x) := Below.keeps HS0.out.bel _ _ hc
  have HC0 : Hid (w.cell? ⟨b, off, none⟩ = some (.string x)) := hc
  have HL := hid hcell
  have hl1 : (0 : Int) < (((x :: l0).length : Nat) : Int) := by simp
  have HCT := hid (cutD_any x m _ (by have := HX.out; omega) (HM _ HS0.out.bel).out)
  clear hx hcell hc hr hm he hb0 hj hlen
  generalize hL : x :: l0 = L at *
  unfold zeroN oneN at *
  go_enter Tryz.func60, Tryz.ntmps60
  go_wp2_with fail
  (with_reducible refine HCT.out.mono ?_)
  rintro e w2 ⟨rfl, hB2⟩
  have HS2 := hid (HS0.out.below hB2)
  have HD1 := hid (dashB_size x).1
  clear HS0 HCT hB2 c0
  have HLS : Hid (lstB x = if (dashB x).2.2 = true then (dashB x).2.1 else (dashB x).1) := rfl
  have HSZ := hid (lstB_size x)
  have HLN : Hid (lineB x = (atoB (dashB x).1 && (atoB (lstB x) && decide (spanB (decV (dashB x).1) (decV (lstB x)) = x)))) := rfl
  generalize (dashB x).1 = d1 at *
  generalize (dashB x).2.1 = d2 at *
  generalize (dashB x).2.2 = d3 at *
  generalize lstB x = ls at *
  go_upto_if 32 with fail
  go_cut [6] from 23 to 33 (fun v wx => v = .string ls ∧ Hid (FrN ⟨0, 0, 1, ⟨#[]⟩, ⟨#[]⟩, 0, false, [], []⟩ (.slice none 0 0) (.slice none 0 0) w wx))
  case first =>
    cases d3 with
    | true =>
      obtain rfl : ls = d2 := HLS.out
      go_wp2_with fail
      go_meet
      exact ⟨rfl, HS2⟩
    | false =>
      obtain rfl : ls = d1 := HLS.out
      go_wp2_with fail
      go_meet
      exact ⟨rfl, HS2⟩
  case rest =>
    obtain ⟨rfl, HS3⟩ := hcut
    have HA1 := hid (atoi_any d1 wc (HE _ HS3.out.bel).out (by have := HD1.out; have := HX.out; omega))
    clear HS2 HLS
    go_wp2_with fail
    (with_reducible refine HA1.out.mono ?_)
    rintro e w4 ⟨ev1, rfl, hE1, hB4⟩
    have HE1 := hid hE1
    have HS4 := hid (HS3.out.below hB4)
    have HA2 := hid (atoi_any ls w4 (HE _ HS4.out.bel).out (by have := HSZ.out; have := HX.out; omega))
    clear HS3 HA1 hE1 hB4
    go_wp2_with fail
    (with_reducible refine HA2.out.mono ?_)
    rintro e w5 ⟨ev2, rfl, hE2, hB5⟩
    have HE2 := hid hE2
    have HS5 := hid (HS4.out.below hB5)
    clear HS4 HA2 hE2 hB5
    go_upto_region 7 with fail
    go_cut [58] from 44 to 58 (fun v wx => v = .bool (!(lineB x)) ∧ Hid (FrN ⟨0, 0, 1, ⟨#[]⟩, ⟨#[]⟩, 0, false, [], []⟩ (.slice none 0 0) (.slice none 0 0) w wx))
    case first =>
      have c5 : w5.cell? ⟨b, off, none⟩ = some (.string x) := Below.keeps HS5.out.bel _ _ HC0.out
      rcases HE1.out with ⟨ht1, rfl⟩ | ⟨ht1, t1, p1, rfl⟩
      · rcases HE2.out with ⟨ht2, rfl⟩ | ⟨ht2, t2, p2, rfl⟩
        · have HV : Hid (lineB x = decide (spanB (decV d1) (decV ls) = x)) := by show _ = _; rw [HLN.out, ht1, ht2]; rfl
          have HSP := fun w' (h : Below w5.heap.size w5 w') => hid (span_any (decV d1) (decV ls) w' (HE _ (below_tr HS5.out.bel h)).out (decV_bound d1).1 (decV_bound d1).2 (decV_bound ls).1 (decV_bound ls).2)
          clear ht1 ht2 HE1 HE2 HLN HPD
          generalize decV d1 = n1 at *
          generalize decV ls = n2 at *
          generalize spanB n1 n2 = sp at *
          have hl2 : (0 : Int) < (L.length : Int) := by rw [← hL]; simp
          have hl5 : 0 < L.length := by omega
          have hl3 : (1 : Int) ≤ (L.length : Int) := by omega
          have hl4 : (0 : Int) ≤ (L.length : Int) := by omega
          by_cases hsx : sp = x
          · subst hsx
            go_wp2_with fail
            go_region_held3 (fun w' => w'.cell? ⟨b, off, none⟩ = some (.string sp) ∧ Below w5.heap.size w5 w')
              ((refine ⟨?_, ?_⟩ <;> first | assumption | (exact Below.refl _ _) | (exact Below.drew (by assumption)) | (exact (Below.refl _ _).drew) | go_keep))
              (first
                | (go_at_call 49; go_split_ands; refine (HSP _ (by assumption)).out.mono ?_; rintro e w6 ⟨rfl, hB6⟩; have z0 := Below.keeps hB6 _ _ (by assumption : World.cell? _ ⟨b, off, none⟩ = some _); have z5 : Below w5.heap.size w5 w6 := below_tr (by assumption) hB6))
            all_goals go_split_ands
            all_goals go_wp2_with fail
            all_goals go_meet
            all_goals exact ⟨by rw [HV.out]; simp , HS5.out.below (by first | assumption | exact Below.drew (by assumption))⟩
          · have hq : (sp.toList == x.toList) = false := beq_eq_false_iff_ne.2 fun e => hsx (by
              rw [ByteArray.toList_eq, ByteArray.toList_eq] at e
              cases sp; cases x
              exact congrArg ByteArray.mk (Array.toList_inj.1 e))
            have HV2 : Hid (lineB x = false) := by show _ = _; rw [HV.out]; exact decide_eq_false hsx
            clear HV hsx
            go_wp2_with fail
            go_region_held3 (fun w' => w'.cell? ⟨b, off, none⟩ = some (.string x) ∧ Below w5.heap.size w5 w')
              ((refine ⟨?_, ?_⟩ <;> first | assumption | (exact Below.refl _ _) | (exact Below.drew (by assumption)) | (exact (Below.refl _ _).drew) | go_keep))
              (first
                | (go_at_call 49; go_split_ands; refine (HSP _ (by assumption)).out.mono ?_; rintro e w6 ⟨rfl, hB6⟩; have z0 := Below.keeps hB6 _ _ (by assumption : World.cell? _ ⟨b, off, none⟩ = some _); have z5 : Below w5.heap.size w5 w6 := below_tr (by assumption) hB6))
            all_goals go_split_ands
            all_goals go_wp2_with fail
            all_goals go_meet
            all_goals exact ⟨by rw [HV2.out]; simp , HS5.out.below (by first | assumption | exact Below.drew (by assumption))⟩
        · have HV : Hid (lineB x = false) := by show _ = _; rw [HLN.out, ht1, ht2]; rfl
          clear ht1 ht2 HE1 HE2 HLN
          go_wp2
          go_big_quiet ((fail))
          go_wp2
          go_meet
          exact ⟨by rw [HV.out]; rfl, HS5.out.below (below_drewN (Below.refl _ _) _)⟩
      · have HV : Hid (lineB x = false) := by show _ = _; rw [HLN.out, ht1]; rfl
        clear ht1 HE1 HE2 HLN
        go_wp2
        go_big_quiet ((fail))
        go_wp2
        go_meet
        exact ⟨by rw [HV.out]; rfl, HS5.out.below (below_drewN (Below.refl _ _) _)⟩
    case rest =>
      obtain ⟨rfl, HS6⟩ := hcut
      clear HS5 HE1 HE2 HLN
      cases hlb : lineB x with
      | false =>
        have HV : Hid (hdB L = false) := by show _ = _; rw [HHB.out, hlb]; rfl
        clear hlb HHB HPD
        have hm := HS6.out
        have b0 := hm.ent.cell 0 (x := .int .i64 0) rfl
        have b1 := hm.ent.cell 1 (x := .int .i64 0) rfl
        have b2 := hm.ent.cell 2 (x := .int .i64 1) rfl
        have b3 := hm.ent.cell 3 (x := .string ⟨#[]⟩) rfl
        have b4 := hm.ent.cell 4 (x := .string ⟨#[]⟩) rfl
        have b5 := hm.ent.cell 5 (x := .int .i64 0) rfl
        have b6 := hm.ent.cell 6 (x := .bool false) rfl
        have b7 := hm.ent.cell 7 (x := .slice none 0 0) rfl
        have b8 := hm.ent.cell 8 (x := .slice none 0 0) rfl
        have r0 := hm.res.cell 0 (x := .int .i64 0) rfl
        have r1 := hm.res.cell 1 (x := .int .i64 0) rfl
        have r2 := hm.res.cell 2 (x := .int .i64 0) rfl
        have r3 := hm.res.cell 3 (x := .string ⟨#[]⟩) rfl
        have r4 := hm.res.cell 4 (x := .string ⟨#[]⟩) rfl
        have r5 := hm.res.cell 5 (x := .int .i64 0) rfl
        have r6 := hm.res.cell 6 (x := .bool false) rfl
        have r7 := hm.res.cell 7 (x := .slice none 0 0) rfl
        have r8 := hm.res.cell 8 (x := .slice none 0 0) rfl
        have g0 := hm.res.frozen 0
        have g1 := hm.res.frozen 1
        have g2 := hm.res.frozen 2
        have g3 := hm.res.frozen 3
        have g4 := hm.res.frozen 4
        have g5 := hm.res.frozen 5
        have g6 := hm.res.frozen 6
        have g7 := hm.res.frozen 7
        have g8 := hm.res.frozen 8
        clear hm
        go_wp2_with fail
        have HY := HS6.out.fin (l := L) (b := false) (HV.out) (fun h => by cases h)
        have z0 := HY.1.cell 0 (x := .int .i64 0) rfl
        have z1 := HY.1.cell 1 (x := .int .i64 0) rfl
        have z2 := HY.1.cell 2 (x := .int .i64 1) rfl
        have z3 := HY.1.cell 3 (x := .string ⟨#[]⟩) rfl
        have z4 := HY.1.cell 4 (x := .string ⟨#[]⟩) rfl
        have z5 := HY.1.cell 5 (x := .int .i64 0) rfl
        have z6 := HY.1.cell 6 (x := .bool false) rfl
        have z7 := HY.1.cell 7 (x := .slice none 0 0) rfl
        have z8 := HY.1.cell 8 (x := .slice none 0 0) rfl
        exact bodyPost_ret (v := .tuple #[.agg #[.int .i64 0, .int .i64 0, .int .i64 1, .string ⟨#[]⟩, .string ⟨#[]⟩, .int .i64 0, .bool false, .slice none 0 0, .slice none 0 0], .bool false]) (by simp [results, Tryz.f60, go_sem, z0, z1, z2, z3, z4, z5, z6, z7, z8]) rfl HY.2
      | true =>
        rw [hlb] at HHB
        clear hlb
        generalize decV d1 = n1 at *
        generalize decV ls = n2 at *
        have k0 := HS6.out.ent.cell 0 (x := .int .i64 0) rfl
        have k1 := HS6.out.ent.cell 1 (x := .int .i64 0) rfl
        have g0 := HS6.out.ent.frozen 0
        have g1 := HS6.out.ent.frozen 1
        have HM1 := hid ((HS6.out.put 0 (.int .i64 n1) ⟨n1, 0, 1, ⟨#[]⟩, ⟨#[]⟩, 0, false, [], []⟩ rfl rfl).put 1 (.int .i64 n2) ⟨n1, n2, 1, ⟨#[]⟩, ⟨#[]⟩, 0, false, [], []⟩ rfl rfl)
        go_upto_region 10 with fail
        clear k0 k1 g0 g1 HS6
        generalize (wc.setCell ⟨w.heap.size + 1, 0, none⟩ (.int .i64 n1)).setCell ⟨w.heap.size + 1, 1, none⟩ (.int .i64 n2) = W9 at *
        go_cut [12] from 64 to 68 (fun p wx => ∃ B v, p = .pointer (some ⟨B, 0, none⟩) ∧ Hid (w.heap.size + 2 ≤ B) ∧ Hid (Row wx B #[v] 86) ∧ Hid (RdS wx v (restP L)) ∧ Hid (FrN ⟨n1, n2, 1, ⟨#[]⟩, ⟨#[]⟩, 0, false, [], []⟩ (.slice none 0 0) (.slice none 0 0) w wx))
        case first =>
          have hl2 : (0 : Int) < (L.length : Int) := by rw [← hL]; simp
          have hl3 : (1 : Int) ≤ (L.length : Int) := by omega
          have hl4 : 1 ≤ L.length := by omega
          have hc1 : (1 : Int) ≤ (cap : Int) := by omega
          have hc2 : 1 ≤ cap := by omega
          have HRd := HR W9 HM1.out.bel
          have hlo : w.heap.size + 2 ≤ W9.heap.size := HM1.out.ent.lt
          by_cases hcap : cap = 1
          · subst hcap
            go_wp2_with fail
            go_meet
            refine ⟨W9.heap.size, _, rfl, hlo, row_nw _ _ _ rfl, ?_, HM1.out.below (below_al _ _)⟩
            show RdS _ _ _
            have h := (HRd.out.end 1 (by omega) (some ⟨b, off, none⟩)).below (below_al W9 (.cells #[.slice (some ⟨b, off, none⟩) 0 0] 86))
            rw [show L.length - 1 = 0 by omega] at h
            exact h
          · go_wp2_with fail
            go_meet
            refine ⟨W9.heap.size, _, rfl, hlo, row_nw _ _ _ rfl, ?_, HM1.out.below (below_al _ _)⟩
            exact (HRd.out.drop 1 (by omega)).below (below_al _ _)
        case rest =>
          obtain ⟨B, v, rfl, HBlo, HRow, HRd, HMr⟩ := hcut
          obtain ⟨av, cv, rfl, _, _, _⟩ := HRd.out.open
          clear HM1 hl1
          have HU := hid (until_any 98 (enters_of Tryz.func98 (by kernel_rfl) rfl) opensB B (.slice av (restP L).length cv) (restP L) wc HRow.out HRd.out (fun x W' _ _ => (opens_any x W').mono fun e w' h => ⟨h.1, by rw [h.2]; exact Below.refl _ _⟩))
          have HOI : Hid (ownP L = if fIdx opensB (restP L) < 0 then restP L else (restP L).take (fIdx opensB (restP L)).toNat) := rfl
          have HSI : Hid (supB L = decide (0 ≤ fIdx opensB (restP L))) := rfl
          have HSL : Hid (supL L = if fIdx opensB (restP L) < 0 then [] else sigL ((restP L).drop (fIdx opensB (restP L)).toNat)) := rfl
          have HSO : Hid (supOk L = (decide (fIdx opensB (restP L) < 0) || sigOk ((restP L).drop (fIdx opensB (restP L)).toNat))) := rfl
          have c0 := HRow.out.cell 0 (x := .slice av (restP L).length cv) rfl
          go_wp2_with fail
          (with_reducible refine HU.out.mono ?_)
          rintro e w1 hU
          obtain ⟨v1, bb, rfl, hQ⟩ := hU.uni
          have HQ := hid hQ
          clear hQ hU c0 HU
          go_upto_if 77 with fail
          go_cut [13] from 77 to 93 (fun ov wx => ∃ au nu cu, Hid (FrN ⟨n1, n2, 1, ⟨#[]⟩, ⟨#[]⟩, 0, supB L, supL L, []⟩ (.slice au nu cu) (.slice none 0 0) w wx) ∧ Hid (RdS wx ov (ownP L)) ∧ Hid (supOk L = true))
          case first =>
            have HRL : Hid ((restP L).length ≤ 1048576) := by show _ ≤ _; unfold restP; rw [List.length_drop]; have := HLE.out; omega
            have HRJ : Hid ((joinB (restP L)).size ≤ 65536) := by show _ ≤ _; have := drop_join_le L 1; have := HJL.out; unfold restP; omega
            generalize restP L = rl at *
            rcases HQ.out with ⟨w2, hB2, ⟨rfl, hneg, rfl⟩ | ⟨rfl, k, v2, hk, hr1, hr2, rfl⟩⟩
            · have e1 : ownP L = rl := by rw [HOI.out, if_pos hneg]
              have e2 : supB L = false := by rw [HSI.out, decide_eq_false (by omega)]
              have e3 : supL L = [] := by rw [HSL.out, if_pos hneg]
              have e4 : supOk L = true := by rw [HSO.out, decide_eq_true hneg]; rfl
              have HF : Hid (FrN ⟨n1, n2, 1, ⟨#[]⟩, ⟨#[]⟩, 0, supB L, supL L, []⟩ (.slice none 0 0) (.slice none 0 0) w w1 ∧ RdS w1 (.slice av rl.length cv) (ownP L) ∧ supOk L = true) := by
                refine ⟨?_, ?_, e4⟩
                · rw [e2, e3]; exact HMr.out.below hB2
                · rw [e1]; exact HRd.out.below hB2
              clear e1 e2 e3 e4 HOI HSI HSL HSO hneg HQ
              go_wp2_with fail
              go_meet
              exact ⟨_, _, _, HF.out.1, HF.out.2.1, HF.out.2.2⟩
            · have hkl : k < rl.length := by have := fIdx_lt opensB rl; omega
              have HO2 : Hid (ownP L = rl.take k) := by show _ = _; rw [HOI.out, hk, if_neg (by omega), Int.toNat_natCast]
              have HSI2 : Hid (supB L = true) := by show _ = _; rw [HSI.out, hk, decide_eq_true (by omega)]
              have HSL2 : Hid (supL L = sigL (rl.drop k)) := by show _ = _; rw [HSL.out, hk, if_neg (by omega), Int.toNat_natCast]
              have HSO2 : Hid (supOk L = sigOk (rl.drop k)) := by show _ = _; rw [HSO.out, hk, decide_eq_false (by omega), Int.toNat_natCast]; rfl
              obtain ⟨a1, c1, rfl, _, _, _⟩ := hr1.open
              obtain ⟨a2, c2, rfl, _, _, _⟩ := hr2.open
              have hrow2 := HRow.out.below hB2
              have HM3 := hid ((HMr.out.below hB2).other hrow2 (by decide) HBlo.out 0 (.slice a2 (rl.drop k).length c2))
              have HR3 := hid (hrow2.set 0 (.slice a2 (rl.drop k).length c2))
              have H1a := hid (rdS_set (y := .slice a2 (rl.drop k).length c2) hr1 (hrow2.cell 0 rfl) (fun s e => by cases e))
              have H1b := hid (rdS_set (y := .slice a2 (rl.drop k).length c2) hr2 (hrow2.cell 0 rfl) (fun s e => by cases e))
              have hjd := drop_join_le rl k
              clear hrow2 hr1 hr2 HOI HSI HSL HSO hk HQ hB2 HMr HRow HRd
              generalize hw3 : w2.setCell ⟨B, 0, none⟩ (.slice a2 (rl.drop k).length c2) = w3 at *
              clear hw3
              have HSG := hid (psigla_any (.slice a2 (rl.drop k).length c2) (rl.drop k) m w3 H1b.out (by rw [List.length_drop]; have := HRL.out; omega) (by have := HRJ.out; omega) (HM _ HM3.out.bel).out)
              have cb := HR3.out.cell 0 (x := .slice a2 (rl.drop k).length c2) rfl
              generalize (rl.drop k).length = nd at *
              generalize (rl.take k).length = nt at *
              go_wp2_with fail
              (with_reducible refine HSG.out.mono ?_)
              rintro e w6 ⟨vs, rfl, hrs, hB6⟩
              obtain ⟨ag, cs, rfl⟩ := hrs.form
              have HM6 := hid (HM3.out.below hB6)
              have H6a := hid (H1a.out.below hB6)
              have HS6 := hid hrs
              clear HM3 H1a H1b HR3 HSG hrs hB6 cb hjd
              cases hso : sigOk (rl.drop k) with
              | false =>
                have HV : Hid (hdB L = false) := by show _ = _; rw [HHB.out, HSO2.out, hso]; rfl
                clear hso HHB HPD HSO2
                have hm := HM6.out
                have b0 := hm.ent.cell 0 (x := .int .i64 n1) rfl
                have b1 := hm.ent.cell 1 (x := .int .i64 n2) rfl
                have b2 := hm.ent.cell 2 (x := .int .i64 1) rfl
                have b3 := hm.ent.cell 3 (x := .string ⟨#[]⟩) rfl
                have b4 := hm.ent.cell 4 (x := .string ⟨#[]⟩) rfl
                have b5 := hm.ent.cell 5 (x := .int .i64 0) rfl
                have b6 := hm.ent.cell 6 (x := .bool false) rfl
                have b7 := hm.ent.cell 7 (x := .slice none 0 0) rfl
                have b8 := hm.ent.cell 8 (x := .slice none 0 0) rfl
                have r0 := hm.res.cell 0 (x := .int .i64 0) rfl
                have r1 := hm.res.cell 1 (x := .int .i64 0) rfl
                have r2 := hm.res.cell 2 (x := .int .i64 0) rfl
                have r3 := hm.res.cell 3 (x := .string ⟨#[]⟩) rfl
                have r4 := hm.res.cell 4 (x := .string ⟨#[]⟩) rfl
                have r5 := hm.res.cell 5 (x := .int .i64 0) rfl
                have r6 := hm.res.cell 6 (x := .bool false) rfl
                have r7 := hm.res.cell 7 (x := .slice none 0 0) rfl
                have r8 := hm.res.cell 8 (x := .slice none 0 0) rfl
                have g0 := hm.res.frozen 0
                have g1 := hm.res.frozen 1
                have g2 := hm.res.frozen 2
                have g3 := hm.res.frozen 3
                have g4 := hm.res.frozen 4
                have g5 := hm.res.frozen 5
                have g6 := hm.res.frozen 6
                have g7 := hm.res.frozen 7
                have g8 := hm.res.frozen 8
                clear hm
                go_wp2_with fail
                have HY := HM6.out.fin (l := L) (b := false) (HV.out) (fun h => by cases h)
                have z0 := HY.1.cell 0 (x := .int .i64 n1) rfl
                have z1 := HY.1.cell 1 (x := .int .i64 n2) rfl
                have z2 := HY.1.cell 2 (x := .int .i64 1) rfl
                have z3 := HY.1.cell 3 (x := .string ⟨#[]⟩) rfl
                have z4 := HY.1.cell 4 (x := .string ⟨#[]⟩) rfl
                have z5 := HY.1.cell 5 (x := .int .i64 0) rfl
                have z6 := HY.1.cell 6 (x := .bool false) rfl
                have z7 := HY.1.cell 7 (x := .slice none 0 0) rfl
                have z8 := HY.1.cell 8 (x := .slice none 0 0) rfl
                exact bodyPost_ret (v := .tuple #[.agg #[.int .i64 n1, .int .i64 n2, .int .i64 1, .string ⟨#[]⟩, .string ⟨#[]⟩, .int .i64 0, .bool false, .slice none 0 0, .slice none 0 0], .bool false]) (by simp [results, Tryz.f60, go_sem, z0, z1, z2, z3, z4, z5, z6, z7, z8]) rfl HY.2
              | true =>
                have e4 : supOk L = true := by rw [HSO2.out, hso]
                clear hso
                have k6 := HM6.out.ent.cell 6 (x := .bool false) rfl
                have k7 := HM6.out.ent.cell 7 (x := .slice none 0 0) rfl
                have g6 := HM6.out.ent.frozen 6
                have g7 := HM6.out.ent.frozen 7
                have hm7 := HM6.out.put 6 (.bool true) ⟨n1, n2, 1, ⟨#[]⟩, ⟨#[]⟩, 0, true, [], []⟩ rfl rfl
                have hs7 := HS6.out.setR HM6.out.ent (i := 6) (by decide) (.bool true)
                have h7a := rdS_set (y := .bool true) H6a.out k6 (fun s e => by cases e)
                have k7b := hm7.ent.cell 7 (x := .slice none 0 0) rfl
                have HF : Hid (FrN ⟨n1, n2, 1, ⟨#[]⟩, ⟨#[]⟩, 0, supB L, supL L, []⟩ (.slice ag (sigL (rl.drop k)).length cs) (.slice none 0 0) w ((w6.setCell ⟨w.heap.size + 1, 6, none⟩ (.bool true)).setCell ⟨w.heap.size + 1, 7, none⟩ (.slice ag (sigL (rl.drop k)).length cs)) ∧ RdS ((w6.setCell ⟨w.heap.size + 1, 6, none⟩ (.bool true)).setCell ⟨w.heap.size + 1, 7, none⟩ (.slice ag (sigL (rl.drop k)).length cs)) (.slice a1 nt c1) (ownP L) ∧ supOk L = true) := by
                  refine ⟨?_, ?_, e4⟩
                  · rw [HSI2.out, HSL2.out]
                    exact hm7.putS _ ⟨n1, n2, 1, ⟨#[]⟩, ⟨#[]⟩, 0, true, sigL (rl.drop k), []⟩ rfl hs7
                  · rw [HO2.out]
                    exact rdS_set h7a k7b (fun s e => by cases e)
                clear hm7 hs7 h7a e4 HSI2 HSL2 HO2 HSO2
                generalize (sigL (rl.drop k)).length = ns at *
                go_wp2_with fail
                go_meet
                exact ⟨_, _, _, HF.out.1, HF.out.2.1, HF.out.2.2⟩
          case rest =>
            obtain ⟨au, nu, cu, HM2, HRD, HSO⟩ := hcut
            clear HMr HRow HRd
            have HLM : Hid (hdLm L = if plcI (ownP L) = 4 then lm0 0 else parseLm (joinB (lemP (ownP L)))) := rfl
            have HJO : Hid ((joinB (lemP (ownP L))).size ≤ 65536) := by show _ ≤ _; have := lem_join_le L; have := HJL.out; omega
            have HOL : Hid ((lemP (ownP L)).length ≤ L.length) := by
              show _ ≤ _
              have := own_len_le L
              unfold lemP
              split
              · exact this
              · rw [List.length_take]; omega
            have HOW : Hid ((ownP L).length ≤ 1048576) := by show _ ≤ _; have := own_len_le L; have := HLE.out; omega
            clear HQ HOI HSI HSL
            generalize ownP L = own at *
            generalize supB L = pos at *
            generalize supL L = sup at *
            obtain ⟨ao, co, rfl, _, _, hocell⟩ := HRD.out.open
            clear hocell
            go_wp2_with fail
            (with_reducible refine (signs_any _).mono ?_)
            rintro e w4 ⟨rm, rfl, hSg, hB4, _⟩
            have HM4 := hid (HM2.out.below hB4)
            have HR4 := hid (HRD.out.below hB4)
            clear HM2 HRD hB4
            go_wp2_with (first | (at_range; refine wpList_range_own _ rfl _ 78 rfl 3 9 keyI Tryz.underlying78 sgR _ 3 sgD rfl hSg ?_; intro w5 hrg hg5 hs5) | fail)
            go_frame
            go_loopw [13] (fun ov wr => ∃ left cnt, ov = .slice ao own.length co ∧ wr.ranges Tryz.prog 3 sgR rm w4.heap.size 3 sgD left cnt ∧ Hid (SgI own left) ∧ Hid (Below w4.heap.size w4 wr)) (fun _ wr => wr.rangeLeft rm w4.heap.size)
            case atStart => exact ⟨_, _, rfl, hrg, SgI.start own, (Below.refl _ w4).grown hg5 (Nat.le_refl _) (fun k e => by cases e)⟩
            case round =>
              rename_i wr
              obtain ⟨left, cnt, rfl, hrgr, HI, HB⟩ := hrel
              clear hrg hg5 hs5
              go_wp2_with (first | (at_next; refine wpList_next_ranges_is _ rfl _ rfl 3 9 .i64 keyI Tryz.underlying3 Tryz.underlying9 rm w4.heap.size 3 _ _ _ rfl hrgr ?_ ?_) | fail)
              · intro _ hl0
                obtain ⟨pp, hpp⟩ : ∃ p : Int, p = 1 := ⟨_, rfl⟩
                have HPL0 := hid (HI.out.none hl0)
                have HPL : Hid (plcI own = pp) := by show _ = _; rw [hpp]; exact HPL0.out
                have HMd : Hid (FrN ⟨n1, n2, pp, ⟨#[]⟩, ⟨#[]⟩, 0, pos, sup, []⟩ (.slice au nu cu) (.slice none 0 0) w wr) := by show FrN _ _ _ _ _; rw [hpp]; exact HM4.out.below HB.out
                have HRd4 : Hid (RdS wr (.slice ao own.length co) (lemP own)) := by show RdS _ _ _; unfold lemP; rw [if_pos HPL0.out]; exact HR4.out.below HB.out
                have hlE : own.length = (lemP own).length := by unfold lemP; rw [if_pos HPL0.out]
                rw [hlE] at HRd4 ⊢
                clear hl0 hrgr HI HM4 HR4 hSg HB hlE HPL0 hpp
                have HB1 : Hid (hdB L = if pp = 4 then decide ((lemP own).length = 0) else decide ((hdLm L).e = 0)) := by show _ = _; rw [HHB.out, HSO.out, HPL.out]; simp
                have HP1 : Hid (hdP L = ⟨n1, n2, pp, (hdLm L).f, (hdLm L).l, (hdLm L).n, pos, sup, []⟩) := by show _ = _; rw [HPD.out, HPL.out]
                have HL1 : Hid (hdLm L = if pp = 4 then lm0 0 else parseLm (joinB (lemP own))) := by show _ = _; rw [HLM.out, HPL.out]
                have k2 := HMd.out.ent.cell 2 (x := .int .i64 pp) rfl
                clear HHB HPD HLM
                by_cases hp4 : pp = 4
                · have HB2 : Hid (hdB L = decide ((lemP own).length = 0)) := by show _ = _; rw [HB1.out, if_pos hp4]
                  have HP2 : Hid (hdP L = ⟨n1, n2, pp, ⟨#[]⟩, ⟨#[]⟩, 0, pos, sup, []⟩) := by show _ = _; rw [HP1.out, HL1.out, if_pos hp4]; rfl
                  have hpb : ((pp : Int) == 4) = true := by rw [hp4]; rfl
                  clear hp4 HB1 HP1 HL1
                  by_cases hl0 : (lemP own).length = 0
                  · have HB3 : Hid (hdB L = true) := by show _ = _; rw [HB2.out, decide_eq_true hl0]
                    have hlb : (((lemP own).length : Int) == 0) = true := by rw [hl0]; rfl
                    clear hl0 HB2
                    generalize (lemP own).length = nl at *
                    have hm := HMd.out
                    have b0 := hm.ent.cell 0 (x := .int .i64 n1) rfl
                    have b1 := hm.ent.cell 1 (x := .int .i64 n2) rfl
                    have b2 := hm.ent.cell 2 (x := .int .i64 pp) rfl
                    have b3 := hm.ent.cell 3 (x := .string ⟨#[]⟩) rfl
                    have b4 := hm.ent.cell 4 (x := .string ⟨#[]⟩) rfl
                    have b5 := hm.ent.cell 5 (x := .int .i64 0) rfl
                    have b6 := hm.ent.cell 6 (x := .bool pos) rfl
                    have b7 := hm.ent.cell 7 (x := .slice au nu cu) rfl
                    have b8 := hm.ent.cell 8 (x := .slice none 0 0) rfl
                    have r0 := hm.res.cell 0 (x := .int .i64 0) rfl
                    have r1 := hm.res.cell 1 (x := .int .i64 0) rfl
                    have r2 := hm.res.cell 2 (x := .int .i64 0) rfl
                    have r3 := hm.res.cell 3 (x := .string ⟨#[]⟩) rfl
                    have r4 := hm.res.cell 4 (x := .string ⟨#[]⟩) rfl
                    have r5 := hm.res.cell 5 (x := .int .i64 0) rfl
                    have r6 := hm.res.cell 6 (x := .bool false) rfl
                    have r7 := hm.res.cell 7 (x := .slice none 0 0) rfl
                    have r8 := hm.res.cell 8 (x := .slice none 0 0) rfl
                    have g0 := hm.res.frozen 0
                    have g1 := hm.res.frozen 1
                    have g2 := hm.res.frozen 2
                    have g3 := hm.res.frozen 3
                    have g4 := hm.res.frozen 4
                    have g5 := hm.res.frozen 5
                    have g6 := hm.res.frozen 6
                    have g7 := hm.res.frozen 7
                    have g8 := hm.res.frozen 8
                    clear hm
                    go_wp2_with fail
                    have HY := HMd.out.fin (l := L) (b := true) (HB3.out) (fun _ => HP2.out.symm)
                    have z0 := HY.1.cell 0 (x := .int .i64 n1) rfl
                    have z1 := HY.1.cell 1 (x := .int .i64 n2) rfl
                    have z2 := HY.1.cell 2 (x := .int .i64 pp) rfl
                    have z3 := HY.1.cell 3 (x := .string ⟨#[]⟩) rfl
                    have z4 := HY.1.cell 4 (x := .string ⟨#[]⟩) rfl
                    have z5 := HY.1.cell 5 (x := .int .i64 0) rfl
                    have z6 := HY.1.cell 6 (x := .bool pos) rfl
                    have z7 := HY.1.cell 7 (x := .slice au nu cu) rfl
                    have z8 := HY.1.cell 8 (x := .slice none 0 0) rfl
                    exact bodyPost_ret (v := .tuple #[.agg #[.int .i64 n1, .int .i64 n2, .int .i64 pp, .string ⟨#[]⟩, .string ⟨#[]⟩, .int .i64 0, .bool pos, .slice au nu cu, .slice none 0 0], .bool true]) (by simp [results, Tryz.f60, go_sem, z0, z1, z2, z3, z4, z5, z6, z7, z8]) rfl HY.2
                  · have HB3 : Hid (hdB L = false) := by show _ = _; rw [HB2.out, decide_eq_false hl0]
                    have hlb : (((lemP own).length : Int) == 0) = false := beq_eq_false_iff_ne.2 (by omega)
                    clear hl0 HB2
                    generalize (lemP own).length = nl at *
                    have hm := HMd.out
                    have b0 := hm.ent.cell 0 (x := .int .i64 n1) rfl
                    have b1 := hm.ent.cell 1 (x := .int .i64 n2) rfl
                    have b2 := hm.ent.cell 2 (x := .int .i64 pp) rfl
                    have b3 := hm.ent.cell 3 (x := .string ⟨#[]⟩) rfl
                    have b4 := hm.ent.cell 4 (x := .string ⟨#[]⟩) rfl
                    have b5 := hm.ent.cell 5 (x := .int .i64 0) rfl
                    have b6 := hm.ent.cell 6 (x := .bool pos) rfl
                    have b7 := hm.ent.cell 7 (x := .slice au nu cu) rfl
                    have b8 := hm.ent.cell 8 (x := .slice none 0 0) rfl
                    have r0 := hm.res.cell 0 (x := .int .i64 0) rfl
                    have r1 := hm.res.cell 1 (x := .int .i64 0) rfl
                    have r2 := hm.res.cell 2 (x := .int .i64 0) rfl
                    have r3 := hm.res.cell 3 (x := .string ⟨#[]⟩) rfl
                    have r4 := hm.res.cell 4 (x := .string ⟨#[]⟩) rfl
                    have r5 := hm.res.cell 5 (x := .int .i64 0) rfl
                    have r6 := hm.res.cell 6 (x := .bool false) rfl
                    have r7 := hm.res.cell 7 (x := .slice none 0 0) rfl
                    have r8 := hm.res.cell 8 (x := .slice none 0 0) rfl
                    have g0 := hm.res.frozen 0
                    have g1 := hm.res.frozen 1
                    have g2 := hm.res.frozen 2
                    have g3 := hm.res.frozen 3
                    have g4 := hm.res.frozen 4
                    have g5 := hm.res.frozen 5
                    have g6 := hm.res.frozen 6
                    have g7 := hm.res.frozen 7
                    have g8 := hm.res.frozen 8
                    clear hm
                    go_wp2_with fail
                    have HY := HMd.out.fin (l := L) (b := false) (HB3.out) (fun h => by cases h)
                    have z0 := HY.1.cell 0 (x := .int .i64 n1) rfl
                    have z1 := HY.1.cell 1 (x := .int .i64 n2) rfl
                    have z2 := HY.1.cell 2 (x := .int .i64 pp) rfl
                    have z3 := HY.1.cell 3 (x := .string ⟨#[]⟩) rfl
                    have z4 := HY.1.cell 4 (x := .string ⟨#[]⟩) rfl
                    have z5 := HY.1.cell 5 (x := .int .i64 0) rfl
                    have z6 := HY.1.cell 6 (x := .bool pos) rfl
                    have z7 := HY.1.cell 7 (x := .slice au nu cu) rfl
                    have z8 := HY.1.cell 8 (x := .slice none 0 0) rfl
                    exact bodyPost_ret (v := .tuple #[.agg #[.int .i64 n1, .int .i64 n2, .int .i64 pp, .string ⟨#[]⟩, .string ⟨#[]⟩, .int .i64 0, .bool pos, .slice au nu cu, .slice none 0 0], .bool false]) (by simp [results, Tryz.f60, go_sem, z0, z1, z2, z3, z4, z5, z6, z7, z8]) rfl HY.2
                · have HB2 : Hid (hdB L = decide ((hdLm L).e = 0)) := by show _ = _; rw [HB1.out, if_neg hp4]
                  have HL2 : Hid (hdLm L = parseLm (joinB (lemP own))) := by show _ = _; rw [HL1.out, if_neg hp4]
                  have hpb : ((pp : Int) == 4) = false := beq_eq_false_iff_ne.2 hp4
                  have HJ := hid (joinX_any _ (lemP own) _ HRd4.out (by have := HOL.out; have := HLE.out; omega) (by have := HJO.out; omega))
                  have HPS := fun w' (h : Below w.heap.size w w') => hid (parse43_any (joinB (lemP own)) m w' (HE w' h).out HJO.out (HM w' h).out)
                  rw [← HL2.out] at HPS
                  unfold lmV at HPS
                  clear hp4 HB1 HL1 HL2
                  generalize (lemP own).length = nl at *
                  generalize joinB (lemP own) = js at *
                  go_wp2_with fail
                  (with_reducible refine HJ.out.mono ?_)
                  rintro e w7 ⟨rfl, hB7⟩
                  have HM7 := hid (HMd.out.below hB7)
                  clear HJ hB7 k2
                  go_wp2_with fail
                  (with_reducible refine (HPS _ HM7.out.bel).out.mono ?_)
                  rintro e w8 ⟨rfl, hB8⟩
                  have HM8 := hid (HM7.out.below hB8)
                  clear HPS HM7 hB8
                  generalize (hdLm L).f = lf at *
                  generalize (hdLm L).l = ll at *
                  generalize (hdLm L).n = ln at *
                  generalize (hdLm L).e = le at *
                  have HM9 := hid (HM8.out.below (below_al w8 (.cells #[.string lf, .string ll, .int .i64 ln] 28)))
                  have HRL9 := hid (row_nw w8 #[.string lf, .string ll, .int .i64 ln] 28 rfl)
                  go_upto_region 26 with fail
                  generalize w8.alloc (.cells #[.string lf, .string ll, .int .i64 ln] 28) = W9 at *
                  generalize w8.heap.size = N8 at *
                  have l0 := HRL9.out.cell 0 (x := .string lf) rfl
                  have l1 := HRL9.out.cell 1 (x := .string ll) rfl
                  have l2 := HRL9.out.cell 2 (x := .int .i64 ln) rfl
                  have k3 := HM9.out.ent.cell 3 (x := .string ⟨#[]⟩) rfl
                  have k4 := HM9.out.ent.cell 4 (x := .string ⟨#[]⟩) rfl
                  have k5 := HM9.out.ent.cell 5 (x := .int .i64 0) rfl
                  have g3 := HM9.out.ent.frozen 3
                  have g4 := HM9.out.ent.frozen 4
                  have g5 := HM9.out.ent.frozen 5
                  have HMX := hid (((HM9.out.put 3 (.string lf) ⟨n1, n2, pp, lf, ⟨#[]⟩, 0, pos, sup, []⟩ rfl rfl).put 4 (.string ll) ⟨n1, n2, pp, lf, ll, 0, pos, sup, []⟩ rfl rfl).put 5 (.int .i64 ln) ⟨n1, n2, pp, lf, ll, ln, pos, sup, []⟩ rfl rfl)
                  clear HM8 HM9 HRL9
                  go_upto_region 27 with fail
                  clear l0 l1 l2 k3 k4 k5 g3 g4 g5
                  generalize ((W9.setCell ⟨w.heap.size + 1, 3, none⟩ (.string lf)).setCell ⟨w.heap.size + 1, 4, none⟩ (.string ll)).setCell ⟨w.heap.size + 1, 5, none⟩ (.int .i64 ln) = WX at *
                  by_cases hl0 : le = 0
                  · have HB3 : Hid (hdB L = true) := by show _ = _; rw [HB2.out, decide_eq_true hl0]
                    have hlb : (le == 0) = true := by rw [hl0]; rfl
                    clear hl0 HB2
                    have hm := HMX.out
                    have b0 := hm.ent.cell 0 (x := .int .i64 n1) rfl
                    have b1 := hm.ent.cell 1 (x := .int .i64 n2) rfl
                    have b2 := hm.ent.cell 2 (x := .int .i64 pp) rfl
                    have b3 := hm.ent.cell 3 (x := .string lf) rfl
                    have b4 := hm.ent.cell 4 (x := .string ll) rfl
                    have b5 := hm.ent.cell 5 (x := .int .i64 ln) rfl
                    have b6 := hm.ent.cell 6 (x := .bool pos) rfl
                    have b7 := hm.ent.cell 7 (x := .slice au nu cu) rfl
                    have b8 := hm.ent.cell 8 (x := .slice none 0 0) rfl
                    have r0 := hm.res.cell 0 (x := .int .i64 0) rfl
                    have r1 := hm.res.cell 1 (x := .int .i64 0) rfl
                    have r2 := hm.res.cell 2 (x := .int .i64 0) rfl
                    have r3 := hm.res.cell 3 (x := .string ⟨#[]⟩) rfl
                    have r4 := hm.res.cell 4 (x := .string ⟨#[]⟩) rfl
                    have r5 := hm.res.cell 5 (x := .int .i64 0) rfl
                    have r6 := hm.res.cell 6 (x := .bool false) rfl
                    have r7 := hm.res.cell 7 (x := .slice none 0 0) rfl
                    have r8 := hm.res.cell 8 (x := .slice none 0 0) rfl
                    have g0 := hm.res.frozen 0
                    have g1 := hm.res.frozen 1
                    have g2 := hm.res.frozen 2
                    have g3 := hm.res.frozen 3
                    have g4 := hm.res.frozen 4
                    have g5 := hm.res.frozen 5
                    have g6 := hm.res.frozen 6
                    have g7 := hm.res.frozen 7
                    have g8 := hm.res.frozen 8
                    clear hm
                    go_wp2_with fail
                    have HY := HMX.out.fin (l := L) (b := true) (HB3.out) (fun _ => HP1.out.symm)
                    have z0 := HY.1.cell 0 (x := .int .i64 n1) rfl
                    have z1 := HY.1.cell 1 (x := .int .i64 n2) rfl
                    have z2 := HY.1.cell 2 (x := .int .i64 pp) rfl
                    have z3 := HY.1.cell 3 (x := .string lf) rfl
                    have z4 := HY.1.cell 4 (x := .string ll) rfl
                    have z5 := HY.1.cell 5 (x := .int .i64 ln) rfl
                    have z6 := HY.1.cell 6 (x := .bool pos) rfl
                    have z7 := HY.1.cell 7 (x := .slice au nu cu) rfl
                    have z8 := HY.1.cell 8 (x := .slice none 0 0) rfl
                    exact bodyPost_ret (v := .tuple #[.agg #[.int .i64 n1, .int .i64 n2, .int .i64 pp, .string lf, .string ll, .int .i64 ln, .bool pos, .slice au nu cu, .slice none 0 0], .bool true]) (by simp [results, Tryz.f60, go_sem, z0, z1, z2, z3, z4, z5, z6, z7, z8]) rfl HY.2
                  · have HB3 : Hid (hdB L = false) := by show _ = _; rw [HB2.out, decide_eq_false hl0]
                    have hlb : (le == 0) = false := beq_eq_false_iff_ne.2 hl0
                    clear hl0 HB2
                    have hm := HMX.out
                    have b0 := hm.ent.cell 0 (x := .int .i64 n1) rfl
                    have b1 := hm.ent.cell 1 (x := .int .i64 n2) rfl
                    have b2 := hm.ent.cell 2 (x := .int .i64 pp) rfl
                    have b3 := hm.ent.cell 3 (x := .string lf) rfl
                    have b4 := hm.ent.cell 4 (x := .string ll) rfl
                    have b5 := hm.ent.cell 5 (x := .int .i64 ln) rfl
                    have b6 := hm.ent.cell 6 (x := .bool pos) rfl
                    have b7 := hm.ent.cell 7 (x := .slice au nu cu) rfl
                    have b8 := hm.ent.cell 8 (x := .slice none 0 0) rfl
                    have r0 := hm.res.cell 0 (x := .int .i64 0) rfl
                    have r1 := hm.res.cell 1 (x := .int .i64 0) rfl
                    have r2 := hm.res.cell 2 (x := .int .i64 0) rfl
                    have r3 := hm.res.cell 3 (x := .string ⟨#[]⟩) rfl
                    have r4 := hm.res.cell 4 (x := .string ⟨#[]⟩) rfl
                    have r5 := hm.res.cell 5 (x := .int .i64 0) rfl
                    have r6 := hm.res.cell 6 (x := .bool false) rfl
                    have r7 := hm.res.cell 7 (x := .slice none 0 0) rfl
                    have r8 := hm.res.cell 8 (x := .slice none 0 0) rfl
                    have g0 := hm.res.frozen 0
                    have g1 := hm.res.frozen 1
                    have g2 := hm.res.frozen 2
                    have g3 := hm.res.frozen 3
                    have g4 := hm.res.frozen 4
                    have g5 := hm.res.frozen 5
                    have g6 := hm.res.frozen 6
                    have g7 := hm.res.frozen 7
                    have g8 := hm.res.frozen 8
                    clear hm
                    go_wp2_with fail
                    have HY := HMX.out.fin (l := L) (b := false) (HB3.out) (fun h => by cases h)
                    have z0 := HY.1.cell 0 (x := .int .i64 n1) rfl
                    have z1 := HY.1.cell 1 (x := .int .i64 n2) rfl
                    have z2 := HY.1.cell 2 (x := .int .i64 pp) rfl
                    have z3 := HY.1.cell 3 (x := .string lf) rfl
                    have z4 := HY.1.cell 4 (x := .string ll) rfl
                    have z5 := HY.1.cell 5 (x := .int .i64 ln) rfl
                    have z6 := HY.1.cell 6 (x := .bool pos) rfl
                    have z7 := HY.1.cell 7 (x := .slice au nu cu) rfl
                    have z8 := HY.1.cell 8 (x := .slice none 0 0) rfl
                    exact bodyPost_ret (v := .tuple #[.agg #[.int .i64 n1, .int .i64 n2, .int .i64 pp, .string lf, .string ll, .int .i64 ln, .bool pos, .slice au nu cu, .slice none 0 0], .bool false]) (by simp [results, Tryz.f60, go_sem, z0, z1, z2, z3, z4, z5, z6, z7, z8]) rfl HY.2
              · intro xk c w6 cnt1 hwx hwc hlx hat hrg1 hlt hg1 hs1 hen
                have hb6 : Below w4.heap.size w4 w6 := HB.out.grown hg1 HB.out.size (fun k e => by cases e; exact Nat.le_refl _)
                obtain ⟨hx3, hcs⟩ := sg_at (HI.out.has _ hlx) hat
                have HX3 := hid hx3
                have HCS := hid hcs
                have HB6 := hid hb6
                clear hx3 hcs hb6 hat hlx hwx hwc
                by_cases h0 : own.length = 0
                · have h0i : ¬ (0 : Int) < (own.length : Int) := by omega
                  have HI2 := hid (HI.out.step (x := xk) (fun h => absurd h0 h))
                  clear h0
                  go_wp2_with fail
                  go_roundw
                  case rel => exact ⟨_, _, rfl, hrg1, HI2.out, HB6.out⟩
                  case measure => rw [hrg1.left_eq, hrgr.left_eq]; exact hlt
                · have h0i : (0 : Int) < (own.length : Int) := by omega
                  obtain ⟨lq, hlq⟩ : ∃ q : Nat, q = own.length - 1 := ⟨_, rfl⟩
                  have HLQ := hid hlq
                  have h1w : IntKind.i64.wrap ((own.length : Int) - 1) = (lq : Int) := by have := HOW.out; rw [IntWalk.i64_in _ (by omega)]; omega
                  have h2i : (0 : Int) ≤ (lq : Int) := by omega
                  have h3i : (lq : Int) < (own.length : Int) := by omega
                  have h3n : lq < own.length := by omega
                  have h3j : (lq : Int) ≤ (own.length : Int) := by omega
                  obtain ⟨_, _, ev, hoc, _, hocell⟩ := Rd.open (HR4.out.below HB6.out)
                  obtain ⟨y, b2, off2, hy, ea, hcy⟩ := hocell lq (by omega)
                  cases ev
                  subst ea
                  have h3k : (lq : Int) ≤ (co : Int) := by omega
                  have h3l : lq ≤ co := by omega
                  have h3m : lq ≤ own.length := by omega
                  have HYD : Hid (own.getD (own.length - 1) ⟨#[]⟩ = y) := by show _ = _; rw [← hlq, List.getD_eq_getElem?_getD, hy]; rfl
                  have H0 := hid h0
                  have hbq := ba_beq y c
                  clear hocell hy h0 hlq
                  by_cases hyc : y = c
                  · have HPL : Hid (plcI own = xk) := plc_of H0.out HX3.out (by rw [HYD.out, hyc]; exact HCS.out)
                    rw [decide_eq_true hyc] at hbq
                    have HM6 := hid (HM4.out.below HB6.out)
                    have HRs : Hid (RdS w6 (.slice (some ⟨b2, off2, none⟩) lq co) (lemP own)) := by
                      show RdS _ _ _
                      unfold lemP
                      rw [HPL.out, if_neg (by rcases HX3.out with h | h | h <;> omega), ← HLQ.out]
                      exact (HR4.out.below HB6.out).take _ (by omega)
                    have HlE : Hid (lq = (lemP own).length) := by
                      show _ = _
                      unfold lemP
                      rw [HPL.out, if_neg (by rcases HX3.out with h | h | h <;> omega), List.length_take]; have := HLQ.out; omega
                    have k2 := HM6.out.ent.cell 2 (x := .int .i64 1) rfl
                    have g2 := HM6.out.ent.frozen 2
                    have HMd := hid (HM6.out.put 2 (.int .i64 xk) ⟨n1, n2, xk, ⟨#[]⟩, ⟨#[]⟩, 0, pos, sup, []⟩ rfl rfl)
                    have HRd4 := hid (rdS_set (y := .int .i64 xk) HRs.out k2 (fun s e => by cases e))
                    clear hyc HI HM4 HR4 hSg HB HRs HM6
                    go_wp2_with fail
                    clear hen hrg1 hrgr hg1
                    go_region
                    clear k2 g2 hcy h0i h1w h2i h3i h3n h3j h3k h3l h3m hbq HYD H0 HLQ HX3 HCS HB6 hlt hs1
                    have HMd := hid (FrN.drew HMd.out)
                    have HRd4 := hid (Rd.below HRd4.out (Below.refl _ _).drew)
                    have hlE := HlE.out
                    rw [hlE] at HRd4 ⊢
                    clear hlE HlE
                    generalize (w6.setCell ⟨w.heap.size + 1, 2, none⟩ (.int .i64 xk)).drew = W22 at *
                    have HB1 : Hid (hdB L = if xk = 4 then decide ((lemP own).length = 0) else decide ((hdLm L).e = 0)) := by show _ = _; rw [HHB.out, HSO.out, HPL.out]; simp
                    have HP1 : Hid (hdP L = ⟨n1, n2, xk, (hdLm L).f, (hdLm L).l, (hdLm L).n, pos, sup, []⟩) := by show _ = _; rw [HPD.out, HPL.out]
                    have HL1 : Hid (hdLm L = if xk = 4 then lm0 0 else parseLm (joinB (lemP own))) := by show _ = _; rw [HLM.out, HPL.out]
                    have k2 := HMd.out.ent.cell 2 (x := .int .i64 xk) rfl
                    clear HHB HPD HLM
                    by_cases hp4 : xk = 4
                    · have HB2 : Hid (hdB L = decide ((lemP own).length = 0)) := by show _ = _; rw [HB1.out, if_pos hp4]
                      have HP2 : Hid (hdP L = ⟨n1, n2, xk, ⟨#[]⟩, ⟨#[]⟩, 0, pos, sup, []⟩) := by show _ = _; rw [HP1.out, HL1.out, if_pos hp4]; rfl
                      have hpb : ((xk : Int) == 4) = true := by rw [hp4]; rfl
                      clear hp4 HB1 HP1 HL1
                      by_cases hl0 : (lemP own).length = 0
                      · have HB3 : Hid (hdB L = true) := by show _ = _; rw [HB2.out, decide_eq_true hl0]
                        have hlb : (((lemP own).length : Int) == 0) = true := by rw [hl0]; rfl
                        clear hl0 HB2
                        generalize (lemP own).length = nl at *
                        have hm := HMd.out
                        have b0 := hm.ent.cell 0 (x := .int .i64 n1) rfl
                        have b1 := hm.ent.cell 1 (x := .int .i64 n2) rfl
                        have b2 := hm.ent.cell 2 (x := .int .i64 xk) rfl
                        have b3 := hm.ent.cell 3 (x := .string ⟨#[]⟩) rfl
                        have b4 := hm.ent.cell 4 (x := .string ⟨#[]⟩) rfl
                        have b5 := hm.ent.cell 5 (x := .int .i64 0) rfl
                        have b6 := hm.ent.cell 6 (x := .bool pos) rfl
                        have b7 := hm.ent.cell 7 (x := .slice au nu cu) rfl
                        have b8 := hm.ent.cell 8 (x := .slice none 0 0) rfl
                        have r0 := hm.res.cell 0 (x := .int .i64 0) rfl
                        have r1 := hm.res.cell 1 (x := .int .i64 0) rfl
                        have r2 := hm.res.cell 2 (x := .int .i64 0) rfl
                        have r3 := hm.res.cell 3 (x := .string ⟨#[]⟩) rfl
                        have r4 := hm.res.cell 4 (x := .string ⟨#[]⟩) rfl
                        have r5 := hm.res.cell 5 (x := .int .i64 0) rfl
                        have r6 := hm.res.cell 6 (x := .bool false) rfl
                        have r7 := hm.res.cell 7 (x := .slice none 0 0) rfl
                        have r8 := hm.res.cell 8 (x := .slice none 0 0) rfl
                        have g0 := hm.res.frozen 0
                        have g1 := hm.res.frozen 1
                        have g2 := hm.res.frozen 2
                        have g3 := hm.res.frozen 3
                        have g4 := hm.res.frozen 4
                        have g5 := hm.res.frozen 5
                        have g6 := hm.res.frozen 6
                        have g7 := hm.res.frozen 7
                        have g8 := hm.res.frozen 8
                        clear hm
                        go_wp2_with fail
                        have HY := HMd.out.fin (l := L) (b := true) (HB3.out) (fun _ => HP2.out.symm)
                        have z0 := HY.1.cell 0 (x := .int .i64 n1) rfl
                        have z1 := HY.1.cell 1 (x := .int .i64 n2) rfl
                        have z2 := HY.1.cell 2 (x := .int .i64 xk) rfl
                        have z3 := HY.1.cell 3 (x := .string ⟨#[]⟩) rfl
                        have z4 := HY.1.cell 4 (x := .string ⟨#[]⟩) rfl
                        have z5 := HY.1.cell 5 (x := .int .i64 0) rfl
                        have z6 := HY.1.cell 6 (x := .bool pos) rfl
                        have z7 := HY.1.cell 7 (x := .slice au nu cu) rfl
                        have z8 := HY.1.cell 8 (x := .slice none 0 0) rfl
                        exact bodyPost_ret (v := .tuple #[.agg #[.int .i64 n1, .int .i64 n2, .int .i64 xk, .string ⟨#[]⟩, .string ⟨#[]⟩, .int .i64 0, .bool pos, .slice au nu cu, .slice none 0 0], .bool true]) (by simp [results, Tryz.f60, go_sem, z0, z1, z2, z3, z4, z5, z6, z7, z8]) rfl HY.2
                      · have HB3 : Hid (hdB L = false) := by show _ = _; rw [HB2.out, decide_eq_false hl0]
                        have hlb : (((lemP own).length : Int) == 0) = false := beq_eq_false_iff_ne.2 (by omega)
                        clear hl0 HB2
                        generalize (lemP own).length = nl at *
                        have hm := HMd.out
                        have b0 := hm.ent.cell 0 (x := .int .i64 n1) rfl
                        have b1 := hm.ent.cell 1 (x := .int .i64 n2) rfl
                        have b2 := hm.ent.cell 2 (x := .int .i64 xk) rfl
                        have b3 := hm.ent.cell 3 (x := .string ⟨#[]⟩) rfl
                        have b4 := hm.ent.cell 4 (x := .string ⟨#[]⟩) rfl
                        have b5 := hm.ent.cell 5 (x := .int .i64 0) rfl
                        have b6 := hm.ent.cell 6 (x := .bool pos) rfl
                        have b7 := hm.ent.cell 7 (x := .slice au nu cu) rfl
                        have b8 := hm.ent.cell 8 (x := .slice none 0 0) rfl
                        have r0 := hm.res.cell 0 (x := .int .i64 0) rfl
                        have r1 := hm.res.cell 1 (x := .int .i64 0) rfl
                        have r2 := hm.res.cell 2 (x := .int .i64 0) rfl
                        have r3 := hm.res.cell 3 (x := .string ⟨#[]⟩) rfl
                        have r4 := hm.res.cell 4 (x := .string ⟨#[]⟩) rfl
                        have r5 := hm.res.cell 5 (x := .int .i64 0) rfl
                        have r6 := hm.res.cell 6 (x := .bool false) rfl
                        have r7 := hm.res.cell 7 (x := .slice none 0 0) rfl
                        have r8 := hm.res.cell 8 (x := .slice none 0 0) rfl
                        have g0 := hm.res.frozen 0
                        have g1 := hm.res.frozen 1
                        have g2 := hm.res.frozen 2
                        have g3 := hm.res.frozen 3
                        have g4 := hm.res.frozen 4
                        have g5 := hm.res.frozen 5
                        have g6 := hm.res.frozen 6
                        have g7 := hm.res.frozen 7
                        have g8 := hm.res.frozen 8
                        clear hm
                        go_wp2_with fail
                        have HY := HMd.out.fin (l := L) (b := false) (HB3.out) (fun h => by cases h)
                        have z0 := HY.1.cell 0 (x := .int .i64 n1) rfl
                        have z1 := HY.1.cell 1 (x := .int .i64 n2) rfl
                        have z2 := HY.1.cell 2 (x := .int .i64 xk) rfl
                        have z3 := HY.1.cell 3 (x := .string ⟨#[]⟩) rfl
                        have z4 := HY.1.cell 4 (x := .string ⟨#[]⟩) rfl
                        have z5 := HY.1.cell 5 (x := .int .i64 0) rfl
                        have z6 := HY.1.cell 6 (x := .bool pos) rfl
                        have z7 := HY.1.cell 7 (x := .slice au nu cu) rfl
                        have z8 := HY.1.cell 8 (x := .slice none 0 0) rfl
                        exact bodyPost_ret (v := .tuple #[.agg #[.int .i64 n1, .int .i64 n2, .int .i64 xk, .string ⟨#[]⟩, .string ⟨#[]⟩, .int .i64 0, .bool pos, .slice au nu cu, .slice none 0 0], .bool false]) (by simp [results, Tryz.f60, go_sem, z0, z1, z2, z3, z4, z5, z6, z7, z8]) rfl HY.2
                    · have HB2 : Hid (hdB L = decide ((hdLm L).e = 0)) := by show _ = _; rw [HB1.out, if_neg hp4]
                      have HL2 : Hid (hdLm L = parseLm (joinB (lemP own))) := by show _ = _; rw [HL1.out, if_neg hp4]
                      have hpb : ((xk : Int) == 4) = false := beq_eq_false_iff_ne.2 hp4
                      have HJ := hid (joinX_any _ (lemP own) _ HRd4.out (by have := HOL.out; have := HLE.out; omega) (by have := HJO.out; omega))
                      have HPS := fun w' (h : Below w.heap.size w w') => hid (parse43_any (joinB (lemP own)) m w' (HE w' h).out HJO.out (HM w' h).out)
                      rw [← HL2.out] at HPS
                      unfold lmV at HPS
                      clear hp4 HB1 HL1 HL2
                      generalize (lemP own).length = nl at *
                      generalize joinB (lemP own) = js at *
                      go_wp2_with fail
                      (with_reducible refine HJ.out.mono ?_)
                      rintro e w7 ⟨rfl, hB7⟩
                      have HM7 := hid (HMd.out.below hB7)
                      clear HJ hB7 k2
                      go_wp2_with fail
                      (with_reducible refine (HPS _ HM7.out.bel).out.mono ?_)
                      rintro e w8 ⟨rfl, hB8⟩
                      have HM8 := hid (HM7.out.below hB8)
                      clear HPS HM7 hB8
                      generalize (hdLm L).f = lf at *
                      generalize (hdLm L).l = ll at *
                      generalize (hdLm L).n = ln at *
                      generalize (hdLm L).e = le at *
                      have HM9 := hid (HM8.out.below (below_al w8 (.cells #[.string lf, .string ll, .int .i64 ln] 28)))
                      have HRL9 := hid (row_nw w8 #[.string lf, .string ll, .int .i64 ln] 28 rfl)
                      go_upto_region 26 with fail
                      generalize w8.alloc (.cells #[.string lf, .string ll, .int .i64 ln] 28) = W9 at *
                      generalize w8.heap.size = N8 at *
                      have l0 := HRL9.out.cell 0 (x := .string lf) rfl
                      have l1 := HRL9.out.cell 1 (x := .string ll) rfl
                      have l2 := HRL9.out.cell 2 (x := .int .i64 ln) rfl
                      have k3 := HM9.out.ent.cell 3 (x := .string ⟨#[]⟩) rfl
                      have k4 := HM9.out.ent.cell 4 (x := .string ⟨#[]⟩) rfl
                      have k5 := HM9.out.ent.cell 5 (x := .int .i64 0) rfl
                      have g3 := HM9.out.ent.frozen 3
                      have g4 := HM9.out.ent.frozen 4
                      have g5 := HM9.out.ent.frozen 5
                      have HMX := hid (((HM9.out.put 3 (.string lf) ⟨n1, n2, xk, lf, ⟨#[]⟩, 0, pos, sup, []⟩ rfl rfl).put 4 (.string ll) ⟨n1, n2, xk, lf, ll, 0, pos, sup, []⟩ rfl rfl).put 5 (.int .i64 ln) ⟨n1, n2, xk, lf, ll, ln, pos, sup, []⟩ rfl rfl)
                      clear HM8 HM9 HRL9
                      go_upto_region 27 with fail
                      clear l0 l1 l2 k3 k4 k5 g3 g4 g5
                      generalize ((W9.setCell ⟨w.heap.size + 1, 3, none⟩ (.string lf)).setCell ⟨w.heap.size + 1, 4, none⟩ (.string ll)).setCell ⟨w.heap.size + 1, 5, none⟩ (.int .i64 ln) = WX at *
                      by_cases hl0 : le = 0
                      · have HB3 : Hid (hdB L = true) := by show _ = _; rw [HB2.out, decide_eq_true hl0]
                        have hlb : (le == 0) = true := by rw [hl0]; rfl
                        clear hl0 HB2
                        have hm := HMX.out
                        have b0 := hm.ent.cell 0 (x := .int .i64 n1) rfl
                        have b1 := hm.ent.cell 1 (x := .int .i64 n2) rfl
                        have b2 := hm.ent.cell 2 (x := .int .i64 xk) rfl
                        have b3 := hm.ent.cell 3 (x := .string lf) rfl
                        have b4 := hm.ent.cell 4 (x := .string ll) rfl
                        have b5 := hm.ent.cell 5 (x := .int .i64 ln) rfl
                        have b6 := hm.ent.cell 6 (x := .bool pos) rfl
                        have b7 := hm.ent.cell 7 (x := .slice au nu cu) rfl
                        have b8 := hm.ent.cell 8 (x := .slice none 0 0) rfl
                        have r0 := hm.res.cell 0 (x := .int .i64 0) rfl
                        have r1 := hm.res.cell 1 (x := .int .i64 0) rfl
                        have r2 := hm.res.cell 2 (x := .int .i64 0) rfl
                        have r3 := hm.res.cell 3 (x := .string ⟨#[]⟩) rfl
                        have r4 := hm.res.cell 4 (x := .string ⟨#[]⟩) rfl
                        have r5 := hm.res.cell 5 (x := .int .i64 0) rfl
                        have r6 := hm.res.cell 6 (x := .bool false) rfl
                        have r7 := hm.res.cell 7 (x := .slice none 0 0) rfl
                        have r8 := hm.res.cell 8 (x := .slice none 0 0) rfl
                        have g0 := hm.res.frozen 0
                        have g1 := hm.res.frozen 1
                        have g2 := hm.res.frozen 2
                        have g3 := hm.res.frozen 3
                        have g4 := hm.res.frozen 4
                        have g5 := hm.res.frozen 5
                        have g6 := hm.res.frozen 6
                        have g7 := hm.res.frozen 7
                        have g8 := hm.res.frozen 8
                        clear hm
                        go_wp2_with fail
                        have HY := HMX.out.fin (l := L) (b := true) (HB3.out) (fun _ => HP1.out.symm)
                        have z0 := HY.1.cell 0 (x := .int .i64 n1) rfl
                        have z1 := HY.1.cell 1 (x := .int .i64 n2) rfl
                        have z2 := HY.1.cell 2 (x := .int .i64 xk) rfl
                        have z3 := HY.1.cell 3 (x := .string lf) rfl
                        have z4 := HY.1.cell 4 (x := .string ll) rfl
                        have z5 := HY.1.cell 5 (x := .int .i64 ln) rfl
                        have z6 := HY.1.cell 6 (x := .bool pos) rfl
                        have z7 := HY.1.cell 7 (x := .slice au nu cu) rfl
                        have z8 := HY.1.cell 8 (x := .slice none 0 0) rfl
                        exact bodyPost_ret (v := .tuple #[.agg #[.int .i64 n1, .int .i64 n2, .int .i64 xk, .string lf, .string ll, .int .i64 ln, .bool pos, .slice au nu cu, .slice none 0 0], .bool true]) (by simp [results, Tryz.f60, go_sem, z0, z1, z2, z3, z4, z5, z6, z7, z8]) rfl HY.2
                      · have HB3 : Hid (hdB L = false) := by show _ = _; rw [HB2.out, decide_eq_false hl0]
                        have hlb : (le == 0) = false := beq_eq_false_iff_ne.2 hl0
                        clear hl0 HB2
                        have hm := HMX.out
                        have b0 := hm.ent.cell 0 (x := .int .i64 n1) rfl
                        have b1 := hm.ent.cell 1 (x := .int .i64 n2) rfl
                        have b2 := hm.ent.cell 2 (x := .int .i64 xk) rfl
                        have b3 := hm.ent.cell 3 (x := .string lf) rfl
                        have b4 := hm.ent.cell 4 (x := .string ll) rfl
                        have b5 := hm.ent.cell 5 (x := .int .i64 ln) rfl
                        have b6 := hm.ent.cell 6 (x := .bool pos) rfl
                        have b7 := hm.ent.cell 7 (x := .slice au nu cu) rfl
                        have b8 := hm.ent.cell 8 (x := .slice none 0 0) rfl
                        have r0 := hm.res.cell 0 (x := .int .i64 0) rfl
                        have r1 := hm.res.cell 1 (x := .int .i64 0) rfl
                        have r2 := hm.res.cell 2 (x := .int .i64 0) rfl
                        have r3 := hm.res.cell 3 (x := .string ⟨#[]⟩) rfl
                        have r4 := hm.res.cell 4 (x := .string ⟨#[]⟩) rfl
                        have r5 := hm.res.cell 5 (x := .int .i64 0) rfl
                        have r6 := hm.res.cell 6 (x := .bool false) rfl
                        have r7 := hm.res.cell 7 (x := .slice none 0 0) rfl
                        have r8 := hm.res.cell 8 (x := .slice none 0 0) rfl
                        have g0 := hm.res.frozen 0
                        have g1 := hm.res.frozen 1
                        have g2 := hm.res.frozen 2
                        have g3 := hm.res.frozen 3
                        have g4 := hm.res.frozen 4
                        have g5 := hm.res.frozen 5
                        have g6 := hm.res.frozen 6
                        have g7 := hm.res.frozen 7
                        have g8 := hm.res.frozen 8
                        clear hm
                        go_wp2_with fail
                        have HY := HMX.out.fin (l := L) (b := false) (HB3.out) (fun h => by cases h)
                        have z0 := HY.1.cell 0 (x := .int .i64 n1) rfl
                        have z1 := HY.1.cell 1 (x := .int .i64 n2) rfl
                        have z2 := HY.1.cell 2 (x := .int .i64 xk) rfl
                        have z3 := HY.1.cell 3 (x := .string lf) rfl
                        have z4 := HY.1.cell 4 (x := .string ll) rfl
                        have z5 := HY.1.cell 5 (x := .int .i64 ln) rfl
                        have z6 := HY.1.cell 6 (x := .bool pos) rfl
                        have z7 := HY.1.cell 7 (x := .slice au nu cu) rfl
                        have z8 := HY.1.cell 8 (x := .slice none 0 0) rfl
                        exact bodyPost_ret (v := .tuple #[.agg #[.int .i64 n1, .int .i64 n2, .int .i64 xk, .string lf, .string ll, .int .i64 ln, .bool pos, .slice au nu cu, .slice none 0 0], .bool false]) (by simp [results, Tryz.f60, go_sem, z0, z1, z2, z3, z4, z5, z6, z7, z8]) rfl HY.2
                  · have HI2 := hid (HI.out.step (x := xk) (fun _ e => hyc (by rw [← HYD.out, e]; exact HCS.out.symm)))
                    rw [decide_eq_false hyc] at hbq
                    have hbq2 : ¬ y.toList = c.toList := fun e => by rw [e] at hbq; simp at hbq
                    clear hyc
                    go_wp2_with fail
                    go_roundw
                    case rel => exact ⟨_, _, rfl, hrg1, HI2.out, HB6.out⟩
                    case measure => rw [hrg1.left_eq, hrgr.left_eq]; exact hlt
end Go.Proofs.YtjhdeoniafahbaaGreatDoor
namespace Go.Proofs.YtjhdeoniafahbaaGreatDoor
def ltB (q p : Nat × Nat) : Bool := decide (p.1 < q.1 ∨ (p.1 = q.1 ∧ p.2 < q.2))
/-- The pairs of l ahead of q. -/
def ahead (l : List (Nat × Nat)) (q : Nat × Nat) : List (Nat × Nat) := l.filter (ltB q)
end Go.Proofs.YtjhdeoniafahbaaGreatDoor
namespace Go.Proofs.YtjhdeoniafahbaaGreatDoor
open Go.RowKit
set_option maxRecDepth 100000 in
set_option maxHeartbeats 1000000 in
theorem rprint_any (f l : ByteArray) (n : Int) (w : World) (he : Env w) (hf : f.size ≤ 65536) (hl : l.size ≤ 65536) (hck : lemCk f l n = 0) :
    Calls Tryz.prog 71 #[.agg #[.string f, .string l, .int .i64 n]] w fun e w' => e = .returned (.tuple #[.string (printT f l n), .int .i64 0]) ∧ Below w.heap.size w w' := by
  have hb0 := below_al w (.cells #[.string f, .string l, .int .i64 n] 28)
  have hr0 := row_nw w #[.string f, .string l, .int .i64 n] 28 rfl
  have HC := hid (rlck_any f l n (w.alloc (.cells #[.string f, .string l, .int .i64 n] 28)) (he.below hb0) hf hl)
  rw [hck] at HC
  have hnb := lck_bounds hck
  have HIT := fun w' (h : Below w.heap.size w w') => hid (itoa_b n w' (he.below h) (by omega) (by omega))
  have hIS := itoaB_size hnb.1 hnb.2
  have hE := ba_isE l
  have HP : Hid (printT f l n = (if n = 0 then (if l.size = 0 then f else f ++ (⟨#[32, 43, 32]⟩ ++ l)) else (if l.size = 0 then f else f ++ (⟨#[32, 43, 32]⟩ ++ l)) ++ (⟨#[35]⟩ ++ itoaB n))) := rfl
  clear hck
  by_cases hl0 : l.size = 0
  all_goals by_cases hn0 : n = 0
  · rw [decide_eq_true hl0] at hE
    have HP2 : Hid (printT f l n = f) := by unfold Hid; rw [HP.out, if_pos hn0, if_pos hl0]
    clear HP hl0
    subst hn0
    go_enter Tryz.func71, Tryz.ntmps71
    go_wp2_with fail
    refine HC.out.mono ?_
    rintro e w1 ⟨rfl, hB1⟩
    have hr1 := hr0.below hB1
    have c0 := hr1.cell 0 rfl
    have c1 := hr1.cell 1 rfl
    have c2 := hr1.cell 2 rfl
    go_wp2
    go_ret2
    exact ⟨by rw [HP2.out]; first | rfl | (simp only [ByteArray.append_assoc]; rfl), below_tr hb0 hB1⟩
  · rw [decide_eq_true hl0] at hE
    have hn1 : 0 < n := by omega
    have HP2 : Hid (printT f l n = f ++ (⟨#[35]⟩ ++ itoaB n)) := by unfold Hid; rw [HP.out, if_neg hn0, if_pos hl0]
    clear HP hl0
    go_enter Tryz.func71, Tryz.ntmps71
    go_wp2_with fail
    refine HC.out.mono ?_
    rintro e w1 ⟨rfl, hB1⟩
    have hr1 := hr0.below hB1
    have c0 := hr1.cell 0 rfl
    have c1 := hr1.cell 1 rfl
    have c2 := hr1.cell 2 rfl
    go_wp2_with fail
    refine (HIT _ (below_tr hb0 hB1)).out.mono ?_
    rintro e w2 ⟨rfl, hB2⟩
    go_wp2
    go_ret2
    exact ⟨by rw [HP2.out]; first | rfl | (simp only [ByteArray.append_assoc]; rfl), below_tr (below_tr hb0 hB1) hB2⟩
  · rw [decide_eq_false hl0] at hE
    have HP2 : Hid (printT f l n = f ++ (⟨#[32, 43, 32]⟩ ++ l)) := by unfold Hid; rw [HP.out, if_pos hn0, if_neg hl0]
    clear HP hl0
    subst hn0
    go_enter Tryz.func71, Tryz.ntmps71
    go_wp2_with fail
    refine HC.out.mono ?_
    rintro e w1 ⟨rfl, hB1⟩
    have hr1 := hr0.below hB1
    have c0 := hr1.cell 0 rfl
    have c1 := hr1.cell 1 rfl
    have c2 := hr1.cell 2 rfl
    go_wp2
    go_ret2
    exact ⟨by rw [HP2.out]; first | rfl | (simp only [ByteArray.append_assoc]; rfl), below_tr hb0 hB1⟩
  · rw [decide_eq_false hl0] at hE
    have hn1 : 0 < n := by omega
    have HP2 : Hid (printT f l n = (f ++ (⟨#[32, 43, 32]⟩ ++ l)) ++ (⟨#[35]⟩ ++ itoaB n)) := by unfold Hid; rw [HP.out, if_neg hn0, if_neg hl0]
    clear HP hl0
    go_enter Tryz.func71, Tryz.ntmps71
    go_wp2_with fail
    refine HC.out.mono ?_
    rintro e w1 ⟨rfl, hB1⟩
    have hr1 := hr0.below hB1
    have c0 := hr1.cell 0 rfl
    have c1 := hr1.cell 1 rfl
    have c2 := hr1.cell 2 rfl
    go_wp2_with fail
    refine (HIT _ (below_tr hb0 hB1)).out.mono ?_
    rintro e w2 ⟨rfl, hB2⟩
    go_wp2
    go_ret2
    exact ⟨by rw [HP2.out]; first | rfl | (simp only [ByteArray.append_assoc]; rfl), below_tr (below_tr hb0 hB1) hB2⟩
end Go.Proofs.YtjhdeoniafahbaaGreatDoor
