/-
  Joined, what is needed of: RHd2 RVr FzN RPrt.
-/
import Derived.Test.YtjhdeoniafahbaaGreatDoorY13
import Derived.Test.YtjhdeoniafahbaaGreatDoorY12
import Derived.Test.YtjhdeoniafahbaaGreatDoorY14
import Derived.Lib.FrozenHead
import Derived.Lib.ConvBytes
import Derived.Deep.RegionHeld3
import Derived.Deep.RegionLaw
import Derived.Test.YtjhdeoniafahbaaGreatDoorY10
import Derived.Test.YtjhdeoniafahbaaGreatDoorY11
import Derived.Test.YtjhdeoniafahbaaGreatDoorY07
namespace Go.Proofs.YtjhdeoniafahbaaGreatDoor
open Go.RowKit
/-- What the reference's head answers. -/
def RfQ (l : List ByteArray) (w : World) (r : Ending) (w' : World) : Prop :=
  ∃ (y : Nt) (au : Option Addr) (nu cu : Nat), r = .returned (.tuple #[.agg (y.cells (.slice au nu cu) (.slice none 0 0)), .bool (rhdB l)]) ∧ (rhdB l = true → y = rhdP l ∧ OwS w' (.slice au nu cu) y.sup) ∧ Below w.heap.size w w'
theorem rfin {y : Nt} {au : Option Addr} {nu cu : Nat} {w W : World} (hr : Row W w.heap.size zeroN 30) (hbel : Below w.heap.size w W) (hs : OwS W (.slice au nu cu) y.sup) {l : List ByteArray} {b : Bool} (hb : rhdB l = b) (hy : b = true → y = rhdP l) :
    Row (((((((((W.setCell ⟨w.heap.size, 0, none⟩ (.int .i64 y.fr)).setCell ⟨w.heap.size, 1, none⟩ (.int .i64 y.to_)).setCell ⟨w.heap.size, 2, none⟩ (.int .i64 y.pl)).setCell ⟨w.heap.size, 3, none⟩ (.string y.lf)).setCell ⟨w.heap.size, 4, none⟩ (.string y.ll)).setCell ⟨w.heap.size, 5, none⟩ (.int .i64 y.ln)).setCell ⟨w.heap.size, 6, none⟩ (.bool y.pos)).setCell ⟨w.heap.size, 7, none⟩ (.slice au nu cu)).setCell ⟨w.heap.size, 8, none⟩ (.slice none 0 0)) w.heap.size (y.cells (.slice au nu cu) (.slice none 0 0)) 30 ∧ RfQ l w (.returned (.tuple #[.agg (y.cells (.slice au nu cu) (.slice none 0 0)), .bool b])) (((((((((W.setCell ⟨w.heap.size, 0, none⟩ (.int .i64 y.fr)).setCell ⟨w.heap.size, 1, none⟩ (.int .i64 y.to_)).setCell ⟨w.heap.size, 2, none⟩ (.int .i64 y.pl)).setCell ⟨w.heap.size, 3, none⟩ (.string y.lf)).setCell ⟨w.heap.size, 4, none⟩ (.string y.ll)).setCell ⟨w.heap.size, 5, none⟩ (.int .i64 y.ln)).setCell ⟨w.heap.size, 6, none⟩ (.bool y.pos)).setCell ⟨w.heap.size, 7, none⟩ (.slice au nu cu)).setCell ⟨w.heap.size, 8, none⟩ (.slice none 0 0)) :=
  ⟨row9 hr _ _ _ _ _ _ _ _ _, ⟨y, au, nu, cu, by rw [hb], fun hh => ⟨hy (by rw [← hb]; exact hh), hs.set9 hr y⟩, bel_set9 hbel (Nat.le_refl _) y _ _⟩⟩
theorem brN_bd (l : List ByteArray) : 0 ≤ brN l ∧ brN l ≤ l.length := by
  unfold brN
  by_cases h1 : brOk l = false
  · rw [if_pos h1]; omega
  rw [if_neg h1]
  have h0 : 0 < l.length := by
    cases l with
    | nil => exact absurd rfl h1
    | cons x r => simp
  by_cases h2 : l[0]? = some emB
  · rw [if_pos h2]; omega
  rw [if_neg h2]
  have h3 := fIdx_lt endB (brW l)
  rw [brW_len] at h3
  have h4 : brI l = fIdx endB (brW l) := rfl
  by_cases h5 : brI l < 0
  · rw [if_pos h5]; omega
  · rw [if_neg h5]; omega
theorem opens_at {t : ByteArray} (h : 0 < t.size) : opensB t = decide (t[0]'h = 123) := by
  rw [← brok_opens t []]
  unfold brOk
  have hl : t.data.toList.length = t.size := rfl
  have hhd : t.data.toList.head? = some (t[0]'h) := by
    rw [List.head?_eq_getElem?, List.getElem?_eq_getElem (by omega)]; rfl
  simp only [hhd]
  by_cases h5 : t[0]'h = 123
  · rw [h5]; rfl
  · rw [decide_eq_false h5]; simpa using h5
theorem opens_nil {t : ByteArray} (h : t.size = 0) : opensB t = false := by
  obtain rfl := ba_nil0 h
  rfl
/-- Where the support begins; behind the last part if there is none. -/
def openK (l : List ByteArray) : Nat := if openI l < 0 then l.length else (openI l).toNat
theorem openK_le (l : List ByteArray) : openK l ≤ l.length := by
  unfold openK
  have : openI l = fIdx opensB l := rfl
  have := fIdx_lt opensB l
  split <;> omega
theorem openK_at {l : List ByteArray} {k : Nat} {t : ByteArray} (h : ∀ y ∈ l.take k, opensB y = false) (ht : l[k]? = some t) (ho : opensB t = true) : openK l = k ∧ openI l = (k : Int) := by
  have e : openI l = (k : Int) := fIdx_hit _ _ k t h ht ho
  refine ⟨?_, e⟩
  unfold openK
  rw [e, if_neg (by omega), Int.toNat_natCast]
theorem openK_no {l : List ByteArray} (h : ∀ y ∈ l, opensB y = false) : openK l = l.length ∧ openI l = -1 := by
  have e : openI l = -1 := fIdx_none _ _ h
  refine ⟨?_, e⟩
  unfold openK
  rw [e, if_pos (by omega)]
theorem own_take (l : List ByteArray) : ownP l = (restP l).take (openK (restP l)) := by
  unfold ownP openK
  by_cases h : openI (restP l) < 0
  · rw [if_pos h, if_pos h, List.take_length]
  · rw [if_neg h, if_neg h]
set_option maxRecDepth 100000 in
set_option maxHeartbeats 8000000 in
theorem rhead45_any (x : ByteArray) (l0 : List ByteArray) (v : Value) (w : World) (he : Env w) (hr : RdS w v (x :: l0)) (hz : Sz16 (x :: l0)) (hlen : (x :: l0).length ≤ 1000000) (hj : (joinB (x :: l0)).size ≤ 65536) :
    Calls Tryz.prog 75 #[v] w fun r w' => RfQ (x :: l0) w r w' := by
  have HE := fun w' (h : Below w.heap.size w w') => hid (he.below h)
  have HR := fun w' (h : Below w.heap.size w w') => hid (hr.below h)
  have HX := hid (hz x (List.mem_cons_self ..))
  have HZ := hid hz
  have HJL := hid hj
  have HLE := hid hlen
  have hb0 := below_al w (.cells zeroN 30)
  have HR0 := hid (row_nw w zeroN 30 rfl)
  have HB0 := hid hb0
  have HHB : Hid (rhdB (x :: l0) = (unlB x && (rsupOk (x :: l0) && (if plcI (ownP (x :: l0)) = 4 then decide ((lemP (ownP (x :: l0))).length = 0) else decide ((hdLm (x :: l0)).e = 0))))) := rfl
  have HPD : Hid (rhdP (x :: l0) = ⟨(numN x.data.toList : Nat), (unlT x : Nat), plcI (ownP (x :: l0)), (hdLm (x :: l0)).f, (hdLm (x :: l0)).l, (hdLm (x :: l0)).n, supB (x :: l0), rsupL (x :: l0), []⟩) := rfl
  obtain ⟨a, cap, rfl, hlc, hcm, hcell⟩ := hr.open
  obtain ⟨x', b, off, hx, rfl, hc⟩ := hcell 0 (by simp)
  obtain rfl : x = x' := by simpa using hx
  rw [Nat.add_zero] at hc
  have c0 : World.cell? _ ⟨b, off, none⟩ = some (.string x) := Below.keeps hb0 _ _ hc
  have hl1 : (0 : Int) < (((x :: l0).length : Nat) : Int) := by simp
  have HUN := hid (runl_any x (w.alloc (.cells zeroN 30)) (by have := HX.out; omega))
  have HQ1 := hid (numN_lt x.data.toList)
  have HQ2 : Hid (unlT x < 100000) := by
    show _ < _
    unfold unlT
    split
    · exact numN_lt _
    · exact numN_lt _
  clear hx hcell hc hr he hb0 hj hlen hz
  generalize hL : x :: l0 = L at *
  generalize numN x.data.toList = n1 at *
  generalize unlT x = n2 at *
  generalize hub : unlB x = ub at *
  unfold zeroN at HUN c0
  go_enter Tryz.func75, Tryz.ntmps75
  go_wp2_with fail
  (with_reducible refine HUN.out.mono ?_)
  rintro e w1 ⟨rfl, rfl⟩
  clear HUN c0
  cases ub with
  | false =>
    have HV : Hid (rhdB L = false) := by show _ = _; rw [HHB.out]; rfl
    clear HHB HPD
    unfold zeroN at HR0 HB0
    generalize w.alloc (.cells #[.int .i64 0, .int .i64 0, .int .i64 0, .string ⟨#[]⟩, .string ⟨#[]⟩, .int .i64 0, .bool false, .slice none 0 0, .slice none 0 0] 30) = W0 at *
    have r0 := (HR0.out).cell 0 (x := .int .i64 0) rfl
    have r1 := (HR0.out).cell 1 (x := .int .i64 0) rfl
    have r2 := (HR0.out).cell 2 (x := .int .i64 0) rfl
    have r3 := (HR0.out).cell 3 (x := .string ⟨#[]⟩) rfl
    have r4 := (HR0.out).cell 4 (x := .string ⟨#[]⟩) rfl
    have r5 := (HR0.out).cell 5 (x := .int .i64 0) rfl
    have r6 := (HR0.out).cell 6 (x := .bool false) rfl
    have r7 := (HR0.out).cell 7 (x := .slice none 0 0) rfl
    have r8 := (HR0.out).cell 8 (x := .slice none 0 0) rfl
    have g0 := (HR0.out).frozen 0
    have g1 := (HR0.out).frozen 1
    have g2 := (HR0.out).frozen 2
    have g3 := (HR0.out).frozen 3
    have g4 := (HR0.out).frozen 4
    have g5 := (HR0.out).frozen 5
    have g6 := (HR0.out).frozen 6
    have g7 := (HR0.out).frozen 7
    have g8 := (HR0.out).frozen 8
    go_wp2_with fail
    have HY := rfin (y := nt0) HR0.out HB0.out (OwS.nil _) (l := L) (b := false) (HV.out) (fun h => by cases h)
    dsimp only [nt0] at HY
    have z0 := HY.1.cell 0 (x := .int .i64 0) rfl
    have z1 := HY.1.cell 1 (x := .int .i64 0) rfl
    have z2 := HY.1.cell 2 (x := .int .i64 0) rfl
    have z3 := HY.1.cell 3 (x := .string ⟨#[]⟩) rfl
    have z4 := HY.1.cell 4 (x := .string ⟨#[]⟩) rfl
    have z5 := HY.1.cell 5 (x := .int .i64 0) rfl
    have z6 := HY.1.cell 6 (x := .bool false) rfl
    have z7 := HY.1.cell 7 (x := .slice none 0 0) rfl
    have z8 := HY.1.cell 8 (x := .slice none 0 0) rfl
    exact bodyPost_ret (v := .tuple #[.agg #[.int .i64 0, .int .i64 0, .int .i64 0, .string ⟨#[]⟩, .string ⟨#[]⟩, .int .i64 0, .bool false, .slice none 0 0, .slice none 0 0], .bool false]) (by simp [results, Tryz.f75, go_sem, z0, z1, z2, z3, z4, z5, z6, z7, z8]) rfl HY.2
  | true =>
    have HM0 : Hid (FrN ⟨(n1 : Nat), (n2 : Nat), 1, ⟨#[]⟩, ⟨#[]⟩, 0, false, [], []⟩ (.slice none 0 0) (.slice none 0 0) w ((w.alloc (.cells zeroN 30)).alloc (.cells #[.int .i64 (n1 : Nat), .int .i64 (n2 : Nat), .int .i64 1, .string ⟨#[]⟩, .string ⟨#[]⟩, .int .i64 0, .bool false, .slice none 0 0, .slice none 0 0] 30))) := ⟨HR0.out.al _, by
      have := row_nw (w.alloc (.cells zeroN 30)) #[.int .i64 (n1 : Nat), .int .i64 (n2 : Nat), .int .i64 1, .string ⟨#[]⟩, .string ⟨#[]⟩, .int .i64 0, .bool false, .slice none 0 0, .slice none 0 0] 30 rfl
      rw [show (w.alloc (.cells zeroN 30)).heap.size = w.heap.size + 1 by simp] at this
      exact this, OwS.nil _, below_tr HB0.out (below_al _ _)⟩
    clear HR0 HB0
    go_upto_region 5 with fail
    unfold zeroN at HM0
    generalize (w.alloc (.cells #[.int .i64 0, .int .i64 0, .int .i64 0, .string ⟨#[]⟩, .string ⟨#[]⟩, .int .i64 0, .bool false, .slice none 0 0, .slice none 0 0] 30)).alloc (.cells #[.int .i64 (n1 : Nat), .int .i64 (n2 : Nat), .int .i64 1, .string ⟨#[]⟩, .string ⟨#[]⟩, .int .i64 0, .bool false, .slice none 0 0, .slice none 0 0] 30) = W9 at *
    go_cut [8] from 29 to 30 (fun ov wx => Hid (W9 = wx) ∧ Hid (RdS wx ov (restP L)))
    case first =>
      have hl2 : (0 : Int) < (L.length : Int) := hl1
      have hl3 : (1 : Int) ≤ (L.length : Int) := by omega
      have hl4 : 1 ≤ L.length := by omega
      have hc1 : (1 : Int) ≤ (cap : Int) := by omega
      have hc2 : 1 ≤ cap := by omega
      have HRd := HR W9 HM0.out.bel
      by_cases hcap : cap = 1
      · subst hcap
        go_wp2_with fail
        go_meet
        refine ⟨rfl, ?_⟩
        show RdS _ _ _
        have h := HRd.out.end 1 (by omega) (some ⟨b, off, none⟩)
        rw [show L.length - 1 = 0 by omega] at h
        exact h
      · go_wp2_with fail
        go_meet
        exact ⟨rfl, HRd.out.drop 1 (by omega)⟩
    case rest =>
      obtain ⟨hwc, HRd⟩ := hcut
      obtain rfl := hwc.out
      clear hwc hl1 hlc hcm
      have HRZ : Hid (Sz16 (restP L)) := fun s hs => HZ.out s (List.mem_of_mem_drop hs)
      have HRL : Hid ((restP L).length ≤ 1000000) := by show _ ≤ _; unfold restP; rw [List.length_drop]; have := HLE.out; omega
      have HSI : Hid (supB L = decide (0 ≤ openI (restP L))) := rfl
      have HSL : Hid (rsupL L = if openI (restP L) < 0 then [] else brL ((restP L).drop (openI (restP L)).toNat)) := rfl
      have HSO : Hid (rsupOk L = (decide (openI (restP L) < 0) || decide (openI (restP L) + brN ((restP L).drop (openI (restP L)).toNat) = (restP L).length))) := rfl
      have HOW : Hid (ownP L = (restP L).take (openK (restP L))) := own_take L
      have HLM : Hid (hdLm L = if plcI (ownP L) = 4 then lm0 0 else parseLm (joinB (lemP (ownP L)))) := rfl
      have HJO : Hid ((joinB (lemP (ownP L))).size ≤ 65536) := by show _ ≤ _; have := lem_join_le L; have := HJL.out; omega
      generalize restP L = R at *
      obtain ⟨ar, cr, rfl, hrc, hrm, hrcell⟩ := HRd.out.open
      have HCL := hid hrcell
      have hrl := HRL.out
      have hkle := openK_le R
      clear hrcell
      go_upto_block 0 with fail
      go_cut [9] from 31 to 51 (fun kv wx => kv = .int .i64 (openK R : Nat) ∧ Hid (W9 = wx) ∧ Hid ((openK R = R.length ∧ openI R = -1) ∨ openI R = (openK R : Nat) ∧ openK R < R.length))
      case first =>
        clear HM0 HHB HPD HSI HSL HSO HOW HLM HJO HRZ HZ HE HR
        go_wp2_with fail
        go_loop [9] (fun kv => ∃ k : Nat, k ≤ R.length ∧ kv = .int .i64 k ∧ Hid (∀ y ∈ R.take k, opensB y = false)) (fun kv => R.length - (intOf kv).toNat)
        case atStart => exact ⟨0, Nat.zero_le _, rfl, by simp [Hid]⟩
        case round =>
          obtain ⟨k, hk, rfl, HN⟩ := hrel
          by_cases hlt : k < R.length
          · obtain ⟨t, b2, o2, ht, rfl, ct⟩ := HCL.out k hlt
            have hki : (k : Int) < (R.length : Int) := by omega
            have hk0 : (0 : Int) ≤ (k : Int) := by omega
            by_cases ht0 : t.size = 0
            · have HN2 : Hid (∀ y ∈ R.take (k + 1), opensB y = false) := take_none HN.out ht (opens_nil ht0)
              obtain rfl := ba_nil0 ht0
              clear HN ht ht0
              go_wp2_with fail
              go_round
              case rel => exact ⟨k + 1, by omega, by go_num, HN2.out⟩
              case measure => simp [intOf]; omega
            · have hte := toL_ne ht0
              have htf := mt_ne ht0
              have htp : 0 < t.size := by omega
              have hti : (0 : Int) < (t.size : Int) := by omega
              have HOT := hid (opens_at htp)
              by_cases h123 : t[0]'htp = 123
              · have HK := hid (openK_at HN.out ht (by rw [HOT.out, h123]; rfl))
                have q1 : (((t[0]'htp).toNat : Int) == 123) = true := by rw [h123]; rfl
                have q1b : (((t[0]'htp).toNat : Int) != 123) = false := by rw [bne, q1]; rfl
                clear HN ht ht0 HOT h123
                go_wp2_with fail
                go_meet
                refine ⟨by rw [HK.out.1], rfl, .inr ⟨by rw [HK.out.1, HK.out.2], by rw [HK.out.1]; exact hlt⟩⟩
              · have HN2 : Hid (∀ y ∈ R.take (k + 1), opensB y = false) := take_none HN.out ht (by rw [HOT.out]; exact decide_eq_false h123)
                have q1 : (((t[0]'htp).toNat : Int) == 123) = false := beq_eq_false_iff_ne.2 fun e => h123 (UInt8.toNat_inj.1 (by
                  have : (t[0]'htp).toNat = 123 := by omega
                  rw [this]; rfl))
                have q1b : (((t[0]'htp).toNat : Int) != 123) = true := by rw [bne, q1]; rfl
                clear HN ht ht0 HOT h123
                go_wp2_with fail
                go_round
                case rel => exact ⟨k + 1, by omega, by go_num, HN2.out⟩
                case measure => simp [intOf]; omega
          · have hki : ¬ (k : Int) < (R.length : Int) := by omega
            have hke : k = R.length := by omega
            have HK := hid (openK_no (l := R) (by have h := HN.out; rw [hke, List.take_length] at h; exact h))
            have HKE := hid hke
            clear HN hke
            go_wp2_with fail
            go_meet
            refine ⟨by rw [HK.out.1, HKE.out], rfl, .inl HK.out⟩
      case rest =>
        obtain ⟨rfl, hwc, HKK⟩ := hcut
        obtain rfl := hwc.out
        clear hwc HCL
        have hop : ownP L = R.take (openK R) := HOW.out
        have hol : (ownP L).length = openK R := by rw [hop, List.length_take]; omega
        have HOL := hid hol
        have HOP := hid hop
        clear HOW hol hop
        generalize openK R = K at *
        go_upto_if 55 with fail
        go_cut [10, 11] from 52 to 72 (fun _ _ wx => ∃ au nu cu, Hid (FrN ⟨(n1 : Nat), (n2 : Nat), 1, ⟨#[]⟩, ⟨#[]⟩, 0, supB L, rsupL L, []⟩ (.slice au nu cu) (.slice none 0 0) w wx) ∧ Hid (RdS wx (.slice ar R.length cr) R) ∧ Hid (rsupOk L = true))
        case first =>
          clear HLM HJO HPD
          rcases HKK.out with ⟨k1, k2⟩ | ⟨k1, k2⟩
          · have hki : ¬ (K : Int) < (R.length : Int) := by omega
            have e2 : supB L = false := by rw [HSI.out, k2]; rfl
            have e3 : rsupL L = [] := by rw [HSL.out, k2]; rfl
            have e4 : rsupOk L = true := by rw [HSO.out, k2]; rfl
            have HF : Hid (FrN ⟨(n1 : Nat), (n2 : Nat), 1, ⟨#[]⟩, ⟨#[]⟩, 0, supB L, rsupL L, []⟩ (.slice none 0 0) (.slice none 0 0) w W9) := by show FrN _ _ _ _ _; rw [e2, e3]; exact HM0.out
            have HF4 := hid e4
            clear e2 e3 e4 HSI HSL HSO HKK k1 k2 HHB HM0 HOL HOP
            go_wp2_with fail
            go_meet
            exact ⟨_, _, _, HF, HRd, HF4⟩
          · have hki : (K : Int) < (R.length : Int) := by omega
            have hk0 : (0 : Int) ≤ (K : Int) := by omega
            have hkr : K ≤ R.length := by omega
            have hkri : (K : Int) ≤ (R.length : Int) := by omega
            have hkc : ¬ cr = K := by omega
            have hkci : (K : Int) ≤ (cr : Int) := by omega
            have HSI2 : Hid (supB L = true) := by show _ = _; rw [HSI.out, k1, decide_eq_true (by omega)]
            have HSL2 : Hid (rsupL L = brL (R.drop K)) := by show _ = _; rw [HSL.out, k1, if_neg (by omega), Int.toNat_natCast]
            have HSO2 : Hid (rsupOk L = decide ((K : Int) + brN (R.drop K) = (R.length : Int))) := by show _ = _; rw [HSO.out, k1, decide_eq_false (by omega), Int.toNat_natCast]; rfl
            obtain ⟨b3, o3, har⟩ : ∃ b3 o3, ar = some ⟨b3, o3, none⟩ := by
              obtain ⟨a5, c5, e5, _, _, h5⟩ := HRd.out.open
              obtain ⟨_, b5, o5, _, e6, _⟩ := h5 K k2
              cases e5
              exact ⟨b5, o5, e6⟩
            subst har
            have HBR := hid (rbraced_any _ (R.drop K) W9 (HRd.out.drop K hkr) (fun s hs => by have := HRZ.out s (List.mem_of_mem_drop hs); omega) (by rw [List.length_drop]; omega))
            have hbd := brN_bd (R.drop K)
            rw [List.length_drop] at hbd
            obtain ⟨hbd0, hbd1⟩ := hbd
            have hbd2 : brN (R.drop K) ≤ 1000000 := by omega
            clear HSI HSL HSO HKK k1 HOL HOP hbd1
            generalize brL (R.drop K) = bl at *
            generalize brN (R.drop K) = bn at *
            go_wp2_with fail
            (with_reducible refine HBR.out.mono ?_)
            rintro e w6 ⟨vs, rfl, hrs, hB6⟩
            obtain ⟨ag, cs, rfl⟩ := hrs.form
            have HM6 := hid (HM0.out.below hB6)
            have HR6 := hid (HRd.out.below hB6)
            have HS6 := hid hrs
            clear HM0 HRd HBR hrs hB6
            by_cases hso : (K : Int) + bn = (R.length : Int)
            · have HF4 : Hid (rsupOk L = true) := by show _ = _; rw [HSO2.out, decide_eq_true hso]
              have q1 : ((K : Int) + bn == (R.length : Int)) = true := by rw [hso]; simp
              have q2 : ((K : Int) + bn != (R.length : Int)) = false := by rw [bne, q1]; rfl
              clear hso HSO2 HHB
              have k6 := HM6.out.ent.cell 6 (x := .bool false) rfl
              have k7 := HM6.out.ent.cell 7 (x := .slice none 0 0) rfl
              have g6 := HM6.out.ent.frozen 6
              have g7 := HM6.out.ent.frozen 7
              have hm7 := HM6.out.put 6 (.bool true) ⟨(n1 : Nat), (n2 : Nat), 1, ⟨#[]⟩, ⟨#[]⟩, 0, true, [], []⟩ rfl rfl
              have hs7 := HS6.out.setR HM6.out.ent (i := 6) (by decide) (.bool true)
              have h7a := rdS_set (y := .bool true) HR6.out k6 (fun s e => by cases e)
              have k7b := hm7.ent.cell 7 (x := .slice none 0 0) rfl
              have HF : Hid (FrN ⟨(n1 : Nat), (n2 : Nat), 1, ⟨#[]⟩, ⟨#[]⟩, 0, supB L, rsupL L, []⟩ (.slice ag bl.length cs) (.slice none 0 0) w ((w6.setCell ⟨w.heap.size + 1, 6, none⟩ (.bool true)).setCell ⟨w.heap.size + 1, 7, none⟩ (.slice ag bl.length cs))) := by
                show FrN _ _ _ _ _
                rw [HSI2.out, HSL2.out]
                exact hm7.putS _ ⟨(n1 : Nat), (n2 : Nat), 1, ⟨#[]⟩, ⟨#[]⟩, 0, true, bl, []⟩ rfl hs7
              have HRF : Hid (RdS ((w6.setCell ⟨w.heap.size + 1, 6, none⟩ (.bool true)).setCell ⟨w.heap.size + 1, 7, none⟩ (.slice ag bl.length cs)) (.slice (some ⟨b3, o3, none⟩) R.length cr) R) := rdS_set h7a k7b (fun s e => by cases e)
              clear hm7 hs7 h7a k7b HSI2 HSL2 HM6 HR6 HS6
              generalize bl.length = ns at *
              go_wp2_with fail
              go_meet
              exact ⟨_, _, _, HF, HRF, HF4⟩
            · have HV : Hid (rhdB L = false) := by show _ = _; rw [HHB.out, HSO2.out, decide_eq_false hso]; rfl
              have q1 : ((K : Int) + bn == (R.length : Int)) = false := beq_eq_false_iff_ne.2 hso
              have q2 : ((K : Int) + bn != (R.length : Int)) = true := by rw [bne, q1]; rfl
              clear hso HSO2 HHB HSI2 HSL2
              generalize bl.length = ns at *
              have r0 := (HM6.out.res).cell 0 (x := .int .i64 0) rfl
              have r1 := (HM6.out.res).cell 1 (x := .int .i64 0) rfl
              have r2 := (HM6.out.res).cell 2 (x := .int .i64 0) rfl
              have r3 := (HM6.out.res).cell 3 (x := .string ⟨#[]⟩) rfl
              have r4 := (HM6.out.res).cell 4 (x := .string ⟨#[]⟩) rfl
              have r5 := (HM6.out.res).cell 5 (x := .int .i64 0) rfl
              have r6 := (HM6.out.res).cell 6 (x := .bool false) rfl
              have r7 := (HM6.out.res).cell 7 (x := .slice none 0 0) rfl
              have r8 := (HM6.out.res).cell 8 (x := .slice none 0 0) rfl
              have g0 := (HM6.out.res).frozen 0
              have g1 := (HM6.out.res).frozen 1
              have g2 := (HM6.out.res).frozen 2
              have g3 := (HM6.out.res).frozen 3
              have g4 := (HM6.out.res).frozen 4
              have g5 := (HM6.out.res).frozen 5
              have g6 := (HM6.out.res).frozen 6
              have g7 := (HM6.out.res).frozen 7
              have g8 := (HM6.out.res).frozen 8
              go_wp2_with fail
              have HY := rfin (y := nt0) HM6.out.res HM6.out.bel (OwS.nil _) (l := L) (b := false) (HV.out) (fun h => by cases h)
              dsimp only [nt0] at HY
              have z0 := HY.1.cell 0 (x := .int .i64 0) rfl
              have z1 := HY.1.cell 1 (x := .int .i64 0) rfl
              have z2 := HY.1.cell 2 (x := .int .i64 0) rfl
              have z3 := HY.1.cell 3 (x := .string ⟨#[]⟩) rfl
              have z4 := HY.1.cell 4 (x := .string ⟨#[]⟩) rfl
              have z5 := HY.1.cell 5 (x := .int .i64 0) rfl
              have z6 := HY.1.cell 6 (x := .bool false) rfl
              have z7 := HY.1.cell 7 (x := .slice none 0 0) rfl
              have z8 := HY.1.cell 8 (x := .slice none 0 0) rfl
              exact bodyPost_ret (v := .tuple #[.agg #[.int .i64 0, .int .i64 0, .int .i64 0, .string ⟨#[]⟩, .string ⟨#[]⟩, .int .i64 0, .bool false, .slice none 0 0, .slice none 0 0], .bool false]) (by simp [results, Tryz.f75, go_sem, z0, z1, z2, z3, z4, z5, z6, z7, z8]) rfl HY.2
        case rest =>
          obtain ⟨au, nu, cu, HM2, HRD, HSOK⟩ := hcut
          have HHB2 : Hid (rhdB L = (if plcI (ownP L) = 4 then decide ((lemP (ownP L)).length = 0) else decide ((hdLm L).e = 0))) := by show _ = _; rw [HHB.out, HSOK.out]; simp
          have HOK2 : Hid ((ownP L).length ≤ 1000000) := by show _ ≤ _; rw [HOL.out]; omega
          have HRK : Hid (RdS wc (.slice ar K cr) (ownP L)) := by show RdS _ _ _; rw [HOP.out]; exact HRD.out.take K hkle
          clear HHB HKK HSI HSL HSO HSOK HOP HM0 HRd HRD HRZ HRL HZ
          generalize supB L = pos at *
          generalize rsupL L = sup at *
          generalize ownP L = own at *
          have hke : own.length = K := HOL.out
          have hkri : (K : Int) ≤ (R.length : Int) := by omega
          have hkci : (K : Int) ≤ (cr : Int) := by omega
          have hkcn : K ≤ cr := by omega
          have hk0 : (0 : Int) ≤ (K : Int) := by omega
          have HKE := hid hke
          clear hke HOL
          go_upto_if 77 with fail
          go_cut [12] from 76 to 103 (fun wv wx => ∃ ao co, wv = .slice ao (lemP own).length co ∧ Hid (RdS wx (.slice ao (lemP own).length co) (lemP own)) ∧ Hid (FrN ⟨(n1 : Nat), (n2 : Nat), plcI own, ⟨#[]⟩, ⟨#[]⟩, 0, pos, sup, []⟩ (.slice au nu cu) (.slice none 0 0) w wx))
          case first =>
            by_cases h0 : own.length = 0
            · have hK0 : K = 0 := by have := HKE.out; omega
              have h0i : ¬ (0 : Int) < (K : Int) := by omega
              have HPL : Hid (plcI own = 1) := by show _ = _; unfold plcI; rw [if_pos h0]
              have HLP : Hid (lemP own = own) := by show _ = _; unfold lemP; rw [if_pos HPL.out]
              have HLL : Hid ((lemP own).length = K) := by show _ = _; rw [HLP.out]; exact HKE.out
              have HM3 : Hid (FrN ⟨(n1 : Nat), (n2 : Nat), plcI own, ⟨#[]⟩, ⟨#[]⟩, 0, pos, sup, []⟩ (.slice au nu cu) (.slice none 0 0) w wc) := by show FrN _ _ _ _ _; rw [HPL.out]; exact HM2.out
              have HR3 : Hid (RdS wc (.slice ar (lemP own).length cr) (lemP own)) := by show RdS _ _ _; rw [HLL.out, HLP.out]; exact HRK.out
              clear hK0 h0 HPL HLP HM2 HRK
              go_wp2_with fail
              go_meet
              exact ⟨_, _, by rw [HLL.out], HR3, HM3⟩
            · have h0i : (0 : Int) < (K : Int) := by have := HKE.out; omega
              obtain ⟨lq, hlq⟩ : ∃ q : Nat, q = own.length - 1 := ⟨_, rfl⟩
              have hlk : lq + 1 = K := by have := HKE.out; omega
              have HLQ := hid hlq
              have h1w : IntKind.i64.wrap ((K : Int) - 1) = (lq : Int) := by rw [IntWalk.i64_in _ (by omega)]; omega
              have h2i : (0 : Int) ≤ (lq : Int) := by omega
              have h3i : (lq : Int) < (K : Int) := by omega
              have h3n : lq < K := by omega
              have h3j : (lq : Int) ≤ (K : Int) := by omega
              have h3k : (lq : Int) ≤ (cr : Int) := by omega
              have h3l : lq ≤ cr := by omega
              have h3m : lq ≤ K := by omega
              obtain ⟨y, b2, o2, hy, ea, hcy⟩ : ∃ y b2 o2, own[lq]? = some y ∧ ar = some ⟨b2, o2, none⟩ ∧ wc.cell? ⟨b2, o2 + lq, none⟩ = some (.string y) := by
                obtain ⟨a5, c5, e5, _, _, h5⟩ := HRK.out.open
                obtain ⟨y, b5, o5, h6, e6, h7⟩ := h5 lq (by omega)
                cases e5
                exact ⟨y, b5, o5, h6, e6, h7⟩
              subst ea
              have HY : Hid (own.getD (own.length - 1) ⟨#[]⟩ = y) := by show _ = _; rw [← hlq, List.getD_eq_getElem?_getD, hy]; rfl
              have H0 := hid h0
              clear hy h0 hlq
              have st : ∀ c : ByteArray, ¬ y = c → ¬ y.toList = c.data.toList := fun c h e => h (ba_ext (by rw [← ByteArray.toList_eq]; exact e))
              have st2 : ∀ c : ByteArray, ¬ y = c → (y.toList == c.data.toList) = false := fun c h => beq_eq_false_iff_ne.2 (st c h)
              by_cases hy0 : y = plusB
              · clear st st2
                have HPL : Hid (plcI own = 2) := by
                  show _ = _
                  unfold plcI
                  rw [if_neg H0.out, HY.out]
                  rw [if_pos hy0]
                have HLP : Hid (lemP own = own.take lq) := by show _ = _; unfold lemP; rw [HPL.out, if_neg (by omega), ← HLQ.out]
                have HLN : Hid ((lemP own).length = lq) := by show _ = _; rw [HLP.out, List.length_take]; have := HKE.out; omega
                subst hy0
                have k2 := HM2.out.ent.cell 2 (x := .int .i64 1) rfl
                have g2 := HM2.out.ent.frozen 2
                have HM3 : Hid (FrN ⟨(n1 : Nat), (n2 : Nat), plcI own, ⟨#[]⟩, ⟨#[]⟩, 0, pos, sup, []⟩ (.slice au nu cu) (.slice none 0 0) w (wc.setCell ⟨w.heap.size + 1, 2, none⟩ (.int .i64 2)).drew) := by
                  show FrN _ _ _ _ _
                  rw [HPL.out]
                  exact FrN.drew (HM2.out.put 2 (.int .i64 2) ⟨(n1 : Nat), (n2 : Nat), 2, ⟨#[]⟩, ⟨#[]⟩, 0, pos, sup, []⟩ rfl rfl)
                have HR3 : Hid (RdS (wc.setCell ⟨w.heap.size + 1, 2, none⟩ (.int .i64 2)).drew (.slice (some ⟨b2, o2, none⟩) (lemP own).length cr) (lemP own)) := by
                  show RdS _ _ _
                  rw [HLN.out, HLP.out]
                  exact Rd.below (rdS_set (y := .int .i64 2) (HRK.out.take lq (by have := HKE.out; omega)) k2 (fun s e => by cases e)) (Below.refl _ _).drew
                clear HM2 HRK HPL HLP H0 HY HHB2 HLM HPD
                unfold plusB at *
                go_wp2_with fail
                go_region
                go_wp2_with fail
                go_meet
                exact ⟨_, _, by rw [HLN.out], HR3, HM3⟩
              have HN0 := hid hy0
              have n0a : ¬ y.toList = [91, 43, 93] := st plusB hy0
              have n0b : (y.toList == [91, 43, 93]) = false := st2 plusB hy0
              by_cases hy1 : y = minB
              · clear st st2 hy0 n0a n0b
                have HPL : Hid (plcI own = 3) := by
                  show _ = _
                  unfold plcI
                  rw [if_neg H0.out, HY.out]
                  rw [if_neg HN0.out]; rw [if_pos hy1]
                have HLP : Hid (lemP own = own.take lq) := by show _ = _; unfold lemP; rw [HPL.out, if_neg (by omega), ← HLQ.out]
                have HLN : Hid ((lemP own).length = lq) := by show _ = _; rw [HLP.out, List.length_take]; have := HKE.out; omega
                subst hy1
                have k2 := HM2.out.ent.cell 2 (x := .int .i64 1) rfl
                have g2 := HM2.out.ent.frozen 2
                have HM3 : Hid (FrN ⟨(n1 : Nat), (n2 : Nat), plcI own, ⟨#[]⟩, ⟨#[]⟩, 0, pos, sup, []⟩ (.slice au nu cu) (.slice none 0 0) w (wc.setCell ⟨w.heap.size + 1, 2, none⟩ (.int .i64 3)).drew) := by
                  show FrN _ _ _ _ _
                  rw [HPL.out]
                  exact FrN.drew (HM2.out.put 2 (.int .i64 3) ⟨(n1 : Nat), (n2 : Nat), 3, ⟨#[]⟩, ⟨#[]⟩, 0, pos, sup, []⟩ rfl rfl)
                have HR3 : Hid (RdS (wc.setCell ⟨w.heap.size + 1, 2, none⟩ (.int .i64 3)).drew (.slice (some ⟨b2, o2, none⟩) (lemP own).length cr) (lemP own)) := by
                  show RdS _ _ _
                  rw [HLN.out, HLP.out]
                  exact Rd.below (rdS_set (y := .int .i64 3) (HRK.out.take lq (by have := HKE.out; omega)) k2 (fun s e => by cases e)) (Below.refl _ _).drew
                clear HM2 HRK HPL HLP H0 HY HHB2 HLM HPD
                unfold minB at *
                go_wp2_with fail
                go_region
                go_wp2_with fail
                go_meet
                exact ⟨_, _, by rw [HLN.out], HR3, HM3⟩
              have HN1 := hid hy1
              have n1a : ¬ y.toList = [91, 45, 93] := st minB hy1
              have n1b : (y.toList == [91, 45, 93]) = false := st2 minB hy1
              by_cases hy2 : y = starB
              · clear st st2 hy0 hy1 n0a n0b n1a n1b
                have HPL : Hid (plcI own = 4) := by
                  show _ = _
                  unfold plcI
                  rw [if_neg H0.out, HY.out]
                  rw [if_neg HN0.out]; rw [if_neg HN1.out]; rw [if_pos hy2]
                have HLP : Hid (lemP own = own.take lq) := by show _ = _; unfold lemP; rw [HPL.out, if_neg (by omega), ← HLQ.out]
                have HLN : Hid ((lemP own).length = lq) := by show _ = _; rw [HLP.out, List.length_take]; have := HKE.out; omega
                subst hy2
                have k2 := HM2.out.ent.cell 2 (x := .int .i64 1) rfl
                have g2 := HM2.out.ent.frozen 2
                have HM3 : Hid (FrN ⟨(n1 : Nat), (n2 : Nat), plcI own, ⟨#[]⟩, ⟨#[]⟩, 0, pos, sup, []⟩ (.slice au nu cu) (.slice none 0 0) w (wc.setCell ⟨w.heap.size + 1, 2, none⟩ (.int .i64 4)).drew) := by
                  show FrN _ _ _ _ _
                  rw [HPL.out]
                  exact FrN.drew (HM2.out.put 2 (.int .i64 4) ⟨(n1 : Nat), (n2 : Nat), 4, ⟨#[]⟩, ⟨#[]⟩, 0, pos, sup, []⟩ rfl rfl)
                have HR3 : Hid (RdS (wc.setCell ⟨w.heap.size + 1, 2, none⟩ (.int .i64 4)).drew (.slice (some ⟨b2, o2, none⟩) (lemP own).length cr) (lemP own)) := by
                  show RdS _ _ _
                  rw [HLN.out, HLP.out]
                  exact Rd.below (rdS_set (y := .int .i64 4) (HRK.out.take lq (by have := HKE.out; omega)) k2 (fun s e => by cases e)) (Below.refl _ _).drew
                clear HM2 HRK HPL HLP H0 HY HHB2 HLM HPD
                unfold starB at *
                go_wp2_with fail
                go_region
                go_wp2_with fail
                go_meet
                exact ⟨_, _, by rw [HLN.out], HR3, HM3⟩
              have HN2 := hid hy2
              have n2a : ¬ y.toList = [91, 42, 93] := st starB hy2
              have n2b : (y.toList == [91, 42, 93]) = false := st2 starB hy2
              have HPL : Hid (plcI own = 1) := by
                show _ = _
                unfold plcI
                rw [if_neg H0.out, HY.out, if_neg hy0, if_neg hy1, if_neg hy2]
              have HLP : Hid (lemP own = own) := by show _ = _; unfold lemP; rw [if_pos HPL.out]
              have HLL : Hid ((lemP own).length = K) := by show _ = _; rw [HLP.out]; exact HKE.out
              have HM3 : Hid (FrN ⟨(n1 : Nat), (n2 : Nat), plcI own, ⟨#[]⟩, ⟨#[]⟩, 0, pos, sup, []⟩ (.slice au nu cu) (.slice none 0 0) w wc) := by show FrN _ _ _ _ _; rw [HPL.out]; exact HM2.out
              have HR3 : Hid (RdS wc (.slice (some ⟨b2, o2, none⟩) (lemP own).length cr) (lemP own)) := by show RdS _ _ _; rw [HLL.out, HLP.out]; exact HRK.out
              clear HPL HLP HM2 HRK st st2 hy0 hy1 hy2
              go_wp2_with fail
              go_meet
              exact ⟨_, _, by rw [HLL.out], HR3, HM3⟩
          case rest =>
            obtain ⟨ao, co, rfl, HRl, HMd⟩ := hcut
            clear HM2 HRK
            obtain ⟨pp, hpp⟩ : ∃ p, p = plcI own := ⟨_, rfl⟩
            rw [← hpp] at HMd HHB2 HPD HLM
            have HOL : Hid ((lemP own).length ≤ 1000000) := by
              show _ ≤ _
              unfold lemP
              split
              · exact HOK2.out
              · rw [List.length_take]; have := HOK2.out; omega
            clear hpp
            have k2 := HMd.out.ent.cell 2 (x := .int .i64 pp) rfl
            by_cases hp4 : pp = 4
            · have HB2 : Hid (rhdB L = decide ((lemP own).length = 0)) := by show _ = _; rw [HHB2.out, if_pos hp4]
              have HP2 : Hid (rhdP L = ⟨(n1 : Nat), (n2 : Nat), pp, ⟨#[]⟩, ⟨#[]⟩, 0, pos, sup, []⟩) := by show _ = _; rw [HPD.out, HLM.out, if_pos hp4]; rfl
              have hpb : ((pp : Int) == 4) = true := by rw [hp4]; rfl
              clear hp4 HHB2 HPD HLM
              by_cases hl0 : (lemP own).length = 0
              · have HB3 : Hid (rhdB L = true) := by show _ = _; rw [HB2.out, decide_eq_true hl0]
                have hlb : (((lemP own).length : Int) == 0) = true := by rw [hl0]; rfl
                clear hl0 HB2
                generalize (lemP own).length = nl at *
                have b0 := HMd.out.ent.cell 0 (x := .int .i64 (n1 : Nat)) rfl
                have b1 := HMd.out.ent.cell 1 (x := .int .i64 (n2 : Nat)) rfl
                have b2 := HMd.out.ent.cell 2 (x := .int .i64 pp) rfl
                have b3 := HMd.out.ent.cell 3 (x := .string ⟨#[]⟩) rfl
                have b4 := HMd.out.ent.cell 4 (x := .string ⟨#[]⟩) rfl
                have b5 := HMd.out.ent.cell 5 (x := .int .i64 0) rfl
                have b6 := HMd.out.ent.cell 6 (x := .bool pos) rfl
                have b7 := HMd.out.ent.cell 7 (x := .slice au nu cu) rfl
                have b8 := HMd.out.ent.cell 8 (x := .slice none 0 0) rfl
                have r0 := (HMd.out.res).cell 0 (x := .int .i64 0) rfl
                have r1 := (HMd.out.res).cell 1 (x := .int .i64 0) rfl
                have r2 := (HMd.out.res).cell 2 (x := .int .i64 0) rfl
                have r3 := (HMd.out.res).cell 3 (x := .string ⟨#[]⟩) rfl
                have r4 := (HMd.out.res).cell 4 (x := .string ⟨#[]⟩) rfl
                have r5 := (HMd.out.res).cell 5 (x := .int .i64 0) rfl
                have r6 := (HMd.out.res).cell 6 (x := .bool false) rfl
                have r7 := (HMd.out.res).cell 7 (x := .slice none 0 0) rfl
                have r8 := (HMd.out.res).cell 8 (x := .slice none 0 0) rfl
                have g0 := (HMd.out.res).frozen 0
                have g1 := (HMd.out.res).frozen 1
                have g2 := (HMd.out.res).frozen 2
                have g3 := (HMd.out.res).frozen 3
                have g4 := (HMd.out.res).frozen 4
                have g5 := (HMd.out.res).frozen 5
                have g6 := (HMd.out.res).frozen 6
                have g7 := (HMd.out.res).frozen 7
                have g8 := (HMd.out.res).frozen 8
                go_wp2_with fail
                have HY := rfin HMd.out.res HMd.out.bel HMd.out.sup (l := L) (b := true) (HB3.out) (fun _ => HP2.out.symm)
                have z0 := HY.1.cell 0 (x := .int .i64 (n1 : Nat)) rfl
                have z1 := HY.1.cell 1 (x := .int .i64 (n2 : Nat)) rfl
                have z2 := HY.1.cell 2 (x := .int .i64 pp) rfl
                have z3 := HY.1.cell 3 (x := .string ⟨#[]⟩) rfl
                have z4 := HY.1.cell 4 (x := .string ⟨#[]⟩) rfl
                have z5 := HY.1.cell 5 (x := .int .i64 0) rfl
                have z6 := HY.1.cell 6 (x := .bool pos) rfl
                have z7 := HY.1.cell 7 (x := .slice au nu cu) rfl
                have z8 := HY.1.cell 8 (x := .slice none 0 0) rfl
                exact bodyPost_ret (v := .tuple #[.agg #[.int .i64 (n1 : Nat), .int .i64 (n2 : Nat), .int .i64 pp, .string ⟨#[]⟩, .string ⟨#[]⟩, .int .i64 0, .bool pos, .slice au nu cu, .slice none 0 0], .bool true]) (by simp [results, Tryz.f75, go_sem, z0, z1, z2, z3, z4, z5, z6, z7, z8]) rfl HY.2
              · have HB3 : Hid (rhdB L = false) := by show _ = _; rw [HB2.out, decide_eq_false hl0]
                have hlb : (((lemP own).length : Int) == 0) = false := beq_eq_false_iff_ne.2 (by omega)
                clear hl0 HB2
                generalize (lemP own).length = nl at *
                have b0 := HMd.out.ent.cell 0 (x := .int .i64 (n1 : Nat)) rfl
                have b1 := HMd.out.ent.cell 1 (x := .int .i64 (n2 : Nat)) rfl
                have b2 := HMd.out.ent.cell 2 (x := .int .i64 pp) rfl
                have b3 := HMd.out.ent.cell 3 (x := .string ⟨#[]⟩) rfl
                have b4 := HMd.out.ent.cell 4 (x := .string ⟨#[]⟩) rfl
                have b5 := HMd.out.ent.cell 5 (x := .int .i64 0) rfl
                have b6 := HMd.out.ent.cell 6 (x := .bool pos) rfl
                have b7 := HMd.out.ent.cell 7 (x := .slice au nu cu) rfl
                have b8 := HMd.out.ent.cell 8 (x := .slice none 0 0) rfl
                have r0 := (HMd.out.res).cell 0 (x := .int .i64 0) rfl
                have r1 := (HMd.out.res).cell 1 (x := .int .i64 0) rfl
                have r2 := (HMd.out.res).cell 2 (x := .int .i64 0) rfl
                have r3 := (HMd.out.res).cell 3 (x := .string ⟨#[]⟩) rfl
                have r4 := (HMd.out.res).cell 4 (x := .string ⟨#[]⟩) rfl
                have r5 := (HMd.out.res).cell 5 (x := .int .i64 0) rfl
                have r6 := (HMd.out.res).cell 6 (x := .bool false) rfl
                have r7 := (HMd.out.res).cell 7 (x := .slice none 0 0) rfl
                have r8 := (HMd.out.res).cell 8 (x := .slice none 0 0) rfl
                have g0 := (HMd.out.res).frozen 0
                have g1 := (HMd.out.res).frozen 1
                have g2 := (HMd.out.res).frozen 2
                have g3 := (HMd.out.res).frozen 3
                have g4 := (HMd.out.res).frozen 4
                have g5 := (HMd.out.res).frozen 5
                have g6 := (HMd.out.res).frozen 6
                have g7 := (HMd.out.res).frozen 7
                have g8 := (HMd.out.res).frozen 8
                go_wp2_with fail
                have HY := rfin HMd.out.res HMd.out.bel HMd.out.sup (l := L) (b := false) (HB3.out) (fun h => by cases h)
                have z0 := HY.1.cell 0 (x := .int .i64 (n1 : Nat)) rfl
                have z1 := HY.1.cell 1 (x := .int .i64 (n2 : Nat)) rfl
                have z2 := HY.1.cell 2 (x := .int .i64 pp) rfl
                have z3 := HY.1.cell 3 (x := .string ⟨#[]⟩) rfl
                have z4 := HY.1.cell 4 (x := .string ⟨#[]⟩) rfl
                have z5 := HY.1.cell 5 (x := .int .i64 0) rfl
                have z6 := HY.1.cell 6 (x := .bool pos) rfl
                have z7 := HY.1.cell 7 (x := .slice au nu cu) rfl
                have z8 := HY.1.cell 8 (x := .slice none 0 0) rfl
                exact bodyPost_ret (v := .tuple #[.agg #[.int .i64 (n1 : Nat), .int .i64 (n2 : Nat), .int .i64 pp, .string ⟨#[]⟩, .string ⟨#[]⟩, .int .i64 0, .bool pos, .slice au nu cu, .slice none 0 0], .bool false]) (by simp [results, Tryz.f75, go_sem, z0, z1, z2, z3, z4, z5, z6, z7, z8]) rfl HY.2
            · have HB2 : Hid (rhdB L = decide ((hdLm L).e = 0)) := by show _ = _; rw [HHB2.out, if_neg hp4]
              have HL2 : Hid (hdLm L = parseLm (joinB (lemP own))) := by show _ = _; rw [HLM.out, if_neg hp4]
              have hpb : ((pp : Int) == 4) = false := beq_eq_false_iff_ne.2 hp4
              have HJ := hid (rjoin_any _ (lemP own) _ HRl.out (by have := HJO.out; omega))
              have HPS := fun w' (h : Below w.heap.size w w') => hid (rparse43_any (joinB (lemP own)) w' (HE w' h).out HJO.out)
              rw [← HL2.out] at HPS
              unfold lmV at HPS
              clear hp4 HHB2 HLM HL2
              generalize (lemP own).length = nl at *
              generalize joinB (lemP own) = js at *
              go_wp2_with fail
              (with_reducible refine HJ.out.mono ?_)
              rintro e w7 ⟨rfl, hB7⟩
              have HM7 := hid (HMd.out.below hB7)
              clear HJ hB7 k2
              go_wp2_with fail
              (with_reducible refine (HPS _ HM7.out.bel).out.mono ?_)
              rintro e w8 ⟨rfl, hB8⟩
              have HM8 := hid (HM7.out.below hB8)
              clear HPS HM7 hB8
              generalize (hdLm L).f = lf at *
              generalize (hdLm L).l = ll at *
              generalize (hdLm L).n = ln at *
              generalize (hdLm L).e = le at *
              have HM9 := hid (HM8.out.below (below_al w8 (.cells #[.string lf, .string ll, .int .i64 ln] 28)))
              have HRL9 := hid (row_nw w8 #[.string lf, .string ll, .int .i64 ln] 28 rfl)
              go_upto_region 26 with fail
              generalize w8.alloc (.cells #[.string lf, .string ll, .int .i64 ln] 28) = W9 at *
              generalize w8.heap.size = N8 at *
              have l0 := HRL9.out.cell 0 (x := .string lf) rfl
              have l1 := HRL9.out.cell 1 (x := .string ll) rfl
              have l2 := HRL9.out.cell 2 (x := .int .i64 ln) rfl
              have k3 := HM9.out.ent.cell 3 (x := .string ⟨#[]⟩) rfl
              have k4 := HM9.out.ent.cell 4 (x := .string ⟨#[]⟩) rfl
              have k5 := HM9.out.ent.cell 5 (x := .int .i64 0) rfl
              have g3 := HM9.out.ent.frozen 3
              have g4 := HM9.out.ent.frozen 4
              have g5 := HM9.out.ent.frozen 5
              have HMX := hid (((HM9.out.put 3 (.string lf) ⟨(n1 : Nat), (n2 : Nat), pp, lf, ⟨#[]⟩, 0, pos, sup, []⟩ rfl rfl).put 4 (.string ll) ⟨(n1 : Nat), (n2 : Nat), pp, lf, ll, 0, pos, sup, []⟩ rfl rfl).put 5 (.int .i64 ln) ⟨(n1 : Nat), (n2 : Nat), pp, lf, ll, ln, pos, sup, []⟩ rfl rfl)
              clear HM8 HM9 HRL9
              go_upto_region 27 with fail
              clear l0 l1 l2 k3 k4 k5 g3 g4 g5
              generalize ((W9.setCell ⟨w.heap.size + 1, 3, none⟩ (.string lf)).setCell ⟨w.heap.size + 1, 4, none⟩ (.string ll)).setCell ⟨w.heap.size + 1, 5, none⟩ (.int .i64 ln) = WX at *
              by_cases hl0 : le = 0
              · have HB3 : Hid (rhdB L = true) := by show _ = _; rw [HB2.out, decide_eq_true hl0]
                have hlb : (le == 0) = true := by rw [hl0]; rfl
                clear hl0 HB2
                have b0 := HMX.out.ent.cell 0 (x := .int .i64 (n1 : Nat)) rfl
                have b1 := HMX.out.ent.cell 1 (x := .int .i64 (n2 : Nat)) rfl
                have b2 := HMX.out.ent.cell 2 (x := .int .i64 pp) rfl
                have b3 := HMX.out.ent.cell 3 (x := .string lf) rfl
                have b4 := HMX.out.ent.cell 4 (x := .string ll) rfl
                have b5 := HMX.out.ent.cell 5 (x := .int .i64 ln) rfl
                have b6 := HMX.out.ent.cell 6 (x := .bool pos) rfl
                have b7 := HMX.out.ent.cell 7 (x := .slice au nu cu) rfl
                have b8 := HMX.out.ent.cell 8 (x := .slice none 0 0) rfl
                have r0 := (HMX.out.res).cell 0 (x := .int .i64 0) rfl
                have r1 := (HMX.out.res).cell 1 (x := .int .i64 0) rfl
                have r2 := (HMX.out.res).cell 2 (x := .int .i64 0) rfl
                have r3 := (HMX.out.res).cell 3 (x := .string ⟨#[]⟩) rfl
                have r4 := (HMX.out.res).cell 4 (x := .string ⟨#[]⟩) rfl
                have r5 := (HMX.out.res).cell 5 (x := .int .i64 0) rfl
                have r6 := (HMX.out.res).cell 6 (x := .bool false) rfl
                have r7 := (HMX.out.res).cell 7 (x := .slice none 0 0) rfl
                have r8 := (HMX.out.res).cell 8 (x := .slice none 0 0) rfl
                have g0 := (HMX.out.res).frozen 0
                have g1 := (HMX.out.res).frozen 1
                have g2 := (HMX.out.res).frozen 2
                have g3 := (HMX.out.res).frozen 3
                have g4 := (HMX.out.res).frozen 4
                have g5 := (HMX.out.res).frozen 5
                have g6 := (HMX.out.res).frozen 6
                have g7 := (HMX.out.res).frozen 7
                have g8 := (HMX.out.res).frozen 8
                go_wp2_with fail
                have HY := rfin HMX.out.res HMX.out.bel HMX.out.sup (l := L) (b := true) (HB3.out) (fun _ => HPD.out.symm)
                have z0 := HY.1.cell 0 (x := .int .i64 (n1 : Nat)) rfl
                have z1 := HY.1.cell 1 (x := .int .i64 (n2 : Nat)) rfl
                have z2 := HY.1.cell 2 (x := .int .i64 pp) rfl
                have z3 := HY.1.cell 3 (x := .string lf) rfl
                have z4 := HY.1.cell 4 (x := .string ll) rfl
                have z5 := HY.1.cell 5 (x := .int .i64 ln) rfl
                have z6 := HY.1.cell 6 (x := .bool pos) rfl
                have z7 := HY.1.cell 7 (x := .slice au nu cu) rfl
                have z8 := HY.1.cell 8 (x := .slice none 0 0) rfl
                exact bodyPost_ret (v := .tuple #[.agg #[.int .i64 (n1 : Nat), .int .i64 (n2 : Nat), .int .i64 pp, .string lf, .string ll, .int .i64 ln, .bool pos, .slice au nu cu, .slice none 0 0], .bool true]) (by simp [results, Tryz.f75, go_sem, z0, z1, z2, z3, z4, z5, z6, z7, z8]) rfl HY.2
              · have HB3 : Hid (rhdB L = false) := by show _ = _; rw [HB2.out, decide_eq_false hl0]
                have hlb : (le == 0) = false := beq_eq_false_iff_ne.2 hl0
                clear hl0 HB2
                have b0 := HMX.out.ent.cell 0 (x := .int .i64 (n1 : Nat)) rfl
                have b1 := HMX.out.ent.cell 1 (x := .int .i64 (n2 : Nat)) rfl
                have b2 := HMX.out.ent.cell 2 (x := .int .i64 pp) rfl
                have b3 := HMX.out.ent.cell 3 (x := .string lf) rfl
                have b4 := HMX.out.ent.cell 4 (x := .string ll) rfl
                have b5 := HMX.out.ent.cell 5 (x := .int .i64 ln) rfl
                have b6 := HMX.out.ent.cell 6 (x := .bool pos) rfl
                have b7 := HMX.out.ent.cell 7 (x := .slice au nu cu) rfl
                have b8 := HMX.out.ent.cell 8 (x := .slice none 0 0) rfl
                have r0 := (HMX.out.res).cell 0 (x := .int .i64 0) rfl
                have r1 := (HMX.out.res).cell 1 (x := .int .i64 0) rfl
                have r2 := (HMX.out.res).cell 2 (x := .int .i64 0) rfl
                have r3 := (HMX.out.res).cell 3 (x := .string ⟨#[]⟩) rfl
                have r4 := (HMX.out.res).cell 4 (x := .string ⟨#[]⟩) rfl
                have r5 := (HMX.out.res).cell 5 (x := .int .i64 0) rfl
                have r6 := (HMX.out.res).cell 6 (x := .bool false) rfl
                have r7 := (HMX.out.res).cell 7 (x := .slice none 0 0) rfl
                have r8 := (HMX.out.res).cell 8 (x := .slice none 0 0) rfl
                have g0 := (HMX.out.res).frozen 0
                have g1 := (HMX.out.res).frozen 1
                have g2 := (HMX.out.res).frozen 2
                have g3 := (HMX.out.res).frozen 3
                have g4 := (HMX.out.res).frozen 4
                have g5 := (HMX.out.res).frozen 5
                have g6 := (HMX.out.res).frozen 6
                have g7 := (HMX.out.res).frozen 7
                have g8 := (HMX.out.res).frozen 8
                go_wp2_with fail
                have HY := rfin HMX.out.res HMX.out.bel HMX.out.sup (l := L) (b := false) (HB3.out) (fun h => by cases h)
                have z0 := HY.1.cell 0 (x := .int .i64 (n1 : Nat)) rfl
                have z1 := HY.1.cell 1 (x := .int .i64 (n2 : Nat)) rfl
                have z2 := HY.1.cell 2 (x := .int .i64 pp) rfl
                have z3 := HY.1.cell 3 (x := .string lf) rfl
                have z4 := HY.1.cell 4 (x := .string ll) rfl
                have z5 := HY.1.cell 5 (x := .int .i64 ln) rfl
                have z6 := HY.1.cell 6 (x := .bool pos) rfl
                have z7 := HY.1.cell 7 (x := .slice au nu cu) rfl
                have z8 := HY.1.cell 8 (x := .slice none 0 0) rfl
                exact bodyPost_ret (v := .tuple #[.agg #[.int .i64 (n1 : Nat), .int .i64 (n2 : Nat), .int .i64 pp, .string lf, .string ll, .int .i64 ln, .bool pos, .slice au nu cu, .slice none 0 0], .bool false]) (by simp [results, Tryz.f75, go_sem, z0, z1, z2, z3, z4, z5, z6, z7, z8]) rfl HY.2
end Go.Proofs.YtjhdeoniafahbaaGreatDoor
namespace Go.Proofs.YtjhdeoniafahbaaGreatDoor
open Go.RowKit
theorem rvF_hit {l : List ByteArray} {i : Nat} (h1 : 1 ≤ i) (hl : i < l.length) (hp : 0 < brN (l.drop i)) (hno : ∀ j, 1 ≤ j → j < i → brN (l.drop j) ≤ 0) : rvF l = some i := by
  unfold rvF
  rw [List.find?_range_eq_some]
  refine ⟨?_, by rw [List.mem_range]; exact hl, fun j hj => ?_⟩
  · rw [decide_eq_true h1, decide_eq_true hp]; rfl
  · by_cases hj1 : 1 ≤ j
    · rw [decide_eq_false (show ¬ 0 < brN (l.drop j) by have := hno j hj1 hj; omega)]; simp
    · rw [decide_eq_false hj1]; rfl
theorem rvF_no {l : List ByteArray} (hno : ∀ j, 1 ≤ j → j < l.length → brN (l.drop j) ≤ 0) : rvF l = none := by
  unfold rvF
  rw [List.find?_eq_none]
  intro j hj
  rw [List.mem_range] at hj
  by_cases hj1 : 1 ≤ j
  · rw [decide_eq_false (show ¬ 0 < brN (l.drop j) by have := hno j hj1 hj; omega)]; simp
  · rw [decide_eq_false hj1]; simp
/-- What the reference's variant answers. -/
def VfQ (l : List ByteArray) (w : World) (r : Ending) (w' : World) : Prop :=
  ∃ (au : Option Addr) (nu cu : Nat) (ag : Option Addr) (ns cs : Nat), r = .returned (.tuple #[.agg #[.slice au nu cu, .slice ag ns cs], .bool (rvB l)]) ∧ (rvB l = true → OwS w' (.slice au nu cu) (rvP l).ws ∧ OwS w' (.slice ag ns cs) (rvP l).sg) ∧ Below w.heap.size w w'
structure VfN (w W : World) : Prop where
  res : Row W w.heap.size #[.slice none 0 0, .slice none 0 0] 63
  bel : Below w.heap.size w W
theorem VfN.below {w W W' : World} (h : VfN w W) (hb : Below W.heap.size W W') : VfN w W' := ⟨h.res.below hb, below_tr h.bel hb⟩
theorem vfin {w W : World} (h : VfN w W) {v1 v2 : Value} {l1 l2 : List ByteArray} (h1 : OwS W v1 l1) (h2 : OwS W v2 l2) :
    Row ((W.setCell ⟨w.heap.size, 0, none⟩ v1).setCell ⟨w.heap.size, 1, none⟩ v2) w.heap.size #[v1, v2] 63 ∧ OwS ((W.setCell ⟨w.heap.size, 0, none⟩ v1).setCell ⟨w.heap.size, 1, none⟩ v2) v1 l1 ∧ OwS ((W.setCell ⟨w.heap.size, 0, none⟩ v1).setCell ⟨w.heap.size, 1, none⟩ v2) v2 l2 ∧
    Below w.heap.size w ((W.setCell ⟨w.heap.size, 0, none⟩ v1).setCell ⟨w.heap.size, 1, none⟩ v2) := by
  have ht : (63 : TypeId) ≠ 9 := by decide
  have r0 := h.res.set 0 v1
  exact ⟨r0.set 1 v2, (h1.setR h.res (i := 0) ht v1).setR r0 (i := 1) ht v2, (h2.setR h.res (i := 0) ht v1).setR r0 (i := 1) ht v2, (h.bel.setCell (by simp) v1).setCell (by simp) v2⟩
set_option maxRecDepth 100000 in
set_option maxHeartbeats 8000000 in
theorem rvar_any (v : Value) (l : List ByteArray) (w : World) (he : Env w) (hr : RdS w v l) (hz : Sz16 l) (hlen : l.length ≤ 1000000) (hj : (joinB l).size ≤ 65536) :
    Calls Tryz.prog 76 #[v] w fun r w' => VfQ l w r w' := by
  have HE := fun w' (h : Below w.heap.size w w') => hid (he.below h)
  have HR := fun w' (h : Below w.heap.size w w') => hid (hr.below h)
  have HZ := hid hz
  have HJL := hid hj
  have HS0 : Hid (VfN w (w.alloc (.cells #[.slice none 0 0, .slice none 0 0] 63))) := ⟨row_nw w _ _ rfl, below_al w _⟩
  obtain ⟨a, cap, rfl, hlc, hcm, hcell⟩ := hr.open
  have HC := hid hcell
  clear hcell hr he hz hj
  go_enter Tryz.func76, Tryz.ntmps76
  go_upto_region 1 with fail
  generalize w.alloc (.cells #[.slice none 0 0, .slice none 0 0] 63) = W0 at *
  go_wp2_with fail
  go_loopw [4] (fun iv wr => ∃ i : Nat, 1 ≤ i ∧ i ≤ 1000001 ∧ iv = .int .i64 i ∧ Hid (∀ j, 1 ≤ j → j < i → brN (l.drop j) ≤ 0) ∧ Hid (VfN w wr)) (fun iv _ => l.length - (intOf iv).toNat)
  case atStart => exact ⟨1, by omega, by omega, rfl, fun j h1 h2 => by omega, HS0.out⟩
  case round =>
    obtain ⟨i, hi1, hi2, rfl, HN, HS⟩ := hrel
    clear HS0
    by_cases hlt : i < l.length
    · obtain ⟨x0, b, off, _, rfl, _⟩ := HC.out i hlt
      have hki : (i : Int) < (l.length : Int) := by omega
      have hk0 : (0 : Int) ≤ (i : Int) := by omega
      have hkl : (i : Int) ≤ (l.length : Int) := by omega
      have hkn : i ≤ l.length := by omega
      have hkc : (i : Int) ≤ (cap : Int) := by omega
      have hkcn : i ≤ cap := by omega
      have hkne : ¬ cap = i := by omega
      have hRD := (HR wr HS.out.bel).out
      have HBR := hid (rbraced_any _ (l.drop i) wr (hRD.drop i hkn) (fun s hs => by have := HZ.out s (List.mem_of_mem_drop hs); omega) (by rw [List.length_drop]; omega))
      have hbd := brN_bd (l.drop i)
      rw [List.length_drop] at hbd
      obtain ⟨hbd0, hbd1⟩ := hbd
      have hbd2 : brN (l.drop i) ≤ 1000000 := by omega
      clear hRD
      obtain ⟨bn, hbn⟩ : ∃ bn, bn = brN (l.drop i) := ⟨_, rfl⟩
      rw [← hbn] at HBR hbd0 hbd1 hbd2
      have HBN := hid hbn
      clear hbn
      go_wp2_with fail
      (with_reducible refine HBR.out.mono ?_)
      rintro e w6 ⟨vs, rfl, hrs, hB6⟩
      have HS6 := hid (HS.out.below hB6)
      obtain ⟨ag, cs, rfl⟩ := hrs.form
      have HBL := hid hrs
      clear HS HBR hrs hB6
      by_cases hpos : 0 < bn
      · have HF : Hid (rvF l = some i) := rvF_hit hi1 hlt (by rw [← HBN.out]; exact hpos) HN.out
        have HVB : Hid (rvB l = (decide (unqI (joinB (l.take i)) = 0) && decide ((i : Int) + bn = l.length))) := by show _ = _; unfold rvB; rw [HF.out, HBN.out]
        have HVP : Hid (rvP l = ⟨unqL (joinB (l.take i)), brL (l.drop i)⟩) := by show _ = _; unfold rvP; rw [HF.out]
        have hjt := take_join_le l i
        have hRD := (HR w6 HS6.out.bel).out
        have HJ := hid (rjoin_any _ (l.take i) w6 (hRD.take i hkn) (by have := HJL.out; omega))
        have HUQ := fun w' (h : Below w.heap.size w w') => hid (rUnq_any (joinB (l.take i)) w' (HE w' h).out (by have := HJL.out; omega))
        clear HF HN HBN hRD hjt
        generalize brL (l.drop i) = bl at *
        generalize unqI (joinB (l.take i)) = ui at *
        generalize unqL (joinB (l.take i)) = ul at *
        generalize joinB (l.take i) = jt at *
        generalize hnb : bl.length = nb at *
        go_wp2_with fail
        (with_reducible refine HJ.out.mono ?_)
        rintro e w7 ⟨rfl, hB7⟩
        have HS7 := hid (HS6.out.below hB7)
        have HB7 := hid (HBL.out.below hB7)
        clear HS6 HBL HJ hB7
        go_wp2_with fail
        (with_reducible refine (HUQ _ HS7.out.bel).out.mono ?_)
        rintro e w8 ⟨vu, rfl, hru, hB8⟩
        obtain ⟨au, cu, rfl⟩ := hru.form
        have HS8 := hid (HS7.out.below hB8)
        have HB8 := hid (HB7.out.below hB8)
        have HQ := vfin HS8.out hru HB8.out
        have HQ2 := hid HQ.2
        have z0 := HQ.1.cell 0 (x := .slice au ul.length cu) rfl
        have z1 := HQ.1.cell 1 (x := .slice ag nb cs) rfl
        have r0 := HS8.out.res.cell 0 (x := .slice none 0 0) rfl
        have r1 := HS8.out.res.cell 1 (x := .slice none 0 0) rfl
        have g0 := HS8.out.res.frozen 0
        have g1 := HS8.out.res.frozen 1
        have Z0 := hid z0
        have Z1 := hid z1
        clear HS7 HB7 HUQ hru hB8 HQ HS8 HB8 hnb z0 z1
        generalize ul.length = nu at *
        have hsz : i + 1000000 ≤ 9223372036854775807 := by omega
        by_cases hu0 : ui = 0
        · have hub : ((ui : Int) == 0) = true := by rw [hu0]; rfl
          have HU0 := hid hu0
          clear hu0
          by_cases hso : (i : Int) + bn = (l.length : Int)
          · have q1 : ((i : Int) + bn == (l.length : Int)) = true := by rw [hso]; simp
            have HV3 : Hid (rvB l = true) := by show _ = _; rw [HVB.out, HU0.out, decide_eq_true hso]; rfl
            have HX : Hid (OwS ((w8.setCell ⟨w.heap.size, 0, none⟩ (.slice au nu cu)).setCell ⟨w.heap.size, 1, none⟩ (.slice ag nb cs)) (.slice au nu cu) (rvP l).ws ∧ OwS ((w8.setCell ⟨w.heap.size, 0, none⟩ (.slice au nu cu)).setCell ⟨w.heap.size, 1, none⟩ (.slice ag nb cs)) (.slice ag nb cs) (rvP l).sg) := by show _ ∧ _; rw [HVP.out]; exact ⟨HQ2.out.1, HQ2.out.2.1⟩
            clear hso HVB HVP
            go_wp2_with fail
            have z0 := Z0.out
            have z1 := Z1.out
            exact bodyPost_ret (v := .tuple #[.agg #[.slice au nu cu, .slice ag nb cs], .bool true]) (by simp [results, Tryz.f76, go_sem, z0, z1]) rfl ⟨au, nu, cu, ag, nb, cs, by rw [HV3.out], ⟨fun _ => HX.out, HQ2.out.2.2⟩⟩
          · have q1 : ((i : Int) + bn == (l.length : Int)) = false := beq_eq_false_iff_ne.2 hso
            have HV3 : Hid (rvB l = false) := by show _ = _; rw [HVB.out, decide_eq_false hso]; simp
            clear hso HVB HVP
            go_wp2_with fail
            have z0 := Z0.out
            have z1 := Z1.out
            exact bodyPost_ret (v := .tuple #[.agg #[.slice au nu cu, .slice ag nb cs], .bool false]) (by simp [results, Tryz.f76, go_sem, z0, z1]) rfl ⟨au, nu, cu, ag, nb, cs, by rw [HV3.out], ⟨fun h => (by rw [HV3.out] at h; cases h), HQ2.out.2.2⟩⟩
        · have hub : ((ui : Int) == 0) = false := beq_eq_false_iff_ne.2 hu0
          have HV3 : Hid (rvB l = false) := by show _ = _; rw [HVB.out, decide_eq_false hu0]; rfl
          clear hu0 HVB HVP
          go_wp2_with fail
          have z0 := Z0.out
          have z1 := Z1.out
          exact bodyPost_ret (v := .tuple #[.agg #[.slice au nu cu, .slice ag nb cs], .bool false]) (by simp [results, Tryz.f76, go_sem, z0, z1]) rfl ⟨au, nu, cu, ag, nb, cs, by rw [HV3.out], ⟨fun h => (by rw [HV3.out] at h; cases h), HQ2.out.2.2⟩⟩
      · have HN2 : Hid (∀ j, 1 ≤ j → j < i + 1 → brN (l.drop j) ≤ 0) := fun j h1 h2 => by
          by_cases hji : j = i
          · rw [hji, ← HBN.out]; omega
          · exact HN.out j h1 (by omega)
        clear HN HBN HBL
        go_wp2_with fail
        go_roundw
        case rel => exact ⟨i + 1, by omega, by omega, by go_num, HN2.out, HS6.out⟩
        case measure => simp [intOf]; omega
    · have hki : ¬ (i : Int) < (l.length : Int) := by omega
      have HF : Hid (rvF l = none) := rvF_no fun j h1 h2 => HN.out j h1 (by omega)
      have HV3 : Hid (rvB l = false) := by show _ = _; unfold rvB; rw [HF.out]
      have HQ := vfin HS.out (OwS.nil wr) (OwS.nil wr)
      have HQ2 := hid HQ.2
      have Z0 := hid (HQ.1.cell 0 (x := .slice none 0 0) rfl)
      have Z1 := hid (HQ.1.cell 1 (x := .slice none 0 0) rfl)
      have r0 := HS.out.res.cell 0 (x := .slice none 0 0) rfl
      have r1 := HS.out.res.cell 1 (x := .slice none 0 0) rfl
      have g0 := HS.out.res.frozen 0
      have g1 := HS.out.res.frozen 1
      clear HN HF HQ HS
      go_wp2_with fail
      have z0 := Z0.out
      have z1 := Z1.out
      exact bodyPost_ret (v := .tuple #[.agg #[.slice none 0 0, .slice none 0 0], .bool false]) (by simp [results, Tryz.f76, go_sem, z0, z1]) rfl ⟨none, 0, 0, none, 0, 0, by rw [HV3.out], ⟨fun h => (by rw [HV3.out] at h; cases h), HQ2.out.2.2⟩⟩
end Go.Proofs.YtjhdeoniafahbaaGreatDoor
namespace Go.Proofs.YtjhdeoniafahbaaGreatDoor
open Go.RowKit
/-- No cell of the row is frozen. -/
def Free (fz : Nat × Nat) (n : Nat) : Prop := ∀ o, o < n → ¬ (fz.1 ≤ o ∧ o < fz.2)
/-- The slice value v, of n bytes, owns the cells xs of a row of which no cell is frozen. -/
def OwnN (w : World) (base : Nat) (e : TypeId) (v : Value) (n : Nat) (xs : List Value) : Prop :=
  xs.length = n ∧ ∃ g cap cur fz, v = .slice (some ⟨g, 0, none⟩) n cap ∧ base ≤ g ∧ w.heap[g]? = some (.cells cur e fz) ∧ Free fz cur.size ∧ n ≤ cap ∧ cap ≤ maxLen ∧ cur.size = cap ∧ cur.toList.take n = xs
theorem OwnN.lt {w : World} {base : Nat} {e : TypeId} {v : Value} {n : Nat} {xs : List Value} (h : OwnN w base e v n xs) : ∀ k, v.ownBlock = some k → base ≤ k ∧ k < w.heap.size := by
  intro k hk
  obtain ⟨_, g, cap, cur, fz, rfl, hb, hg, _⟩ := h
  simp [Value.ownBlock] at hk
  subst hk
  exact ⟨hb, (Array.getElem?_eq_some_iff.1 hg).1⟩
theorem OwnN.cells {w : World} {base : Nat} {e : TypeId} {g cap n : Nat} {xs : List Value} (h : OwnN w base e (.slice (some ⟨g, 0, none⟩) n cap) n xs) : ∀ j u, xs[j]? = some u → w.cell? ((⟨g, 0, none⟩ : Addr).add j) = some u := by
  intro j u hu
  obtain ⟨_, g', cap', cur, fz, hv, _, hgg, _, _, _, _, htake⟩ := h
  cases hv
  have hadd : (⟨g, 0, none⟩ : Addr).add j = ⟨g, j, none⟩ := by unfold Addr.add; split <;> simp_all
  rw [hadd, cell_of_row w g j cur e fz hgg]
  rw [← htake, List.getElem?_take] at hu
  split at hu
  · simpa using hu
  · cases hu
theorem run_storeCells_atN (P : Program) (g o : Nat) (t : TypeId) (fz : Nat × Nat) : ∀ (vs : List Value) (i : Nat) (cur : Array Value) (w : World), w.heap[g]? = some (.cells cur t fz) → Free fz cur.size → o + i + vs.length ≤ cur.size → (∀ v ∈ vs, v.oneCell' = true) →
    (storeCells ⟨g, o, none⟩ vs i).run P w = .ok () (w.setRow g (cur.toList.take (o + i) ++ vs ++ cur.toList.drop (o + i + vs.length)).toArray)
  | [], i, cur, w, hg, _, _, _ => by
    simp only [storeCells, List.append_nil, List.length_nil, Nat.add_zero, List.take_append_drop, Array.toArray_toList]
    rw [setRow_self w g cur t fz hg]
    rfl
  | v :: rest, i, cur, w, hg, hfz, hl, h1 => by
    have hi : o + i < cur.size := by simp at hl; omega
    have hadd : (⟨g, o, none⟩ : Addr).add i = ⟨g, o + i, none⟩ := by unfold Addr.add; split <;> simp_all
    have hcell : w.cell? ⟨g, o + i, none⟩ = some cur[o + i] := by simp [World.cell?, hg, hi]
    have hfro : w.frozen? ⟨g, o + i, none⟩ = false := by
      have h := hfz (o + i) hi
      obtain ⟨lo, hi'⟩ := fz
      simp only [World.frozen?, hg, Bool.and_eq_false_iff, decide_eq_false_iff_not]
      simp only at h
      omega
    have hst : (store ((⟨g, o, none⟩ : Addr).add i) v).run P w = .ok () (w.setRow g (cur.setIfInBounds (o + i) v)) := by
      rw [hadd, run_store P w _ v _ (h1 v (by simp)), hcell]
      simp [hfro, setCell_eq_setRow w g (o + i) cur t fz v hg]
    have ih := run_storeCells_atN P g o t fz rest (i + 1) (cur.setIfInBounds (o + i) v) (w.setRow g (cur.setIfInBounds (o + i) v)) (setRow_heap w g cur _ t _ hg) (by simpa using hfz) (by simp at hl ⊢; omega) (fun x hx => h1 x (by simp [hx]))
    simp only [storeCells, Sem.run_bind, hst, Result.andThen_ok, ih, setRow_setRow]
    congr 3
    have e := list_seg_step cur.toList (o + i) v rest (by simp at hl ⊢; omega)
    simpa [Array.toList_setIfInBounds, Nat.add_assoc] using e
section
variable {P : Program} (w : World)
theorem run_append_room_stringN (t u ty e : TypeId) (i : TypeInfo) (ht : P.underlying t = some (.slice e)) (hu : P.underlying u = some .string) (hi : P.info? e = some i) (hs1 : i.size = 1)
    (g sLen sCap : Nat) (cur : Array Value) (fz : Nat × Nat) (hg : w.heap[g]? = some (.cells cur e fz)) (hfz : Free fz cur.size) (s : ByteArray)
    (hroom : sLen + s.size ≤ sCap) (hfit : sLen + s.size ≤ cur.size) :
    (Builtin.append_ #[t, u] ty #[.slice (some ⟨g, 0, none⟩) sLen sCap, .string s]).run P w =
      .ok (.slice (some ⟨g, 0, none⟩) (sLen + s.size) sCap) (w.setRow g (cur.toList.take sLen ++ Lib.strCells s ++ cur.toList.drop (sLen + s.size)).toArray) := by
  have hf := Lib.run_firstCells_string (P := P) w 1 s
  have hst := run_storeCells_atN P g sLen e fz (Lib.strCells s) 0 cur w hg hfz (by simpa [Lib.strCells_length] using hfit) (Lib.strCells_oneCell s)
  simp only [Nat.add_zero, Lib.strCells_length] at hst
  simp [Builtin.append_, run_underlying ht, run_underlying hu, sizeOf, typeInfo, hi, hs1, Builtin.lenOf, hroom, hf, Addr.add_lit, hst]
theorem run_append_own_stringN (base : Nat) (t u ty e : TypeId) (i : TypeInfo) (ht : P.underlying t = some (.slice e)) (hu : P.underlying u = some .string) (hi : P.info? e = some i) (hz : i.zero = some (.int .u8 0))
    (hsize : i.size = 1) (hby : i.bytes = 1)
    (v : Value) (n : Nat) (xs : List Value) (hown : OwnN w base e v n xs) (s : ByteArray)
    (h63 : n + s.size ≤ maxLen) (hbytes : n + s.size ≤ 140737488355328) (hbase : base ≤ w.heap.size) :
    ∃ v' w', (Builtin.append_ #[t, u] ty #[v, .string s]).run P w = .ok v' w' ∧ OwnN w' base e v' (n + s.size) (xs ++ Lib.strCells s) ∧ w.grownBy w' v.ownBlock := by
  obtain ⟨hxl, g, cap, cur, fz, rfl, hbg, hg, hfz, hnc, hcm, hcs, htake⟩ := id hown
  have hsmall : n + s.size ≤ 9223372036854775807 := by simp only [maxLen] at h63; omega
  have hlen : (xs ++ Lib.strCells s).length = n + s.size := by rw [List.length_append, hxl, Lib.strCells_length]
  by_cases hroom : n + s.size ≤ cap
  · have hr := run_append_room_stringN (P := P) w t u ty e i ht hu hi hsize g n cap cur fz hg hfz s hroom (by omega)
    have hsz : (cur.toList.take n ++ Lib.strCells s ++ cur.toList.drop (n + s.size)).toArray.size = cur.size := by
      simp only [List.size_toArray, List.length_append, List.length_take, List.length_drop, Array.length_toList, Lib.strCells_length]
      omega
    refine ⟨_, _, hr, ⟨hlen, g, cap, _, fz, rfl, hbg, setRow_heap w g cur _ e _ hg, by rw [hsz]; exact hfz, hroom, hcm, by rw [hsz]; exact hcs, ?_⟩, ⟨rfl, rfl, rfl, by simp, fun k _ hk => setRow_other w g k _ (fun e => hk (by simp [Value.ownBlock, e]))⟩⟩
    rw [htake, ← hlen]
    exact List.take_left
  · have holds := hown.cells
    have hr := Lib.run_append_grow_string (P := P) w t u ty e i (.int .u8 0) ht hu hi hz ⟨g, 0, none⟩ n cap xs (by rw [hsize]; simpa using hxl) holds s (by omega) (by omega) (by rw [hby]; exact growslice_fits (by omega) (by omega))
    have hge := grownCap_ge w (n + s.size) cap e
    have hcm2 : grownCap w (n + s.size) cap e ≤ maxLen := grownCap_le_maxLen w (n + s.size) cap e h63
    refine ⟨_, _, hr, ⟨hlen, w.heap.size, _, _, (0, 0), rfl, hbase, heap_alloc_new w.drew _, fun o _ h => absurd h.2 (Nat.not_lt_zero _), hge, hcm2, ?_, ?_⟩, ⟨rfl, rfl, rfl, by simp, fun k hk _ => heap_alloc_old w.drew _ hk⟩⟩
    · have hz1 : (Value.int IntKind.u8 0).cells.size = 1 := rfl
      simp only [Array.size_append, List.size_toArray, size_zeroCells, hz1, hxl, Lib.strCells_length]
      omega
    · simp only [Array.toList_append, List.append_assoc]
      rw [← List.append_assoc, ← hlen]
      exact List.take_left
end
/-- A row of the bytes of T, of which none is frozen. -/
def OwB2 (base : Nat) (W : World) (v : Value) (T : List UInt8) : Prop := OwnN W base 5 v T.length (Lib.byteCells T)
theorem OwB2.run {base : Nat} {w : World} {v : Value} {T : List UInt8} (h : OwB2 base w v T) (s : ByteArray) (ty : TypeId) (hbytes : T.length + s.size ≤ 140737488355328) (hbase : base ≤ w.heap.size) :
    ∃ v' w', (Builtin.append_ #[98, 9] ty #[v, .string s]).run Tryz.prog w = .ok v' w' ∧ OwB2 base w' v' (T ++ s.data.toList) ∧ Below base w w' := by
  obtain ⟨i, h1, h2, h3, h4⟩ := info_parts infoU8b
  obtain ⟨v', w', g1, g2, g3⟩ := run_append_own_stringN (P := Tryz.prog) w base 98 9 ty 5 i Tryz.underlying98 Tryz.underlying9 h1 h2 h3 h4 v T.length (Lib.byteCells T) h s (by unfold maxLen; omega) hbytes hbase
  refine ⟨v', w', g1, ?_, (Below.refl _ _).grown g3 hbase (fun k hk => (h.lt k hk).1)⟩
  unfold OwB2
  rw [Lib.byteCells_append, List.length_append, Array.length_toList, ← Lib.strCells_eq]; exact g2
/-- The operation. -/
theorem wpList_apn {ops : Array Oper} {rest : List Oper} {o : Oper} {a : Act} {w : World} {Q : Exit → Act → World → Prop} (hgd : o.guard = none) (sl x : Operand)
    (ho : o.op = .call { callee := .builtin .append, args := #[sl, x], argTypes := #[98, 9] })
    (base : Nat) (v : Value) (T : List UInt8) (hs : a.eval sl = v) (s : ByteArray) (hx : a.eval x = .string s) (hown : OwB2 base w v T)
    (hbytes : T.length + s.size ≤ 140737488355328) (hbase : base ≤ w.heap.size)
    (h : ∀ v' w', OwB2 base w' v' (T ++ s.data.toList) → Below base w w' → wpList Tryz.prog ops Q rest (a.put o.dst v') w') :
    wpList Tryz.prog ops Q (o :: rest) a w := by
  refine wpList_plain hgd fun K hK => ?_
  obtain ⟨v', w', hr, h2, h3⟩ := hown.run s o.type hbytes hbase
  unfold Oper.wp execOp
  simp only [ho, resolve, invoke, builtin, Sem.run_bind, Sem.run_pure, Result.andThen_ok, List.map_toArray, List.map_cons, List.map_nil, hs, hx, hr]
  exact hK _ _ (h v' w' h2 h3)
/-- What a conversion from a string makes is such a row. -/
theorem OwB2.made (w : World) (s : ByteArray) (hs : s.size ≤ 1000000000) : ∃ v, (convert 9 98 (.string s)).run Tryz.prog w = .ok v (Lib.bytesWorld w 5 s) ∧ OwB2 w.heap.size (Lib.bytesWorld w 5 s) v s.data.toList ∧ Below w.heap.size w (Lib.bytesWorld w 5 s) := by
  refine ⟨_, Lib.run_convert_string_bytes w _ _ 5 s Tryz.underlying9 Tryz.underlying98 Tryz.underlying5, ?_, ?_⟩
  · have hl : s.data.toList.length = s.size := rfl
    have hbl : (Lib.byteCells s.data.toList).length = s.size := by rw [Lib.byteCells_length]; exact hl
    refine ⟨by rw [hbl]; rfl, w.heap.size, _, _, _, rfl, Nat.le_refl _, Lib.bytesWorld_at_new w _ s, fun o ho h => ?_, grownCap_ge _ _ _ _, grownCap_le_maxLen _ _ _ _ (by unfold maxLen; omega), ?_, ?_⟩
    · simp only at h
      omega
    · have := grownCap_ge w s.size 0 5
      have e : s.data.size = s.size := rfl
      simp [Lib.bytesCells, e]; omega
    · unfold Lib.bytesCells
      rw [Array.toList_append]
      refine (List.take_append_of_le_length ?_).trans ?_
      · simp
      · rw [List.take_of_length_le (by simp)]
        simp [Lib.byteCells]
  · exact Lib.bytesWorld_below _ _ _
theorem OwB2.conv {base : Nat} {W : World} {v : Value} {T : List UInt8} (h : OwB2 base W v T) : ∃ b c, v = .slice b T.length c ∧ (convert 98 9 (.slice b T.length c)).run Tryz.prog W = .ok (.string ⟨T.toArray⟩) W := by
  have hlen : (Lib.byteCells T).length = T.length := Lib.byteCells_length T
  obtain ⟨_, g, c, cur, fz, rfl, _⟩ := id h
  refine ⟨some ⟨g, 0, none⟩, c, rfl, ?_⟩
  refine run_convert_bytes_back W _ _ 5 ⟨g, 0, none⟩ c T Tryz.underlying98 Tryz.underlying5 Tryz.underlying9 (fun j hj => ?_)
  exact OwnN.cells h j _ (by simp [Lib.byteCells, hj])
theorem OwB2.slice {base : Nat} {W : World} {v : Value} {T : List UInt8} (h : OwB2 base W v T) : ∃ b c, v = .slice b T.length c := by
  obtain ⟨_, g, c, cur, fz, rfl, _⟩ := h
  exact ⟨_, _, rfl⟩
end Go.Proofs.YtjhdeoniafahbaaGreatDoor
namespace Go.Proofs.YtjhdeoniafahbaaGreatDoor
open Go.RowKit
theorem OwnN.mono {W : World} {base b2 : Nat} {e : TypeId} {v : Value} {n : Nat} {xs : List Value} (h : OwnN W base e v n xs) (hb : b2 ≤ base) : OwnN W b2 e v n xs := by
  obtain ⟨h1, g, cap, cur, fz, h2, h3, h4⟩ := h
  exact ⟨h1, g, cap, cur, fz, h2, Nat.le_trans hb h3, h4⟩
theorem OwnN.below {W W' : World} {base : Nat} {e : TypeId} {v : Value} {n : Nat} {xs : List Value} (h : OwnN W base e v n xs) (hb : Below W.heap.size W W') : OwnN W' base e v n xs := by
  obtain ⟨h1, g, cap, cur, fz, h2, h3, h4, h5⟩ := h
  exact ⟨h1, g, cap, cur, fz, h2, h3, (hb.block g (Array.getElem?_eq_some_iff.1 h4).1).trans h4, h5⟩
/-- An append to such a row, in a region that draws its order. -/
theorem step_apn {ops : Array Oper} {o : Oper} {a : Act} {W : World} {K : Act → World → Prop} {Q : Exit → Act → World → Prop} {E : Prop}
    (hgd : o.guard = none) (sl x : Operand) (ho : o.op = .call { callee := .builtin .append, args := #[sl, x], argTypes := #[98, 9] })
    (base : Nat) (v : Value) (T : List UInt8) (hs : a.eval sl = v) (s : ByteArray) (hx : a.eval x = .string s) (hown : OwB2 base W v T)
    (hbytes : T.length + s.size ≤ 140737488355328) (hbase : base ≤ W.heap.size)
    (h : ∀ v' w', OwB2 base w' v' (T ++ s.data.toList) → Below base W w' → K (a.put o.dst v') w') :
    if Region.wanted o (yielded ops a.tmps) = true then Oper.wp Tryz.prog o a W K Q else E := by
  have hw : Region.wanted o (yielded ops a.tmps) = true := by simp [Region.wanted, hgd]
  rw [if_pos hw]
  obtain ⟨v', w', hr, h2, h3⟩ := hown.run s o.type hbytes hbase
  unfold Oper.wp execOp
  simp only [ho, resolve, invoke, builtin, Sem.run_bind, Sem.run_pure, Result.andThen_ok, List.map_toArray, List.map_cons, List.map_nil, hs, hx, hr]
  exact h v' w' h2 h3
theorem jd_app {a b : List ByteArray} (ha : a ≠ []) (hb : b ≠ []) : (joinB (a ++ b)).data.toList = (joinB a).data.toList ++ (32 :: (joinB b).data.toList) := by
  rw [joinB_data, joinB_data, joinB_data, List.map_append, join_app _ (by simpa using ha) (by simpa using hb)]; rfl
theorem jd_one (p : ByteArray) : (joinB [p]).data.toList = p.data.toList := by rw [joinB_data]; simp [Lib.join_one]
theorem jb_one (p : ByteArray) : joinB [p] = p := ba_ext (jd_one p)
theorem jb_snoc {a : List ByteArray} (ha : a ≠ []) (p : ByteArray) : joinB (a ++ [p]) = (joinB a ++ ⟨#[32]⟩) ++ p := by
  refine ba_ext ?_
  rw [jd_app ha (by simp), jd_one]
  simp
theorem stepD {A : List ByteArray} (hA : A ≠ []) {vs : List Vr} {k : Nat} {v : Vr} (hv : vs[k]? = some v) {T : List UInt8} (hT : T = (joinB (A ++ varsV (vs.take k))).data.toList) :
    (T ++ (if k = 0 then [] else [32, 124])) ++ (((((⟨#[32]⟩ : ByteArray) ++ quoteB v.ws) ++ ⟨#[32, 123]⟩) ++ joinB v.sg) ++ ⟨#[125]⟩).data.toList = (joinB (A ++ varsV (vs.take (k + 1)))).data.toList := by
  have e1 : vs.take (k + 1) = vs.take k ++ [v] := by rw [List.take_add_one, hv]; rfl
  have e2 : (vs.take k).length = k := by rw [List.length_take]; have := (List.getElem?_eq_some_iff.1 hv).1; omega
  have e3 : (joinB (oneV v)).data.toList = (quoteB v.ws).data.toList ++ (32 :: 123 :: ((joinB v.sg).data.toList ++ [125])) := by
    have : oneV v = [quoteB v.ws] ++ [bracesB v.sg] := rfl
    rw [this, jd_app (by simp) (by simp), jd_one, jd_one, braces_data]
  rw [e1, varsV_snoc, e2, hT]
  by_cases h0 : k = 0
  · subst h0
    rw [if_pos rfl, if_pos rfl, List.take_zero]
    simp only [varsV, List.append_nil, List.nil_append]
    rw [jd_app hA (by simp [oneV]), e3]
    simp
  · rw [if_neg h0, if_neg h0, ← List.append_assoc, ← List.append_assoc, List.append_assoc (A ++ varsV (vs.take k)), jd_app (a := A ++ varsV (vs.take k)) (b := [barB] ++ oneV v) (by simp [hA]) (by simp), jd_app (a := [barB]) (by simp) (by simp [oneV]), jd_one, e3]
    simp [barB]
/-- The note's cells while the reference's Print runs. -/
structure PqI (x : Nt) (u s : Value) (w W : World) : Prop where
  note : Row W w.heap.size (x.cells u s) 30
  bel : Below w.heap.size w W
theorem PqI.below {x : Nt} {u s : Value} {w W W' : World} (h : PqI x u s w W) (hb : Below W.heap.size W W') : PqI x u s w W' := ⟨h.note.below hb, below_tr h.bel hb⟩
theorem PqI.ap {x : Nt} {u s : Value} {w W W' : World} (h : PqI x u s w W) (hb : Below (w.heap.size + 1) W W') : PqI x u s w W' := ⟨(hb.block _ (by omega)).trans h.note, h.bel.trans (hb.mono (by omega))⟩
theorem PqI.drew {x : Nt} {u s : Value} {w W : World} (h : PqI x u s w W) : PqI x u s w W.drew := h.below (Below.refl _ _).drew
set_option maxRecDepth 100000 in
set_option maxHeartbeats 8000000 in
theorem rprt45_ok (x : Nt) (u s : Value) (w : World) (he : Env w) (hr : RdN w u s x) (hz : SzN x) (h0 : nteI x = 0) :
    Calls Tryz.prog 28 #[.agg (x.cells u s)] w fun e w' => e = .returned (.tuple #[.string (prS x), .int .i64 (prE x)]) ∧ Below w.heap.size w w' := by
  have HC := fun w' (h : Below w.heap.size w w') => hid (rchk_any x u s w' (he.below h) (hr.below h) hz)
  have HI0 : Hid (PqI x u s w (w.alloc (.cells (x.cells u s) 30))) := ⟨row_nw w _ _ rfl, below_al w _⟩
  have hN := note_ok h0
  have HN := hid hN
  obtain ⟨n1, hn1⟩ : ∃ n : Nat, x.fr = n := ⟨x.fr.toNat, by have := hN.f1; omega⟩
  obtain ⟨n2, hn2⟩ : ∃ n : Nat, x.to_ = n := ⟨x.to_.toNat, by have := hN.f1; have := hN.f2; omega⟩
  have HLN := fun w' => hid (rlines_str n1 n2 (by have := hN.f2; have := hN.f3; omega) (by have := hN.f3; omega) w')
  rw [← hn1, ← hn2] at HLN
  have hs0 : (spanB x.fr x.to_).size ≤ 300000 := parts_size hN _ (by unfold partsN frontL; simp)
  clear hn1 hn2
  have HLM := fun (hp : x.pl ≠ 4) w' (h : Below w.heap.size w w') => hid (rprint_any x.lf x.ll x.ln w' (he.below h) hz.lf hz.ll (hN.lm hp))
  have hsl : (joinB x.sup).size ≤ 300000 := by
    have h1 := joinB_len (fun s hs => (sig_brc (hN.sp s hs)).2.1)
    have h2 : x.sup.length * (16 + 1) ≤ 4096 * (16 + 1) := Nat.mul_le_mul hN.sl (Nat.le_refl _)
    omega
  have HJS := fun w' (h : Below w.heap.size w w') => hid (rjoin_any u x.sup w' (hr.rs.below h) (by omega))
  have HRD := fun w' (h : Below w.heap.size w w') => hid (hr.below h)
  have HPE : Hid (prE x = if 65536 < (prN x).size then 4 else 0) := by show _ = _; unfold prE; rw [if_pos h0]
  have HPS : Hid (prS x = if prE x = 0 then prN x else ⟨#[]⟩) := rfl
  obtain ⟨S1, hS1⟩ : ∃ S, S = joinB ([spanB x.fr x.to_] ++ (if x.pl = 4 then [] else [printT x.lf x.ll x.ln])) := ⟨_, rfl⟩
  obtain ⟨S2, hS2⟩ : ∃ S, S = joinB (([spanB x.fr x.to_] ++ (if x.pl = 4 then [] else [printT x.lf x.ll x.ln])) ++ signsB x.pl) := ⟨_, rfl⟩
  obtain ⟨S3, hS3⟩ : ∃ S, S = joinB (frontL x) := ⟨_, rfl⟩
  have hfr : frontL x = (([spanB x.fr x.to_] ++ (if x.pl = 4 then [] else [printT x.lf x.ll x.ln])) ++ signsB x.pl) ++ (if x.pos = true then [bracesB x.sup] else []) := by unfold frontL; simp
  have HA1 : Hid (x.pl = 4 → S1 = spanB x.fr x.to_) := fun h => by rw [hS1, if_pos h]; exact jb_one _
  have HA2 : Hid (x.pl ≠ 4 → S1 = (spanB x.fr x.to_ ++ ⟨#[32]⟩) ++ printT x.lf x.ll x.ln) := fun h => by rw [hS1, if_neg h, jb_snoc (by simp), jb_one]
  have hne1 : [spanB x.fr x.to_] ++ (if x.pl = 4 then [] else [printT x.lf x.ll x.ln]) ≠ [] := by simp
  have HB1 : Hid (x.pl = 1 → S2 = S1) := fun h => by rw [hS2, hS1, h]; simp [signsB]
  have sg : ∀ (p : Int) (c : ByteArray) (d : ByteArray), signsB p = [c] → d.data.toList = 32 :: c.data.toList → x.pl = p → S2 = S1 ++ d := fun p c d hc hd h => by
    rw [h] at hne1 hS1 hS2
    rw [hS2, hc, hS1]
    refine ba_ext ?_
    rw [jd_app hne1 (by simp), jd_one]
    simp [hd]
  have HB2 : Hid (x.pl = 2 → S2 = S1 ++ ⟨#[32, 91, 43, 93]⟩) := sg 2 plusB _ rfl rfl
  have HB3 : Hid (x.pl = 3 → S2 = S1 ++ ⟨#[32, 91, 45, 93]⟩) := sg 3 minB _ rfl rfl
  have HB4 : Hid (x.pl = 4 → S2 = S1 ++ ⟨#[32, 91, 42, 93]⟩) := sg 4 starB _ rfl rfl
  have HC1 : Hid (x.pos = false → S3 = S2) := fun h => by rw [hS3, hfr, h, hS2]; simp
  have HC2 : Hid (x.pos = true → S3 = (((S2 ++ ⟨#[32, 123]⟩) ++ joinB x.sup) ++ ⟨#[125]⟩)) := fun h => by
    rw [hS3, hfr, h, hS2, if_pos rfl]
    refine ba_ext ?_
    rw [jd_app (by simp) (by simp), jd_one, braces_data]
    simp
  have hfn : frontL x ≠ [] := by unfold frontL; simp
  have HD1 : Hid ((S3 ++ ⟨#[32, 93]⟩).data.toList = (joinB (frontL x ++ [behB])).data.toList) := by
    show _ = _
    rw [jd_app hfn (by simp), jd_one, hS3]
    simp [behB]
  have HPN : Hid ((joinB ((frontL x ++ [behB]) ++ varsV x.vs)) = prN x) := by show _ = _; unfold prN partsN; rw [List.append_assoc]
  have hl1 : (printT x.lf x.ll x.ln).size ≤ 300000 ∨ x.pl = 4 := by
    by_cases hp : x.pl = 4
    · exact .inr hp
    · refine .inl ?_
      have := printT_300 (hN.lm hp)
      omega
  have hz1 : S1.size ≤ 700000 := by
    by_cases hp : x.pl = 4
    · rw [HA1.out hp]; omega
    · rw [HA2.out hp]
      have h3 : (printT x.lf x.ll x.ln).size ≤ 300000 := by rcases hl1 with h | h; exact h; exact absurd h hp
      simp only [ByteArray.size_append]
      have : (⟨#[32]⟩ : ByteArray).size = 1 := rfl
      omega
  have hp14 : x.pl = 1 ∨ x.pl = 2 ∨ x.pl = 3 ∨ x.pl = 4 := by have := hN.p1; have := hN.p4; omega
  have hz2 : S2.size ≤ 700010 := by
    rcases hp14 with h | h | h | h
    · rw [HB1.out h]; omega
    · rw [HB2.out h, ByteArray.size_append]; have : (⟨#[32, 91, 43, 93]⟩ : ByteArray).size = 4 := rfl; omega
    · rw [HB3.out h, ByteArray.size_append]; have : (⟨#[32, 91, 45, 93]⟩ : ByteArray).size = 4 := rfl; omega
    · rw [HB4.out h, ByteArray.size_append]; have : (⟨#[32, 91, 42, 93]⟩ : ByteArray).size = 4 := rfl; omega
  have hz3 : S3.size ≤ 1000100 := by
    cases hp : x.pos with
    | false => rw [HC1.out hp]; omega
    | true =>
      rw [HC2.out hp]
      simp only [ByteArray.size_append]
      have h3 : (⟨#[32, 123]⟩ : ByteArray).size = 2 := rfl
      have h4 : (⟨#[125]⟩ : ByteArray).size = 1 := rfl
      omega
  have HP14 := hid hp14
  have HFN := hid hfn
  have hl1h := hid hl1
  clear sg hS1 hS2 hS3 hfr hne1 hN hfn hp14 hl1
  obtain ⟨au, cu, rfl, hlu, hmu, _⟩ := hr.rs.open
  obtain ⟨av, cv, rfl, hlv, hmv, hvc⟩ := hr.rv.open
  have HVC := hid hvc
  have HVL : Hid (x.vs.length ≤ 4096) := HN.out.vl
  have HNV : Hid (∀ v ∈ x.vs, VrOk x.pl v) := HN.out.vs
  rw [h0] at HC
  clear hr hz he h0 hvc HN
  generalize spanB x.fr x.to_ = sp at *
  generalize printT x.lf x.ll x.ln = pt at *
  unfold Nt.cells at HC
  have HI0b := HI0
  unfold Nt.cells at HI0b
  go_enter Tryz.func28, Tryz.ntmps28
  unfold Nt.cells
  go_wp2_with fail
  (with_reducible refine (HC _ HI0b.out.bel).out.mono ?_)
  rintro e w1 ⟨rfl, hB1⟩
  have HI1 := hid (HI0b.out.below hB1)
  clear HC HI0 HI0b hB1
  have c0 := HI1.out.note.cell 0 (x := .int .i64 x.fr) rfl
  have c1 := HI1.out.note.cell 1 (x := .int .i64 x.to_) rfl
  go_wp2_with fail
  (with_reducible refine (HLN _).out.mono ?_)
  rintro e w2 ⟨rfl, rfl⟩
  clear c0 c1 HLN
  have c2 := HI1.out.note.cell 2 (x := .int .i64 x.pl) rfl
  go_upto_if 22 with fail
  clear c2
  go_cut [5, 6, 7] from 20 to 32 (fun v _ _ wx => v = .string S1 ∧ Hid (PqI x (.slice au x.sup.length cu) (.slice av x.vs.length cv) w wx))
  case first =>
    clear HC1 HC2 HB1 HB2 HB3 HB4 HD1 HPN HPE HPS
    by_cases hp : x.pl = 4
    · have hpb : (x.pl != 4) = false := by rw [hp]; rfl
      have hpc : (x.pl == 4) = true := by rw [hp]; rfl
      have HV := hid (HA1.out hp)
      clear hp HA1 HA2
      go_wp2_with fail
      go_meet
      exact ⟨by rw [HV.out], HI1⟩
    · have hpb : (x.pl != 4) = true := bne_iff_ne.2 hp
      have hpc : (x.pl == 4) = false := beq_eq_false_iff_ne.2 hp
      have HV := hid (HA2.out hp)
      have h3 : pt.size ≤ 300000 := by rcases hl1h.out with h | h; exact h; exact absurd h hp
      have HLM2 := fun w' h => HLM hp w' h
      have c3 := HI1.out.note.cell 3 (x := .string x.lf) rfl
      have c4 := HI1.out.note.cell 4 (x := .string x.ll) rfl
      have c5 := HI1.out.note.cell 5 (x := .int .i64 x.ln) rfl
      clear HLM hp HA1 HA2
      go_wp2_with fail
      (with_reducible refine (HLM2 _ HI1.out.bel).out.mono ?_)
      rintro e w4 ⟨rfl, hB4⟩
      clear c3 c4 c5
      have HI4 := hid (HI1.out.below hB4)
      clear hB4 HLM2 HI1
      go_wp2_with fail
      go_meet
      exact ⟨by rw [HV.out], HI4⟩
  case rest =>
    obtain ⟨rfl, HI2⟩ := hcut
    clear HI1 HLM HA1 HA2 hl1h
    have c2 := HI2.out.note.cell 2 (x := .int .i64 x.pl) rfl
    go_upto_block 0 with fail
    clear c2
    go_cut [5] from 35 to 46 (fun v wx => v = .string S2 ∧ Hid (wc = wx))
    case first =>
      clear HC1 HC2 HD1 HPN HPE HPS
      rcases HP14.out with hp | hp | hp | hp
      · have p2 : (x.pl == 2) = false := by rw [hp]; rfl
        have p3 : (x.pl == 3) = false := by rw [hp]; rfl
        have p4 : (x.pl == 4) = false := by rw [hp]; rfl
        have HV := hid (HB1.out hp)
        clear hp HB1 HB2 HB3 HB4 HP14
        go_wp2_with fail
        go_meet
        exact ⟨by rw [HV.out], rfl⟩
      · have p2 : (x.pl == 2) = true := by rw [hp]; rfl
        have HV := hid (HB2.out hp)
        clear hp HB1 HB2 HB3 HB4 HP14
        go_wp2_with fail
        go_meet
        exact ⟨by rw [HV.out], rfl⟩
      · have p2 : (x.pl == 2) = false := by rw [hp]; rfl
        have p3 : (x.pl == 3) = true := by rw [hp]; rfl
        have HV := hid (HB3.out hp)
        clear hp HB1 HB2 HB3 HB4 HP14
        go_wp2_with fail
        go_meet
        exact ⟨by rw [HV.out], rfl⟩
      · have p2 : (x.pl == 2) = false := by rw [hp]; rfl
        have p3 : (x.pl == 3) = false := by rw [hp]; rfl
        have p4 : (x.pl == 4) = true := by rw [hp]; rfl
        have HV := hid (HB4.out hp)
        clear hp HB1 HB2 HB3 HB4 HP14
        go_wp2_with fail
        go_meet
        exact ⟨by rw [HV.out], rfl⟩
    case rest =>
      obtain ⟨rfl, hwc⟩ := hcut
      obtain rfl := hwc.out
      clear hwc HB1 HB2 HB3 HB4 HP14
      obtain ⟨bp, hbp⟩ : ∃ b, b = x.pos := ⟨_, rfl⟩
      have c6 := HI2.out.note.cell 6 (x := .bool x.pos) rfl
      rw [← hbp] at c6
      have HBP := hid hbp
      clear hbp
      go_upto_if 48 with fail
      clear c6
      go_cut [5] from 47 to 55 (fun v wx => v = .string S3 ∧ Hid (PqI x (.slice au x.sup.length cu) (.slice av x.vs.length cv) w wx))
      case first =>
        clear HD1 HPN HPE HPS
        cases bp with
        | false =>
          have HV := hid (HC1.out HBP.out.symm)
          clear HBP HC1 HC2
          go_wp2_with fail
          go_meet
          exact ⟨by rw [HV.out], HI2⟩
        | true =>
          have HV := hid (HC2.out HBP.out.symm)
          have c7 := HI2.out.note.cell 7 (x := .slice au x.sup.length cu) rfl
          have HJ2 := hid (HJS _ HI2.out.bel)
          clear HBP HC1 HC2 HJS
          generalize joinB x.sup = js at *
          go_wp2_with fail
          (with_reducible refine HJ2.out.out.mono ?_)
          rintro e w4 ⟨rfl, hB4⟩
          have HI4 := hid (HI2.out.below hB4)
          clear hB4 HJ2 HI2 c7
          go_wp2_with fail
          go_meet
          exact ⟨by rw [HV.out], HI4⟩
      case rest =>
        obtain ⟨rfl, HI3⟩ := hcut
        clear HI2 HC1 HC2 HJS
        obtain ⟨S4, hS4⟩ : ∃ S, S = S3 ++ ⟨#[32, 93]⟩ := ⟨_, rfl⟩
        have hz4 : S4.size ≤ 1000110 := by rw [hS4, ByteArray.size_append]; have : (⟨#[32, 93]⟩ : ByteArray).size = 2 := rfl; omega
        obtain ⟨ov, hcv, ho, hb⟩ := OwB2.made wc S4 (by omega)
        obtain ⟨ob, oc, rfl⟩ := ho.slice
        have hws : w.heap.size + 1 ≤ wc.heap.size := HI3.out.note.lt
        have HI4 := hid (HI3.out.below hb)
        have HT0 : Hid (S4.data.toList = (joinB ((frontL x ++ [behB]) ++ varsV (x.vs.take 0))).data.toList) := by show _ = _; rw [hS4, HD1.out, List.take_zero, varsV, List.append_nil]
        have HO4 : Hid (OwB2 (w.heap.size + 1) (Lib.bytesWorld wc 5 S4) (.slice ob S4.data.toList.length oc) S4.data.toList) := OwnN.mono ho hws
        have hSL : S4.data.toList.length = S4.size := rfl
        have hTZ : S4.data.toList.length ≤ 700000 * (0 + 2) := by omega
        clear ho hb HD1 HI3 hz1 hz2 hws hSL
        generalize S4.data.toList = T0 at *
        generalize Lib.bytesWorld wc 5 S4 = W5 at *
        rw [hS4] at hcv
        clear hS4 hz4
        have HA : Hid ((frontL x ++ [behB]) ≠ []) := by simp [Hid]
        generalize frontL x ++ [behB] = A at *
        obtain ⟨_, _, he8, _, _, hcell⟩ : ∃ a cap, Value.slice av x.vs.length cv = .slice a x.vs.length cap ∧ True ∧ True ∧ ∀ i, i < x.vs.length → ∃ y b off u s, x.vs[i]? = some y ∧ a = some ⟨b, off, none⟩ ∧ w.cell? ⟨b, off + i * 2, none⟩ = some u ∧ w.cell? ⟨b, off + i * 2 + 1, none⟩ = some s ∧ RdS w u y.ws ∧ RdS w s y.sg := ⟨av, cv, rfl, trivial, trivial, HVC.out⟩
        simp only [Value.slice.injEq] at he8
        obtain ⟨rfl, _, rfl⟩ := he8
        have HCL := hid hcell
        clear hcell HVC HRD
        generalize hvsl : x.vs = vs at *
        have HVSL := hid hvsl
        clear hvsl
        go_upto_region 18 with fail
        clear hcv
        go_wp2_with fail
        go_loopw [8, 9] (fun ov iv wr => ∃ (k : Nat) (T : List UInt8) (b : Option Addr) (c : Nat), k ≤ vs.length ∧ T.length ≤ 700000 * (k + 2) ∧ ov = .slice b T.length c ∧ iv = .int .i64 k ∧ Hid (T = (joinB (A ++ varsV (vs.take k))).data.toList) ∧ Hid (OwB2 (w.heap.size + 1) wr (.slice b T.length c) T) ∧ Hid (PqI x (.slice au x.sup.length cu) (.slice av vs.length cv) w wr)) (fun _ iv _ => vs.length - (intOf iv).toNat)
        case atStart => exact ⟨0, T0, ob, oc, Nat.zero_le _, hTZ, rfl, rfl, HT0.out, HO4.out, HI4.out⟩
        case round =>
          rename_i wr
          obtain ⟨k, T, b, c, hk, hTk, rfl, rfl, HT, HO, HI⟩ := hrel
          clear HT0 HO4 HI4 hTZ
          have hvl := HVL.out
          have c8 := HI.out.note.cell 8 (x := .slice av vs.length cv) rfl
          by_cases hlt : k < vs.length
          · obtain ⟨y, bv, o, vw, vg, hx, rfl, d0, d1, rw0, rs0⟩ := HCL.out k hlt
            have hki : (k : Int) < (vs.length : Int) := by omega
            have hk0 : (0 : Int) ≤ (k : Int) := by omega
            have HX := hid hx
            have hok := HNV.out y (List.mem_of_getElem? hx)
            have j1 := joinB_len (fun s hs => wordB_66 (hok.ws s hs))
            have j2 := joinB_len (fun s hs => (sig_brc (hok.sg s hs)).2.1)
            have j3 : y.ws.length * (66 + 1) ≤ 4096 * (66 + 1) := Nat.mul_le_mul hok.wl (Nat.le_refl _)
            have j4 : y.sg.length * (16 + 1) ≤ 4096 * (16 + 1) := Nat.mul_le_mul hok.sl (Nat.le_refl _)
            have hqz := quote_size hok.ws hok.wl
            have hgz : (joinB y.sg).size ≤ 300000 := by omega
            have HQ := fun w' (h : Below w.heap.size w w') => hid (rquoted_any vw y.ws w' (rw0.below h) (by omega))
            have HJ := fun w' (h : Below w.heap.size w w') => hid (rjoin_any vg y.sg w' (rs0.below h) (by omega))
            have EQ := enters_of Tryz.func73 (by kernel_rfl) rfl
            have EJ := enters_of Tryz.func72 (by kernel_rfl) rfl
            have HSD := hid (stepD HA.out hx HT.out)
            have HD0 := hid d0
            have HD1 := hid d1
            clear j1 j2 j3 j4 hok hx d0 d1 HT
            obtain ⟨aw, cw, rfl, hlw, hmw, _⟩ := rw0.open
            obtain ⟨ag, cg, rfl, hlg, hmg, _⟩ := rs0.open
            clear rw0 rs0
            generalize quoteB y.ws = qv at *
            generalize joinB y.sg = jv at *
            generalize y.ws.length = nw at *
            generalize y.sg.length = ng at *
            go_upto_if 67 with fail
            clear c8
            go_cut [8] from 66 to 69 (fun ov wx => ∃ (T1 : List UInt8) (b : Option Addr) (c : Nat), T1.length ≤ 700000 * (k + 2) + 2 ∧ ov = .slice b T1.length c ∧ Hid (T1 = T ++ (if k = 0 then [] else [32, 124])) ∧ Hid (OwB2 (w.heap.size + 1) wx (.slice b T1.length c) T1) ∧ Hid (PqI x (.slice au x.sup.length cu) (.slice (some ⟨bv, o, none⟩) vs.length cv) w wx))
            case first =>
              by_cases hk1 : k = 0
              · have hk1i : ¬ (0 : Int) < (k : Int) := by omega
                have HV : Hid (T = T ++ (if k = 0 then [] else [32, 124])) := by show _ = _; rw [if_pos hk1, List.append_nil]
                clear hk1
                go_wp2_with fail
                go_meet
                exact ⟨T, b, c, by omega, rfl, HV.out, HO.out, HI.out⟩
              · have hk1i : (0 : Int) < (k : Int) := by omega
                have HV : Hid (T ++ (⟨#[32, 124]⟩ : ByteArray).data.toList = T ++ (if k = 0 then [] else [32, 124])) := by show _ = _; rw [if_neg hk1]
                have hown := HO.out
                have hsz : w.heap.size + 1 ≤ wr.heap.size := HI.out.note.lt
                have hcs : (⟨#[32, 124]⟩ : ByteArray).size = 2 := rfl
                clear hk1
                go_wp2_with (at_builtin; refine wpList_apn rfl _ _ rfl (w.heap.size + 1) (.slice b T.length c) T rfl ⟨#[32, 124]⟩ rfl hown (by omega) hsz ?_; intro v' w3 hown2 hb2)
                have HI2 := hid (HI.out.ap hb2)
                obtain ⟨b3, c3, rfl⟩ := hown2.slice
                have HO2 := hid hown2
                clear hown hown2 hb2 HI HO
                have hle : (T ++ (⟨#[32, 124]⟩ : ByteArray).data.toList).length ≤ 700000 * (k + 2) + 2 := by rw [List.length_append]; have : (⟨#[32, 124]⟩ : ByteArray).data.toList.length = 2 := rfl; omega
                go_wp2_with fail
                go_meet
                exact ⟨_, b3, c3, hle, by simp, HV.out, HO2.out, HI2.out⟩
            case rest =>
              obtain ⟨T1, b1, c1, hT1, rfl, HT1, HO1, HI1⟩ := hcut
              clear HO HI
              rw [← HT1.out] at HSD
              have e8 := HI1.out.note.cell 8 (x := .slice (some ⟨bv, o, none⟩) vs.length cv) rfl
              have e0 := Below.keeps HI1.out.bel _ _ HD0.out
              have e1 := Below.keeps HI1.out.bel _ _ HD1.out
              go_upto_region 23 with fail
              have hI := HI1.out
              have hO := HO1.out
              have hcs : (⟨#[32]⟩ : ByteArray).size = 1 := rfl
              have hcs2 : (⟨#[32, 123]⟩ : ByteArray).size = 2 := rfl
              have hcs3 : (⟨#[125]⟩ : ByteArray).size = 1 := rfl
              have m1 : ¬ 9223372036854775807 < 1 + qv.size := by omega
              have m2 : ¬ 9223372036854775807 < 1 + qv.size + 2 := by omega
              have m3 : ¬ 9223372036854775807 < 1 + qv.size + 2 + jv.size := by omega
              have m4 : ¬ 9223372036854775807 < 1 + qv.size + 2 + jv.size + 1 := by omega
              obtain ⟨T2, hT2⟩ : ∃ T2, T2 = T1 ++ (((((⟨#[32]⟩ : ByteArray) ++ qv) ++ ⟨#[32, 123]⟩) ++ jv) ++ ⟨#[125]⟩).data.toList := ⟨_, rfl⟩
              have HT2 : Hid (T2 = (joinB (A ++ varsV (vs.take (k + 1)))).data.toList) := by show _ = _; rw [hT2]; exact HSD.out
              have HL2 : Hid (T2.length ≤ 700000 * ((k + 1) + 2)) := by
                show _ ≤ _
                rw [hT2, List.length_append]
                have : (((((⟨#[32]⟩ : ByteArray) ++ qv) ++ ⟨#[32, 123]⟩) ++ jv) ++ ⟨#[125]⟩).data.toList.length = (((((⟨#[32]⟩ : ByteArray) ++ qv) ++ ⟨#[32, 123]⟩) ++ jv) ++ ⟨#[125]⟩).size := rfl
                rw [this]
                simp only [ByteArray.size_append]
                omega
              have HE2 := hid hT2
              clear HI1 HO1 hT2 HSD
              go_region_law (first
                | (refine step_callB rfl 73 EQ (.tmp 76) #[23] rfl (.slice aw nw cw) (by simp [Act.eval, Act.put]) (.string qv) (HQ _ (PqI.bel (by first | exact hI | exact PqI.drew hI))).out ?_; intro w6 hB6; have z0 := Below.keeps hB6 _ _ e8; have z1 := Below.keeps hB6 _ _ e1; have z2 := PqI.below (by first | exact hI | exact PqI.drew hI) hB6; have z3 := OwnN.below (by exact hO) hB6)
                | (refine step_callB rfl 72 EJ (.tmp 85) #[23] rfl (.slice ag ng cg) (by simp [Act.eval, Act.put]) (.string jv) (HJ _ (PqI.bel (by first | with_reducible assumption | (with_reducible refine PqI.drew ?_; with_reducible assumption)))).out ?_; intro w7 hB7; have z4 := PqI.below (by first | with_reducible assumption | (with_reducible refine PqI.drew ?_; with_reducible assumption)) hB7; have z5 := OwnN.below z3 hB7)
                | (refine step_apn rfl (.tmp 70) (.tmp 88) rfl (w.heap.size + 1) (.slice b1 T1.length c1) T1 (by simp [Act.eval, Act.put]) (((((⟨#[32]⟩ : ByteArray) ++ qv) ++ ⟨#[32, 123]⟩) ++ jv) ++ ⟨#[125]⟩) (by simp [Act.eval, Act.put]) z5 ?_ ?_ ?_; (focus (simp only [ByteArray.size_append]; omega)); (focus (exact z4.note.lt)); intro v9 w9 ho9 hb9; have HI9 := hid (PqI.ap z4 hb9); have HO9 := hid ho9))
              all_goals clear m1 m2 m3 m4
              all_goals rw [← HE2.out] at ho9
              all_goals (obtain ⟨b9, c9, rfl⟩ := ho9.slice)
              all_goals (have HO9 := hid ho9)
              all_goals clear ho9 hb9 z4 z5 hT1 hTk
              all_goals (go_wp2_with fail; go_roundw)
              all_goals (first | (simp [intOf]; omega; done) | (exact ⟨k + 1, T2, b9, c9, by omega, HL2.out, rfl, by go_num, HT2.out, HO9.out, HI9.out⟩))
          · have hki : ¬ (k : Int) < (vs.length : Int) := by omega
            have hke : k = vs.length := by omega
            have HJ : Hid ((⟨T.toArray⟩ : ByteArray) = prN x) := by
              show _ = _
              rw [← HPN.out]
              refine ba_ext ?_
              rw [HT.out, hke, List.take_length]
            have HTS : Hid (T.length = (prN x).size) := by
              show _ = _
              rw [← HJ.out]
              simp [ByteArray.size]
            obtain ⟨bb, cc, hbc, hcv⟩ := HO.out.conv
            cases hbc
            have HB9 := hid HI.out.bel
            have hts := HTS.out
            clear HT HO HI hke HTS hTk
            generalize (⟨T.toArray⟩ : ByteArray) = J at *
            by_cases hbig : 65536 < T.length
            · have hbi : (65536 : Int) < (T.length : Int) := by omega
              have HV : Hid (prE x = 4) := by show _ = _; rw [HPE.out, ← hts, if_pos hbig]
              have HV2 : Hid (prS x = ⟨#[]⟩) := by show _ = _; rw [HPS.out, HV.out]; rfl
              clear HPE HPS hts hbig hcv
              go_wp2
              go_ret2
              exact ⟨by rw [HV.out, HV2.out]; rfl, HB9.out⟩
            · have hbi : ¬ (65536 : Int) < (T.length : Int) := by omega
              have HV : Hid (prE x = 0) := by show _ = _; rw [HPE.out, ← hts, if_neg hbig]
              have HV2 : Hid (prS x = J) := by show _ = _; rw [HPS.out, HV.out, if_pos rfl]; exact HJ.out.symm
              clear HPE HPS hts hbig
              go_wp2
              go_ret2
              exact ⟨by rw [HV.out, HV2.out]; rfl, HB9.out⟩
theorem rprt_any (x : Nt) (u s : Value) (w : World) (he : Env w) (hr : RdN w u s x) (hz : SzN x) :
    Calls Tryz.prog 28 #[.agg (x.cells u s)] w fun e w' => e = .returned (.tuple #[.string (prS x), .int .i64 (prE x)]) ∧ Below w.heap.size w w' := by
  by_cases h0 : nteI x = 0
  · exact rprt45_ok x u s w he hr hz h0
  · have HB0 := hid (below_al w (.cells (x.cells u s) 30))
    have HR0 := hid (row_nw w (x.cells u s) 30 rfl)
    have HC := hid (rchk_any x u s _ (he.below HB0.out) (hr.below HB0.out) hz)
    have hb : (nteI x == 0) = false := beq_eq_false_iff_ne.2 h0
    have hb2 : (nteI x != 0) = true := bne_iff_ne.2 h0
    have HV : Hid (prE x = nteI x) := by show _ = _; unfold prE; rw [if_neg h0]
    have HV2 : Hid (prS x = ⟨#[]⟩) := by show _ = _; unfold prS; rw [HV.out, if_neg h0]
    clear h0 he
    obtain ⟨au, cu, rfl, hlu, hmu, _⟩ := hr.rs.open
    obtain ⟨av, cv, rfl, hlv, hmv, _⟩ := hr.rv.open
    clear hr
    generalize prE x = pe at *
    generalize prS x = ps at *
    generalize nteI x = ne at *
    unfold Nt.cells at *
    go_enter Tryz.func28, Tryz.ntmps28
    go_wp2_with fail
    (with_reducible refine HC.out.mono ?_)
    rintro e w1 ⟨rfl, hB1⟩
    go_wp2
    go_ret2
    exact ⟨by rw [HV.out, HV2.out]; rfl, below_tr HB0.out hB1⟩
end Go.Proofs.YtjhdeoniafahbaaGreatDoor
