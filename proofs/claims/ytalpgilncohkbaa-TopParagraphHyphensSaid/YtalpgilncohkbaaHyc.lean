/-
  hyphenation.checkPattern, hyphenation.Check.
-/
import Derived.Test.YtalpgilncohkbaaHya
import Derived.Test.YtalpgilncohkbaaFnI
import Derived.Deep.RegionHeld3
import Derived.Deep.CutRange
import Derived.Sort.CutIn
namespace Go.Proofs.Ytalpgilncohkbaa
open Go.RowKit

theorem Rd.open51 {α : Type} {enc : α → Value} {W : World} {a : Option Addr} {c n : Nat} {l : List α} (h : Rd enc W (.slice a n c) l) {i : Nat} (hi : i < l.length) : ∃ x b off, l[i]? = some x ∧ a = some ⟨b, off, none⟩ ∧ W.cell? ⟨b, off + i, none⟩ = some (enc x) := by
  obtain ⟨a', c', e1, _, _, e4⟩ := h
  cases e1
  obtain ⟨b, off, e, hc⟩ := e4 i _ (List.getElem?_eq_getElem hi)
  exact ⟨_, b, off, List.getElem?_eq_getElem hi, e, hc⟩
def dotB : ByteArray := ⟨#[46]⟩
def ownP (L : ByteArray) : ByteArray := trimSufB (trimPreB L dotB) dotB
def onlyC (c : UInt8) : Bool := decide (kindI c.toNat = 1) || decide (kindI c.toNat = 2) || decide (kindI c.toNat = 4)
def notMk (c : UInt8) : Bool := decide (kindI c.toNat ≠ 2)
def badLv (n : Int) : Bool := decide (n < 0) || decide (9 < n)
def rngP (L : ByteArray) (V : List Int) : Bool := V.any badLv || (hasPreB L dotB && decide (V.getD 0 0 ≠ 0)) || (hasSufB L dotB && decide (V.getD (V.length - 1) 0 ≠ 0))
/-- Why a pattern is not valid. -/
def ckPat (L : ByteArray) (V : List Int) : Int :=
  if 64 < L.size then 4
  else if (ownP L).data.toList.all onlyC = false then 11
  else if chkB (ownP L) = false then 11
  else if (ownP L).data.toList.any notMk = false then 5
  else if V.length ≠ clN L + 1 then 9
  else if rngP L V = true then 2 else 0
theorem ownP_le (L : ByteArray) : (ownP L).size ≤ L.size := Nat.le_trans (trimSufB_le _ _) (trimPreB_le _ _)
/-- What is known of a valid pattern. -/
theorem ckPat_ok {L : ByteArray} {V : List Int} (h : ckPat L V = 0) : L.size ≤ 64 ∧ V.length = clN L + 1 ∧ V.any badLv = false := by
  unfold ckPat at h
  repeat' split at h
  all_goals first | (exact absurd h (by decide)) | skip
  rename_i h1 h2 h3 h4 h5 h6
  refine ⟨by omega, Classical.not_not.1 h5, ?_⟩
  unfold rngP at h6
  cases hv : V.any badLv with
  | true => rw [hv] at h6; simp at h6
  | false => rfl
set_option maxHeartbeats 1000000 in
theorem only_any (c : UInt8) (w : World) : Calls Try.prog 57 #[.int .u8 (c.toNat : Int)] w fun e w' => e = .returned (.bool (onlyC c)) ∧ w = w' := by
  have hu := byte_bd c
  have HK := fun w' => hid (kind_any (c.toNat : Int) hu.1 hu.2 w')
  have HV : Hid (onlyC c = (decide (kindI c.toNat = 1) || decide (kindI c.toNat = 2) || decide (kindI c.toNat = 4))) := rfl
  generalize kindI c.toNat = k at *
  by_cases h1 : k = 1
  · subst h1
    go_enter Try.func57, Try.ntmps57
    go_wp2_with fail
    refine (HK _).out.mono ?_
    rintro e w1 ⟨rfl, rfl⟩
    go_wp2
    go_ret
    exact ⟨ret_bool (by rw [HV.out]; rfl), rfl⟩
  have g1 : (k == 1) = false := beq_eq_false_iff_ne.2 h1
  by_cases h2 : k = 2
  · subst h2
    go_enter Try.func57, Try.ntmps57
    go_wp2_with fail
    refine (HK _).out.mono ?_
    rintro e w1 ⟨rfl, rfl⟩
    go_wp2
    go_ret
    exact ⟨ret_bool (by rw [HV.out]; rfl), rfl⟩
  have g2 : (k == 2) = false := beq_eq_false_iff_ne.2 h2
  have HV2 : Hid (onlyC c = decide (k = 4)) := by show _ = _; rw [HV.out, decide_eq_false h1, decide_eq_false h2]; rfl
  clear HV h1 h2
  by_cases h4 : k = 4
  · subst h4
    go_enter Try.func57, Try.ntmps57
    go_wp2_with fail
    refine (HK _).out.mono ?_
    rintro e w1 ⟨rfl, rfl⟩
    go_wp2
    go_ret
    exact ⟨ret_bool (by rw [HV2.out]; rfl), rfl⟩
  have g4 : (k == 4) = false := beq_eq_false_iff_ne.2 h4
  rw [decide_eq_false h4] at HV2
  clear h4
  go_enter Try.func57, Try.ntmps57
  go_wp2_with fail
  refine (HK _).out.mono ?_
  rintro e w1 ⟨rfl, rfl⟩
  go_wp2
  go_ret
  exact ⟨ret_bool (by rw [HV2.out]), rfl⟩
set_option maxHeartbeats 1000000 in
theorem lvl_any (x : Int) (w : World) : Calls Try.prog 59 #[.int .i64 x] w fun e w' => e = .returned (.bool (badLv x)) ∧ Below w.heap.size w w' := by
  have HV : Hid (badLv x = (decide (x < 0) || decide (9 < x))) := rfl
  by_cases h1 : x < 0
  · rw [decide_eq_true h1] at HV
    go_enter Try.func59, Try.ntmps59
    go_wp2
    go_ret
    exact ⟨ret_bool HV.out.symm, Below.refl _ _⟩
  · rw [decide_eq_false h1, Bool.false_or] at HV
    go_enter Try.func59, Try.ntmps59
    go_wp2
    go_ret
    exact ⟨ret_bool HV.out.symm, Below.refl _ _⟩
theorem all_step {α : Type} {p : α → Bool} {l : List α} {k : Nat} {x : α} (h : (l.take k).all p = true) (hx : l[k]? = some x) (hp : p x = true) : (l.take (k + 1)).all p = true := by
  rw [List.take_add_one, hx, List.all_append, h]
  simp [hp]
theorem all_fail {α : Type} {p : α → Bool} {l : List α} {k : Nat} {x : α} (hx : l[k]? = some x) (hp : p x = false) : l.all p = false := by
  rw [List.all_eq_false]
  exact ⟨x, List.mem_of_getElem? hx, by rw [hp]; exact Bool.false_ne_true⟩
theorem any_step {α : Type} {p : α → Bool} {l : List α} {k : Nat} {x : α} (hx : l[k]? = some x) : (l.take (k + 1)).any p = ((l.take k).any p || p x) := by
  rw [List.take_add_one, hx, List.any_append]
  simp

set_option maxRecDepth 100000 in
set_option maxHeartbeats 4000000 in
theorem ckpat_any (L : ByteArray) (v : Value) (V : List Int) (w : World) (hL : L.size ≤ maxLen) (hv : RdI w v V) :
    Calls Try.prog 42 #[.agg #[.string L, v]] w fun e w' => e = .returned (.int .i64 (ckPat L V)) ∧ Below w.heap.size w w' := by
  have HV : Hid (ckPat L V = if 64 < L.size then 4 else if (ownP L).data.toList.all onlyC = false then 11 else if chkB (ownP L) = false then 11 else if (ownP L).data.toList.any notMk = false then 5 else if V.length ≠ clN L + 1 then 9 else if rngP L V = true then 2 else 0) := rfl
  have HB0 := hid (below_al w (.cells #[.string L, v] 50))
  have HR0 := hid (row_nw w #[.string L, v] 50 rfl)
  have HV0 := hid (hv.below HB0.out)
  obtain ⟨av, cv, rfl, hcl, hcm, _⟩ := hv.open
  clear hv
  unfold maxLen at hL
  by_cases h64 : 64 < L.size
  · have g1 : (64 : Int) < (L.size : Int) := by omega
    rw [if_pos h64] at HV
    have c0 := HR0.out.cell 0 (x := .string L) rfl
    go_enter Try.func42, Try.ntmps42
    go_wp2
    go_ret
    exact ⟨by rw [HV.out]; rfl, HB0.out⟩
  rw [if_neg h64] at HV
  have g1 : ¬ (64 : Int) < (L.size : Int) := by omega
  have HT1 := fun w' => hid (trimPre_any L dotB w' (by omega) (by decide +kernel))
  have hs1 := trimPreB_le L dotB
  have HT2 := fun w' => hid (trimSuf_any (trimPreB L dotB) dotB w' (by omega) (by decide +kernel))
  have hos := ownP_le L
  have eO : trimSufB (trimPreB L dotB) dotB = ownP L := rfl
  rw [eO] at HT2
  have eD : dotB = ⟨#[46]⟩ := rfl
  rw [eD] at HT1 HT2
  generalize trimPreB L ⟨#[46]⟩ = O1 at *
  obtain ⟨o, ho⟩ : ∃ o, o = ownP L := ⟨_, rfl⟩
  rw [← ho] at HV HT2 hos
  clear eO hs1 ho h64 eD
  have HON := fun c w' => hid (only_any c w')
  have c0 := HR0.out.cell 0 (x := .string L) rfl
  have hd : o.data.toList.length = o.size := rfl
  go_enter Try.func42, Try.ntmps42
  go_wp2_with (first
    | (go_at_call 56; refine (HT1 _).out.mono ?_; rintro e w1 ⟨rfl, rfl⟩)
    | (go_at_call 55; refine (HT2 _).out.mono ?_; rintro e w1 ⟨rfl, rfl⟩))
  generalize w.alloc (.cells #[.string L, .slice av V.length cv] 50) = W1 at *
  obtain ⟨B, hB⟩ : ∃ B, B = w.heap.size := ⟨_, rfl⟩
  rw [← hB] at HR0 ⊢
  have HBB := hid hB
  clear hB c0
  go_loop [5, 17] (fun b i => ∃ (k : Nat) (sm : Bool), k ≤ o.size ∧ i = .int .i64 k ∧ b = .bool sm ∧ Hid ((o.data.toList.take k).all onlyC = true) ∧ Hid (sm = (o.data.toList.take k).any notMk)) (fun _ i => o.size - (intOf i).toNat)
  case atStart => exact ⟨0, false, Nat.zero_le _, rfl, rfl, rfl, rfl⟩
  case round =>
    obtain ⟨k, sm, hk, rfl, rfl, HA, HS⟩ := hrel
    by_cases hlt : k < o.size
    · have hti : (k : Int) < (o.size : Int) := by omega
      have hk0 : (0 : Int) ≤ (k : Int) := by omega
      have hc : o.data.toList[k]? = some o[k] := by rw [List.getElem?_eq_getElem (by omega)]; rfl
      have hu := byte_bd o[k]
      have HO := fun w' => HON o[k] w'
      have HKi := fun w' => hid (kind_any (o[k].toNat : Int) hu.1 hu.2 w')
      have HC := hid hc
      clear hc
      cases hon : onlyC o[k] with
      | false =>
        have HE : Hid (ckPat L V = 11) := by show _ = _; rw [HV.out, if_pos (all_fail HC.out hon)]
        rw [hon] at HO
        clear hon HV
        go_wp2_with fail
        refine (HO _).out.mono ?_
        rintro e w1 ⟨rfl, rfl⟩
        go_wp2
        go_ret
        exact ⟨by rw [HE.out]; rfl, HB0.out⟩
      | true =>
        have HA2 := hid (all_step HA.out HC.out hon)
        have HS2 : Hid ((o.data.toList.take (k + 1)).any notMk = (sm || decide (kindI o[k].toNat ≠ 2))) := by
          show _ = _
          rw [any_step HC.out, HS.out]; rfl
        rw [hon] at HO
        clear hon HA HS HC
        cases sm with
        | true =>
          have HS3 : Hid (true = (o.data.toList.take (k + 1)).any notMk) := by show _ = _; rw [HS2.out]; rfl
          clear HS2
          go_wp2_with fail
          refine (HO _).out.mono ?_
          rintro e w1 ⟨rfl, rfl⟩
          go_wp2_with fail
          go_round
          case rel => exact ⟨k + 1, true, by omega, by go_num, rfl, HA2.out, HS3.out⟩
          case measure => simp [intOf]; omega
        | false =>
          rw [Bool.false_or] at HS2
          generalize kindI o[k].toNat = kk at *
          by_cases h2 : kk = 2
          · subst h2
            go_wp2_with fail
            refine (HO _).out.mono ?_
            rintro e w1 ⟨rfl, rfl⟩
            go_wp2_with fail
            refine (HKi _).out.mono ?_
            rintro e w1 ⟨rfl, rfl⟩
            go_wp2_with fail
            go_round
            case rel => exact ⟨k + 1, false, by omega, by go_num, rfl, HA2.out, HS2.out.symm⟩
            case measure => simp [intOf]; omega
          · have g2 : (kk != 2) = true := bne_iff_ne.2 h2
            rw [decide_eq_true h2] at HS2
            clear h2
            go_wp2_with fail
            refine (HO _).out.mono ?_
            rintro e w1 ⟨rfl, rfl⟩
            go_wp2_with fail
            refine (HKi _).out.mono ?_
            rintro e w1 ⟨rfl, rfl⟩
            go_wp2_with fail
            go_round
            case rel => exact ⟨k + 1, true, by omega, by go_num, rfl, HA2.out, HS2.out.symm⟩
            case measure => simp [intOf]; omega
    · obtain rfl : k = o.size := by omega
      have hti : ¬ (o.size : Int) < (o.size : Int) := by omega
      have ht : o.data.toList.take o.size = o.data.toList := List.take_of_length_le (by omega)
      rw [ht] at HA HS
      rw [if_neg (by rw [HA.out]; simp)] at HV
      rw [← HS.out] at HV
      clear HA HS ht HON HT1 HT2
      have HCk := fun w' => hid (chk_any o w' (by omega))
      cases hck : chkB o with
      | false =>
        have HE : Hid (ckPat L V = 11) := by show _ = _; rw [HV.out, if_pos hck]
        rw [chkI_f hck] at HCk
        clear hck HV
        go_wp2_with fail
        refine (HCk _).out.mono ?_
        rintro e w1 ⟨rfl, hb1⟩
        go_wp2
        go_ret
        exact ⟨by rw [HE.out]; rfl, below_tr HB0.out hb1⟩
      | true =>
        rw [if_neg (by rw [hck]; simp)] at HV
        rw [chkI_t hck] at HCk
        clear hck
        cases sm with
        | false =>
          have HE : Hid (ckPat L V = 5) := by show _ = _; rw [HV.out, if_pos rfl]
          clear HV
          go_wp2_with fail
          refine (HCk _).out.mono ?_
          rintro e w1 ⟨rfl, hb1⟩
          go_wp2
          go_ret
          exact ⟨by rw [HE.out]; rfl, below_tr HB0.out hb1⟩
        | true =>
          rw [if_neg (by simp)] at HV
          go_wp2_with fail
          refine (HCk _).out.mono ?_
          rintro e w2 ⟨rfl, hb1⟩
          have HR2 := hid (HR0.out.below hb1)
          have HB2 := hid (below_tr HB0.out hb1)
          have HV2 := hid (HV0.out.below hb1)
          clear HR0 HB0 HV0 hb1 HCk
          go_upto_region 17 with fail
          have hcn := clN_le L
          have n1 : IntKind.i64.wrap ((clN L : Int) + 1) = (clN L : Int) + 1 := IntWalk.i64_in _ (by omega)
          have HUN := fun w' => hid (hunits_any L w' (by omega))
          go_cut [48] from 40 to 49 (fun x wx => x = .bool (decide (V.length ≠ clN L + 1)) ∧ Hid (Below w2.heap.size w2 wx))
          case first =>
            have HSh : Hid (∀ w' : World, Below w2.heap.size w2 w' → w'.cell? ⟨B, 0, none⟩ = some (.string L) ∧ w'.cell? ⟨B, 1, none⟩ = some (.slice av V.length cv) ∧ Below w2.heap.size w2 w') := fun w' h => ⟨Below.keeps h _ _ (HR2.out.cell 0 rfl), Below.keeps h _ _ (HR2.out.cell 1 rfl), h⟩
            have hbr := HSh.out _ (Below.refl _ _)
            obtain ⟨c0, c1, hB2⟩ := hbr
            have HLN := hid (clL_len L)
            generalize clN L = cn at *
            by_cases hm : V.length = cn + 1
            · have n2 : ((V.length : Int) != (cn : Int) + 1) = false := bne_eq_false_iff_eq.2 (by omega)
              have n3 : decide (V.length ≠ cn + 1) = false := decide_eq_false (by simp [hm])
              have N3 := hid n3
              clear hm n3
              go_region_held3 (fun w' => w'.cell? ⟨B, 0, none⟩ = some (.string L) ∧ w'.cell? ⟨B, 1, none⟩ = some (.slice av V.length cv) ∧ Below w2.heap.size w2 w')
                (first | with_reducible exact HSh.out _ hB2 | with_reducible exact HSh.out _ (by with_reducible assumption) | with_reducible exact HSh.out _ (Below.drew hB2) | with_reducible exact HSh.out _ (Below.drew (by with_reducible assumption)))
                (first
                  | (go_at_call 40; go_split_ands; (with_reducible refine (HUN _).out.mono ?_); rintro e wz ⟨vz, rfl, hvz, hBz⟩; obtain ⟨az, cz, rfl, _⟩ := hvz.open; rw [HLN.out]; have zs := below_tr (by with_reducible assumption : Below w2.heap.size w2 _) hBz))
              all_goals go_split_ands
              all_goals go_wp2_with fail
              all_goals go_meet
              all_goals exact ⟨by rw [N3.out], hid (by with_reducible first | assumption | exact Below.drew (by with_reducible assumption))⟩
            · have n2 : ((V.length : Int) != (cn : Int) + 1) = true := bne_iff_ne.2 (by omega)
              have n3 : decide (V.length ≠ cn + 1) = true := decide_eq_true hm
              have N3 := hid n3
              clear hm n3
              go_region_held3 (fun w' => w'.cell? ⟨B, 0, none⟩ = some (.string L) ∧ w'.cell? ⟨B, 1, none⟩ = some (.slice av V.length cv) ∧ Below w2.heap.size w2 w')
                (first | with_reducible exact HSh.out _ hB2 | with_reducible exact HSh.out _ (by with_reducible assumption) | with_reducible exact HSh.out _ (Below.drew hB2) | with_reducible exact HSh.out _ (Below.drew (by with_reducible assumption)))
                (first
                  | (go_at_call 40; go_split_ands; (with_reducible refine (HUN _).out.mono ?_); rintro e wz ⟨vz, rfl, hvz, hBz⟩; obtain ⟨az, cz, rfl, _⟩ := hvz.open; rw [HLN.out]; have zs := below_tr (by with_reducible assumption : Below w2.heap.size w2 _) hBz))
              all_goals go_split_ands
              all_goals go_wp2_with fail
              all_goals go_meet
              all_goals exact ⟨by rw [N3.out], hid (by with_reducible first | assumption | exact Below.drew (by with_reducible assumption))⟩
          case rest =>
            obtain ⟨rfl, HB3⟩ := hcut
            have HR3 := hid (HR2.out.below HB3.out)
            have HB4 := hid (below_tr HB2.out HB3.out)
            have HV3 := hid (HV2.out.below HB3.out)
            clear HR2 HB2 HV2 HB3 HUN n1
            by_cases hm : V.length = clN L + 1
            case neg =>
              have HE : Hid (ckPat L V = 9) := by show _ = _; rw [HV.out, if_pos hm]
              have n3 : decide (V.length ≠ clN L + 1) = true := decide_eq_true hm
              rw [n3]
              clear HV hm n3
              go_wp2
              go_ret
              exact ⟨by rw [HE.out]; rfl, HB4.out⟩
            case pos =>
              rw [if_neg (by simp [hm])] at HV
              have n3 : decide (V.length ≠ clN L + 1) = false := decide_eq_false (by simp [hm])
              have hpos : 0 < V.length := by omega
              rw [n3]
              clear hm n3 hcn
              have HCF := hid (containsFuncI0_any 59 (fun _ _ => rfl) badLv _ V wc HV3.out (fun x W' _ => lvl_any x W'))
              have HPR := fun w' => hid (hasPre_any L dotB w' (by omega) (by decide +kernel))
              have HSU := fun w' => hid (hasSuf_any L dotB w' (by omega) (by decide +kernel))
              have eD : dotB = ⟨#[46]⟩ := rfl
              have HRG : Hid (rngP L V = (V.any badLv || (hasPreB L dotB && decide (V.getD 0 0 ≠ 0)) || (hasSufB L dotB && decide (V.getD (V.length - 1) 0 ≠ 0)))) := rfl
              obtain ⟨x0, b0, o0, hx0, hav, k0⟩ := HV3.out.open51 hpos
              obtain ⟨x1, b1, o1, hx1, hav1, k1⟩ := HV3.out.open51 (i := V.length - 1) (by omega)
              rw [hav] at hav1
              cases hav1
              subst hav
              rw [List.getD_eq_getElem?_getD, List.getD_eq_getElem?_getD, hx0, hx1, Option.getD_some, Option.getD_some] at HRG
              rw [eD] at HPR HSU HRG
              generalize V.any badLv = A at *
              generalize hasPreB L ⟨#[46]⟩ = P at *
              generalize hasSufB L ⟨#[46]⟩ = U at *
              have c0 := HR3.out.cell 0 (x := .string L) rfl
              have c1 := HR3.out.cell 1 (x := .slice (some ⟨b0, o0, none⟩) V.length cv) rfl
              have e1 : IntKind.i64.wrap ((V.length : Int) - 1) = ((V.length - 1 : Nat) : Int) := by rw [IntWalk.i64_in _ (by omega)]; omega
              have e2 : (0 : Int) ≤ ((V.length - 1 : Nat) : Int) := by omega
              have e3 : ((V.length - 1 : Nat) : Int) < (V.length : Int) := by omega
              have e4 : (0 : Int) < (V.length : Int) := by omega
              rw [Nat.add_zero] at k0
              clear hx0 hx1 HV3 HR3 eD hcl
              generalize hvl : V.length - 1 = n1 at *
              clear hvl
              cases A with
              | true =>
                have HE : Hid (ckPat L V = 2) := by show _ = _; rw [HV.out, if_pos (by rw [HRG.out]; simp [*])]
                clear HV HRG
                go_wp2_with (first
                  | (go_at_call 58; refine HCF.out.mono ?_; rintro e w5 ⟨rfl, hb5⟩; have c05 := Below.keeps hb5 _ _ c0; have c15 := Below.keeps hb5 _ _ c1; have k05 := Below.keeps hb5 _ _ k0; have k15 := Below.keeps hb5 _ _ k1)
                  | (go_at_call 60; refine (HPR _).out.mono ?_; rintro e w6 ⟨rfl, rfl⟩)
                  | (go_at_call 61; refine (HSU _).out.mono ?_; rintro e w6 ⟨rfl, rfl⟩))
                go_ret
                exact ⟨by rw [HE.out]; rfl, below_tr HB4.out hb5⟩
              | false =>
                cases P with
                | false =>
                  cases U with
                  | false =>
                    have HE : Hid (ckPat L V = 0) := by show _ = _; rw [HV.out, if_neg (by rw [HRG.out]; simp [*])]
                    clear HV HRG
                    go_wp2_with (first
                      | (go_at_call 58; refine HCF.out.mono ?_; rintro e w5 ⟨rfl, hb5⟩; have c05 := Below.keeps hb5 _ _ c0; have c15 := Below.keeps hb5 _ _ c1; have k05 := Below.keeps hb5 _ _ k0; have k15 := Below.keeps hb5 _ _ k1)
                      | (go_at_call 60; refine (HPR _).out.mono ?_; rintro e w6 ⟨rfl, rfl⟩)
                      | (go_at_call 61; refine (HSU _).out.mono ?_; rintro e w6 ⟨rfl, rfl⟩))
                    go_ret
                    exact ⟨by rw [HE.out]; rfl, below_tr HB4.out hb5⟩
                  | true =>
                    by_cases z1 : x1 = 0
                    · subst z1
                      have HE : Hid (ckPat L V = 0) := by show _ = _; rw [HV.out, if_neg (by rw [HRG.out]; simp [*])]
                      clear HV HRG
                      go_wp2_with (first
                        | (go_at_call 58; refine HCF.out.mono ?_; rintro e w5 ⟨rfl, hb5⟩; have c05 := Below.keeps hb5 _ _ c0; have c15 := Below.keeps hb5 _ _ c1; have k05 := Below.keeps hb5 _ _ k0; have k15 := Below.keeps hb5 _ _ k1)
                        | (go_at_call 60; refine (HPR _).out.mono ?_; rintro e w6 ⟨rfl, rfl⟩)
                        | (go_at_call 61; refine (HSU _).out.mono ?_; rintro e w6 ⟨rfl, rfl⟩))
                      go_ret
                      exact ⟨by rw [HE.out]; rfl, below_tr HB4.out hb5⟩
                    · have z1b : (x1 != 0) = true := bne_iff_ne.2 z1
                      have HE : Hid (ckPat L V = 2) := by show _ = _; rw [HV.out, if_pos (by rw [HRG.out]; simp [*])]
                      clear HV HRG
                      go_wp2_with (first
                        | (go_at_call 58; refine HCF.out.mono ?_; rintro e w5 ⟨rfl, hb5⟩; have c05 := Below.keeps hb5 _ _ c0; have c15 := Below.keeps hb5 _ _ c1; have k05 := Below.keeps hb5 _ _ k0; have k15 := Below.keeps hb5 _ _ k1)
                        | (go_at_call 60; refine (HPR _).out.mono ?_; rintro e w6 ⟨rfl, rfl⟩)
                        | (go_at_call 61; refine (HSU _).out.mono ?_; rintro e w6 ⟨rfl, rfl⟩))
                      go_ret
                      exact ⟨by rw [HE.out]; rfl, below_tr HB4.out hb5⟩
                | true =>
                  by_cases z0 : x0 = 0
                  · subst z0
                    cases U with
                    | false =>
                      have HE : Hid (ckPat L V = 0) := by show _ = _; rw [HV.out, if_neg (by rw [HRG.out]; simp [*])]
                      clear HV HRG
                      go_wp2_with (first
                        | (go_at_call 58; refine HCF.out.mono ?_; rintro e w5 ⟨rfl, hb5⟩; have c05 := Below.keeps hb5 _ _ c0; have c15 := Below.keeps hb5 _ _ c1; have k05 := Below.keeps hb5 _ _ k0; have k15 := Below.keeps hb5 _ _ k1)
                        | (go_at_call 60; refine (HPR _).out.mono ?_; rintro e w6 ⟨rfl, rfl⟩)
                        | (go_at_call 61; refine (HSU _).out.mono ?_; rintro e w6 ⟨rfl, rfl⟩))
                      go_ret
                      exact ⟨by rw [HE.out]; rfl, below_tr HB4.out hb5⟩
                    | true =>
                      by_cases z1 : x1 = 0
                      · subst z1
                        have HE : Hid (ckPat L V = 0) := by show _ = _; rw [HV.out, if_neg (by rw [HRG.out]; simp [*])]
                        clear HV HRG
                        go_wp2_with (first
                          | (go_at_call 58; refine HCF.out.mono ?_; rintro e w5 ⟨rfl, hb5⟩; have c05 := Below.keeps hb5 _ _ c0; have c15 := Below.keeps hb5 _ _ c1; have k05 := Below.keeps hb5 _ _ k0; have k15 := Below.keeps hb5 _ _ k1)
                          | (go_at_call 60; refine (HPR _).out.mono ?_; rintro e w6 ⟨rfl, rfl⟩)
                          | (go_at_call 61; refine (HSU _).out.mono ?_; rintro e w6 ⟨rfl, rfl⟩))
                        go_ret
                        exact ⟨by rw [HE.out]; rfl, below_tr HB4.out hb5⟩
                      · have z1b : (x1 != 0) = true := bne_iff_ne.2 z1
                        have HE : Hid (ckPat L V = 2) := by show _ = _; rw [HV.out, if_pos (by rw [HRG.out]; simp [*])]
                        clear HV HRG
                        go_wp2_with (first
                          | (go_at_call 58; refine HCF.out.mono ?_; rintro e w5 ⟨rfl, hb5⟩; have c05 := Below.keeps hb5 _ _ c0; have c15 := Below.keeps hb5 _ _ c1; have k05 := Below.keeps hb5 _ _ k0; have k15 := Below.keeps hb5 _ _ k1)
                          | (go_at_call 60; refine (HPR _).out.mono ?_; rintro e w6 ⟨rfl, rfl⟩)
                          | (go_at_call 61; refine (HSU _).out.mono ?_; rintro e w6 ⟨rfl, rfl⟩))
                        go_ret
                        exact ⟨by rw [HE.out]; rfl, below_tr HB4.out hb5⟩
                  · have z0b : (x0 != 0) = true := bne_iff_ne.2 z0
                    have HE : Hid (ckPat L V = 2) := by show _ = _; rw [HV.out, if_pos (by rw [HRG.out]; simp [*])]
                    clear HV HRG
                    go_wp2_with (first
                      | (go_at_call 58; refine HCF.out.mono ?_; rintro e w5 ⟨rfl, hb5⟩; have c05 := Below.keeps hb5 _ _ c0; have c15 := Below.keeps hb5 _ _ c1; have k05 := Below.keeps hb5 _ _ k0; have k15 := Below.keeps hb5 _ _ k1)
                      | (go_at_call 60; refine (HPR _).out.mono ?_; rintro e w6 ⟨rfl, rfl⟩)
                      | (go_at_call 61; refine (HSU _).out.mono ?_; rintro e w6 ⟨rfl, rfl⟩))
                    go_ret
                    exact ⟨by rw [HE.out]; rfl, below_tr HB4.out hb5⟩
end Go.Proofs.Ytalpgilncohkbaa
