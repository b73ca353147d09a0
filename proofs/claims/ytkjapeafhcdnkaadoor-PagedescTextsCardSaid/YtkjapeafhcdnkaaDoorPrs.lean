/-
  pagedesc.Parse.
-/
import Derived.Test.YtkjapeafhcdnkaaDoorRd2
namespace Go.Proofs.YtkjapeafhcdnkaaDoor
open Go.RowKit

def kwI (s : ByteArray) : Nat := if s = kwB 1 then 1 else if s = kwB 2 then 2 else if s = kwB 3 then 3 else if s = kwB 4 then 4 else if s = kwB 5 then 5 else if s = kwB 6 then 6 else 0
theorem kwI_at {i : Nat} (h1 : 1 ≤ i) (h2 : i ≤ 6) : kwI (kwB i) = i := by
  have : i = 1 ∨ i = 2 ∨ i = 3 ∨ i = 4 ∨ i = 5 ∨ i = 6 := by omega
  rcases this with rfl | rfl | rfl | rfl | rfl | rfl <;> decide +kernel
theorem kwI_no {s : ByteArray} (h : ∀ i : Nat, 1 ≤ i → i ≤ 6 → s ≠ kwB i) : kwI s = 0 := by
  unfold kwI
  rw [if_neg (show ¬ s = kwB 1 from h 1 (by omega) (by omega)), if_neg (show ¬ s = kwB 2 from h 2 (by omega) (by omega)), if_neg (show ¬ s = kwB 3 from h 3 (by omega) (by omega)), if_neg (show ¬ s = kwB 4 from h 4 (by omega) (by omega)), if_neg (show ¬ s = kwB 5 from h 5 (by omega) (by omega)), if_neg (show ¬ s = kwB 6 from h 6 (by omega) (by omega))]
/-- One line. -/
def stepP (ps : List Pg) (s : ByteArray) : Option (List Pg × ByteArray) :=
  if ((cutC 10 s).2.2 && (cutC 32 (cutC 10 s).1).2.2) = true then
    if (cutC 32 (cutC 10 s).1).1 = pageW then (if nokB (cutC 32 (cutC 10 s).1).2.1 = true then some (ps ++ [⟨decV (cutC 32 (cutC 10 s).1).2.1, []⟩], (cutC 10 s).2.1) else none)
    else if kwI (cutC 32 (cutC 10 s).1).1 = 0 ∨ ps = [] then none
    else match boxP (kwI (cutC 32 (cutC 10 s).1).1) (cutC 32 (cutC 10 s).1).2.1 with
      | none => none
      | some b => some (putBx ps b, (cutC 10 s).2.1)
  else none
def goP : Nat → List Pg → ByteArray → Option (List Pg)
  | 0, _, _ => none
  | n + 1, ps, s => if s.size = 0 then some ps else match stepP ps s with
    | none => none
    | some (qs, r) => goP n qs r
def parseP (s : ByteArray) : Option (List Pg) := goP (s.size + 1) [] s
def parR (s : ByteArray) : Option (List Pg) := match parseP s with
  | none => none
  | some ps => if 1024 < ps.length ∨ firstP ps ≠ 0 then none else some ps
theorem cutC_lt {c : UInt8} {s : ByteArray} (h : (cutC c s).2.2 = true) : (cutC c s).2.1.size < s.size := by
  unfold cutC Lib.cut at *
  by_cases h0 : 0 ≤ Lib.index s.data.toList [c]
  · rw [if_pos h0]
    show (List.toArray _).size < _
    obtain ⟨i, hi⟩ : ∃ i : Nat, Lib.index s.data.toList [c] = i := ⟨_, (Int.toNat_of_nonneg h0).symm⟩
    obtain ⟨a, r, e, h2, _⟩ := index_at hi
    have hlen := congrArg List.length e
    rw [List.length_append, List.length_cons, data_size] at hlen
    rw [hi, List.size_toArray, List.length_drop, data_size]
    simp only [List.length_cons, List.length_nil]; omega
  · rw [if_neg h0] at h; cases h
/-- Sizes while lines are read. -/
def InvP (ps : List Pg) (k N : Nat) : Prop := ps.length + k ≤ N ∧ ∀ p ∈ ps, p.bx.length + k ≤ N ∧ ∀ b ∈ p.bx, b.text.size ≤ N
theorem InvP.page {ps : List Pg} {k k' N : Nat} (h : InvP ps k N) (hk : k' < k) (n : Int) : InvP (ps ++ [⟨n, []⟩]) k' N := by
  obtain ⟨h1, h2⟩ := h
  refine ⟨by rw [List.length_append]; simp; omega, fun p hp => ?_⟩
  rcases List.mem_append.1 hp with hp | hp
  · exact ⟨by have := (h2 p hp).1; omega, (h2 p hp).2⟩
  · have : p = ⟨n, []⟩ := by simpa using hp
    subst this
    exact ⟨by simp; omega, fun b hb => by cases hb⟩
theorem InvP.box {ps : List Pg} {k k' N : Nat} (h : InvP ps k N) (hk : k' < k) {b : Bx} (hb : b.text.size ≤ N) : InvP (putBx ps b) k' N := by
  obtain ⟨h1, h2⟩ := h
  unfold putBx
  cases hl : ps.getLast? with
  | none => exact ⟨show ps.length + k' ≤ N by omega, fun p hp => ⟨by have := (h2 p hp).1; omega, (h2 p hp).2⟩⟩
  | some p =>
    have hpm := List.mem_of_getLast? hl
    have hne : ps ≠ [] := by rintro rfl; cases hl
    have hpos := List.length_pos_iff.2 hne
    refine ⟨by simp; omega, fun q hq => ?_⟩
    rcases List.mem_append.1 hq with hq | hq
    · have hq2 := List.dropLast_subset _ hq
      exact ⟨by have := (h2 q hq2).1; omega, (h2 q hq2).2⟩
    · have : q = ⟨p.num, p.bx ++ [b]⟩ := by simpa using hq
      subst this
      refine ⟨by have := (h2 p hpm).1; simp; omega, fun x hx => ?_⟩
      rcases List.mem_append.1 hx with hx | hx
      · exact (h2 p hpm).2 x hx
      · have : x = b := by simpa using hx
        rw [this]; exact hb
theorem boxP_text {i : Int} {s : ByteArray} {b : Bx} (h : boxP i s = some b) : b.text.size ≤ s.size := by
  unfold boxP at h
  split at h
  · split at h
    · cases h; exact (cutC_size 124 s).2
    · cases h
  · cases h
theorem ba_isE (l : ByteArray) : l.toList.isEmpty = decide (l.size = 0) := by
  by_cases h : l = ⟨#[]⟩
  · subst h; decide +kernel
  · have h1 : ¬ l.size = 0 := fun e => h (by cases l with | mk d => exact congrArg ByteArray.mk (Array.eq_empty_of_size_eq_zero e))
    have h2 := ba_beq l ⟨#[]⟩
    rw [show (⟨#[]⟩ : ByteArray).toList = [] by decide +kernel, decide_eq_false h] at h2
    rw [decide_eq_false h1]
    cases hl : l.toList with
    | nil => rw [hl] at h2; simp at h2
    | cons x r => rfl
def badPg (p : Pg) : Bool := decide (pgI p ≠ 0)
theorem bad_first : ∀ (l : List Pg), l.any badPg = decide (firstP l ≠ 0)
  | [] => rfl
  | p :: r => by
    rw [List.any_cons, bad_first r, firstP]
    unfold badPg
    by_cases h : pgI p = 0
    · rw [if_pos h, h]; rfl
    · rw [if_neg h, decide_eq_true h, Bool.true_or]
def strLen : Value → Nat
  | .string s => s.size
  | _ => 0

theorem pck1_any (p : Pg) (v : Value) (w : World) (hr : RdB w v p.bx) (hz : SzB p.bx) :
    Calls Tryd.prog 50 #[.agg #[.int .i64 p.num, v]] w fun e w' => e = .returned (.bool (badPg p)) ∧ Below w.heap.size w w' := by
  obtain ⟨a, cap, rfl, _, _, _⟩ := hr.open
  have hb0 := below_al w (.cells #[.int .i64 p.num, .slice a p.bx.length cap] 34)
  have HC := hid (pcheck_any p _ _ (hr.below hb0) hz)
  go_enter Tryd.func50, Tryd.ntmps50
  go_wp2_with fail
  refine HC.out.mono ?_
  rintro e w1 ⟨rfl, hB1⟩
  go_wp2
  go_ret
  refine ⟨ret_bool ?_, below_tr hb0 hB1⟩
  unfold badPg
  by_cases h : pgI p = 0
  · rw [h]; rfl
  · rw [decide_eq_true h]; simpa using h

set_option maxHeartbeats 1000000 in
theorem indexPg_any (v : Value) (l : List Pg) (w : World) (hr : RdPg w v l) (hz : SzPg l) :
    Calls Tryd.prog 51 #[v, .func (.func 50) #[] #[]] w fun e w' => e = .returned (.int .i64 (fIdx badPg l)) ∧ Below w.heap.size w w' := by
  obtain ⟨a, cap, rfl, hlc, hcm, hcell⟩ := hr.open
  have HCell := hid hcell; clear hcell
  have HZ := hid hz
  clear hz hr
  go_enter Tryd.func51, Tryd.ntmps51
  go_wp2
  go_loopw [8] (fun i wr => ∃ k : Nat, k ≤ l.length ∧ i = .int .i64 k ∧ Hid (∀ y ∈ l.take k, badPg y = false) ∧ Hid (Below w.heap.size w wr)) (fun i _ => l.length - (intOf i).toNat)
  case atStart => exact ⟨0, Nat.zero_le _, rfl, by simp [Hid], Below.refl _ _⟩
  case round =>
    obtain ⟨k, hk, rfl, HK, HB⟩ := hrel
    by_cases hlt : k < l.length
    · obtain ⟨p, b, off, u, hp, rfl, c0, c1, hu⟩ := HCell.out k hlt
      obtain ⟨au, cu, rfl, _, _, _⟩ := hu.open
      have hki : (k : Int) < (l.length : Int) := by omega
      have d0 := Below.keeps HB.out _ _ c0
      have d1 := Below.keeps HB.out _ _ c1
      have HCK := hid (pck1_any p _ wr (hu.below HB.out) (HZ.out p (List.mem_of_getElem? hp)))
      have HX := hid hp
      clear c0 c1 hu hp
      go_wp2_with fail
      refine HCK.out.mono ?_
      rintro e w3 ⟨rfl, hB3⟩
      have HB3 := hid (below_tr HB.out hB3)
      clear HCK hB3 d0 d1 HB
      cases hbp : badPg p with
      | true =>
        go_wp2
        go_ret
        exact ⟨ret_int (fIdx_hit _ l k p HK.out HX.out hbp).symm, HB3.out⟩
      | false =>
        have HK2 := hid (take_none HK.out HX.out hbp)
        clear HK HX
        go_wp2_with fail
        go_roundw
        case rel => exact ⟨k + 1, by omega, by go_num, HK2.out, HB3.out⟩
        case measure => simp [intOf]; omega
    · go_wp2
      go_ret
      refine ⟨ret_int ?_, HB.out⟩
      have h := HK.out
      rw [List.take_of_length_le (by omega)] at h
      exact (fIdx_none _ l h).symm

theorem nilf_nil : ∀ w : World, (binOp .eql 86 .nilFunc .nilFunc).run Tryd.prog w = .ok (.bool true) w := fun _ => by kernel_rfl
theorem nilf_func (K : Nat) (vs : Array Value) : ∀ w : World, (binOp .eql 86 (.func (.func K) #[] vs) .nilFunc).run Tryd.prog w = .ok (.bool false) w := fun _ => by kernel_rfl
theorem containsPg_any (v : Value) (l : List Pg) (w : World) (hr : RdPg w v l) (hz : SzPg l) :
    Calls Tryd.prog 16 #[v, .func (.func 50) #[] #[]] w fun e w' => e = .returned (.bool (decide (firstP l ≠ 0))) ∧ Below w.heap.size w w' := by
  have HI := indexPg_any v l w hr hz
  have HF := hid (fIdx_pos badPg l)
  rw [bad_first] at HF
  generalize fIdx badPg l = r at *
  have H2 := hid HI; clear HI
  go_enter Tryd.func16, Tryd.ntmps16
  go_wp2_with (go_at_call 51; refine H2.out.mono ?_; rintro e w' ⟨rfl, hB⟩)
  go_ret
  exact ⟨ret_bool HF.out, hB⟩

set_option maxRecDepth 100000 in
set_option maxHeartbeats 4000000 in
theorem pparse_any (s : ByteArray) (m : Int) (w : World) (he : Env w) (hm : w.cell? ⟨0, 0, none⟩ = some (.int .i64 m)) (hs : s.size ≤ 1000000) :
    Calls Tryd.prog 14 #[.string s] w fun e w' => ∃ v x, e = .returned (.tuple #[v, .int .i64 x]) ∧ ((∃ ps, parR s = some ps ∧ RdPg w' v ps ∧ x = 0) ∨ (parR s = none ∧ v = .slice none 0 0 ∧ x = 3)) ∧ Below w.heap.size w w' := by
  have hsi : ¬ (1048576 : Int) < (s.size : Int) := by omega
  have HRD := hid (readers_any w)
  go_enter Tryd.func14, Tryd.ntmps14
  go_wp2_with fail
  refine HRD.out.mono ?_
  rintro e w2 ⟨r, rfl, hmi, hB2, hrl⟩
  have HMI := hid hmi
  have HB2 := hid hB2
  have HE := fun w' (h : Below w2.heap.size w2 w') => hid (he.below (below_tr hB2 h))
  have HM := fun w' (h : Below w2.heap.size w2 w') => hid (Below.keeps (below_tr hB2 h) _ _ hm)
  have HP0 : Hid (parseP s = goP (s.size + 1) [] s) := rfl
  clear hmi hB2 HRD he hm hrl
  go_wp2_with fail
  go_loopw [0, 4] (fun sv ov wr => ∃ (ps : List Pg) (s' : ByteArray) (fuel : Nat) (av : Option Addr) (cv : Nat), sv = .string s' ∧ ov = .slice av ps.length cv ∧ Hid (PgI wr w2.heap.size (.slice av ps.length cv) ps) ∧ Hid (parseP s = goP fuel ps s') ∧ s'.size < fuel ∧ Hid (InvP ps s'.size s.size) ∧ Hid (Below w2.heap.size w2 wr)) (fun sv _ _ => strLen sv)
  case atStart => exact ⟨[], s, s.size + 1, none, 0, rfl, rfl, PgI.nil _ _, HP0.out, by omega, ⟨by simp, fun p hp => by cases hp⟩, Below.refl _ _⟩
  case round =>
    obtain ⟨ps, s', fuel, av, cv, rfl, rfl, HPG, HGO, hfu, HIN, HB⟩ := hrel
    have hE := ba_isE s'
    obtain ⟨fu, rfl⟩ : ∃ fu, fuel = fu + 1 := ⟨fuel - 1, by omega⟩
    have hB2m := HB.out.mono (Nat.le_refl _)
    by_cases h0 : s'.size = 0
    · rw [decide_eq_true h0] at hE
      have HV : Hid (parseP s = some ps) := by unfold Hid; rw [HGO.out, goP, if_pos h0]
      have HSZ : Hid (SzPg ps) := fun p hp b hb => by have := ((HIN.out).2 p hp).2 b hb; unfold maxLen; omega
      by_cases hbig : 1024 < ps.length
      · have hbi : (1024 : Int) < (ps.length : Int) := by omega
        have HR : Hid (parR s = none) := by unfold Hid parR; rw [HV.out]; exact if_pos (.inl hbig)
        go_wp2
        go_ret2
        exact ⟨_, _, rfl, .inr ⟨HR.out, rfl, rfl⟩, below_tr HB2.out HB.out⟩
      · have hbi : ¬ (1024 : Int) < (ps.length : Int) := by omega
        have HCF := hid (containsPg_any _ ps wr HPG.out.rd HSZ.out)
        by_cases hf : firstP ps = 0
        · have HR : Hid (parR s = some ps) := by unfold Hid parR; rw [HV.out]; exact if_neg (by omega)
          rw [decide_eq_false (by simpa using hf)] at HCF
          clear hf
          go_wp2_with fail
          refine HCF.out.mono ?_
          rintro e w3 ⟨rfl, hB3⟩
          go_wp2
          go_ret2
          exact ⟨_, _, rfl, .inl ⟨ps, HR.out, (HPG.out.below hB3).rd, rfl⟩, below_tr (below_tr HB2.out HB.out) hB3⟩
        · have HR : Hid (parR s = none) := by unfold Hid parR; rw [HV.out]; exact if_pos (.inr hf)
          rw [decide_eq_true (by simpa using hf)] at HCF
          clear hf
          go_wp2_with fail
          refine HCF.out.mono ?_
          rintro e w3 ⟨rfl, hB3⟩
          go_wp2
          go_ret2
          exact ⟨_, _, rfl, .inr ⟨HR.out, rfl, rfl⟩, below_tr (below_tr HB2.out HB.out) hB3⟩
    · rw [decide_eq_false h0] at hE
      have HGO2 : Hid (parseP s = match stepP ps s' with | none => none | some (qs, r) => goP fu qs r) := by unfold Hid; rw [HGO.out, goP, if_neg h0]
      have HSTEP : Hid (stepP ps s' = if ((cutC 10 s').2.2 && (cutC 32 (cutC 10 s').1).2.2) = true then
        if (cutC 32 (cutC 10 s').1).1 = pageW then (if nokB (cutC 32 (cutC 10 s').1).2.1 = true then some (ps ++ [⟨decV (cutC 32 (cutC 10 s').1).2.1, []⟩], (cutC 10 s').2.1) else none)
        else if kwI (cutC 32 (cutC 10 s').1).1 = 0 ∨ ps = [] then none
        else match boxP (kwI (cutC 32 (cutC 10 s').1).1) (cutC 32 (cutC 10 s').1).2.1 with
          | none => none
          | some b => some (putBx ps b, (cutC 10 s').2.1) else none) := rfl
      have hsz : s'.size ≤ 1000000 := by have := HIN.out.1; omega
      have hz1 := cutC_size 10 s'
      have hz2 := cutC_size 32 (cutC 10 s').1
      have HLT := hid (fun h => cutC_lt (c := 10) (s := s') h)
      have HC1 := hid (cutC_any 10 s' m wr (by omega) (HM _ HB.out))
      have HC2 := fun w' (h : Below w2.heap.size w2 w') => hid (cutC_any 32 (cutC 10 s').1 m w' (by omega) (HM _ h))
      generalize cutC 32 (cutC 10 s').1 = c2 at *
      generalize cutC 10 s' = c1 at *
      obtain ⟨line, rest, is⟩ := c1
      obtain ⟨word, more, sp⟩ := c2
      simp only at HSTEP HC1 HC2 hz1 hz2 HLT
      clear HGO h0
      go_wp2_with fail
      refine HC1.out.mono ?_
      rintro e w3 ⟨rfl, hB3⟩
      have HB3 := hid (below_tr HB.out hB3)
      have HPG3 := hid (HPG.out.below hB3)
      have HC := HC2 _ HB3.out
      clear HC1 HC2 hB3 HPG HB hB2m
      go_wp2_with fail
      refine HC.out.mono ?_
      rintro e w4 ⟨rfl, hB4⟩
      have HB4 := hid (below_tr HB3.out hB4)
      have HPG4 := hid (HPG3.out.below hB4)
      clear HC hB4 HPG3 HB3
      obtain ⟨fv, hrun, hfv⟩ := (HMI.out.below HB4.out).look word
      have HFV := hid hfv
      have hbase4 := HB4.out.size
      clear hfv
      have HREF : stepP ps s' = none → Hid (parR s = none) := fun h => by unfold Hid parR; rw [HGO2.out, h]
      cases is with
      | false =>
        have HR := HREF (by rw [HSTEP.out]; rfl)
        go_wp2
        go_ret2
        exact ⟨_, _, rfl, .inr ⟨HR.out, rfl, rfl⟩, below_tr HB2.out HB4.out⟩
      | true =>
        cases sp with
        | false =>
          have HR := HREF (by rw [HSTEP.out]; rfl)
          go_wp2
          go_ret2
          exact ⟨_, _, rfl, .inr ⟨HR.out, rfl, rfl⟩, below_tr HB2.out HB4.out⟩
        | true =>
          have hrl := HLT.out rfl
          have hnf0 := nilf_nil
          rcases HFV.out with ⟨hw, rfl⟩ | ⟨i, c, i1, i2, hw, rfl, hrow⟩ | ⟨hw1, hw2, rfl⟩
          · unfold pageF at *
            have hnf := nilf_func 71 #[]
            have HW := hid hw
            clear hw
            have HRD1 := hid (rd1_any _ ps more w2.heap.size w4 (HE _ HB4.out) HPG4.out hbase4 (by omega) (by have := HIN.out.1; omega))
            go_wp2_with fail
            refine HRD1.out.mono ?_
            rintro e w5 ⟨v', rfl, hpg5, hB5⟩
            have HB5 := hid (HB4.out.trans hB5)
            obtain ⟨a5, c5, rfl, _⟩ := hpg5.rd
            have HPG5 := hid hpg5
            clear hpg5 hB5 HRD1 HPG4 HB4
            cases hk : nokB more with
            | false =>
              have HR := HREF (by rw [HSTEP.out, if_pos (show (true && true) = true from rfl), if_pos HW.out, if_neg (by rw [hk]; simp)])
              go_wp2
              go_ret2
              exact ⟨_, _, rfl, .inr ⟨HR.out, rfl, rfl⟩, below_tr HB2.out HB5.out⟩
            | true =>
              have HGO3 : Hid (parseP s = goP fu (ps ++ [⟨decV more, []⟩]) rest) := by
                unfold Hid; rw [HGO2.out, HSTEP.out, if_pos (show (true && true) = true from rfl), if_pos HW.out, if_pos hk]
              have HIN2 := hid (HIN.out.page hrl (decV more))
              clear HGO2 HSTEP HREF HW hk HFV HIN
              go_wp2_with fail
              go_roundw
              case rel => exact ⟨_, rest, fu, a5, c5, rfl, (by simp), HPG5.out, HGO3.out, by omega, HIN2.out, HB5.out⟩
              case measure => exact hrl
          · unfold boxF at *
            have hnf := nilf_func 73 #[.pointer (some ⟨c, 0, none⟩)]
            have HW := hid hw
            have HRW := hid hrow
            have HRD2 := hid (rd2_any _ ps more w2.heap.size c i m w4 (HE _ HB4.out) (HM _ HB4.out).out HPG4.out hrow hbase4 (by omega) (by have := HIN.out.1; omega) (fun p hp => by have := (HIN.out.2 p hp).1; omega))
            clear hw hrow
            go_wp2_with fail
            refine HRD2.out.mono ?_
            rintro e w5 ⟨v', ok, rfl, hok, hput, hB5⟩
            have HB5 := hid (HB4.out.trans hB5)
            have hki : kwI word = i := by rw [HW.out]; exact kwI_at i1 i2
            have hkp : word ≠ pageW := by rw [HW.out]; exact kwB_page i1 i2
            have hi0 : ¬ i = 0 := by omega
            have HST2 : Hid (stepP ps s' = if ps = [] then none else match boxP (i : Int) more with | none => none | some b => some (putBx ps b, rest)) := by
              unfold Hid; rw [HSTEP.out, if_pos (show (true && true) = true from rfl), if_neg hkp, hki]
              by_cases hps : ps = []
              · rw [if_pos (.inr hps), if_pos hps]
              · rw [if_neg (fun h => h.elim hi0 hps), if_neg hps]
            clear HRD2 HPG4 HB4 hB5 HSTEP hki hkp
            by_cases hps : ps = []
            · have HR := HREF (by rw [HST2.out, if_pos hps])
              have hokf : ok = false := by rw [hok, decide_eq_false (by simpa using hps)]; rfl
              subst hokf
              clear hok hput
              go_wp2
              go_ret2
              exact ⟨_, _, rfl, .inr ⟨HR.out, rfl, rfl⟩, below_tr HB2.out HB5.out⟩
            · cases hbx : boxP (i : Int) more with
              | none =>
                have HR := HREF (by rw [HST2.out, if_neg hps, hbx])
                have hokf : ok = false := by rw [hok, hbx]; simp
                subst hokf
                clear hok hput
                go_wp2
                go_ret2
                exact ⟨_, _, rfl, .inr ⟨HR.out, rfl, rfl⟩, below_tr HB2.out HB5.out⟩
              | some b =>
                have hpg5 := hput b hbx hps
                have hokt : ok = true := by rw [hok, hbx, decide_eq_true (by simpa using hps)]; rfl
                subst hokt
                obtain ⟨a5, c5, rfl, _⟩ := hpg5.rd
                have HPG5 := hid hpg5
                have HGO3 : Hid (parseP s = goP fu (putBx ps b) rest) := by
                  unfold Hid; rw [HGO2.out, HST2.out, if_neg hps, hbx]
                have htx := boxP_text hbx
                have HIN2 := hid (HIN.out.box hrl (b := b) (by have := HIN.out.1; omega))
                clear HGO2 HST2 HREF HW hok hput hpg5 hbx hps HFV HIN
                go_wp2_with fail
                go_roundw
                case rel => exact ⟨_, rest, fu, a5, c5, rfl, rfl, HPG5.out, HGO3.out, by omega, HIN2.out, HB5.out⟩
                case measure => exact hrl
          · have HR := HREF (by rw [HSTEP.out, if_pos (show (true && true) = true from rfl), if_neg hw1, if_pos (.inl (kwI_no hw2))])
            go_wp2
            go_ret2
            exact ⟨_, _, rfl, .inr ⟨HR.out, rfl, rfl⟩, below_tr HB2.out HB4.out⟩
end Go.Proofs.YtkjapeafhcdnkaaDoor
