/-
  The reference's charset functions: right, Check, IsWord, IsName.
-/
import Derived.Test.YtmbehkanhefcpaaGreatDoorRefA
namespace Go.Proofs.YtmbehkanhefcpaaGreatDoor
open Go.RowKit

/-! ### which marks stand right -/
def rgo : Int → Bool → List UInt8 → List Bool
  | _, _, [] => []
  | pk, pf, c :: r => (decide (kindI c.toNat = 2) && (decide (pk = 1) || pf)) :: rgo (kindI c.toNat) (decide (kindI c.toNat = 2) && (decide (pk = 1) || pf)) r
def rightL (l : List UInt8) : List Bool := rgo 0 false l

theorem rgo_len (l : List UInt8) : ∀ pk pf, (rgo pk pf l).length = l.length := by
  induction l with
  | nil => intro _ _; rfl
  | cons a l ih => intro _ _; simp [rgo, ih]
theorem rightL_len (l : List UInt8) : (rightL l).length = l.length := rgo_len l _ _

theorem rgo_succ (l : List UInt8) : ∀ (pk : Int) (pf : Bool) (k : Nat) (c d : UInt8) (f : Bool), l[k]? = some d → (rgo pk pf l)[k]? = some f → l[k + 1]? = some c →
    (rgo pk pf l)[k + 1]? = some (decide (kindI c.toNat = 2) && (decide (kindI d.toNat = 1) || f)) := by
  induction l with
  | nil => intro _ _ k _ _ _ h; simp at h
  | cons a l ih =>
    intro pk pf k c d f hd hf hc
    cases k with
    | zero =>
      simp only [List.getElem?_cons_zero, Option.some.injEq, rgo] at hd hf
      subst hd
      cases l with
      | nil => simp at hc
      | cons b l =>
        simp only [List.getElem?_cons_succ, List.getElem?_cons_zero, Option.some.injEq] at hc
        subst hc
        simp only [rgo, List.getElem?_cons_succ, List.getElem?_cons_zero, hf]
    | succ k =>
      simp only [List.getElem?_cons_succ, rgo] at hd hf hc ⊢
      exact ih _ _ k c d f hd hf hc
theorem rightL_zero (l : List UInt8) (c : UInt8) (h : l[0]? = some c) : (rightL l)[0]? = some false := by
  cases l with
  | nil => simp at h
  | cons a l => simp [rightL, rgo]
theorem rightL_succ (l : List UInt8) (k : Nat) (c d : UInt8) (f : Bool) (hd : l[k]? = some d) (hf : (rightL l)[k]? = some f) (hc : l[k + 1]? = some c) :
    (rightL l)[k + 1]? = some (decide (kindI c.toNat = 2) && (decide (kindI d.toNat = 1) || f)) := rgo_succ l _ _ k c d f hd hf hc

theorem infoBool : (Tryz.prog.info? 4).map (fun i => (i.zero, i.size, i.bytes)) = some (some (.bool false), 1, 1) := by kernel_rfl

theorem byte_at (s : ByteArray) (k : Nat) (h : k < s.size) : s.data.toList[k]? = some s[k] := by
  rw [List.getElem?_eq_getElem (by simpa using h)]; rfl
theorem byte_bd (c : UInt8) : 0 ≤ (c.toNat : Int) ∧ (c.toNat : Int) ≤ 255 := ⟨by omega, by have := UInt8.toNat_lt c; omega⟩

set_option maxHeartbeats 1000000 in
set_option maxRecDepth 100000 in
theorem right_any (s : ByteArray) (w : World) (hs : s.size ≤ 1048576) :
    Calls Tryz.prog 77 #[.string s] w fun e w' => ∃ v, e = .returned v ∧ Rd Value.bool w' v (rightL s.data.toList) ∧ Below w.heap.size w w' := by
  have hrl : (rightL s.data.toList).length = s.size := by rw [rightL_len]; simp
  go_enter Tryz.func77, Tryz.ntmps77
  go_wp2
  go_loopw [3, 4] (fun v i wr => ∃ (k : Nat) (xs : List Bool), k ≤ s.size ∧ i = .int .i64 k ∧ Hid (xs = (rightL s.data.toList).take k) ∧ xs.length ≤ k ∧ wr.ownsRow w.heap.size 4 1 v xs.length (xs.map Value.bool) ∧ Below w.heap.size w wr) (fun _ i _ => s.size - (intOf i).toNat)
  case atStart => exact ⟨0, [], by omega, rfl, by simp [Hid], by simp, World.ownsRow_made w #[] 0 (Nat.le_refl _) (by unfold maxLen; omega) rfl, below_al w _⟩
  case round =>
    rename_i wr
    obtain ⟨k, xs, hk, rfl, HX, hl, hown, hB⟩ := hrel
    by_cases hlt : k < s.size
    · have hbd := byte_bd s[k]
      have hck := byte_at s k hlt
      cases k with
      | zero =>
        have H0 := hid (rightL_zero _ _ hck)
        have HS : Hid ((rightL s.data.toList).take (0 + 1) = xs ++ [false]) := by rw [List.take_add_one, H0.out, HX.out]; simp [Hid]
        clear hck
        by_cases h2 : kindI s[0].toNat = 2
        · have b2 := beq_iff_eq.2 h2
          clear h2
          go_wp2_with (first | (go_at_call 50; refine (rkind_any _ (by omega) (by omega) _).mono ?_; rintro e w' ⟨rfl, rfl⟩) | (at_builtin; refine wpList_ap rfl _ _ 98 rfl w.heap.size 4 Tryz.underlying98 infoBool rfl (by decide) (by decide) _ _ _ rfl hown [.bool false] rfl (by simp [Value.oneCell']) rfl (by simp) (by omega) hB.size ?_; intro v' w1 hown' hb1 _))
          go_roundw
          case rel => exact ⟨1, xs ++ [false], by omega, by go_num, HS.out.symm, by rw [List.length_append, List.length_singleton]; omega, by simpa using hown', hB.trans hb1⟩
          case measure => simp [intOf]; omega
        · have b2 := beq_eq_false_iff_ne.2 h2
          clear h2
          go_wp2_with (first | (go_at_call 50; refine (rkind_any _ (by omega) (by omega) _).mono ?_; rintro e w' ⟨rfl, rfl⟩) | (at_builtin; refine wpList_ap rfl _ _ 98 rfl w.heap.size 4 Tryz.underlying98 infoBool rfl (by decide) (by decide) _ _ _ rfl hown [.bool false] rfl (by simp [Value.oneCell']) rfl (by simp) (by omega) hB.size ?_; intro v' w1 hown' hb1 _))
          go_roundw
          case rel => exact ⟨1, xs ++ [false], by omega, by go_num, HS.out.symm, by rw [List.length_append, List.length_singleton]; omega, by simpa using hown', hB.trans hb1⟩
          case measure => simp [intOf]; omega
      | succ m =>
        have hm : m < s.size := by omega
        have hbd' := byte_bd s[m]
        have hcm := byte_at s m hm
        obtain ⟨f, hf⟩ : ∃ f, (rightL s.data.toList)[m]? = some f := ⟨_, List.getElem?_eq_getElem (by omega)⟩
        have H0 := hid (rightL_succ _ m _ _ f hcm hf hck)
        have HS : Hid ((rightL s.data.toList).take (m + 1 + 1) = xs ++ [decide (kindI s[m + 1].toNat = 2) && (decide (kindI s[m].toNat = 1) || f)]) := by rw [List.take_add_one, H0.out, HX.out]; rfl
        have hxm : xs[m]? = some f := by rw [HX.out, List.getElem?_take, if_pos (by omega)]; exact hf
        have hxl : xs.length = m + 1 := by have := (List.getElem?_eq_some_iff.1 hxm).1; omega
        obtain ⟨a, cap, rfl, hlc, hcm2, hcell⟩ := (Rd.of_own hown).open
        obtain ⟨f', b, off, hx', rfl, hc⟩ := hcell m (by omega)
        obtain rfl : f' = f := Option.some.inj (hx'.symm.trans hxm)
        have hmx : m < xs.length := by omega
        have HXL := hid hxl
        clear hck hcm hf hxm hx' hcell hxl H0
        have hk1 : (0 : Int) < (m : Int) + 1 := by omega
        by_cases h2 : kindI s[m + 1].toNat = 2
        · have b2 := beq_iff_eq.2 h2
          by_cases h1 : kindI s[m].toNat = 1
          · have b1 := beq_iff_eq.2 h1
            have HS2 : Hid ((rightL s.data.toList).take (m + 1 + 1) = xs ++ [true]) := by rw [HS.out]; simp [h1, h2, Hid]
            clear h1 h2 HS
            go_wp2_with (first | (go_at_call 50; refine (rkind_any _ (by omega) (by omega) _).mono ?_; rintro e w' ⟨rfl, rfl⟩) | (at_builtin; refine wpList_ap rfl _ _ 98 rfl w.heap.size 4 Tryz.underlying98 infoBool rfl (by decide) (by decide) _ _ _ rfl hown [.bool true] rfl (by simp [Value.oneCell']) rfl (by simp) (by omega) hB.size ?_; intro v' w1 hown' hb1 _))
            go_roundw
            case rel => exact ⟨m + 1 + 1, xs ++ [true], by omega, by go_num, HS2.out.symm, by simp; omega, by simpa using hown', hB.trans hb1⟩
            case measure => simp [intOf]; omega
          · have b1 := beq_eq_false_iff_ne.2 h1
            have HS2 : Hid ((rightL s.data.toList).take (m + 1 + 1) = xs ++ [f']) := by rw [HS.out]; simp [h1, h2, Hid]
            clear h1 h2 HS
            go_wp2_with (first | (go_at_call 50; refine (rkind_any _ (by omega) (by omega) _).mono ?_; rintro e w' ⟨rfl, rfl⟩) | (at_builtin; refine wpList_ap rfl _ _ 98 rfl w.heap.size 4 Tryz.underlying98 infoBool rfl (by decide) (by decide) _ _ _ rfl hown [.bool f'] rfl (by simp [Value.oneCell']) rfl (by simp) (by omega) hB.size ?_; intro v' w1 hown' hb1 _))
            go_roundw
            case rel => exact ⟨m + 1 + 1, xs ++ [f'], by omega, by go_num, HS2.out.symm, by simp; omega, by simpa using hown', hB.trans hb1⟩
            case measure => simp [intOf]; omega
        · have b2 := beq_eq_false_iff_ne.2 h2
          have HS2 : Hid ((rightL s.data.toList).take (m + 1 + 1) = xs ++ [false]) := by rw [HS.out]; simp [h2, Hid]
          clear h2 HS
          go_wp2_with (first | (go_at_call 50; refine (rkind_any _ (by omega) (by omega) _).mono ?_; rintro e w' ⟨rfl, rfl⟩) | (at_builtin; refine wpList_ap rfl _ _ 98 rfl w.heap.size 4 Tryz.underlying98 infoBool rfl (by decide) (by decide) _ _ _ rfl hown [.bool false] rfl (by simp [Value.oneCell']) rfl (by simp) (by omega) hB.size ?_; intro v' w1 hown' hb1 _))
          go_roundw
          case rel => exact ⟨m + 1 + 1, xs ++ [false], by omega, by go_num, HS2.out.symm, by simp; omega, by simpa using hown', hB.trans hb1⟩
          case measure => simp [intOf]; omega
    · go_wp2
      go_ret
      exact ⟨_, rfl, by rw [show rightL s.data.toList = xs by rw [HX.out, List.take_of_length_le (by omega)]]; exact Rd.of_own hown, hB⟩

/-- Whether the character at a place is accepted. -/
def badAt (l : List UInt8) (k : Nat) : Bool := match l[k]?, (rightL l)[k]? with | some c, some f => decide (kindI c.toNat = 0) || (decide (kindI c.toNat = 2) && !f) | _, _ => false
def rcheckI (l : List UInt8) : Int := if 65536 < l.length then 4 else if (∃ k, k < l.length ∧ badAt l k = true) then 11 else 0
instance (l : List UInt8) : Decidable (∃ k, k < l.length ∧ badAt l k = true) := inferInstance

set_option maxHeartbeats 1000000 in
set_option maxRecDepth 100000 in
theorem rcheck_any (s : ByteArray) (w : World) (hs : s.size ≤ maxLen) :
    Calls Tryz.prog 49 #[.string s] w fun e w' => e = .returned (.int .i64 (rcheckI s.data.toList)) ∧ Below w.heap.size w w' := by
  unfold maxLen at hs
  have HI : Hid (rcheckI s.data.toList = if 65536 < s.size then 4 else if (∃ k, k < s.size ∧ badAt s.data.toList k = true) then 11 else 0) := by unfold rcheckI; simp [Hid]
  by_cases h6 : 65536 < s.size
  · go_enter Tryz.func49, Tryz.ntmps49
    go_wp2
    go_ret
    exact ⟨ret_int (by rw [HI.out, if_pos h6]), Below.refl _ _⟩
  have HI2 : Hid (rcheckI s.data.toList = if (∃ k, k < s.size ∧ badAt s.data.toList k = true) then 11 else 0) := by rw [HI.out, if_neg h6]; rfl
  clear HI
  have hR := hid (right_any s w (by omega))
  have hrl : (rightL s.data.toList).length = s.size := by rw [rightL_len]; simp
  have HRL := hid hrl; clear hrl
  go_enter Tryz.func49, Tryz.ntmps49
  go_wp2_with (go_at_call 77; refine hR.out.mono ?_; rintro e w1 ⟨rv, rfl, hrd, hB1⟩; obtain ⟨a, cap, rfl, hlc, hcm2, hcell⟩ := hrd.open; have HCell := hid hcell; clear hcell)
  have hB1 : Below w.heap.size w w1 := by assumption
  go_loop [4] (fun i => ∃ k : Nat, k ≤ s.size ∧ i = .int .i64 k ∧ Hid (∀ j, j < k → badAt s.data.toList j = false)) (fun i => s.size - (intOf i).toNat)
  case atStart => exact ⟨0, by omega, rfl, fun j hj => by omega⟩
  case round =>
    obtain ⟨k, hk, rfl, HK⟩ := hrel
    by_cases hlt : k < s.size
    · have hbd := byte_bd s[k]
      have hck := byte_at s k hlt
      obtain ⟨f, b, off, hf, rfl, hc⟩ := HCell.out k (by rw [HRL.out]; omega)
      have hrl : k < (rightL s.data.toList).length := by rw [HRL.out]; omega
      have HBd : Hid (badAt s.data.toList k = (decide (kindI s[k].toNat = 0) || (decide (kindI s[k].toNat = 2) && !f))) := by unfold badAt; rw [hck, hf]; rfl
      clear hck hf
      by_cases h0 : kindI s[k].toNat = 0
      · have b0 := beq_iff_eq.2 h0
        have HB2 : Hid (badAt s.data.toList k = true) := by rw [HBd.out]; simp [h0, Hid]
        clear h0
        go_wp2_with (go_at_call 50; refine (rkind_any _ (by omega) (by omega) _).mono ?_; rintro e w' ⟨rfl, rfl⟩)
        go_ret
        exact ⟨ret_int (by rw [HI2.out, if_pos ⟨k, hlt, HB2.out⟩]), hB1⟩
      · have b0 := beq_eq_false_iff_ne.2 h0
        by_cases h2 : kindI s[k].toNat = 2
        · have b2 := beq_iff_eq.2 h2
          cases f with
          | false =>
            have HB2 : Hid (badAt s.data.toList k = true) := by rw [HBd.out]; simp [h2, Hid]
            clear h0 h2
            go_wp2_with (go_at_call 50; refine (rkind_any _ (by omega) (by omega) _).mono ?_; rintro e w' ⟨rfl, rfl⟩)
            go_ret
            exact ⟨ret_int (by rw [HI2.out, if_pos ⟨k, hlt, HB2.out⟩]), hB1⟩
          | true =>
            have HB2 : Hid (badAt s.data.toList k = false) := by rw [HBd.out]; simp [h0, Hid]
            clear h0 h2
            go_wp2_with (go_at_call 50; refine (rkind_any _ (by omega) (by omega) _).mono ?_; rintro e w' ⟨rfl, rfl⟩)
            go_round
            case rel => exact ⟨k + 1, by omega, by go_num, fun j hj => by rcases Nat.lt_or_eq_of_le (Nat.le_of_lt_succ hj) with h | rfl; exact HK.out j h; exact HB2.out⟩
            case measure => simp [intOf]; omega
        · have b2 := beq_eq_false_iff_ne.2 h2
          have HB2 : Hid (badAt s.data.toList k = false) := by rw [HBd.out]; simp [h0, h2, Hid]
          clear h0 h2
          go_wp2_with (go_at_call 50; refine (rkind_any _ (by omega) (by omega) _).mono ?_; rintro e w' ⟨rfl, rfl⟩)
          go_round
          case rel => exact ⟨k + 1, by omega, by go_num, fun j hj => by rcases Nat.lt_or_eq_of_le (Nat.le_of_lt_succ hj) with h | rfl; exact HK.out j h; exact HB2.out⟩
          case measure => simp [intOf]; omega
    · go_wp2
      go_ret
      refine ⟨ret_int ?_, hB1⟩
      rw [HI2.out, if_neg]
      rintro ⟨j, hj, hb⟩
      rw [HK.out j (by omega)] at hb; cases hb

/-! ### words and names -/
def highAt (l : List UInt8) : Bool := l.any fun c => decide (4 < kindI c.toNat)
def rwordB (l : List UInt8) : Bool := decide (1 ≤ l.length) && decide (l.length ≤ 64) && decide (rcheckI l = 0) && (match l with | [] => false | c :: _ => isLet c) && !highAt l

set_option maxHeartbeats 1000000 in
theorem rword_any (s : ByteArray) (w : World) (hs : s.size ≤ maxLen) :
    Calls Tryz.prog 35 #[.string s] w fun e w' => e = .returned (.bool (rwordB s.data.toList)) ∧ Below w.heap.size w w' := by
  have hC := hid (rcheck_any s w hs)
  have HI : Hid (rwordB s.data.toList = (decide (1 ≤ s.size) && decide (s.size ≤ 64) && decide (rcheckI s.data.toList = 0) && (match s.data.toList with | [] => false | c :: _ => isLet c) && !highAt s.data.toList)) := by unfold rwordB; simp [Hid]
  generalize rcheckI s.data.toList = ck at *
  unfold maxLen at hs
  by_cases hl1 : 1 ≤ s.size
  · by_cases hl2 : s.size ≤ 64
    · have hgt : ¬ (64 < (s.size : Int)) := by omega
      have hge : ¬ ((s.size : Int) < 1) := by omega
      by_cases hck : ck = 0
      · have bk := (bne_eq_false_iff_eq (a := ck) (b := 0)).2 hck
        have hhd : Hid ((match s.data.toList with | [] => false | c :: _ => isLet c) = isLet s[0]) := by
          have := byte_at s 0 (by omega)
          cases h : s.data.toList with
          | nil => rw [h] at this; simp at this
          | cons a l => rw [h] at this; simp at this; rw [this]; rfl
        have HI2 : Hid (rwordB s.data.toList = (isLet s[0] && !highAt s.data.toList)) := by rw [HI.out, hhd.out]; simp [hl1, hl2, hck, Hid]
        clear HI hhd hck
        have hbd := byte_bd s[0]
        have HL : Hid (isLet s[0] = (kindI s[0].toNat == 1 || kindI s[0].toNat == 3)) := rfl
        by_cases hk : isLet s[0] = true
        · rw [hk] at HI2
          have HI3 : Hid (rwordB s.data.toList = !highAt s.data.toList) := by rw [HI2.out]; simp [Hid]
          have hcase : (kindI s[0].toNat == 1) = true ∨ ((kindI s[0].toNat == 1) = false ∧ (kindI s[0].toNat == 3) = true) := by
            rw [HL.out] at hk
            cases h : (kindI s[0].toNat == 1) <;> simp_all
          clear hk HI2
          have hcase2 : ((kindI s[0].toNat != 1) = false) ∨ ((kindI s[0].toNat != 1) = true ∧ (kindI s[0].toNat != 3) = false) := by
            rcases hcase with h | ⟨h, h'⟩
            · left; simp [bne, h]
            · right; simp [bne, h, h']
          clear hcase
          rcases hcase2 with hb | ⟨hb, hb'⟩
          all_goals
            go_enter Tryz.func35, Tryz.ntmps35
            go_wp2_with (first | (go_at_call 49; refine hC.out.mono ?_; rintro e w1 ⟨rfl, hB1⟩) | (go_at_call 50; refine (rkind_any _ (by omega) (by omega) _).mono ?_; rintro e w' ⟨rfl, rfl⟩))
            have hB1 : Below w.heap.size w w1 := by assumption
            go_loop [4] (fun i => ∃ k : Nat, k ≤ s.size ∧ i = .int .i64 k ∧ Hid (∀ c ∈ s.data.toList.take k, decide (4 < kindI c.toNat) = false)) (fun i => s.size - (intOf i).toNat)
            case atStart => exact ⟨0, by omega, rfl, by simp [Hid]⟩
            case round =>
              obtain ⟨k, hk, rfl, HK⟩ := hrel
              by_cases hlt : k < s.size
              · have hbd2 := byte_bd s[k]
                have hck := byte_at s k hlt
                have HCK := hid hck; clear hck
                by_cases h4 : 4 < kindI s[k].toNat
                · go_wp2_with (first | (go_at_call 49; refine hC.out.mono ?_; rintro e w1 ⟨rfl, hB1⟩) | (go_at_call 50; refine (rkind_any _ (by omega) (by omega) _).mono ?_; rintro e w' ⟨rfl, rfl⟩))
                  go_ret
                  refine ⟨ret_bool ?_, hB1⟩
                  rw [HI3.out]
                  have : highAt s.data.toList = true := List.any_eq_true.2 ⟨s[k], List.mem_of_getElem? HCK.out, by simpa using h4⟩
                  rw [this]; rfl
                · go_wp2_with (first | (go_at_call 49; refine hC.out.mono ?_; rintro e w1 ⟨rfl, hB1⟩) | (go_at_call 50; refine (rkind_any _ (by omega) (by omega) _).mono ?_; rintro e w' ⟨rfl, rfl⟩))
                  go_round
                  case rel => exact ⟨k + 1, by omega, by go_num, take_none HK.out HCK.out (decide_eq_false (by omega))⟩
                  case measure => simp [intOf]; omega
              · go_wp2
                go_ret
                refine ⟨ret_bool ?_, hB1⟩
                rw [HI3.out]
                have h := HK.out
                rw [List.take_of_length_le (by simp; omega)] at h
                have : highAt s.data.toList = false := List.any_eq_false.2 (fun c hc => by have := h c hc; simpa using this)
                rw [this]; rfl
        · have hk' : isLet s[0] = false := by simpa using hk
          rw [hk'] at HI2
          have HI3 : Hid (rwordB s.data.toList = false) := by rw [HI2.out]; rfl
          have hb1 : (kindI s[0].toNat != 1) = true := by rw [HL.out] at hk'; simp [bne] at hk' ⊢; exact hk'.1
          have hb3 : (kindI s[0].toNat != 3) = true := by rw [HL.out] at hk'; simp [bne] at hk' ⊢; exact hk'.2
          clear hk hk' HI2
          go_enter Tryz.func35, Tryz.ntmps35
          go_wp2_with (first | (go_at_call 49; refine hC.out.mono ?_; rintro e w1 ⟨rfl, hB1⟩) | (go_at_call 50; refine (rkind_any _ (by omega) (by omega) _).mono ?_; rintro e w' ⟨rfl, rfl⟩))
          go_ret
          exact ⟨ret_bool HI3.out.symm, by assumption⟩
      · have bk := (bne_iff_ne (a := ck) (b := 0)).2 hck
        have HI2 : Hid (rwordB s.data.toList = false) := by rw [HI.out]; simp [hck, Hid]
        clear hck HI
        go_enter Tryz.func35, Tryz.ntmps35
        go_wp2_with (go_at_call 49; refine hC.out.mono ?_; rintro e w1 ⟨rfl, hB1⟩)
        go_ret
        exact ⟨ret_bool HI2.out.symm, by assumption⟩
    · have hgt : (64 < (s.size : Int)) := by omega
      have HI2 : Hid (rwordB s.data.toList = false) := by rw [HI.out]; simp [hl2, Hid]
      clear HI
      go_enter Tryz.func35, Tryz.ntmps35
      go_wp2_with (go_at_call 49; refine hC.out.mono ?_; rintro e w1 ⟨rfl, hB1⟩)
      go_ret
      exact ⟨ret_bool HI2.out.symm, Below.refl _ _⟩
  · have hge : ((s.size : Int) < 1) := by omega
    have HI2 : Hid (rwordB s.data.toList = false) := by rw [HI.out]; simp [hl1, Hid]
    clear HI
    go_enter Tryz.func35, Tryz.ntmps35
    go_wp2_with (go_at_call 49; refine hC.out.mono ?_; rintro e w1 ⟨rfl, hB1⟩)
    go_ret
    exact ⟨ret_bool HI2.out.symm, Below.refl _ _⟩

/-- Where all characters are letters or digits nothing is wrong. -/
theorem all_let {l : List UInt8} (h : lettersI l = l.length) : ∀ c ∈ l, isLet c = true := by
  unfold lettersI at h
  have h2 : (l.filter isLet).length = l.length := by omega
  exact List.length_filter_eq_length_iff.1 h2
theorem isLet_kind {c : UInt8} (h : isLet c = true) : kindI c.toNat = 1 ∨ kindI c.toNat = 3 := by simpa [isLet] using h

theorem rcheck_let {l : List UInt8} (hl : l.length ≤ 65536) (h : ∀ c ∈ l, isLet c = true) : rcheckI l = 0 := by
  unfold rcheckI
  rw [if_neg (by omega), if_neg]
  rintro ⟨k, hk, hb⟩
  unfold badAt at hb
  rw [List.getElem?_eq_getElem hk] at hb
  have := isLet_kind (h l[k] (List.getElem_mem hk))
  split at hb
  · next c f hc hf =>
    cases hc
    simp at hb; omega
  · cases hb

theorem rword_let {l : List UInt8} (h1 : 1 ≤ l.length) (h2 : l.length ≤ 64) (h : ∀ c ∈ l, isLet c = true) : rwordB l = true := by
  unfold rwordB
  have e1 : rcheckI l = 0 := rcheck_let (by omega) h
  have e2 : highAt l = false := by
    unfold highAt
    rw [List.any_eq_false]
    intro c hc
    have := isLet_kind (h c hc)
    simp; omega
  cases l with
  | nil => simp at h1
  | cons a l => simp only [e1, e2, h a List.mem_cons_self]; simp at h1 h2 ⊢; omega

def risNameB (s : ByteArray) : Bool := decide (s.size ≤ 16) && rwordB s.data.toList && decide (lettersI s.data.toList = s.size)
theorem risName_eq (s : ByteArray) : risNameB s = isNameB s := by
  unfold risNameB isNameB
  by_cases h16 : s.size ≤ 16
  · by_cases hl : lettersI s.data.toList = s.size
    · by_cases h0 : s.size = 0
      · have : rwordB s.data.toList = false := by unfold rwordB; simp [h0]
        simp [this, h0]
      · have : rwordB s.data.toList = true := rword_let (by simp; omega) (by simp; omega) (all_let (by rw [hl]; simp))
        simp [this, h0, h16, hl]
    · simp [hl]
  · simp [h16]

set_option maxHeartbeats 400000 in
theorem risName_any (s : ByteArray) (w : World) (hs : s.size ≤ maxLen) :
    Calls Tryz.prog 78 #[.string s] w fun e w' => e = .returned (.bool (isNameB s)) ∧ Below w.heap.size w w' := by
  have hW := hid (rword_any s w hs)
  have HL := fun w' => hid (rletters_any s w' hs)
  have HI : Hid (isNameB s = (decide (s.size ≤ 16) && rwordB s.data.toList && decide (lettersI s.data.toList = s.size))) := (risName_eq s).symm
  generalize rwordB s.data.toList = wb at *
  generalize lettersI s.data.toList = li at *
  unfold maxLen at hs
  by_cases h16 : (s.size : Int) ≤ 16
  · cases wb with
    | false =>
      go_enter Tryz.func78, Tryz.ntmps78
      go_wp2_with (first | (go_at_call 35; refine hW.out.mono ?_; rintro e w1 ⟨rfl, hB1⟩) | (go_at_call 94; refine (HL _).out.mono ?_; rintro e w' ⟨rfl, rfl⟩))
      go_ret
      exact ⟨ret_bool (by rw [HI.out]; simp), by assumption⟩
    | true =>
      go_enter Tryz.func78, Tryz.ntmps78
      go_wp2_with (first | (go_at_call 35; refine hW.out.mono ?_; rintro e w1 ⟨rfl, hB1⟩) | (go_at_call 94; refine (HL _).out.mono ?_; rintro e w' ⟨rfl, rfl⟩))
      go_ret
      refine ⟨ret_bool ?_, by assumption⟩
      rw [HI.out, show decide (s.size ≤ 16) = true by simp; omega]; rfl
  · go_enter Tryz.func78, Tryz.ntmps78
    go_wp2_with (first | (go_at_call 35; refine hW.out.mono ?_; rintro e w1 ⟨rfl, hB1⟩) | (go_at_call 94; refine (HL _).out.mono ?_; rintro e w' ⟨rfl, rfl⟩))
    go_ret
    refine ⟨ret_bool ?_, Below.refl _ _⟩
    rw [HI.out, show decide (s.size ≤ 16) = false by simp; omega]; rfl
end Go.Proofs.YtmbehkanhefcpaaGreatDoor
