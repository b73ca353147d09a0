/-
  The reference's charset functions: right, Check, IsWord, IsName.
-/
import Derived.Test.YtajhkfmhoihjfaaDoorRefA
namespace Go.Proofs.YtajhkfmhoihjfaaDoor
open Go.RowKit

/-! ### which marks stand right -/
def rgo : Int → Bool → List UInt8 → List Bool
  | _, _, [] => []
  | pk, pf, c :: r => (decide (kindI c.toNat = 2) && (decide (pk = 1) || pf)) :: rgo (kindI c.toNat) (decide (kindI c.toNat = 2) && (decide (pk = 1) || pf)) r
def rightL (l : List UInt8) : List Bool := rgo 0 false l

theorem rgo_len (l : List UInt8) : ∀ pk pf, (rgo pk pf l).length = l.length := by
  induction l with
  | nil => intro _ _; rfl
  | cons a l ih => intro _ _; simp [rgo, ih]
theorem rightL_len (l : List UInt8) : (rightL l).length = l.length := rgo_len l _ _

theorem rgo_succ (l : List UInt8) : ∀ (pk : Int) (pf : Bool) (k : Nat) (c d : UInt8) (f : Bool), l[k]? = some d → (rgo pk pf l)[k]? = some f → l[k + 1]? = some c →
    (rgo pk pf l)[k + 1]? = some (decide (kindI c.toNat = 2) && (decide (kindI d.toNat = 1) || f)) := by
  induction l with
  | nil => intro _ _ k _ _ _ h; simp at h
  | cons a l ih =>
    intro pk pf k c d f hd hf hc
    cases k with
    | zero =>
      simp only [List.getElem?_cons_zero, Option.some.injEq, rgo] at hd hf
      subst hd
      cases l with
      | nil => simp at hc
      | cons b l =>
        simp only [List.getElem?_cons_succ, List.getElem?_cons_zero, Option.some.injEq] at hc
        subst hc
        simp only [rgo, List.getElem?_cons_succ, List.getElem?_cons_zero, hf]
    | succ k =>
      simp only [List.getElem?_cons_succ, rgo] at hd hf hc ⊢
      exact ih _ _ k c d f hd hf hc
theorem rightL_zero (l : List UInt8) (c : UInt8) (h : l[0]? = some c) : (rightL l)[0]? = some false := by
  cases l with
  | nil => simp at h
  | cons a l => simp [rightL, rgo]
theorem rightL_succ (l : List UInt8) (k : Nat) (c d : UInt8) (f : Bool) (hd : l[k]? = some d) (hf : (rightL l)[k]? = some f) (hc : l[k + 1]? = some c) :
    (rightL l)[k + 1]? = some (decide (kindI c.toNat = 2) && (decide (kindI d.toNat = 1) || f)) := rgo_succ l _ _ k c d f hd hf hc

theorem infoBool : (Tryd.prog.info? 4).map (fun i => (i.zero, i.size, i.bytes)) = some (some (.bool false), 1, 1) := by kernel_rfl

theorem byte_at (s : ByteArray) (k : Nat) (h : k < s.size) : s.data.toList[k]? = some s[k] := by
  rw [List.getElem?_eq_getElem (by simpa using h)]; rfl
theorem byte_bd (c : UInt8) : 0 ≤ (c.toNat : Int) ∧ (c.toNat : Int) ≤ 255 := ⟨by omega, by have := UInt8.toNat_lt c; omega⟩

set_option maxHeartbeats 1000000 in
set_option maxRecDepth 100000 in
theorem right_any (s : ByteArray) (w : World) (hs : s.size ≤ 1048576) :
    Calls Tryd.prog 59 #[.string s] w fun e w' => ∃ v, e = .returned v ∧ Rd Value.bool w' v (rightL s.data.toList) ∧ Below w.heap.size w w' := by
  have hrl : (rightL s.data.toList).length = s.size := by rw [rightL_len]; simp
  go_enter Tryd.func59, Tryd.ntmps59
  go_wp2
  go_loopw [3, 4] (fun v i wr => ∃ (k : Nat) (xs : List Bool), k ≤ s.size ∧ i = .int .i64 k ∧ Hid (xs = (rightL s.data.toList).take k) ∧ xs.length ≤ k ∧ wr.ownsRow w.heap.size 4 1 v xs.length (xs.map Value.bool) ∧ Below w.heap.size w wr) (fun _ i _ => s.size - (intOf i).toNat)
  case atStart => exact ⟨0, [], by omega, rfl, by simp [Hid], by simp, World.ownsRow_made w #[] 0 (Nat.le_refl _) (by unfold maxLen; omega) rfl, below_al w _⟩
  case round =>
    rename_i wr
    obtain ⟨k, xs, hk, rfl, HX, hl, hown, hB⟩ := hrel
    by_cases hlt : k < s.size
    · have hbd := byte_bd s[k]
      have hck := byte_at s k hlt
      cases k with
      | zero =>
        have H0 := hid (rightL_zero _ _ hck)
        have HS : Hid ((rightL s.data.toList).take (0 + 1) = xs ++ [false]) := by rw [List.take_add_one, H0.out, HX.out]; simp [Hid]
        clear hck
        by_cases h2 : kindI s[0].toNat = 2
        · have b2 := beq_iff_eq.2 h2
          clear h2
          go_wp2_with (first | (go_at_call 73; refine (rkind_any _ (by omega) (by omega) _).mono ?_; rintro e w' ⟨rfl, rfl⟩) | (at_builtin; refine wpList_ap rfl _ _ 22 rfl w.heap.size 4 Tryd.underlying22 infoBool rfl (by decide) (by decide) _ _ _ rfl hown [.bool false] rfl (by simp [Value.oneCell']) rfl (by simp) (by omega) hB.size ?_; intro v' w1 hown' hb1 _))
          go_roundw
          case rel => exact ⟨1, xs ++ [false], by omega, by go_num, HS.out.symm, by rw [List.length_append, List.length_singleton]; omega, by simpa using hown', hB.trans hb1⟩
          case measure => simp [intOf]; omega
        · have b2 := beq_eq_false_iff_ne.2 h2
          clear h2
          go_wp2_with (first | (go_at_call 73; refine (rkind_any _ (by omega) (by omega) _).mono ?_; rintro e w' ⟨rfl, rfl⟩) | (at_builtin; refine wpList_ap rfl _ _ 22 rfl w.heap.size 4 Tryd.underlying22 infoBool rfl (by decide) (by decide) _ _ _ rfl hown [.bool false] rfl (by simp [Value.oneCell']) rfl (by simp) (by omega) hB.size ?_; intro v' w1 hown' hb1 _))
          go_roundw
          case rel => exact ⟨1, xs ++ [false], by omega, by go_num, HS.out.symm, by rw [List.length_append, List.length_singleton]; omega, by simpa using hown', hB.trans hb1⟩
          case measure => simp [intOf]; omega
      | succ m =>
        have hm : m < s.size := by omega
        have hbd' := byte_bd s[m]
        have hcm := byte_at s m hm
        obtain ⟨f, hf⟩ : ∃ f, (rightL s.data.toList)[m]? = some f := ⟨_, List.getElem?_eq_getElem (by omega)⟩
        have H0 := hid (rightL_succ _ m _ _ f hcm hf hck)
        have HS : Hid ((rightL s.data.toList).take (m + 1 + 1) = xs ++ [decide (kindI s[m + 1].toNat = 2) && (decide (kindI s[m].toNat = 1) || f)]) := by rw [List.take_add_one, H0.out, HX.out]; rfl
        have hxm : xs[m]? = some f := by rw [HX.out, List.getElem?_take, if_pos (by omega)]; exact hf
        have hxl : xs.length = m + 1 := by have := (List.getElem?_eq_some_iff.1 hxm).1; omega
        obtain ⟨a, cap, rfl, hlc, hcm2, hcell⟩ := (Rd.of_own hown).open
        obtain ⟨f', b, off, hx', rfl, hc⟩ := hcell m (by omega)
        obtain rfl : f' = f := Option.some.inj (hx'.symm.trans hxm)
        have hmx : m < xs.length := by omega
        have HXL := hid hxl
        clear hck hcm hf hxm hx' hcell hxl H0
        have hk1 : (0 : Int) < (m : Int) + 1 := by omega
        by_cases h2 : kindI s[m + 1].toNat = 2
        · have b2 := beq_iff_eq.2 h2
          by_cases h1 : kindI s[m].toNat = 1
          · have b1 := beq_iff_eq.2 h1
            have HS2 : Hid ((rightL s.data.toList).take (m + 1 + 1) = xs ++ [true]) := by rw [HS.out]; simp [h1, h2, Hid]
            clear h1 h2 HS
            go_wp2_with (first | (go_at_call 73; refine (rkind_any _ (by omega) (by omega) _).mono ?_; rintro e w' ⟨rfl, rfl⟩) | (at_builtin; refine wpList_ap rfl _ _ 22 rfl w.heap.size 4 Tryd.underlying22 infoBool rfl (by decide) (by decide) _ _ _ rfl hown [.bool true] rfl (by simp [Value.oneCell']) rfl (by simp) (by omega) hB.size ?_; intro v' w1 hown' hb1 _))
            go_roundw
            case rel => exact ⟨m + 1 + 1, xs ++ [true], by omega, by go_num, HS2.out.symm, by simp; omega, by simpa using hown', hB.trans hb1⟩
            case measure => simp [intOf]; omega
          · have b1 := beq_eq_false_iff_ne.2 h1
            have HS2 : Hid ((rightL s.data.toList).take (m + 1 + 1) = xs ++ [f']) := by rw [HS.out]; simp [h1, h2, Hid]
            clear h1 h2 HS
            go_wp2_with (first | (go_at_call 73; refine (rkind_any _ (by omega) (by omega) _).mono ?_; rintro e w' ⟨rfl, rfl⟩) | (at_builtin; refine wpList_ap rfl _ _ 22 rfl w.heap.size 4 Tryd.underlying22 infoBool rfl (by decide) (by decide) _ _ _ rfl hown [.bool f'] rfl (by simp [Value.oneCell']) rfl (by simp) (by omega) hB.size ?_; intro v' w1 hown' hb1 _))
            go_roundw
            case rel => exact ⟨m + 1 + 1, xs ++ [f'], by omega, by go_num, HS2.out.symm, by simp; omega, by simpa using hown', hB.trans hb1⟩
            case measure => simp [intOf]; omega
        · have b2 := beq_eq_false_iff_ne.2 h2
          have HS2 : Hid ((rightL s.data.toList).take (m + 1 + 1) = xs ++ [false]) := by rw [HS.out]; simp [h2, Hid]
          clear h2 HS
          go_wp2_with (first | (go_at_call 73; refine (rkind_any _ (by omega) (by omega) _).mono ?_; rintro e w' ⟨rfl, rfl⟩) | (at_builtin; refine wpList_ap rfl _ _ 22 rfl w.heap.size 4 Tryd.underlying22 infoBool rfl (by decide) (by decide) _ _ _ rfl hown [.bool false] rfl (by simp [Value.oneCell']) rfl (by simp) (by omega) hB.size ?_; intro v' w1 hown' hb1 _))
          go_roundw
          case rel => exact ⟨m + 1 + 1, xs ++ [false], by omega, by go_num, HS2.out.symm, by simp; omega, by simpa using hown', hB.trans hb1⟩
          case measure => simp [intOf]; omega
    · go_wp2
      go_ret
      exact ⟨_, rfl, by rw [show rightL s.data.toList = xs by rw [HX.out, List.take_of_length_le (by omega)]]; exact Rd.of_own hown, hB⟩

/-- Whether the character at a place is accepted. -/
def badAt (l : List UInt8) (k : Nat) : Bool := match l[k]?, (rightL l)[k]? with | some c, some f => decide (kindI c.toNat = 0) || (decide (kindI c.toNat = 2) && !f) | _, _ => false
def rcheckI (l : List UInt8) : Int := if 65536 < l.length then 4 else if (∃ k, k < l.length ∧ badAt l k = true) then 11 else 0
instance (l : List UInt8) : Decidable (∃ k, k < l.length ∧ badAt l k = true) := inferInstance

def highAt (l : List UInt8) : Bool := l.any fun c => decide (4 < kindI c.toNat)
def rwordB (l : List UInt8) : Bool := decide (1 ≤ l.length) && decide (l.length ≤ 64) && decide (rcheckI l = 0) && (match l with | [] => false | c :: _ => isLet c) && !highAt l

/-- Where all characters are letters or digits nothing is wrong. -/
theorem all_let {l : List UInt8} (h : lettersI l = l.length) : ∀ c ∈ l, isLet c = true := by
  unfold lettersI at h
  have h2 : (l.filter isLet).length = l.length := by omega
  exact List.length_filter_eq_length_iff.1 h2
theorem isLet_kind {c : UInt8} (h : isLet c = true) : kindI c.toNat = 1 ∨ kindI c.toNat = 3 := by simpa [isLet] using h

theorem rcheck_let {l : List UInt8} (hl : l.length ≤ 65536) (h : ∀ c ∈ l, isLet c = true) : rcheckI l = 0 := by
  unfold rcheckI
  rw [if_neg (by omega), if_neg]
  rintro ⟨k, hk, hb⟩
  unfold badAt at hb
  rw [List.getElem?_eq_getElem hk] at hb
  have := isLet_kind (h l[k] (List.getElem_mem hk))
  split at hb
  · next c f hc hf =>
    cases hc
    simp at hb; omega
  · cases hb

theorem rword_let {l : List UInt8} (h1 : 1 ≤ l.length) (h2 : l.length ≤ 64) (h : ∀ c ∈ l, isLet c = true) : rwordB l = true := by
  unfold rwordB
  have e1 : rcheckI l = 0 := rcheck_let (by omega) h
  have e2 : highAt l = false := by
    unfold highAt
    rw [List.any_eq_false]
    intro c hc
    have := isLet_kind (h c hc)
    simp; omega
  cases l with
  | nil => simp at h1
  | cons a l => simp only [e1, e2, h a List.mem_cons_self]; simp at h1 h2 ⊢; omega

def risNameB (s : ByteArray) : Bool := decide (s.size ≤ 16) && rwordB s.data.toList && decide (lettersI s.data.toList = s.size)
theorem risName_eq (s : ByteArray) : risNameB s = isNameB s := by
  unfold risNameB isNameB
  by_cases h16 : s.size ≤ 16
  · by_cases hl : lettersI s.data.toList = s.size
    · by_cases h0 : s.size = 0
      · have : rwordB s.data.toList = false := by unfold rwordB; simp [h0]
        simp [this, h0]
      · have : rwordB s.data.toList = true := rword_let (by simp; omega) (by simp; omega) (all_let (by rw [hl]; simp))
        simp [this, h0, h16, hl]
    · simp [hl]
  · simp [h16]

end Go.Proofs.YtajhkfmhoihjfaaDoor
