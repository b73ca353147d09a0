/-
  The reference's charset functions: right, Check, IsWord, IsName.
-/
import Derived.Test.YtalpgilncohkbaaRefA
namespace Go.Proofs.Ytalpgilncohkbaa
open Go.RowKit

/-! ### which marks stand right -/
def rgo : Int → Bool → List UInt8 → List Bool
  | _, _, [] => []
  | pk, pf, c :: r => (decide (kindI c.toNat = 2) && (decide (pk = 1) || pf)) :: rgo (kindI c.toNat) (decide (kindI c.toNat = 2) && (decide (pk = 1) || pf)) r
def rightL (l : List UInt8) : List Bool := rgo 0 false l

theorem rgo_len (l : List UInt8) : ∀ pk pf, (rgo pk pf l).length = l.length := by
  induction l with
  | nil => intro _ _; rfl
  | cons a l ih => intro _ _; simp [rgo, ih]
theorem rightL_len (l : List UInt8) : (rightL l).length = l.length := rgo_len l _ _

theorem rgo_succ (l : List UInt8) : ∀ (pk : Int) (pf : Bool) (k : Nat) (c d : UInt8) (f : Bool), l[k]? = some d → (rgo pk pf l)[k]? = some f → l[k + 1]? = some c →
    (rgo pk pf l)[k + 1]? = some (decide (kindI c.toNat = 2) && (decide (kindI d.toNat = 1) || f)) := by
  induction l with
  | nil => intro _ _ k _ _ _ h; simp at h
  | cons a l ih =>
    intro pk pf k c d f hd hf hc
    cases k with
    | zero =>
      simp only [List.getElem?_cons_zero, Option.some.injEq, rgo] at hd hf
      subst hd
      cases l with
      | nil => simp at hc
      | cons b l =>
        simp only [List.getElem?_cons_succ, List.getElem?_cons_zero, Option.some.injEq] at hc
        subst hc
        simp only [rgo, List.getElem?_cons_succ, List.getElem?_cons_zero, hf]
    | succ k =>
      simp only [List.getElem?_cons_succ, rgo] at hd hf hc ⊢
      exact ih _ _ k c d f hd hf hc
theorem rightL_zero (l : List UInt8) (c : UInt8) (h : l[0]? = some c) : (rightL l)[0]? = some false := by
  cases l with
  | nil => simp at h
  | cons a l => simp [rightL, rgo]
theorem rightL_succ (l : List UInt8) (k : Nat) (c d : UInt8) (f : Bool) (hd : l[k]? = some d) (hf : (rightL l)[k]? = some f) (hc : l[k + 1]? = some c) :
    (rightL l)[k + 1]? = some (decide (kindI c.toNat = 2) && (decide (kindI d.toNat = 1) || f)) := rgo_succ l _ _ k c d f hd hf hc

theorem infoBool : (Try.prog.info? 4).map (fun i => (i.zero, i.size, i.bytes)) = some (some (.bool false), 1, 1) := by kernel_rfl

theorem byte_at (s : ByteArray) (k : Nat) (h : k < s.size) : s.data.toList[k]? = some s[k] := by
  rw [List.getElem?_eq_getElem (by simpa using h)]; rfl
theorem byte_bd (c : UInt8) : 0 ≤ (c.toNat : Int) ∧ (c.toNat : Int) ≤ 255 := ⟨by omega, by have := UInt8.toNat_lt c; omega⟩

/-- Whether the character at a place is accepted. -/
def badAt (l : List UInt8) (k : Nat) : Bool := match l[k]?, (rightL l)[k]? with | some c, some f => decide (kindI c.toNat = 0) || (decide (kindI c.toNat = 2) && !f) | _, _ => false
def rcheckI (l : List UInt8) : Int := if 65536 < l.length then 4 else if (∃ k, k < l.length ∧ badAt l k = true) then 11 else 0
instance (l : List UInt8) : Decidable (∃ k, k < l.length ∧ badAt l k = true) := inferInstance

def highAt (l : List UInt8) : Bool := l.any fun c => decide (4 < kindI c.toNat)
def rwordB (l : List UInt8) : Bool := decide (1 ≤ l.length) && decide (l.length ≤ 64) && decide (rcheckI l = 0) && (match l with | [] => false | c :: _ => isLet c) && !highAt l

/-- Where all characters are letters or digits nothing is wrong. -/
theorem all_let {l : List UInt8} (h : lettersI l = l.length) : ∀ c ∈ l, isLet c = true := by
  unfold lettersI at h
  have h2 : (l.filter isLet).length = l.length := by omega
  exact List.length_filter_eq_length_iff.1 h2
theorem isLet_kind {c : UInt8} (h : isLet c = true) : kindI c.toNat = 1 ∨ kindI c.toNat = 3 := by simpa [isLet] using h

theorem rcheck_let {l : List UInt8} (hl : l.length ≤ 65536) (h : ∀ c ∈ l, isLet c = true) : rcheckI l = 0 := by
  unfold rcheckI
  rw [if_neg (by omega), if_neg]
  rintro ⟨k, hk, hb⟩
  unfold badAt at hb
  rw [List.getElem?_eq_getElem hk] at hb
  have := isLet_kind (h l[k] (List.getElem_mem hk))
  split at hb
  · next c f hc hf =>
    cases hc
    simp at hb; omega
  · cases hb

theorem rword_let {l : List UInt8} (h1 : 1 ≤ l.length) (h2 : l.length ≤ 64) (h : ∀ c ∈ l, isLet c = true) : rwordB l = true := by
  unfold rwordB
  have e1 : rcheckI l = 0 := rcheck_let (by omega) h
  have e2 : highAt l = false := by
    unfold highAt
    rw [List.any_eq_false]
    intro c hc
    have := isLet_kind (h c hc)
    simp; omega
  cases l with
  | nil => simp at h1
  | cons a l => simp only [e1, e2, h a List.mem_cons_self]; simp at h1 h2 ⊢; omega

def risNameB (s : ByteArray) : Bool := decide (s.size ≤ 16) && rwordB s.data.toList && decide (lettersI s.data.toList = s.size)
theorem risName_eq (s : ByteArray) : risNameB s = isNameB s := by
  unfold risNameB isNameB
  by_cases h16 : s.size ≤ 16
  · by_cases hl : lettersI s.data.toList = s.size
    · by_cases h0 : s.size = 0
      · have : rwordB s.data.toList = false := by unfold rwordB; simp [h0]
        simp [this, h0]
      · have : rwordB s.data.toList = true := rword_let (by simp; omega) (by simp; omega) (all_let (by rw [hl]; simp))
        simp [this, h0, h16, hl]
    · simp [hl]
  · simp [h16]

end Go.Proofs.Ytalpgilncohkbaa
