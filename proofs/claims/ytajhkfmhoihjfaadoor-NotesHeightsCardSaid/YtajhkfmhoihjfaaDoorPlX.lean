/-
  The heights of notes in blocks: the plain words.
-/
import Derived.Test.YtajhkfmhoihjfaaDoorNoteE
namespace Go.Proofs.YtajhkfmhoihjfaaDoor
open Go.RowKit

def big (n : Int) : Bool := decide (1073741824 < n)
def anyBig (M : List (List Int)) : Bool := M.any fun r => r.any big
def addM (M : List (List Int)) (i j : Nat) (n : Int) : List (List Int) := M.set i ((M.getD i []).set j ((M.getD i []).getD j 0 + n))
/-- A note at a line, in a block. -/
structure Nt where
  at' : Int
  lay : Int
  txt : ByteArray
def badN (count blocks : Int) (x : Nt) : Bool := decide (x.at' < 0) || decide (count ≤ x.at') || decide (x.lay < 0) || decide (blocks ≤ x.lay)
def goB (st : St) (count blocks : Int) : List Nt → List (List Int) → Int × List (List Int)
  | [], M => (0, M)
  | x :: r, M => if badN count blocks x = true then (2, []) else if heightI st x.txt = 0 then goB st count blocks r (addM M x.at'.toNat x.lay.toNat (heightN st x.txt)) else (heightI st x.txt, [])
def zerM (count blocks : Int) : List (List Int) := List.replicate count.toNat (List.replicate blocks.toNat 0)
def nts (at' lay : List Int) (notes : List ByteArray) : List Nt := (at'.zip (lay.zip notes)).map fun x => ⟨x.1, x.2.1, x.2.2⟩
theorem nts_get {l1 l2 : List Int} {l3 : List ByteArray} {i : Nat} {a b : Int} {s : ByteArray} (h1 : l1[i]? = some a) (h2 : l2[i]? = some b) (h3 : l3[i]? = some s) : (nts l1 l2 l3)[i]? = some ⟨a, b, s⟩ := by
  unfold nts
  have e : (l1.zip (l2.zip l3))[i]? = some (a, b, s) := List.getElem?_zip_eq_some.2 ⟨h1, List.getElem?_zip_eq_some.2 ⟨h2, h3⟩⟩
  rw [List.getElem?_map, e]
  rfl
theorem nts_len {l1 l2 : List Int} {l3 : List ByteArray} (h1 : l1.length = l2.length) (h2 : l1.length = l3.length) : (nts l1 l2 l3).length = l3.length := by
  unfold nts
  rw [List.length_map, List.length_zip, List.length_zip]
  omega
def badC' (count blocks : Int) : Bool := decide (count < 0) || decide (4096 < count) || decide (blocks < 0) || decide (16 < blocks)
def preI (st : St) (count blocks : Int) (n1 n2 n3 : Nat) : Int := if styleI st ≠ 0 then styleI st else if badC' count blocks = true then 2 else if n1 ≠ n2 ∨ n1 ≠ n3 then 9 else 0
def blocksI (st : St) (count blocks : Int) (l1 l2 : List Int) (l3 : List ByteArray) : Int :=
  if preI st count blocks l1.length l2.length l3.length ≠ 0 then preI st count blocks l1.length l2.length l3.length
  else if (goB st count blocks (nts l1 l2 l3) (zerM count blocks)).1 ≠ 0 then (goB st count blocks (nts l1 l2 l3) (zerM count blocks)).1
  else if anyBig (goB st count blocks (nts l1 l2 l3) (zerM count blocks)).2 = true then 4 else 0
def blocksM (st : St) (count blocks : Int) (l1 l2 : List Int) (l3 : List ByteArray) : List (List Int) := if blocksI st count blocks l1 l2 l3 = 0 then (goB st count blocks (nts l1 l2 l3) (zerM count blocks)).2 else []

/-- A matrix of so many rows and columns, its numbers within bounds. -/
structure MatOk (M : List (List Int)) (c b : Nat) (hi : Int) : Prop where
  rows : M.length = c
  cols : ∀ r ∈ M, r.length = b
  lo : ∀ r ∈ M, ∀ n ∈ r, 0 ≤ n ∧ n ≤ hi
theorem zerM_ok (count blocks : Int) : MatOk (zerM count blocks) count.toNat blocks.toNat 0 := by
  unfold zerM
  refine ⟨List.length_replicate, fun r hr => ?_, fun r hr n hn => ?_⟩
  · rw [(List.mem_replicate.1 hr).2, List.length_replicate]
  · rw [(List.mem_replicate.1 hr).2] at hn
    have := (List.mem_replicate.1 hn).2
    omega
theorem MatOk.get {M : List (List Int)} {c b : Nat} {hi : Int} (h : MatOk M c b hi) {i j : Nat} (hi1 : i < c) (hj : j < b) : ∃ row n, M[i]? = some row ∧ row[j]? = some n ∧ row.length = b ∧ 0 ≤ n ∧ n ≤ hi ∧ ∀ m, addM M i j m = M.set i (row.set j (n + m)) := by
  have h1 : i < M.length := by rw [h.rows]; exact hi1
  have hm : M[i] ∈ M := List.getElem_mem h1
  have hb := h.cols _ hm
  have h2 : j < M[i].length := by rw [hb]; exact hj
  have hn := h.lo _ hm _ (List.getElem_mem h2)
  refine ⟨M[i], M[i][j], List.getElem?_eq_getElem h1, List.getElem?_eq_getElem h2, hb, hn.1, hn.2, fun m => ?_⟩
  unfold addM
  rw [List.getD_eq_getElem?_getD, List.getElem?_eq_getElem h1, Option.getD_some, List.getD_eq_getElem?_getD, List.getElem?_eq_getElem h2, Option.getD_some]
theorem MatOk.add {M : List (List Int)} {c b : Nat} {hi : Int} (h : MatOk M c b hi) {i j : Nat} (hi1 : i < c) (hj : j < b) {m d : Int} (hm : 0 ≤ m) (hd : m ≤ d) (_h0 : 0 ≤ hi) : MatOk (addM M i j m) c b (hi + d) := by
  obtain ⟨row, n, h1, h2, h3, h4, h5, h6⟩ := h.get hi1 hj
  rw [h6]
  have hrow := List.mem_of_getElem? h1
  refine ⟨by rw [List.length_set]; exact h.rows, fun r hr => ?_, fun r hr x hx => ?_⟩
  · rcases List.mem_or_eq_of_mem_set hr with h7 | rfl
    · exact h.cols r h7
    · rw [List.length_set]; exact h3
  · rcases List.mem_or_eq_of_mem_set hr with h7 | rfl
    · have := h.lo r h7 x hx; omega
    · rcases List.mem_or_eq_of_mem_set hx with h8 | rfl
      · have := h.lo row hrow x h8; omega
      · omega
theorem badN_no {count blocks : Int} {x : Nt} (h : badN count blocks x = false) : 0 ≤ x.at' ∧ x.at' < count ∧ 0 ≤ x.lay ∧ x.lay < blocks := by
  unfold badN at h
  simp only [Bool.or_eq_false_iff, decide_eq_false_iff_not] at h
  omega
theorem badN_cases (count blocks : Int) (x : Nt) : (badN count blocks x = true ∧ (x.at' < 0 ∨ (¬ x.at' < 0 ∧ count ≤ x.at') ∨ (¬ x.at' < 0 ∧ ¬ count ≤ x.at' ∧ x.lay < 0) ∨ (¬ x.at' < 0 ∧ ¬ count ≤ x.at' ∧ ¬ x.lay < 0 ∧ blocks ≤ x.lay))) ∨ (badN count blocks x = false ∧ ¬ x.at' < 0 ∧ ¬ count ≤ x.at' ∧ ¬ x.lay < 0 ∧ ¬ blocks ≤ x.lay) := by
  by_cases h : badN count blocks x = true
  · left
    refine ⟨h, ?_⟩
    unfold badN at h
    simp only [Bool.or_eq_true, decide_eq_true_eq] at h
    omega
  · right
    have h2 : badN count blocks x = false := by simpa using h
    have := badN_no h2
    exact ⟨h2, by omega, by omega, by omega, by omega⟩
theorem heightN_bd {st : St} {s : ByteArray} (h : heightI st s = 0) : 0 ≤ heightN st s ∧ heightN st s ≤ 1073741824 := by
  unfold heightN
  rw [if_pos h]
  unfold heightI at h
  split at h
  · rename_i h0
    split at h
    · cases h
    · obtain ⟨_, _, _, kn⟩ := style_ok (setI_zero h0).1
      exact ⟨Int.mul_nonneg (by omega) kn.1, by omega⟩
  · rename_i h0; exact absurd h h0
end Go.Proofs.YtajhkfmhoihjfaaDoor
