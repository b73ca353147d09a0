/-
  Joined: PlX Mat PlPn PlQn PlRn.
-/
import Derived.Test.YtlneimjenjpbnaaDoorNoteE
import Derived.Test.YtlneimjenjpbnaaDoorJ01
import Derived.Test.YtlneimjenjpbnaaDoorJ02
import Derived.Test.YtlneimjenjpbnaaDoorPp
/-
  The heights of notes in blocks: the plain words.
-/
namespace Go.Proofs.YtlneimjenjpbnaaDoor
open Go.RowKit

def big (n : Int) : Bool := decide (1073741824 < n)
def anyBig (M : List (List Int)) : Bool := M.any fun r => r.any big
def addM (M : List (List Int)) (i j : Nat) (n : Int) : List (List Int) := M.set i ((M.getD i []).set j ((M.getD i []).getD j 0 + n))
/-- A note at a line, in a block. -/
structure Nt where
  at' : Int
  lay : Int
  txt : ByteArray
def badN (count blocks : Int) (x : Nt) : Bool := decide (x.at' < 0) || decide (count ≤ x.at') || decide (x.lay < 0) || decide (blocks ≤ x.lay)
def goB (st : St) (count blocks : Int) : List Nt → List (List Int) → Int × List (List Int)
  | [], M => (0, M)
  | x :: r, M => if badN count blocks x = true then (2, []) else if heightI st x.txt = 0 then goB st count blocks r (addM M x.at'.toNat x.lay.toNat (heightN st x.txt)) else (heightI st x.txt, [])
def zerM (count blocks : Int) : List (List Int) := List.replicate count.toNat (List.replicate blocks.toNat 0)
def nts (at' lay : List Int) (notes : List ByteArray) : List Nt := (at'.zip (lay.zip notes)).map fun x => ⟨x.1, x.2.1, x.2.2⟩
theorem nts_get {l1 l2 : List Int} {l3 : List ByteArray} {i : Nat} {a b : Int} {s : ByteArray} (h1 : l1[i]? = some a) (h2 : l2[i]? = some b) (h3 : l3[i]? = some s) : (nts l1 l2 l3)[i]? = some ⟨a, b, s⟩ := by
  unfold nts
  have e : (l1.zip (l2.zip l3))[i]? = some (a, b, s) := List.getElem?_zip_eq_some.2 ⟨h1, List.getElem?_zip_eq_some.2 ⟨h2, h3⟩⟩
  rw [List.getElem?_map, e]
  rfl
theorem nts_len {l1 l2 : List Int} {l3 : List ByteArray} (h1 : l1.length = l2.length) (h2 : l1.length = l3.length) : (nts l1 l2 l3).length = l3.length := by
  unfold nts
  rw [List.length_map, List.length_zip, List.length_zip]
  omega
def badC' (count blocks : Int) : Bool := decide (count < 0) || decide (4096 < count) || decide (blocks < 0) || decide (16 < blocks)
def preI (st : St) (count blocks : Int) (n1 n2 n3 : Nat) : Int := if styleI st ≠ 0 then styleI st else if badC' count blocks = true then 2 else if n1 ≠ n2 ∨ n1 ≠ n3 then 9 else 0
def blocksI (st : St) (count blocks : Int) (l1 l2 : List Int) (l3 : List ByteArray) : Int :=
  if preI st count blocks l1.length l2.length l3.length ≠ 0 then preI st count blocks l1.length l2.length l3.length
  else if (goB st count blocks (nts l1 l2 l3) (zerM count blocks)).1 ≠ 0 then (goB st count blocks (nts l1 l2 l3) (zerM count blocks)).1
  else if anyBig (goB st count blocks (nts l1 l2 l3) (zerM count blocks)).2 = true then 4 else 0
def blocksM (st : St) (count blocks : Int) (l1 l2 : List Int) (l3 : List ByteArray) : List (List Int) := if blocksI st count blocks l1 l2 l3 = 0 then (goB st count blocks (nts l1 l2 l3) (zerM count blocks)).2 else []

/-- A matrix of so many rows and columns, its numbers within bounds. -/
structure MatOk (M : List (List Int)) (c b : Nat) (hi : Int) : Prop where
  rows : M.length = c
  cols : ∀ r ∈ M, r.length = b
  lo : ∀ r ∈ M, ∀ n ∈ r, 0 ≤ n ∧ n ≤ hi
theorem zerM_ok (count blocks : Int) : MatOk (zerM count blocks) count.toNat blocks.toNat 0 := by
  unfold zerM
  refine ⟨List.length_replicate, fun r hr => ?_, fun r hr n hn => ?_⟩
  · rw [(List.mem_replicate.1 hr).2, List.length_replicate]
  · rw [(List.mem_replicate.1 hr).2] at hn
    have := (List.mem_replicate.1 hn).2
    omega
theorem MatOk.get {M : List (List Int)} {c b : Nat} {hi : Int} (h : MatOk M c b hi) {i j : Nat} (hi1 : i < c) (hj : j < b) : ∃ row n, M[i]? = some row ∧ row[j]? = some n ∧ row.length = b ∧ 0 ≤ n ∧ n ≤ hi ∧ ∀ m, addM M i j m = M.set i (row.set j (n + m)) := by
  have h1 : i < M.length := by rw [h.rows]; exact hi1
  have hm : M[i] ∈ M := List.getElem_mem h1
  have hb := h.cols _ hm
  have h2 : j < M[i].length := by rw [hb]; exact hj
  have hn := h.lo _ hm _ (List.getElem_mem h2)
  refine ⟨M[i], M[i][j], List.getElem?_eq_getElem h1, List.getElem?_eq_getElem h2, hb, hn.1, hn.2, fun m => ?_⟩
  unfold addM
  rw [List.getD_eq_getElem?_getD, List.getElem?_eq_getElem h1, Option.getD_some, List.getD_eq_getElem?_getD, List.getElem?_eq_getElem h2, Option.getD_some]
theorem MatOk.add {M : List (List Int)} {c b : Nat} {hi : Int} (h : MatOk M c b hi) {i j : Nat} (hi1 : i < c) (hj : j < b) {m d : Int} (hm : 0 ≤ m) (hd : m ≤ d) (_h0 : 0 ≤ hi) : MatOk (addM M i j m) c b (hi + d) := by
  obtain ⟨row, n, h1, h2, h3, h4, h5, h6⟩ := h.get hi1 hj
  rw [h6]
  have hrow := List.mem_of_getElem? h1
  refine ⟨by rw [List.length_set]; exact h.rows, fun r hr => ?_, fun r hr x hx => ?_⟩
  · rcases List.mem_or_eq_of_mem_set hr with h7 | rfl
    · exact h.cols r h7
    · rw [List.length_set]; exact h3
  · rcases List.mem_or_eq_of_mem_set hr with h7 | rfl
    · have := h.lo r h7 x hx; omega
    · rcases List.mem_or_eq_of_mem_set hx with h8 | rfl
      · have := h.lo row hrow x h8; omega
      · omega
theorem badN_no {count blocks : Int} {x : Nt} (h : badN count blocks x = false) : 0 ≤ x.at' ∧ x.at' < count ∧ 0 ≤ x.lay ∧ x.lay < blocks := by
  unfold badN at h
  simp only [Bool.or_eq_false_iff, decide_eq_false_iff_not] at h
  omega
theorem badN_cases (count blocks : Int) (x : Nt) : (badN count blocks x = true ∧ (x.at' < 0 ∨ (¬ x.at' < 0 ∧ count ≤ x.at') ∨ (¬ x.at' < 0 ∧ ¬ count ≤ x.at' ∧ x.lay < 0) ∨ (¬ x.at' < 0 ∧ ¬ count ≤ x.at' ∧ ¬ x.lay < 0 ∧ blocks ≤ x.lay))) ∨ (badN count blocks x = false ∧ ¬ x.at' < 0 ∧ ¬ count ≤ x.at' ∧ ¬ x.lay < 0 ∧ ¬ blocks ≤ x.lay) := by
  by_cases h : badN count blocks x = true
  · left
    refine ⟨h, ?_⟩
    unfold badN at h
    simp only [Bool.or_eq_true, decide_eq_true_eq] at h
    omega
  · right
    have h2 : badN count blocks x = false := by simpa using h
    have := badN_no h2
    exact ⟨h2, by omega, by omega, by omega, by omega⟩
theorem heightN_bd {st : St} {s : ByteArray} (h : heightI st s = 0) : 0 ≤ heightN st s ∧ heightN st s ≤ 1073741824 := by
  unfold heightN
  rw [if_pos h]
  unfold heightI at h
  split at h
  · rename_i h0
    split at h
    · cases h
    · obtain ⟨_, _, _, kn⟩ := style_ok (setI_zero h0).1
      exact ⟨Int.mul_nonneg (by omega) kn.1, by omega⟩
  · rename_i h0; exact absurd h h0
end Go.Proofs.YtlneimjenjpbnaaDoor

/-
  A slice of slices of numbers that a call made itself (Mat0), beside the plain laws of chapter 50.
-/
namespace Go.Proofs.YtlneimjenjpbnaaDoor
end Go.Proofs.YtlneimjenjpbnaaDoor

/-
  Plain: the notes of a line are on its page: what a page wants is the height of its lines, of all lines of their notes, and of a gap for each block that it has.
-/
namespace Go.Proofs.YtlneimjenjpbnaaDoor

def colM (M : List (List Int)) (b : Nat) : List Int := M.map fun l => l.getD b 0
theorem sumTo_set : ∀ (L : List Int) (i : Nat) (x d : Int), L[i]? = some x → ∀ t, sumTo (L.set i (x + d)) t = sumTo L t + if i < t then d else 0
  | [], i, x, d, h, t => by simp at h
  | y :: r, 0, x, d, h, t => by
    have e : y = x := by simpa using h
    subst e
    cases t with
    | zero => rfl
    | succ t =>
      show ((y + d) :: r.take t).sum = (y :: r.take t).sum + _
      rw [if_pos (by omega), List.sum_cons, List.sum_cons]
      omega
  | y :: r, i + 1, x, d, h, t => by
    cases t with
    | zero => rfl
    | succ t =>
      have h' : r[i]? = some x := by simpa using h
      have := sumTo_set r i x d h' t
      show (y :: (r.set i (x + d)).take t).sum = (y :: r.take t).sum + _
      unfold sumTo at this
      rw [List.sum_cons, List.sum_cons, this]
      by_cases hi : i < t
      · rw [if_pos hi, if_pos (by omega)]; omega
      · rw [if_neg hi, if_neg (by omega)]; omega
theorem colM_add {M : List (List Int)} {i j : Nat} {row : List Int} {n m : Int} (h1 : M[i]? = some row) (h2 : row[j]? = some n) (b : Nat) :
    colM (M.set i (row.set j (n + m))) b = if b = j then (colM M b).set i (n + m) else colM M b := by
  unfold colM
  rw [List.map_set]
  have hj := (List.getElem?_eq_some_iff.1 h2).1
  by_cases hb : b = j
  · subst hb
    rw [if_pos rfl]
    congr 1
    rw [List.getD_eq_getElem?_getD, List.getElem?_set_self hj, Option.getD_some]
  · rw [if_neg hb]
    refine List.ext_getElem? fun k => ?_
    by_cases hk : k = i
    · subst hk
      rw [List.getElem?_set_self (by rw [List.length_map]; exact (List.getElem?_eq_some_iff.1 h1).1), List.getElem?_map, h1, Option.map_some]
      rw [List.getD_eq_getElem?_getD, List.getD_eq_getElem?_getD, List.getElem?_set_ne (fun e => hb e.symm)]
    · rw [List.getElem?_set_ne (fun e => hk e.symm)]
/-- The heights of the notes of some lines, in one block. -/
def hIn (st : St) (f t b : Nat) : List Nt → Int
  | [] => 0
  | x :: r => (if x.lay = (b : Int) ∧ (f : Int) ≤ x.at' ∧ x.at' < (t : Int) then heightN st x.txt else 0) + hIn st f t b r
def hAll (st : St) (f t : Nat) : List Nt → Int
  | [] => 0
  | x :: r => (if (f : Int) ≤ x.at' ∧ x.at' < (t : Int) then heightN st x.txt else 0) + hAll st f t r
theorem goB_sec {st : St} {count blocks : Int} {f t b : Nat} (hft : f ≤ t) : ∀ (xs : List Nt) (M M' : List (List Int)) (hi : Int), 0 ≤ hi → MatOk M count.toNat blocks.toNat hi → goB st count blocks xs M = (0, M') →
    sumTo (colM M' b) t - sumTo (colM M' b) f = sumTo (colM M b) t - sumTo (colM M b) f + hIn st f t b xs
  | [], M, M', hi, h0, hm, h => by
    rw [goB] at h
    cases h
    rw [hIn]; omega
  | x :: r, M, M', hi, h0, hm, h => by
    rw [goB] at h
    by_cases hbad : badN count blocks x = true
    · rw [if_pos hbad] at h; cases h
    rw [if_neg hbad] at h
    have hok := badN_no (by simpa using hbad)
    by_cases hh : heightI st x.txt = 0
    · rw [if_pos hh] at h
      have hbd := heightN_bd hh
      have hi1 : x.at'.toNat < count.toNat := by omega
      have hj1 : x.lay.toNat < blocks.toNat := by omega
      have ih := goB_sec (b := b) hft r _ M' _ (by omega : 0 ≤ hi + 1073741824) (hm.add hi1 hj1 hbd.1 hbd.2 h0) h
      rw [ih]
      obtain ⟨row, n, h1, h2, _, _, _, h6⟩ := hm.get hi1 hj1
      rw [h6, colM_add h1 h2, hIn]
      by_cases hb : b = x.lay.toNat
      · have hcol : (colM M b)[x.at'.toNat]? = some n := by
          unfold colM
          rw [List.getElem?_map, h1, Option.map_some, List.getD_eq_getElem?_getD, hb, h2, Option.getD_some]
        rw [if_pos hb, sumTo_set _ _ _ _ hcol, sumTo_set _ _ _ _ hcol]
        by_cases c1 : x.at'.toNat < f
        · rw [if_pos c1, if_pos (by omega), if_neg (by omega)]; omega
        · by_cases c2 : x.at'.toNat < t
          · rw [if_neg c1, if_pos c2, if_pos (by omega)]; omega
          · rw [if_neg c1, if_neg c2, if_neg (by omega)]; omega
      · rw [if_neg hb, if_neg (by omega)]; omega
    · rw [if_neg hh] at h
      simp only [Prod.mk.injEq] at h
      exact absurd h.1 hh
theorem zer_sec (count blocks : Int) (b k : Nat) : sumTo (colM (zerM count blocks) b) k = 0 := by
  unfold zerM colM
  rw [List.map_replicate]
  have e : (List.replicate blocks.toNat (0 : Int)).getD b 0 = 0 := by
    rw [List.getD_eq_getElem?_getD]
    cases h : (List.replicate blocks.toNat (0 : Int))[b]? with
    | none => rfl
    | some x => rw [Option.getD_some]; exact (List.mem_replicate.1 (List.mem_of_getElem? h)).2
  rw [e]
  unfold sumTo
  rw [List.take_replicate]
  generalize min k count.toNat = m
  induction m with
  | zero => rfl
  | succ m ih => rw [List.replicate_succ, List.sum_cons, ih]; rfl
theorem goB_all {st : St} {count blocks : Int} : ∀ (xs : List Nt) (M M' : List (List Int)), goB st count blocks xs M = (0, M') → ∀ x ∈ xs, badN count blocks x = false ∧ heightI st x.txt = 0
  | [], _, _, _, x, hx => by cases hx
  | y :: r, M, M', h, x, hx => by
    rw [goB] at h
    by_cases hbad : badN count blocks y = true
    · rw [if_pos hbad] at h; cases h
    rw [if_neg hbad] at h
    by_cases hh : heightI st y.txt = 0
    · rw [if_pos hh] at h
      rcases List.mem_cons.1 hx with rfl | hx
      · exact ⟨by simpa using hbad, hh⟩
      · exact goB_all r _ _ h x hx
    · rw [if_neg hh] at h
      simp only [Prod.mk.injEq] at h
      exact absurd h.1 hh
theorem hIn_nn {st : St} {f t b : Nat} : ∀ {xs : List Nt}, (∀ x ∈ xs, heightI st x.txt = 0) → 0 ≤ hIn st f t b xs
  | [], _ => Int.le_refl _
  | x :: r, h => by
    have h1 := heightN_bd (h x (by simp))
    have h2 := hIn_nn (st := st) (f := f) (t := t) (b := b) (xs := r) (fun y hy => h y (by simp [hy]))
    rw [hIn]
    split <;> omega
theorem hAll_three {st : St} {f t : Nat} : ∀ {xs : List Nt}, (∀ x ∈ xs, 0 ≤ x.lay ∧ x.lay < 3) → hAll st f t xs = hIn st f t 0 xs + hIn st f t 1 xs + hIn st f t 2 xs
  | [], _ => rfl
  | x :: r, h => by
    have h1 := h x (by simp)
    have h2 := hAll_three (st := st) (f := f) (t := t) (xs := r) (fun y hy => h y (by simp [hy]))
    rw [hAll, hIn, hIn, hIn, h2]
    by_cases c : (f : Int) ≤ x.at' ∧ x.at' < (t : Int)
    · rw [if_pos c]
      rcases (show x.lay = 0 ∨ x.lay = 1 ∨ x.lay = 2 by omega) with e | e | e
      · rw [if_pos ⟨by omega, c⟩, if_neg (fun h => by omega), if_neg (fun h => by omega)]; omega
      · rw [if_neg (fun h => by omega), if_pos ⟨by omega, c⟩, if_neg (fun h => by omega)]; omega
      · rw [if_neg (fun h => by omega), if_neg (fun h => by omega), if_pos ⟨by omega, c⟩]; omega
    · rw [if_neg c, if_neg (fun h => c h.2), if_neg (fun h => c h.2), if_neg (fun h => c h.2)]; omega
theorem sumTo_rep (x : Int) (n : Nat) : ∀ k, k ≤ n → sumTo (List.replicate n x) k = (k : Int) * x
  | k, h => by
    unfold sumTo
    rw [List.take_replicate, Nat.min_eq_left h]
    clear h
    induction k with
    | zero => simp
    | succ k ih =>
      rw [List.replicate_succ, List.sum_cons, ih, Int.natCast_add, Int.add_mul]
      omega
def gapI (g o : Int) : Int := if 0 < o then g else 0
/-- What a page wants, reckoned note by note. -/
def needI (st : St) (lh g : Int) (f t : Nat) (xs : List Nt) : Int :=
  ((t : Int) - (f : Int)) * lh + hAll st f t xs + gapI g (hIn st f t 0 xs) + gapI g (hIn st f t 1 xs) + gapI g (hIn st f t 2 xs)
theorem need_hgt {st : St} {p : PP} {lh : Int} {n f t : Nat} {xs : List Nt} (hl : p.lines = List.replicate n lh) (hM : goB st (n : Int) 3 xs (zerM (n : Int) 3) = (0, p.notes)) (hn : 0 < n) (h1 : f ≤ t) (h2 : t ≤ n) : needI st lh p.gap f t xs = hgt p f t := by
  have hall := goB_all xs _ _ hM
  have hlay : ∀ x ∈ xs, 0 ≤ x.lay ∧ x.lay < 3 := fun x hx => by have := badN_no (hall x hx).1; omega
  have hnn : ∀ b, 0 ≤ hIn st f t b xs := fun b => hIn_nn fun x hx => (hall x hx).2
  have hz := zerM_ok (n : Int) 3
  have hcol : ∀ b, sumTo (col p b) t - sumTo (col p b) f = hIn st f t b xs := fun b => by
    have h := goB_sec (b := b) h1 xs _ _ 0 (Int.le_refl _) hz hM
    rw [zer_sec, zer_sec] at h
    have e : col p b = colM p.notes b := rfl
    rw [e]; omega
  have hnb : p.nb = 3 := by
    have hm : ∃ hi, MatOk p.notes (n : Int).toNat (3 : Int).toNat hi := by
      have key : ∀ (ys : List Nt) (M M' : List (List Int)) (hi : Int), 0 ≤ hi → MatOk M (n : Int).toNat (3 : Int).toNat hi → goB st (n : Int) 3 ys M = (0, M') → ∃ hi', MatOk M' (n : Int).toNat (3 : Int).toNat hi' := by
        intro ys
        induction ys with
        | nil =>
          intro M M' hi _ hm h
          rw [goB] at h; cases h
          exact ⟨hi, hm⟩
        | cons x r ih =>
          intro M M' hi h0 hm h
          rw [goB] at h
          by_cases hbad : badN (n : Int) 3 x = true
          · rw [if_pos hbad] at h; cases h
          rw [if_neg hbad] at h
          have hok := badN_no (by simpa using hbad)
          by_cases hh : heightI st x.txt = 0
          · rw [if_pos hh] at h
            have hbd := heightN_bd hh
            exact ih _ _ (hi + 1073741824) (by omega) (hm.add (by omega) (by omega) hbd.1 hbd.2 h0) h
          · rw [if_neg hh] at h
            simp only [Prod.mk.injEq] at h
            exact absurd h.1 hh
      exact key xs _ _ 0 (Int.le_refl _) hz hM
    obtain ⟨hi, hm⟩ := hm
    have hr := hm.rows
    unfold PP.nb
    cases hN : p.notes with
    | nil => rw [hN] at hr; simp at hr; omega
    | cons a r =>
      have := hm.cols a (by rw [hN]; simp)
      simpa using this
  unfold needI hgt
  rw [hnb, hl, sumTo_rep _ _ _ h2, sumTo_rep _ _ _ (by omega), hAll_three hlay, Int.sub_mul]
  have hb : blkH p f t 3 = (if 0 < hIn st f t 0 xs then hIn st f t 0 xs + p.gap else 0) + (if 0 < hIn st f t 1 xs then hIn st f t 1 xs + p.gap else 0) + (if 0 < hIn st f t 2 xs then hIn st f t 2 xs + p.gap else 0) := by
    simp only [blkH, hcol]
    omega
  rw [hb]
  have a0 := hnn 0
  have a1 := hnn 1
  have a2 := hnn 2
  unfold gapI
  split <;> split <;> split <;> omega
end Go.Proofs.YtlneimjenjpbnaaDoor

/-
  Plain: ends that go up are ends of pages; a chain of pages, one by one.
-/
namespace Go.Proofs.YtlneimjenjpbnaaDoor

/-- The numbers go up from f on, below k. -/
def Up (f : Nat) : List Nat → Nat → Prop
  | [], k => f < k
  | x :: r, k => f < x ∧ Up x r k
theorem Up.weak : ∀ {L : List Nat} {f k l : Nat}, Up f L k → k ≤ l → Up f L l
  | [], _, _, _, h, hl => Nat.lt_of_lt_of_le h hl
  | _ :: _, _, _, _, h, hl => ⟨h.1, Up.weak h.2 hl⟩
theorem Up.snoc : ∀ {L : List Nat} {f k : Nat}, Up f L k → Up f (L ++ [k]) (k + 1)
  | [], _, k, h => ⟨h, Nat.lt_succ_self k⟩
  | _ :: _, _, _, h => ⟨h.1, Up.snoc h.2⟩
theorem Up.lt : ∀ {L : List Nat} {f k : Nat}, Up f L k → f < k
  | [], _, _, h => h
  | _ :: _, _, _, h => Nat.lt_trans h.1 (Up.lt h.2)
theorem Up.chn {p : PP} : ∀ {L : List Nat} {f : Nat}, Up f L p.n → Chn p f (L ++ [p.n])
  | [], _, h => ⟨h, Nat.le_refl _, rfl⟩
  | _ :: _, _, h => ⟨h.1, Nat.le_of_lt (Up.lt h.2), Up.chn h.2⟩
/-- One page of a chain. -/
theorem cost_step {p : PP} {f t : Nat} {r : List Nat} (h : (costF p f (t :: r)).2 = 0) : (pgI p f t).2 = 0 ∧ (costF p t r).2 = 0 := by
  rw [costF] at h
  by_cases h1 : (pgI p f t).2 = 0
  · refine ⟨h1, ?_⟩
    by_cases h2 : (costF p t r).2 = 0
    · exact h2
    · simp [h1, h2] at h
  · simp [h1] at h
theorem page_fits {p : PP} {f t : Nat} (h : (pgI p f t).2 = 0) : hgt p f t ≤ p.h := by
  by_cases h1 : p.h < hgt p f t
  · rw [pgI_22.2 h1] at h; cases h
  · omega
end Go.Proofs.YtlneimjenjpbnaaDoor

/-
  Plain: what a page wants, note after note.
-/
namespace Go.Proofs.YtlneimjenjpbnaaDoor

theorem hIn_app (st : St) (f t b : Nat) : ∀ (xs ys : List Nt), hIn st f t b (xs ++ ys) = hIn st f t b xs + hIn st f t b ys
  | [], ys => by rw [List.nil_append, hIn]; omega
  | x :: r, ys => by rw [List.cons_append, hIn, hIn, hIn_app st f t b r ys]; omega
theorem hAll_app (st : St) (f t : Nat) : ∀ (xs ys : List Nt), hAll st f t (xs ++ ys) = hAll st f t xs + hAll st f t ys
  | [], ys => by rw [List.nil_append, hAll]; omega
  | x :: r, ys => by rw [List.cons_append, hAll, hAll, hAll_app st f t r ys]; omega
theorem hIn_next {st : St} {f t b i : Nat} {xs : List Nt} {x : Nt} (h : xs[i]? = some x) : hIn st f t b (xs.take (i + 1)) = hIn st f t b (xs.take i) + (if x.lay = (b : Int) ∧ (f : Int) ≤ x.at' ∧ x.at' < (t : Int) then heightN st x.txt else 0) := by
  rw [List.take_add_one, h, hIn_app]
  simp [hIn]
theorem hAll_next {st : St} {f t i : Nat} {xs : List Nt} {x : Nt} (h : xs[i]? = some x) : hAll st f t (xs.take (i + 1)) = hAll st f t (xs.take i) + (if (f : Int) ≤ x.at' ∧ x.at' < (t : Int) then heightN st x.txt else 0) := by
  rw [List.take_add_one, h, hAll_app]
  simp [hAll]
theorem hAll_bd {st : St} {f t : Nat} : ∀ {xs : List Nt}, (∀ x ∈ xs, heightI st x.txt = 0) → 0 ≤ hAll st f t xs ∧ hAll st f t xs ≤ (xs.length : Int) * 1073741824
  | [], _ => ⟨Int.le_refl _, by simp [hAll]⟩
  | x :: r, h => by
    have h1 := heightN_bd (h x (by simp))
    have h2 := hAll_bd (st := st) (f := f) (t := t) (xs := r) (fun y hy => h y (by simp [hy]))
    rw [hAll, List.length_cons, Int.natCast_add, Int.add_mul]
    split <;> omega
/-- A note within the page: its block has something. -/
theorem some_next {a b : Int} (ha : 0 ≤ a) (hb : 0 ≤ b) : (decide (0 < a) || decide (0 < b)) = decide (0 < a + b) := by
  by_cases h1 : 0 < a
  · rw [decide_eq_true h1, decide_eq_true (show 0 < a + b by omega)]; rfl
  · by_cases h2 : 0 < b
    · rw [decide_eq_true h2, decide_eq_true (show 0 < a + b by omega), Bool.or_true]
    · rw [decide_eq_false h1, decide_eq_false h2, decide_eq_false (show ¬ 0 < a + b by omega)]; rfl
/-- What the blocks bring: notes all right. -/
theorem blocks_good {st : St} {count : Int} {l1 l2 : List Int} {l3 : List ByteArray} (h : blocksI st count 3 l1 l2 l3 = 0) :
    goB st count 3 (nts l1 l2 l3) (zerM count 3) = (0, blocksM st count 3 l1 l2 l3) := by
  unfold blocksM
  rw [if_pos h]
  unfold blocksI at h
  split at h
  · rename_i h1; exact absurd h h1
  split at h
  · rename_i h1; exact absurd h h1
  rename_i h1
  exact Prod.ext (Classical.not_not.1 h1) rfl
end Go.Proofs.YtlneimjenjpbnaaDoor
