/-
  P50.5, the plain laws: the heights of all blocks are those of all notes; the order of the notes does not matter.
-/
import Derived.Test.YtajhkfmhoihjfaaDoorPlX
namespace Go.Proofs.YtajhkfmhoihjfaaDoor

def okN (st : St) (count blocks : Int) (x : Nt) : Prop := badN count blocks x = false ∧ heightI st x.txt = 0
def addN (st : St) (M : List (List Int)) (x : Nt) : List (List Int) := addM M x.at'.toNat x.lay.toNat (heightN st x.txt)
theorem goB_ok {st : St} {count blocks : Int} : ∀ {L : List Nt} {M : List (List Int)}, (∀ x ∈ L, okN st count blocks x) → goB st count blocks L M = (0, L.foldl (addN st) M)
  | [], M, _ => rfl
  | x :: r, M, h => by
    obtain ⟨h1, h2⟩ := h x (by simp)
    rw [goB, if_neg (by rw [h1]; decide), if_pos h2, goB_ok fun y hy => h y (by simp [hy])]
    rfl
theorem goB_all {st : St} {count blocks : Int} : ∀ {L : List Nt} {M : List (List Int)}, (goB st count blocks L M).1 = 0 → ∀ x ∈ L, okN st count blocks x
  | [], M, _, x, hx => by cases hx
  | y :: r, M, h, x, hx => by
    rw [goB] at h
    split at h
    · cases h
    · rename_i hb
      split at h
      · rename_i hh
        rcases List.mem_cons.1 hx with rfl | h2
        · exact ⟨by simpa using hb, hh⟩
        · exact goB_all h x h2
      · rename_i hh
        exact absurd h hh
theorem set_getD_ne {α : Type} (l : List α) (d : α) {i j : Nat} (x : α) (h : i ≠ j) : (l.set i x).getD j d = l.getD j d := by
  rw [List.getD_eq_getElem?_getD, List.getD_eq_getElem?_getD, List.getElem?_set_ne h]
theorem set_set_same {α : Type} (l : List α) (i : Nat) (x y : α) : (l.set i x).set i y = l.set i y := by simp
theorem set_getD_same {α : Type} (l : List α) (d : α) (i : Nat) (x : α) (h : i < l.length) : (l.set i x).getD i d = x := by
  rw [List.getD_eq_getElem?_getD, List.getElem?_set_self h]; rfl
/-- Two additions may change places. -/
theorem addM_comm (M : List (List Int)) (i j i' j' : Nat) (n n' : Int) : addM (addM M i j n) i' j' n' = addM (addM M i' j' n') i j n := by
  unfold addM
  by_cases hi : i = i'
  · subst hi
    by_cases hl : i < M.length
    · rw [set_getD_same _ _ _ _ hl, set_getD_same _ _ _ _ hl, List.set_set, List.set_set]
      congr 1
      generalize M.getD i [] = r
      by_cases hj : j = j'
      · subst hj
        by_cases hr : j < r.length
        · rw [set_getD_same _ _ _ _ hr, set_getD_same _ _ _ _ hr, List.set_set, List.set_set]
          congr 1
          omega
        · rw [List.set_eq_of_length_le (by simpa using Nat.le_of_not_lt hr), List.set_eq_of_length_le (by simpa using Nat.le_of_not_lt hr)]
          rw [List.set_eq_of_length_le (by simpa using Nat.le_of_not_lt hr), List.set_eq_of_length_le (by simpa using Nat.le_of_not_lt hr)]
      · rw [set_getD_ne _ _ _ hj, set_getD_ne _ _ _ (Ne.symm hj), List.set_comm _ _ hj]
    · have e : ∀ (x : List Int), M.set i x = M := fun x => List.set_eq_of_length_le (Nat.le_of_not_lt hl)
      simp only [e]
  · rw [set_getD_ne _ _ _ hi, set_getD_ne _ _ _ (Ne.symm hi), List.set_comm _ _ hi]
theorem fold_perm (st : St) {L L' : List Nt} (h : List.Perm L L') (M : List (List Int)) : L.foldl (addN st) M = L'.foldl (addN st) M :=
  h.foldl_eq' (fun _ _ _ _ z => addM_comm z _ _ _ _ _ _) M
theorem nts_rotate {l1 l2 : List Int} {l3 : List ByteArray} (h1 : l1.length = l2.length) (h2 : l1.length = l3.length) (k : Nat) : List.Perm (nts (l1.drop k ++ l1.take k) (l2.drop k ++ l2.take k) (l3.drop k ++ l3.take k)) (nts l1 l2 l3) := by
  unfold nts
  refine List.Perm.map _ ?_
  have e1 : (l2.drop k ++ l2.take k).zip (l3.drop k ++ l3.take k) = (l2.drop k).zip (l3.drop k) ++ (l2.take k).zip (l3.take k) := List.zip_append (by simp; omega)
  rw [e1, List.zip_append (by simp; omega)]
  have e2 : l1.zip (l2.zip l3) = (l1.take k).zip ((l2.take k).zip (l3.take k)) ++ (l1.drop k).zip ((l2.drop k).zip (l3.drop k)) := by
    conv => lhs; rw [← List.take_append_drop k l1, ← List.take_append_drop k l2, ← List.take_append_drop k l3]
    rw [List.zip_append (l₁ := l2.take k) (by simp; omega), List.zip_append (by simp; omega)]
  rw [e2]
  exact List.perm_append_comm
def sumM (M : List (List Int)) : Int := (M.map fun r => r.sum).sum
theorem sum_set (l : List Int) (i : Nat) (n d : Int) (h : l[i]? = some n) : (l.set i (n + d)).sum = l.sum + d := by
  induction l generalizing i with
  | nil => simp at h
  | cons x r ih =>
    cases i with
    | zero =>
      have : x = n := by simpa using h
      subst this
      rw [List.set_cons_zero, List.sum_cons, List.sum_cons]; omega
    | succ i =>
      rw [List.set_cons_succ, List.sum_cons, List.sum_cons, ih i (by simpa using h)]; omega
theorem sumM_set (M : List (List Int)) (i j : Nat) (row : List Int) (n d : Int) (h1 : M[i]? = some row) (h2 : row[j]? = some n) : sumM (M.set i (row.set j (n + d))) = sumM M + d := by
  unfold sumM
  rw [List.map_set, sum_set row j n d h2, sum_set _ i row.sum d (by rw [List.getElem?_map, h1]; rfl)]
theorem fold_ok {st : St} {c b : Nat} : ∀ {L : List Nt} {M : List (List Int)} {hi : Int}, (∀ x ∈ L, okN st c b x) → MatOk M c b hi → 0 ≤ hi → MatOk (L.foldl (addN st) M) c b (hi + L.length * 1073741824) ∧ sumM (L.foldl (addN st) M) = sumM M + (L.map fun x => heightN st x.txt).sum
  | [], M, hi, _, hm, _ => ⟨by simpa using hm, by simp⟩
  | x :: r, M, hi, h, hm, h0 => by
    obtain ⟨h1, h2⟩ := h x (by simp)
    have hb := badN_no h1
    have hbd := heightN_bd h2
    have hi1 : x.at'.toNat < c := by omega
    have hj1 : x.lay.toNat < b := by omega
    have hm2 := hm.add hi1 hj1 hbd.1 hbd.2 h0
    obtain ⟨row, n, g1, g2, _, _, _, g3⟩ := hm.get hi1 hj1
    have ih := fold_ok (L := r) (M := addM M x.at'.toNat x.lay.toNat (heightN st x.txt)) (hi := hi + 1073741824) (fun y hy => h y (by simp [hy])) hm2 (by omega)
    have e : (x :: r).foldl (addN st) M = r.foldl (addN st) (addM M x.at'.toNat x.lay.toNat (heightN st x.txt)) := rfl
    rw [e, List.map_cons, List.sum_cons, List.length_cons]
    refine ⟨?_, ?_⟩
    · have h5 := ih.1
      rw [show hi + ((r.length + 1 : Nat) : Int) * 1073741824 = hi + 1073741824 + (r.length : Int) * 1073741824 by omega]
      exact h5
    · rw [ih.2, g3, sumM_set M _ _ row n _ g1 g2]; omega
theorem sumM_zer (count blocks : Int) : sumM (zerM count blocks) = 0 := by
  unfold sumM zerM
  rw [List.map_replicate]
  have : (List.replicate blocks.toNat (0 : Int)).sum = 0 := by
    induction blocks.toNat with
    | zero => rfl
    | succ n ih => rw [List.replicate_succ, List.sum_cons, ih]; rfl
  rw [this]
  induction count.toNat with
  | zero => rfl
  | succ n ih => rw [List.replicate_succ, List.sum_cons, ih]; rfl

/-- What is known where there is no error. -/
structure BlkOk (st : St) (count blocks : Int) (l1 l2 : List Int) (l3 : List ByteArray) : Prop where
  n2 : l1.length = l2.length
  n3 : l1.length = l3.length
  cnt : 0 ≤ count ∧ count ≤ 4096
  blk : 0 ≤ blocks ∧ blocks ≤ 16
  rows : ((blocksM st count blocks l1 l2 l3).length : Int) = count
  cols : ∀ r ∈ blocksM st count blocks l1 l2 l3, (r.length : Int) = blocks
  bd : ∀ r ∈ blocksM st count blocks l1 l2 l3, ∀ n ∈ r, 0 ≤ n ∧ n ≤ 1073741824
  hts : ∀ s ∈ l3, heightI st s = 0
  sum : sumM (blocksM st count blocks l1 l2 l3) = (l3.map fun s => heightN st s).sum
  turn : ∀ k, blocksI st count blocks (l1.drop k ++ l1.take k) (l2.drop k ++ l2.take k) (l3.drop k ++ l3.take k) = 0 ∧ blocksM st count blocks (l1.drop k ++ l1.take k) (l2.drop k ++ l2.take k) (l3.drop k ++ l3.take k) = blocksM st count blocks l1 l2 l3
theorem nts_txt {l1 l2 : List Int} {l3 : List ByteArray} (h1 : l1.length = l2.length) (h2 : l1.length = l3.length) : (nts l1 l2 l3).map (·.txt) = l3 := by
  unfold nts
  rw [List.map_map]
  have e : (fun x : Nt => x.txt) ∘ (fun x : Int × Int × ByteArray => (⟨x.1, x.2.1, x.2.2⟩ : Nt)) = fun x => x.2.2 := rfl
  rw [e]
  have e2 : (l1.zip (l2.zip l3)).map (fun x => x.2.2) = ((l1.zip (l2.zip l3)).map Prod.snd).map Prod.snd := by rw [List.map_map]; rfl
  rw [e2, List.map_snd_zip (by rw [List.length_zip]; omega), List.map_snd_zip (by omega)]
theorem blk_ok {st : St} {count blocks : Int} {l1 l2 : List Int} {l3 : List ByteArray} (h : blocksI st count blocks l1 l2 l3 = 0) : BlkOk st count blocks l1 l2 l3 := by
  have h0 := h
  unfold blocksI at h
  by_cases hp : preI st count blocks l1.length l2.length l3.length = 0
  · rw [if_neg (by rw [hp]; simp)] at h
    have hpre := hp
    unfold preI at hp
    split at hp
    · rename_i h1; exact absurd hp h1
    · rename_i hst
      split at hp
      · cases hp
      · rename_i hbad
        split at hp
        · cases hp
        · rename_i hn
          have hb : 0 ≤ count ∧ count ≤ 4096 ∧ 0 ≤ blocks ∧ blocks ≤ 16 := by
            unfold badC' at hbad
            simp only [Bool.not_eq_true, Bool.or_eq_false_iff, decide_eq_false_iff_not] at hbad
            omega
          have hn2 : l1.length = l2.length := by omega
          have hn3 : l1.length = l3.length := by omega
          obtain ⟨C, rfl⟩ : ∃ C : Nat, count = (C : Int) := ⟨count.toNat, by omega⟩
          obtain ⟨B, rfl⟩ : ∃ B : Nat, blocks = (B : Int) := ⟨blocks.toNat, by omega⟩
          by_cases hg : (goB st C B (nts l1 l2 l3) (zerM C B)).1 = 0
          · have hall := goB_all hg
            have hgo := goB_ok (M := zerM C B) hall
            rw [if_neg (by rw [hg]; simp)] at h
            have hnb : anyBig (goB st C B (nts l1 l2 l3) (zerM C B)).2 = false := by
              cases hx : anyBig (goB st C B (nts l1 l2 l3) (zerM C B)).2 with
              | false => rfl
              | true => rw [hx] at h; cases h
            have hM : blocksM st C B l1 l2 l3 = (nts l1 l2 l3).foldl (addN st) (zerM C B) := by unfold blocksM; rw [if_pos h0, hgo]
            have hz := zerM_ok (C : Int) (B : Int)
            rw [Int.toNat_natCast, Int.toNat_natCast] at hz
            obtain ⟨f1, f2⟩ := fold_ok hall hz (Int.le_refl 0)
            rw [← hM] at f1 f2
            rw [hgo] at hnb
            dsimp only at hnb
            rw [← hM] at hnb
            have htx := nts_txt hn2 hn3
            refine ⟨hn2, hn3, by omega, by omega, by rw [f1.rows], fun r hr => by rw [f1.cols r hr], fun r hr n hn' => ⟨(f1.lo r hr n hn').1, ?_⟩, fun s hs => ?_, ?_, fun k => ?_⟩
            · unfold anyBig at hnb
              have g1 := List.any_eq_false.1 hnb r hr
              have g2 := List.any_eq_false.1 (by simpa using g1) n hn'
              unfold big at g2
              simp at g2
              omega
            · rw [← htx] at hs
              obtain ⟨x, hx, rfl⟩ := List.mem_map.1 hs
              exact (hall x hx).2
            · rw [f2, sumM_zer]
              conv => rhs; rw [← htx]
              rw [List.map_map, Int.zero_add]; rfl
            · have hperm := nts_rotate hn2 hn3 k
              have hall' : ∀ x ∈ nts (l1.drop k ++ l1.take k) (l2.drop k ++ l2.take k) (l3.drop k ++ l3.take k), okN st C B x := fun x hx => hall x (hperm.mem_iff.1 hx)
              have hgo' := goB_ok (M := zerM C B) hall'
              rw [fold_perm st hperm, ← hM] at hgo'
              have hlen : preI st C B (l1.drop k ++ l1.take k).length (l2.drop k ++ l2.take k).length (l3.drop k ++ l3.take k).length = 0 := by
                have e : ∀ {α : Type} (l : List α), (l.drop k ++ l.take k).length = l.length := fun l => by
                  rw [List.length_append, List.length_drop, List.length_take]; omega
                rw [e, e, e]; exact hpre
              have hI : blocksI st C B (l1.drop k ++ l1.take k) (l2.drop k ++ l2.take k) (l3.drop k ++ l3.take k) = 0 := by
                unfold blocksI
                rw [if_neg (by rw [hlen]; simp), hgo', if_neg (by simp), if_neg (by rw [hnb]; simp)]
              exact ⟨hI, by conv => lhs; unfold blocksM
                            rw [if_pos hI, hgo']⟩
          · rw [if_pos hg] at h; exact absurd h hg
  · rw [if_pos hp] at h; exact absurd h hp
end Go.Proofs.YtajhkfmhoihjfaaDoor
