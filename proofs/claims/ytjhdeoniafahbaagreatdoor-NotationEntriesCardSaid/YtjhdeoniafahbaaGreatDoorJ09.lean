/-
  Joined: PlW Awk45.
-/
import Derived.Test.YtjhdeoniafahbaaGreatDoorRsv
import Derived.Test.YtjhdeoniafahbaaGreatDoorPar45
import Derived.Test.YtjhdeoniafahbaaGreatDoorRsn
/-
  Plain: the lines of words, the window of a note, the note of an entry. No step of a program is in sight here.
-/
namespace Go.Proofs.YtjhdeoniafahbaaGreatDoor
open Go.RowKit

theorem lnGo_ok : ∀ (ls la : List Int) (p : Option Int), lnGo p ls la = 0 → ls.length = la.length →
    (∀ q a, p = some q → ls[0]? = some a → q ≤ a) ∧ (∀ (i : Nat) a b, ls[i]? = some a → la[i]? = some b → a ≤ b) ∧ (∀ (i : Nat) b a, la[i]? = some b → ls[i + 1]? = some a → b ≤ a)
  | [], _, _, _, _ => ⟨fun q a _ h => by simp at h, fun i a b h => by simp at h, fun i b a _ h => by simp at h⟩
  | a :: r, [], _, _, hl => by simp at hl
  | a :: r, b :: t, p, h, hl => by
    rw [lnGo] at h
    split at h
    · cases h
    · split at h
      · cases h
      · rename_i h2
        rw [not_or] at h2
        obtain ⟨i1, i2, i3⟩ := lnGo_ok r t (some b) h (by simpa using hl)
        refine ⟨?_, ?_, ?_⟩
        · rintro q x rfl hx
          obtain rfl : a = x := by simpa using hx
          have := h2.2
          unfold lnBad at this
          simpa using this
        · intro i x y hx hy
          cases i with
          | zero =>
            obtain rfl : a = x := by simpa using hx
            obtain rfl : b = y := by simpa using hy
            omega
          | succ i => exact i2 i x y (by simpa using hx) (by simpa using hy)
        · intro i y x hy hx
          cases i with
          | zero =>
            obtain rfl : b = y := by simpa using hy
            exact i1 b x rfl (by simpa using hx)
          | succ i => exact i3 i y x (by simpa using hy) (by simpa using hx)
theorem ln_mono {ls la : List Int} (hl : ls.length = la.length) (h2 : ∀ (i : Nat) a b, ls[i]? = some a → la[i]? = some b → a ≤ b) (h3 : ∀ (i : Nat) b a, la[i]? = some b → ls[i + 1]? = some a → b ≤ a) :
    ∀ (d i : Nat) (a b : Int), ls[i]? = some a → ls[i + d]? = some b → a ≤ b
  | 0, i, a, b, ha, hb => by
    rw [Nat.add_zero, ha] at hb
    cases hb; exact Int.le_refl _
  | d + 1, i, a, b, ha, hb => by
    have hlt := (List.getElem?_eq_some_iff.1 hb).1
    have e1 : ls[i + d]? = some ls[i + d] := List.getElem?_eq_getElem (by omega)
    have e2 : la[i + d]? = some la[i + d] := List.getElem?_eq_getElem (by omega)
    have g1 := ln_mono hl h2 h3 d i a _ ha e1
    have g2 := h2 _ _ _ e1 e2
    have g3 := h3 _ _ _ e2 hb
    omega
theorem fIdx_first {α : Type} {p : α → Bool} {l : List α} {k : Nat} (h : fIdx p l = (k : Int)) : ∀ j y, j < k → l[j]? = some y → p y = false := by
  intro j y hj hy
  unfold fIdx at h
  cases hf : l.findIdx? p with
  | none => rw [hf] at h; simp at h
  | some i =>
    rw [hf] at h
    obtain rfl : i = k := by simp at h; omega
    obtain ⟨_, _, h3⟩ := List.findIdx?_eq_some_iff_getElem.1 hf
    obtain ⟨hlt, rfl⟩ := List.getElem?_eq_some_iff.1 hy
    simpa using h3 j hj
theorem tw_ge {α : Type} {p : α → Bool} : ∀ (n : Nat) (l : List α), (∀ j, j < n → ∃ y, l[j]? = some y ∧ p y = true) → n ≤ (l.takeWhile p).length
  | 0, _, _ => Nat.zero_le _
  | n + 1, [], h => by obtain ⟨y, hy, _⟩ := h 0 (by omega); simp at hy
  | n + 1, a :: r, h => by
    obtain ⟨y, hy, hp⟩ := h 0 (by omega)
    obtain rfl : a = y := by simpa using hy
    rw [List.takeWhile_cons, if_pos hp, List.length_cons]
    have := tw_ge n r fun j hj => by
      obtain ⟨z, hz, hq⟩ := h (j + 1) (by omega)
      exact ⟨z, by simpa using hz, hq⟩
    omega
theorem lnAt_some {l : List Int} {i : Nat} (h : i < l.length) : l[i]? = some (lnAt l i) := by
  unfold lnAt
  rw [List.getD_eq_getElem?_getD, Int.toNat_natCast, List.getElem?_eq_getElem h]; rfl
/-- The window of the words f .. t holds them. -/
theorem win {ls la : List Int} {ws : List ByteArray} (hl : listsI ls la ws.length = 0) {f t : Nat} (hf : f < t) (ht : t ≤ ws.length) :
    ∃ i e : Nat, i ≤ f ∧ t ≤ e ∧ e ≤ ws.length ∧ wAt ls (lnAt ls (f : Int)) (lnAt la ((t : Int) - 1)) = (i : Int) ∧ wWs ls ws (lnAt ls (f : Int)) (lnAt la ((t : Int) - 1)) = (ws.take e).drop i ∧
      lnAt ls (f : Int) ≤ lnAt ls ((t : Int) - 1) ∧ lnAt ls ((t : Int) - 1) ≤ lnAt la ((t : Int) - 1) := by
  obtain ⟨n1, n2, hgo⟩ := lists_len hl
  obtain ⟨_, h2, h3⟩ := lnGo_ok ls la none hgo (by omega)
  have hm := ln_mono (by omega) h2 h3
  have et : (t : Int) - 1 = ((t - 1 : Nat) : Int) := by omega
  rw [et]
  have ea := lnAt_some (l := ls) (i := f) (by omega)
  have ec := lnAt_some (l := ls) (i := t - 1) (by omega)
  have eb := lnAt_some (l := la) (i := t - 1) (by omega)
  have hac := hm (t - 1 - f) f _ _ ea (by rw [show f + (t - 1 - f) = t - 1 by omega]; exact ec)
  have hcb := h2 _ _ _ ec eb
  generalize lnAt ls (f : Int) = a at *
  generalize lnAt la ((t - 1 : Nat) : Int) = b at *
  generalize lnAt ls ((t - 1 : Nat) : Int) = c at *
  have hany : ls.any (inB a b) = true := List.any_eq_true.2 ⟨a, List.mem_of_getElem? ea, by unfold inB; simp; omega⟩
  have hpos := fIdx_pos (inB a b) ls
  rw [hany] at hpos
  have hpos2 : 0 ≤ wFst ls a b := of_decide_eq_true hpos
  rcases fIdx_cases (inB a b) ls with hI | ⟨i, x, hI, hx, hi, hp⟩
  · have : wFst ls a b = -1 := hI
    omega
  · have hW : wFst ls a b = (i : Int) := hI
    have hif : i ≤ f := by
      by_cases h : f < i
      · have := fIdx_first hI f a h ea
        have hq : inB a b a = true := by unfold inB; simp; omega
        rw [hq] at this; cases this
      · omega
    unfold inB at hp
    simp only [Bool.and_eq_true, decide_eq_true_eq] at hp
    have htw : t - i ≤ ((ls.drop i).takeWhile (inB a b)).length := tw_ge _ _ fun j hj => by
      have ej : ls[i + j]? = some ls[i + j] := List.getElem?_eq_getElem (by omega)
      refine ⟨_, by rw [List.getElem?_drop]; exact ej, ?_⟩
      have g1 := hm j i _ _ hx ej
      have g2 := hm (t - 1 - (i + j)) (i + j) _ _ ej (by rw [show i + j + (t - 1 - (i + j)) = t - 1 by omega]; exact ec)
      unfold inB
      simp only [Bool.and_eq_true, decide_eq_true_eq]
      omega
    have hle := (List.takeWhile_prefix (inB a b) (l := ls.drop i)).length_le
    rw [List.length_drop] at hle
    have hE : wEnd ls a b = i + ((ls.drop i).takeWhile (inB a b)).length := by unfold wEnd; rw [hW, Int.toNat_natCast]
    refine ⟨i, wEnd ls a b, hif, by omega, by omega, ?_, ?_, hac, hcb⟩
    · unfold wAt; rw [if_neg (by omega), hW]
    · unfold wWs; rw [if_neg (by omega), hW, Int.toNat_natCast]
theorem win_at {ws : List ByteArray} {i e k : Nat} (h1 : i ≤ k) (h2 : k < e) (d : ByteArray) : ((ws.take e).drop i).getD (k - i) d = ws.getD k d := by
  rw [List.getD_eq_getElem?_getD, List.getD_eq_getElem?_getD, List.getElem?_drop, List.getElem?_take, if_pos (by omega), show i + (k - i) = k by omega]
theorem win_last {ws : List ByteArray} {i e f t : Nat} (h1 : i ≤ f) (h2 : f < t) (h3 : t ≤ e) : lastW ((ws.take e).drop i) (f - i) (t - i) = lastW ws f t := by
  unfold lastW
  rw [show t - i - (f - i) = t - f by omega, show t - i - 1 = t - 1 - i by omega, win_at (by omega) (by omega)]
/-- The lemma of the words f .. t. -/
theorem ofLm_ok {ls la : List Int} {ws : List ByteArray} (hl : listsI ls la ws.length = 0) (hw : ws.length ≤ 13) {f t : Nat} (hf : f < t) (ht : t ≤ ws.length) (h : (ofLm ls la ws (f : Int) (t : Int)).2.2.2 = 0) :
    (ofLm ls la ws (f : Int) (t : Int)).1 = ws.getD f ⟨#[]⟩ ∧ (ofLm ls la ws (f : Int) (t : Int)).2.1 = lastW ws f t ∧ wordB (ws.getD (t - 1) ⟨#[]⟩) = true ∧
    findRes (wWs ls ws (lnAt ls (f : Int)) (lnAt la ((t : Int) - 1))) (ofLm ls la ws (f : Int) (t : Int)).1 (ofLm ls la ws (f : Int) (t : Int)).2.1 (ofLm ls la ws (f : Int) (t : Int)).2.2.1 =
      ((f : Int) - wAt ls (lnAt ls (f : Int)) (lnAt la ((t : Int) - 1)), (t : Int) - wAt ls (lnAt ls (f : Int)) (lnAt la ((t : Int) - 1)), 0) := by
  obtain ⟨i, e, h1, h2, h3, hA, hW, _, _⟩ := win hl hf ht
  unfold ofLm at h ⊢
  rw [hA, hW] at h ⊢
  have ef : (f : Int) - (i : Int) = ((f - i : Nat) : Int) := by omega
  have et : (t : Int) - (i : Int) = ((t - i : Nat) : Int) := by omega
  rw [ef, et] at h ⊢
  have hlen : ((ws.take e).drop i).length = e - i := by rw [List.length_drop, List.length_take]; omega
  have hck : lcheckI ((ws.take e).drop i) = 0 := by
    unfold ofRes at h
    split at h
    · rename_i hc; exact absurd h hc
    · rename_i hc; exact Classical.not_not.1 hc
  have hwd := lcheck_words hck
  have hR : ofRes ((ws.take e).drop i) ((f - i : Nat) : Int) ((t - i : Nat) : Int) = (ws.getD f ⟨#[]⟩, lastW ws f t, ((ofNum (occ ((ws.take e).drop i) (ws.getD f ⟨#[]⟩) (lastW ws f t)) (f - i, t - i - 1) : Nat) : Int), 0) := by
    unfold ofRes
    rw [if_neg (by omega), if_neg (by omega), Int.toNat_natCast, Int.toNat_natCast, win_at h1 (by omega), win_last h1 hf h2]
  rw [hR]
  have hp := part_mem (ws := (ws.take e).drop i) (fun s hs => wordB_ne (hwd s hs)) (a := f - i) (b := t - i) (by omega) (by omega)
  rw [win_at h1 (by omega), win_last h1 hf h2] at hp
  have hfd := found_plain (occ_sorted _ _ _) hp (by show t - i - 1 ≤ 1000; omega)
  have hwt : wordB (ws.getD (t - 1) ⟨#[]⟩) = true := by
    have e1 : ((ws.take e).drop i)[t - 1 - i]? = some (((ws.take e).drop i).getD (t - 1 - i) ⟨#[]⟩) := by
      rw [List.getD_eq_getElem?_getD, List.getElem?_eq_getElem (by omega)]; rfl
    have := hwd _ (List.mem_of_getElem? e1)
    rwa [win_at (by omega) (by omega)] at this
  refine ⟨rfl, rfl, hwt, ?_⟩
  unfold findRes
  dsimp only
  rw [if_neg (by omega), Int.toNat_natCast]
  have hnum : ofNum (occ ((ws.take e).drop i) (ws.getD f ⟨#[]⟩) (lastW ws f t)) (f - i, t - i - 1) ≤ 65536 := by
    have hb : (occ ((ws.take e).drop i) (ws.getD f ⟨#[]⟩) (lastW ws f t)).length ≤ 65536 := by
      have := occ_len (ws := (ws.take e).drop i) (by omega) (ws.getD f ⟨#[]⟩) (lastW ws f t)
      omega
    unfold ofNum
    split
    · omega
    · have := numP_le (p := (f - i, t - i - 1)) (occ_sorted ((ws.take e).drop i) (ws.getD f ⟨#[]⟩) (lastW ws f t)); omega
  have hlm : lemCk (ws.getD f ⟨#[]⟩) (lastW ws f t) (ofNum (occ ((ws.take e).drop i) (ws.getD f ⟨#[]⟩) (lastW ws f t)) (f - i, t - i - 1) : Nat) = 0 := by
    have := found_lem hwd (a := f - i) (b := t - i) (by omega) (by omega) hnum
    rwa [win_at h1 (by omega), win_last h1 hf h2] at this
  rw [if_neg (by omega), hfd.1, hfd.2.1, hfd.2.2]
  simp only [Prod.mk.injEq, and_true, true_and]
  omega
/-- P45.5, plainly. -/
theorem lines_plain {ls la : List Int} {ws : List ByteArray} {x : En} (hw : ws.length ≤ 13) (h : ofAI ls la ws x = 0) :
    nteI (ofN ls la ws x) = 0 ∧ ofAN ls la ws x = ofN ls la ws x ∧
    ((ws.length = 0 ∧ ofN ls la ws x = ⟨1, 1, 4, ⟨#[]⟩, ⟨#[]⟩, 0, x.pos, x.sup, x.vs⟩ ∧ x.fr = 0 ∧ x.to_ = 0) ∨
    ∃ (f t : Nat) (pl : Int), 0 < ws.length ∧ ofPl x.fr x.to_ ws.length = (pl, (f : Int), (t : Int)) ∧ pl ≠ 4 ∧ f < t ∧ t ≤ ws.length ∧ (ofN ls la ws x).pl = pl ∧ (ofN ls la ws x).fr = lnAt ls (f : Int) ∧ (ofN ls la ws x).to_ = lnAt la ((t : Int) - 1) ∧
      (ofN ls la ws x).lf = ws.getD f ⟨#[]⟩ ∧ (ofN ls la ws x).ll = lastW ws f t ∧ (ofN ls la ws x).ln = (ofLm ls la ws (f : Int) (t : Int)).2.2.1 ∧ (ofLm ls la ws (f : Int) (t : Int)).2.2.2 = 0 ∧
      (ofN ls la ws x).pos = x.pos ∧ (ofN ls la ws x).sup = x.sup ∧ (ofN ls la ws x).vs = x.vs ∧ listsI ls la ws.length = 0) := by
  have hl : listsI ls la ws.length = 0 := by
    unfold ofAI at h
    split at h
    · assumption
    · rename_i hc; exact absurd h hc
  have hN : ofAN ls la ws x = ofN ls la ws x := by unfold ofAN; rw [if_pos h]
  unfold ofAI at h
  rw [if_pos hl] at h
  unfold ofI at h
  split at h
  · cases h
  · rename_i h1
    split at h
    · rename_i h2; exact absurd h h2.2
    · rename_i h2
      refine ⟨h, hN, ?_⟩
      have hpl : (ws.length = 0 ∧ x.fr = 0 ∧ x.to_ = 0 ∧ ofPl x.fr x.to_ ws.length = (4, x.fr, x.to_)) ∨ ∃ (f t : Nat) (pl : Int), 0 < ws.length ∧ ofPl x.fr x.to_ ws.length = (pl, (f : Int), (t : Int)) ∧ pl ≠ 4 ∧ f < t ∧ t ≤ ws.length := by
        unfold ofPl
        by_cases c1 : x.fr < x.to_
        · rw [if_pos c1]
          exact .inr ⟨x.fr.toNat, x.to_.toNat, 1, by omega, by rw [Int.toNat_of_nonneg (by omega), Int.toNat_of_nonneg (by omega)], by decide, by omega, by omega⟩
        · rw [if_neg c1]
          by_cases c2 : 0 < x.fr
          · rw [if_pos c2]
            exact .inr ⟨(x.fr - 1).toNat, x.to_.toNat, 2, by omega, by rw [Int.toNat_of_nonneg (by omega), Int.toNat_of_nonneg (by omega)], by decide, by omega, by omega⟩
          · rw [if_neg c2]
            by_cases c3 : 0 < ws.length
            · rw [if_pos c3]
              exact .inr ⟨0, 1, 3, c3, by rw [show x.fr = 0 by omega]; rfl, by decide, by omega, by omega⟩
            · rw [if_neg c3]
              exact .inl ⟨by omega, by omega, by omega, rfl⟩
      rcases hpl with ⟨e0, e1, e2, e3⟩ | ⟨f, t, pl, e0, e1, e2, e3, e4⟩
      · refine .inl ⟨e0, ?_, e1, e2⟩
        unfold ofN; rw [e3, if_pos rfl]
      · rw [e1] at h2
        have hlm : (ofLm ls la ws (f : Int) (t : Int)).2.2.2 = 0 := by
          by_cases hc : (ofLm ls la ws (f : Int) (t : Int)).2.2.2 = 0
          · exact hc
          · exact absurd ⟨e2, hc⟩ h2
        obtain ⟨g1, g2, _, _⟩ := ofLm_ok hl hw e3 e4 hlm
        have hn : ofN ls la ws x = ⟨lnAt ls (f : Int), lnAt la ((t : Int) - 1), pl, ws.getD f ⟨#[]⟩, lastW ws f t, (ofLm ls la ws (f : Int) (t : Int)).2.2.1, x.pos, x.sup, x.vs⟩ := by
          unfold ofN
          rw [e1, if_neg e2]
          dsimp only
          rw [g1, g2]
        exact .inr ⟨f, t, pl, e0, e1, e2, e3, e4, by rw [hn], by rw [hn], by rw [hn], by rw [hn], by rw [hn], by rw [hn], hlm, by rw [hn], by rw [hn], by rw [hn], hl⟩
/-- P45.3, the first half. -/
theorem resolves_one {ls la : List Int} {ws : List ByteArray} {x : En} (hw : ws.length ≤ 13) (h : ofAI ls la ws x = 0) (h0 : 0 ≤ x.ly) (h62 : x.ly ≤ 62) : rsI ls la ws x.ly (ofAN ls la ws x) = 0 ∧ rsN ls la ws x.ly (ofAN ls la ws x) = x := by
  obtain ⟨hE, hN, hc⟩ := lines_plain hw h
  rw [hN]
  have hl : listsI ls la ws.length = 0 := by
    unfold ofAI at h
    split at h
    · assumption
    · rename_i hc; exact absurd h hc
  have hOf : ofI ls la ws x = 0 := by
    unfold ofAI at h
    rwa [if_pos hl] at h
  have key : (¬ ((ofN ls la ws x).pl ≠ 4 ∧ (rsF ls ws (ofN ls la ws x)).2.2 ≠ 0)) ∧ rsE ls ws x.ly (ofN ls la ws x) = x := by
    rcases hc with ⟨_, e1, e2, e3⟩ | ⟨f, t, pl, e0, e1, e2, e3, e4, q1, q2, q3, q4, q5, q6, q7, q8, q9, q10, _⟩
    · rw [e1]
      refine ⟨fun hh => hh.1 rfl, ?_⟩
      unfold rsE rsP
      rw [if_neg (by simp), if_neg (by simp)]
      cases x
      simp only at e2 e3
      subst e2; subst e3; rfl
    · obtain ⟨g1, g2, _, g4⟩ := ofLm_ok hl hw e3 e4 q7
      have hF : rsF ls ws (ofN ls la ws x) = ((f : Int) - wAt ls (lnAt ls (f : Int)) (lnAt la ((t : Int) - 1)), (t : Int) - wAt ls (lnAt ls (f : Int)) (lnAt la ((t : Int) - 1)), 0) := by
        unfold rsF
        rw [q2, q3, q4, q5, q6, ← g1, ← g2]
        exact g4
      refine ⟨fun hh => hh.2 (by rw [hF]), ?_⟩
      have hP : rsP ls ws (ofN ls la ws x) = (x.fr, x.to_) := by
        unfold rsP
        rw [hF, q1, q2, q3]
        dsimp only
        unfold ofI at hOf
        rw [ofPl] at e1
        split at hOf
        · cases hOf
        · rename_i hb
          split at e1
          · simp only [Prod.mk.injEq] at e1
            rw [if_pos e1.1.symm, e1.2.1, e1.2.2, Prod.mk.injEq]
            omega
          · split at e1
            · simp only [Prod.mk.injEq] at e1
              rw [if_neg (by omega), if_pos e1.1.symm, Prod.mk.injEq]
              omega
            · simp only [Prod.mk.injEq] at e1
              rw [if_neg (by omega), if_neg (by omega), Prod.mk.injEq]
              omega
      unfold rsE
      rw [hP, q8, q9, q10]
  have hI : rsI ls la ws x.ly (ofN ls la ws x) = 0 := by
    unfold rsI
    rw [if_neg (by omega), if_neg (by omega), if_neg (by omega), if_neg key.1, key.2, if_neg]
    rintro (hh | hh)
    · exact hh hOf
    · rw [ntB_iff.2 rfl] at hh; cases hh
  refine ⟨hI, ?_⟩
  unfold rsN
  rw [if_pos hI]
  exact key.2
/-- P45.3, the second half. -/
theorem resolves_two {ls la : List Int} {ws : List ByteArray} {ly : Int} {n : Nt} (h : rsI ls la ws ly n = 0) : ofAI ls la ws (rsN ls la ws ly n) = 0 ∧ ofAN ls la ws (rsN ls la ws ly n) = n ∧ (rsN ls la ws ly n).ly = ly := by
  have hN : rsN ls la ws ly n = rsE ls ws ly n := by unfold rsN; rw [if_pos h]
  rw [hN]
  unfold rsI at h
  split at h
  · rename_i hh; exact absurd h hh
  · rename_i hl
    split at h
    · cases h
    · split at h
      · rename_i hh; exact absurd h hh
      · split at h
        · cases h
        · split at h
          · cases h
          · rename_i hh
            rw [not_or] at hh
            have hA : ofAI ls la ws (rsE ls ws ly n) = 0 := by
              unfold ofAI
              rw [if_pos (Classical.not_not.1 hl)]
              exact Classical.not_not.1 hh.1
            refine ⟨hA, ?_, rfl⟩
            unfold ofAN
            rw [if_pos hA]
            exact ntB_iff.1 (by simpa using hh.2)
end Go.Proofs.YtjhdeoniafahbaaGreatDoor

/-
  The example of the chapter; awake.
-/
namespace Go.Proofs.YtjhdeoniafahbaaGreatDoor
open Go.RowKit

deriving instance DecidableEq for Vr
deriving instance DecidableEq for Nt
deriving instance DecidableEq for En
def exE45 : En := ⟨1, 0, 1, false, [], [⟨[⟨#[100, 111, 109, 105, 110, 117, 115]⟩], [⟨#[65]⟩, ⟨#[66]⟩]⟩]⟩
def exN45 : Nt := ⟨1, 1, 1, ⟨#[100, 101, 117, 115]⟩, ⟨#[]⟩, 0, false, [], [⟨[⟨#[100, 111, 109, 105, 110, 117, 115]⟩], [⟨#[65]⟩, ⟨#[66]⟩]⟩]⟩
def exW45 : List ByteArray := [⟨#[100, 101, 117, 115]⟩, ⟨#[101, 115, 116]⟩]
def exT45 : ByteArray := ⟨#[49, 32, 100, 101, 117, 115, 32, 93, 32, 100, 111, 109, 105, 110, 117, 115, 32, 123, 65, 32, 66, 125]⟩
theorem ex45_of : ofAI [1, 1] [1, 1] exW45 exE45 = 0 := by decide +kernel
theorem ex45_on : ofAN [1, 1] [1, 1] exW45 exE45 = exN45 := by decide +kernel
theorem ex45_pe : prE exN45 = 0 := by decide +kernel
theorem ex45_pn : prN exN45 = exT45 := by decide +kernel
theorem ex45_ps : prS exN45 = exT45 := by unfold prS; rw [if_pos ex45_pe, ex45_pn]
theorem ex45_par : parI exT45 = 0 ∧ parN exT45 = exN45 := par_uniq ex45_pe ex45_pn
theorem ex45_rs : rsI [1, 1] [1, 1] exW45 1 exN45 = 0 ∧ rsN [1, 1] [1, 1] exW45 1 exN45 = exE45 := by
  have h := resolves_one (ls := [1, 1]) (la := [1, 1]) (ws := exW45) (x := exE45) (by decide) ex45_of (by decide) (by decide)
  rw [ex45_on] at h
  exact h
theorem ex45_sz : Sz16 exW45 ∧ SzN exN45 := by
  refine ⟨by unfold Sz16; decide +kernel, by decide, by decide, (by intro s h; cases h), ?_⟩
  intro v hv
  have : v = ⟨[⟨#[100, 111, 109, 105, 110, 117, 115]⟩], [⟨#[65]⟩, ⟨#[66]⟩]⟩ := by simpa [exN45] using hv
  subst this
  unfold Sz16
  decide +kernel
theorem ex45_sze : SzE exE45 := by
  refine ⟨(by intro s h; cases h), ?_, by decide, by decide, ?_⟩
  · intro v hv
    have : v = ⟨[⟨#[100, 111, 109, 105, 110, 117, 115]⟩], [⟨#[65]⟩, ⟨#[66]⟩]⟩ := by simpa [exE45] using hv
    subst this
    unfold Sz16
    decide +kernel
  · intro v hv
    have : v = ⟨[⟨#[100, 111, 109, 105, 110, 117, 115]⟩], [⟨#[65]⟩, ⟨#[66]⟩]⟩ := by simpa [exE45] using hv
    subst this
    decide
theorem rd_two {α : Type} {enc : α → Value} {W : World} {r : Nat} {x y : α} {t : TypeId} (h : Row W r #[enc x, enc y] t) : Rd enc W (.slice (some ⟨r, 0, none⟩) 2 2) [x, y] := by
  refine ⟨some ⟨r, 0, none⟩, 2, rfl, Nat.le_refl _, by unfold maxLen; omega, fun i z hz => ?_⟩
  match i, hz with
  | 0, hz => cases hz; exact ⟨r, 0, rfl, h.cell 0 rfl⟩
  | 1, hz => cases hz; exact ⟨r, 0, rfl, h.cell 1 rfl⟩
theorem rd_one {α : Type} {enc : α → Value} {W : World} {r : Nat} {x : α} {t : TypeId} (h : Row W r #[enc x] t) : Rd enc W (.slice (some ⟨r, 0, none⟩) 1 1) [x] := by
  refine ⟨some ⟨r, 0, none⟩, 1, rfl, Nat.le_refl _, by unfold maxLen; omega, fun i z hz => ?_⟩
  match i, hz with
  | 0, hz => cases hz; exact ⟨r, 0, rfl, h.cell 0 rfl⟩
theorem ex45_world (w : World) : Below w.heap.size w ((((((w.alloc (.cells #[.string ⟨#[100, 111, 109, 105, 110, 117, 115]⟩] 9)).alloc (.cells #[.string ⟨#[65]⟩, .string ⟨#[66]⟩] 9)).alloc (.cells #[.slice (some ⟨w.heap.size, 0, none⟩) 1 1, .slice (some ⟨w.heap.size + 1, 0, none⟩) 2 2] 63)).alloc (.cells #[.int .i64 1, .int .i64 0, .int .i64 1, .bool false, .slice none 0 0, .slice (some ⟨w.heap.size + 2, 0, none⟩) 1 1] 26)).alloc (.cells #[.int .i64 1, .int .i64 1] 3)).alloc (.cells #[.string ⟨#[100, 101, 117, 115]⟩, .string ⟨#[101, 115, 116]⟩] 9)) ∧ Row ((((((w.alloc (.cells #[.string ⟨#[100, 111, 109, 105, 110, 117, 115]⟩] 9)).alloc (.cells #[.string ⟨#[65]⟩, .string ⟨#[66]⟩] 9)).alloc (.cells #[.slice (some ⟨w.heap.size, 0, none⟩) 1 1, .slice (some ⟨w.heap.size + 1, 0, none⟩) 2 2] 63)).alloc (.cells #[.int .i64 1, .int .i64 0, .int .i64 1, .bool false, .slice none 0 0, .slice (some ⟨w.heap.size + 2, 0, none⟩) 1 1] 26)).alloc (.cells #[.int .i64 1, .int .i64 1] 3)).alloc (.cells #[.string ⟨#[100, 101, 117, 115]⟩, .string ⟨#[101, 115, 116]⟩] 9)) (w.heap.size + 3) (exE45.cells (.slice none 0 0) (.slice (some ⟨w.heap.size + 2, 0, none⟩) 1 1)) 26 ∧
    RdE ((((((w.alloc (.cells #[.string ⟨#[100, 111, 109, 105, 110, 117, 115]⟩] 9)).alloc (.cells #[.string ⟨#[65]⟩, .string ⟨#[66]⟩] 9)).alloc (.cells #[.slice (some ⟨w.heap.size, 0, none⟩) 1 1, .slice (some ⟨w.heap.size + 1, 0, none⟩) 2 2] 63)).alloc (.cells #[.int .i64 1, .int .i64 0, .int .i64 1, .bool false, .slice none 0 0, .slice (some ⟨w.heap.size + 2, 0, none⟩) 1 1] 26)).alloc (.cells #[.int .i64 1, .int .i64 1] 3)).alloc (.cells #[.string ⟨#[100, 101, 117, 115]⟩, .string ⟨#[101, 115, 116]⟩] 9)) (.slice none 0 0) (.slice (some ⟨w.heap.size + 2, 0, none⟩) 1 1) exE45 ∧ RdI ((((((w.alloc (.cells #[.string ⟨#[100, 111, 109, 105, 110, 117, 115]⟩] 9)).alloc (.cells #[.string ⟨#[65]⟩, .string ⟨#[66]⟩] 9)).alloc (.cells #[.slice (some ⟨w.heap.size, 0, none⟩) 1 1, .slice (some ⟨w.heap.size + 1, 0, none⟩) 2 2] 63)).alloc (.cells #[.int .i64 1, .int .i64 0, .int .i64 1, .bool false, .slice none 0 0, .slice (some ⟨w.heap.size + 2, 0, none⟩) 1 1] 26)).alloc (.cells #[.int .i64 1, .int .i64 1] 3)).alloc (.cells #[.string ⟨#[100, 101, 117, 115]⟩, .string ⟨#[101, 115, 116]⟩] 9)) (.slice (some ⟨w.heap.size + 4, 0, none⟩) 2 2) [1, 1] ∧ RdS ((((((w.alloc (.cells #[.string ⟨#[100, 111, 109, 105, 110, 117, 115]⟩] 9)).alloc (.cells #[.string ⟨#[65]⟩, .string ⟨#[66]⟩] 9)).alloc (.cells #[.slice (some ⟨w.heap.size, 0, none⟩) 1 1, .slice (some ⟨w.heap.size + 1, 0, none⟩) 2 2] 63)).alloc (.cells #[.int .i64 1, .int .i64 0, .int .i64 1, .bool false, .slice none 0 0, .slice (some ⟨w.heap.size + 2, 0, none⟩) 1 1] 26)).alloc (.cells #[.int .i64 1, .int .i64 1] 3)).alloc (.cells #[.string ⟨#[100, 101, 117, 115]⟩, .string ⟨#[101, 115, 116]⟩] 9)) (.slice (some ⟨w.heap.size + 5, 0, none⟩) 2 2) exW45 := by
  have r0 : Row ((((((w.alloc (.cells #[.string ⟨#[100, 111, 109, 105, 110, 117, 115]⟩] 9)).alloc (.cells #[.string ⟨#[65]⟩, .string ⟨#[66]⟩] 9)).alloc (.cells #[.slice (some ⟨w.heap.size, 0, none⟩) 1 1, .slice (some ⟨w.heap.size + 1, 0, none⟩) 2 2] 63)).alloc (.cells #[.int .i64 1, .int .i64 0, .int .i64 1, .bool false, .slice none 0 0, .slice (some ⟨w.heap.size + 2, 0, none⟩) 1 1] 26)).alloc (.cells #[.int .i64 1, .int .i64 1] 3)).alloc (.cells #[.string ⟨#[100, 101, 117, 115]⟩, .string ⟨#[101, 115, 116]⟩] 9)) w.heap.size #[.string ⟨#[100, 111, 109, 105, 110, 117, 115]⟩] 9 := (((((row_nw _ _ _ rfl).al _).al _).al _).al _).al _
  have r1 : Row ((((((w.alloc (.cells #[.string ⟨#[100, 111, 109, 105, 110, 117, 115]⟩] 9)).alloc (.cells #[.string ⟨#[65]⟩, .string ⟨#[66]⟩] 9)).alloc (.cells #[.slice (some ⟨w.heap.size, 0, none⟩) 1 1, .slice (some ⟨w.heap.size + 1, 0, none⟩) 2 2] 63)).alloc (.cells #[.int .i64 1, .int .i64 0, .int .i64 1, .bool false, .slice none 0 0, .slice (some ⟨w.heap.size + 2, 0, none⟩) 1 1] 26)).alloc (.cells #[.int .i64 1, .int .i64 1] 3)).alloc (.cells #[.string ⟨#[100, 101, 117, 115]⟩, .string ⟨#[101, 115, 116]⟩] 9)) (w.heap.size + 1) #[.string ⟨#[65]⟩, .string ⟨#[66]⟩] 9 := ((((row_nw _ _ _ (by simp)).al _).al _).al _).al _
  have r2 : Row ((((((w.alloc (.cells #[.string ⟨#[100, 111, 109, 105, 110, 117, 115]⟩] 9)).alloc (.cells #[.string ⟨#[65]⟩, .string ⟨#[66]⟩] 9)).alloc (.cells #[.slice (some ⟨w.heap.size, 0, none⟩) 1 1, .slice (some ⟨w.heap.size + 1, 0, none⟩) 2 2] 63)).alloc (.cells #[.int .i64 1, .int .i64 0, .int .i64 1, .bool false, .slice none 0 0, .slice (some ⟨w.heap.size + 2, 0, none⟩) 1 1] 26)).alloc (.cells #[.int .i64 1, .int .i64 1] 3)).alloc (.cells #[.string ⟨#[100, 101, 117, 115]⟩, .string ⟨#[101, 115, 116]⟩] 9)) (w.heap.size + 2) #[.slice (some ⟨w.heap.size, 0, none⟩) 1 1, .slice (some ⟨w.heap.size + 1, 0, none⟩) 2 2] 63 := (((row_nw _ _ _ (by simp)).al _).al _).al _
  have r3 : Row ((((((w.alloc (.cells #[.string ⟨#[100, 111, 109, 105, 110, 117, 115]⟩] 9)).alloc (.cells #[.string ⟨#[65]⟩, .string ⟨#[66]⟩] 9)).alloc (.cells #[.slice (some ⟨w.heap.size, 0, none⟩) 1 1, .slice (some ⟨w.heap.size + 1, 0, none⟩) 2 2] 63)).alloc (.cells #[.int .i64 1, .int .i64 0, .int .i64 1, .bool false, .slice none 0 0, .slice (some ⟨w.heap.size + 2, 0, none⟩) 1 1] 26)).alloc (.cells #[.int .i64 1, .int .i64 1] 3)).alloc (.cells #[.string ⟨#[100, 101, 117, 115]⟩, .string ⟨#[101, 115, 116]⟩] 9)) (w.heap.size + 3) #[.int .i64 1, .int .i64 0, .int .i64 1, .bool false, .slice none 0 0, .slice (some ⟨w.heap.size + 2, 0, none⟩) 1 1] 26 := ((row_nw _ _ _ (by simp)).al _).al _
  have r4 : Row ((((((w.alloc (.cells #[.string ⟨#[100, 111, 109, 105, 110, 117, 115]⟩] 9)).alloc (.cells #[.string ⟨#[65]⟩, .string ⟨#[66]⟩] 9)).alloc (.cells #[.slice (some ⟨w.heap.size, 0, none⟩) 1 1, .slice (some ⟨w.heap.size + 1, 0, none⟩) 2 2] 63)).alloc (.cells #[.int .i64 1, .int .i64 0, .int .i64 1, .bool false, .slice none 0 0, .slice (some ⟨w.heap.size + 2, 0, none⟩) 1 1] 26)).alloc (.cells #[.int .i64 1, .int .i64 1] 3)).alloc (.cells #[.string ⟨#[100, 101, 117, 115]⟩, .string ⟨#[101, 115, 116]⟩] 9)) (w.heap.size + 4) #[.int .i64 1, .int .i64 1] 3 := (row_nw _ _ _ (by simp)).al _
  have r5 : Row ((((((w.alloc (.cells #[.string ⟨#[100, 111, 109, 105, 110, 117, 115]⟩] 9)).alloc (.cells #[.string ⟨#[65]⟩, .string ⟨#[66]⟩] 9)).alloc (.cells #[.slice (some ⟨w.heap.size, 0, none⟩) 1 1, .slice (some ⟨w.heap.size + 1, 0, none⟩) 2 2] 63)).alloc (.cells #[.int .i64 1, .int .i64 0, .int .i64 1, .bool false, .slice none 0 0, .slice (some ⟨w.heap.size + 2, 0, none⟩) 1 1] 26)).alloc (.cells #[.int .i64 1, .int .i64 1] 3)).alloc (.cells #[.string ⟨#[100, 101, 117, 115]⟩, .string ⟨#[101, 115, 116]⟩] 9)) (w.heap.size + 5) #[.string ⟨#[100, 101, 117, 115]⟩, .string ⟨#[101, 115, 116]⟩] 9 := row_nw _ _ _ (by simp)
  have hb : Below w.heap.size w ((((((w.alloc (.cells #[.string ⟨#[100, 111, 109, 105, 110, 117, 115]⟩] 9)).alloc (.cells #[.string ⟨#[65]⟩, .string ⟨#[66]⟩] 9)).alloc (.cells #[.slice (some ⟨w.heap.size, 0, none⟩) 1 1, .slice (some ⟨w.heap.size + 1, 0, none⟩) 2 2] 63)).alloc (.cells #[.int .i64 1, .int .i64 0, .int .i64 1, .bool false, .slice none 0 0, .slice (some ⟨w.heap.size + 2, 0, none⟩) 1 1] 26)).alloc (.cells #[.int .i64 1, .int .i64 1] 3)).alloc (.cells #[.string ⟨#[100, 101, 117, 115]⟩, .string ⟨#[101, 115, 116]⟩] 9)) := below_tr (below_al _ _) (below_tr (below_al _ _) (below_tr (below_al _ _) (below_tr (below_al _ _) (below_tr (below_al _ _) (below_al _ _)))))
  generalize ((((((w.alloc (.cells #[.string ⟨#[100, 111, 109, 105, 110, 117, 115]⟩] 9)).alloc (.cells #[.string ⟨#[65]⟩, .string ⟨#[66]⟩] 9)).alloc (.cells #[.slice (some ⟨w.heap.size, 0, none⟩) 1 1, .slice (some ⟨w.heap.size + 1, 0, none⟩) 2 2] 63)).alloc (.cells #[.int .i64 1, .int .i64 0, .int .i64 1, .bool false, .slice none 0 0, .slice (some ⟨w.heap.size + 2, 0, none⟩) 1 1] 26)).alloc (.cells #[.int .i64 1, .int .i64 1] 3)).alloc (.cells #[.string ⟨#[100, 101, 117, 115]⟩, .string ⟨#[101, 115, 116]⟩] 9)) = W at *
  refine ⟨hb, r3, ⟨Rd.nil _, ?_⟩, rd_two r4, rd_two r5⟩
  refine ⟨some ⟨w.heap.size + 2, 0, none⟩, 1, rfl, Nat.le_refl _, by unfold maxLen; omega, fun i z hz => ?_⟩
  match i, hz with
  | 0, hz => cases hz; exact ⟨w.heap.size + 2, 0, _, _, rfl, r2.cell 0 rfl, r2.cell 1 rfl, rd_one r0, rd_two r1⟩

set_option maxRecDepth 100000 in
set_option maxHeartbeats 4000000 in
theorem awake45_any (m : Int) (w : World) (he : Env w) (hm : w.cell? ⟨0, 0, none⟩ = some (.int .i64 m)) :
    Calls Tryz.prog 14 #[] w fun e w' => e = .returned (.bool true) ∧ Below w.heap.size w w' := by
  have HE := fun w' (h : Below w.heap.size w w') => hid (he.below h)
  have HM := fun w' (h : Below w.heap.size w w') => hid (Below.keeps h _ _ hm)
  obtain ⟨hb6, hr6, hE6, hI6, hS6⟩ := ex45_world w
  have HB6 := hid hb6
  have HR6 := hid hr6
  have HE6 := hid hE6
  have HI6 := hid hI6
  have HS6 := hid hS6
  clear he hm hb6 hr6 hE6 hI6 hS6
  go_enter Tryz.func14, Tryz.ntmps14
  go_upto_region 3 with fail
  generalize ((((((w.alloc (.cells #[.string ⟨#[100, 111, 109, 105, 110, 117, 115]⟩] 9)).alloc (.cells #[.string ⟨#[65]⟩, .string ⟨#[66]⟩] 9)).alloc (.cells #[.slice (some ⟨w.heap.size, 0, none⟩) 1 1, .slice (some ⟨w.heap.size + 1, 0, none⟩) 2 2] 63)).alloc (.cells #[.int .i64 1, .int .i64 0, .int .i64 1, .bool false, .slice none 0 0, .slice (some ⟨w.heap.size + 2, 0, none⟩) 1 1] 26)).alloc (.cells #[.int .i64 1, .int .i64 1] 3)).alloc (.cells #[.string ⟨#[100, 101, 117, 115]⟩, .string ⟨#[101, 115, 116]⟩] 9)) = W6 at *
  generalize w.heap.size + 5 = b5 at *
  generalize w.heap.size + 4 = b4 at *
  generalize w.heap.size + 3 = b3 at *
  generalize w.heap.size + 2 = b2 at *
  have HOF := hid (pOf_any [1, 1] [1, 1] exW45 exE45 _ _ _ _ _ W6 (HE _ HB6.out).out HI6.out HI6.out HS6.out HE6.out ex45_sz.1 ex45_sze (by decide))
  rw [ex45_of, ex45_on] at HOF
  obtain ⟨x, hx⟩ : ∃ x, x = exE45 := ⟨_, rfl⟩
  obtain ⟨y, hy⟩ : ∃ y, y = exN45 := ⟨_, rfl⟩
  have HSZN : Hid (SzN y) := by show SzN y; rw [hy]; exact ex45_sz.2
  have HPE : Hid (prE y = 0) := by show _ = _; rw [hy]; exact ex45_pe
  have HPS : Hid (prS y = ⟨#[49, 32, 100, 101, 117, 115, 32, 93, 32, 100, 111, 109, 105, 110, 117, 115, 32, 123, 65, 32, 66, 125]⟩) := by show _ = _; rw [hy]; exact ex45_ps
  have HPA : Hid (parI ⟨#[49, 32, 100, 101, 117, 115, 32, 93, 32, 100, 111, 109, 105, 110, 117, 115, 32, 123, 65, 32, 66, 125]⟩ = 0 ∧ parN ⟨#[49, 32, 100, 101, 117, 115, 32, 93, 32, 100, 111, 109, 105, 110, 117, 115, 32, 123, 65, 32, 66, 125]⟩ = y) := by show _ ∧ _; rw [hy]; exact ex45_par
  have HRS : Hid (rsI [1, 1] [1, 1] exW45 1 y = 0 ∧ rsN [1, 1] [1, 1] exW45 1 y = x) := by show _ ∧ _; rw [hy, hx]; exact ex45_rs
  rw [← hy, ← hx] at HOF
  rw [← hx] at HR6 HE6
  have hxl : x.ly = 1 := by rw [hx]; rfl
  have hxf : x.fr = 0 := by rw [hx]; rfl
  have hxt : x.to_ = 1 := by rw [hx]; rfl
  have hxp : x.pos = false := by rw [hx]; rfl
  clear hx hy
  unfold En.cells at HOF HR6
  have c0 := HR6.out.cell 0 (x := .int .i64 x.ly) rfl
  have c1 := HR6.out.cell 1 (x := .int .i64 x.fr) rfl
  have c2 := HR6.out.cell 2 (x := .int .i64 x.to_) rfl
  have c3 := HR6.out.cell 3 (x := .bool x.pos) rfl
  have c4 := HR6.out.cell 4 (x := .slice none 0 0) rfl
  have c5 := HR6.out.cell 5 (x := .slice (some ⟨b2, 0, none⟩) 1 1) rfl
  clear hxl hxf hxt hxp
  go_wp2_with fail
  (with_reducible refine HOF.out.mono ?_)
  rintro e w7 ⟨au, nu, cu, av, nv, cv, rfl, hN, hB7⟩
  have hal := below_al w7 (.cells (y.cells (.slice au nu cu) (.slice av nv cv)) 30)
  have HB8 := hid (below_tr HB6.out (below_tr hB7 hal))
  have HR8 := hid ((HR6.out.below hB7).below hal)
  have HE8 := hid ((HE6.out.below hB7).below hal)
  have HI8 := hid ((HI6.out.below hB7).below hal)
  have HS8 := hid ((HS6.out.below hB7).below hal)
  have HN8 := hid (hN.below hal)
  have HY8 := hid (row_nw w7 (y.cells (.slice au nu cu) (.slice av nv cv)) 30 rfl)
  clear HOF HB6 HR6 HE6 HI6 HS6 hN hB7 hal c0 c1 c2 c3 c4 c5
  unfold Nt.cells at *
  go_upto_region 4 with fail
  generalize w7.alloc (.cells #[.int .i64 y.fr, .int .i64 y.to_, .int .i64 y.pl, .string y.lf, .string y.ll, .int .i64 y.ln, .bool y.pos, .slice au nu cu, .slice av nv cv] 30) = W8 at *
  generalize w7.heap.size = b8 at *
  have d0 := HY8.out.cell 0 (x := .int .i64 y.fr) rfl
  have d1 := HY8.out.cell 1 (x := .int .i64 y.to_) rfl
  have d2 := HY8.out.cell 2 (x := .int .i64 y.pl) rfl
  have d3 := HY8.out.cell 3 (x := .string y.lf) rfl
  have d4 := HY8.out.cell 4 (x := .string y.ll) rfl
  have d5 := HY8.out.cell 5 (x := .int .i64 y.ln) rfl
  have d6 := HY8.out.cell 6 (x := .bool y.pos) rfl
  have d7 := HY8.out.cell 7 (x := .slice au nu cu) rfl
  have d8 := HY8.out.cell 8 (x := .slice av nv cv) rfl
  have HPR := hid (pprt_any y (.slice au nu cu) (.slice av nv cv) W8 (HE _ HB8.out).out HN8.out HSZN.out)
  rw [HPE.out, HPS.out] at HPR
  unfold Nt.cells at HPR
  go_wp2_with fail
  (with_reducible refine HPR.out.mono ?_)
  rintro e w9 ⟨rfl, hB9⟩
  have HB9 := hid (below_tr HB8.out hB9)
  have HR9 := hid (HR8.out.below hB9)
  have HE9 := hid (HE8.out.below hB9)
  have HI9 := hid (HI8.out.below hB9)
  have HS9 := hid (HS8.out.below hB9)
  clear HPR HB8 HR8 HE8 HI8 HS8 HN8 HY8 hB9 HPE HPS d0 d1 d2 d3 d4 d5 d6 d7 d8
  have HPC := hid (ppar_any ⟨#[49, 32, 100, 101, 117, 115, 32, 93, 32, 100, 111, 109, 105, 110, 117, 115, 32, 123, 65, 32, 66, 125]⟩ m w9 (HE _ HB9.out).out (by decide) (HM _ HB9.out).out)
  rw [HPA.out.1, HPA.out.2] at HPC
  go_wp2_with fail
  (with_reducible refine HPC.out.mono ?_)
  rintro e w10 ⟨bu, mu, du, bv, mv, dv, rfl, hN, hB10⟩
  have hal := below_al w10 (.cells (y.cells (.slice bu mu du) (.slice bv mv dv)) 30)
  have HB11 := hid (below_tr HB9.out (below_tr hB10 hal))
  have HR11 := hid ((HR9.out.below hB10).below hal)
  have HE11 := hid ((HE9.out.below hB10).below hal)
  have HI11 := hid ((HI9.out.below hB10).below hal)
  have HS11 := hid ((HS9.out.below hB10).below hal)
  have HN11 := hid (hN.below hal)
  have HY11 := hid (row_nw w10 (y.cells (.slice bu mu du) (.slice bv mv dv)) 30 rfl)
  clear HPC HB9 HR9 HE9 HI9 HS9 hN hB10 hal HPA
  unfold Nt.cells at *
  go_upto_region 6 with fail
  generalize w10.alloc (.cells #[.int .i64 y.fr, .int .i64 y.to_, .int .i64 y.pl, .string y.lf, .string y.ll, .int .i64 y.ln, .bool y.pos, .slice bu mu du, .slice bv mv dv] 30) = W11 at *
  generalize w10.heap.size = b11 at *
  have f0 := HY11.out.cell 0 (x := .int .i64 y.fr) rfl
  have f1 := HY11.out.cell 1 (x := .int .i64 y.to_) rfl
  have f2 := HY11.out.cell 2 (x := .int .i64 y.pl) rfl
  have f3 := HY11.out.cell 3 (x := .string y.lf) rfl
  have f4 := HY11.out.cell 4 (x := .string y.ll) rfl
  have f5 := HY11.out.cell 5 (x := .int .i64 y.ln) rfl
  have f6 := HY11.out.cell 6 (x := .bool y.pos) rfl
  have f7 := HY11.out.cell 7 (x := .slice bu mu du) rfl
  have f8 := HY11.out.cell 8 (x := .slice bv mv dv) rfl
  have HRE := hid (pres_any [1, 1] [1, 1] exW45 1 y _ _ _ (.slice bu mu du) (.slice bv mv dv) W11 (HE _ HB11.out).out HI11.out HI11.out HS11.out HN11.out ex45_sz.1 HSZN.out (by decide))
  rw [HRS.out.1, HRS.out.2] at HRE
  unfold Nt.cells at HRE
  go_wp2_with fail
  (with_reducible refine HRE.out.mono ?_)
  rintro e w12 ⟨gu, ku, lu, gv, kv, lv, rfl, hX, hB12⟩
  have hal := below_al w12 (.cells (x.cells (.slice gu ku lu) (.slice gv kv lv)) 26)
  have HB13 := hid (below_tr HB11.out (below_tr hB12 hal))
  have HR13 := hid ((HR11.out.below hB12).below hal)
  have HE13 := hid ((HE11.out.below hB12).below hal)
  have HX13 := hid (hX.below hal)
  have HY13 := hid (row_nw w12 (x.cells (.slice gu ku lu) (.slice gv kv lv)) 26 rfl)
  clear HRE HB11 HR11 HE11 HI11 HS11 HN11 HY11 hX hB12 hal f0 f1 f2 f3 f4 f5 f6 f7 f8 HRS
  unfold En.cells at *
  go_upto_region 7 with fail
  generalize w12.alloc (.cells #[.int .i64 x.ly, .int .i64 x.fr, .int .i64 x.to_, .bool x.pos, .slice gu ku lu, .slice gv kv lv] 26) = W13 at *
  generalize w12.heap.size = b13 at *
  have c0 := HR13.out.cell 0 (x := .int .i64 x.ly) rfl
  have c1 := HR13.out.cell 1 (x := .int .i64 x.fr) rfl
  have c2 := HR13.out.cell 2 (x := .int .i64 x.to_) rfl
  have c3 := HR13.out.cell 3 (x := .bool x.pos) rfl
  have c4 := HR13.out.cell 4 (x := .slice none 0 0) rfl
  have c5 := HR13.out.cell 5 (x := .slice (some ⟨b2, 0, none⟩) 1 1) rfl
  have h0 := HY13.out.cell 0 (x := .int .i64 x.ly) rfl
  have h1 := HY13.out.cell 1 (x := .int .i64 x.fr) rfl
  have h2 := HY13.out.cell 2 (x := .int .i64 x.to_) rfl
  have h3 := HY13.out.cell 3 (x := .bool x.pos) rfl
  have h4 := HY13.out.cell 4 (x := .slice gu ku lu) rfl
  have h5 := HY13.out.cell 5 (x := .slice gv kv lv) rfl
  have HSM := hid (rsameE_any x x _ _ _ _ W13 HX13.out HE13.out)
  rw [enB_iff.2 rfl] at HSM
  unfold En.cells at HSM
  go_wp2_with fail
  (with_reducible refine HSM.out.mono ?_)
  rintro e w14 ⟨rfl, hB14⟩
  go_wp2
  go_ret
  exact ⟨rfl, below_tr HB13.out hB14⟩
end Go.Proofs.YtjhdeoniafahbaaGreatDoor
