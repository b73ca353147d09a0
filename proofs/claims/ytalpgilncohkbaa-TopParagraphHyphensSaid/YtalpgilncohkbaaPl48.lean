/-
  Plain: where a line may end within a word.
-/
import Derived.Test.YtalpgilncohkbaaIta
namespace Go.Proofs.Ytalpgilncohkbaa

/-- The walk over the items from a word and an offset in it on: nowhere is it wrong. -/
def Good (P : List Grp) (ws : List Wd) : List It → Nat → Nat → Prop
  | [], wi, _ => wi = ws.length
  | y :: r, wi, off =>
    if y.k = 1 then ∃ x, ws[wi]? = some x ∧ off + y.t.size ≤ x.t.size ∧ Good P ws r (if off + y.t.size = x.t.size then wi + 1 else wi) (if off + y.t.size = x.t.size then 0 else off + y.t.size)
    else (off = 0 ∨ ∃ x, ws[wi]? = some x ∧ y.t = eqS ∧ hckI P x.t = 0 ∧ (off : Int) ∈ (ptsF P x.t).map Int.ofNat) ∧ Good P ws r wi off
theorem Good.skip {P : List Grp} {ws : List Wd} {y : It} {r : List It} {wi : Nat} (hk : y.k ≠ 1) (h : Good P ws r wi 0) : Good P ws (y :: r) wi 0 := by
  rw [Good, if_neg hk]
  exact ⟨.inl rfl, h⟩
theorem Good.hyph {P : List Grp} {ws : List Wd} {y : It} {r : List It} {wi off : Nat} {x : Wd} (hk : y.k ≠ 1) (hx : ws[wi]? = some x) (ht : y.t = eqS) (hc : hckI P x.t = 0) (hp : off ∈ ptsF P x.t) (h : Good P ws r wi off) : Good P ws (y :: r) wi off := by
  rw [Good, if_neg hk]
  exact ⟨.inr ⟨x, hx, ht, hc, List.mem_map.2 ⟨off, hp, rfl⟩⟩, h⟩
theorem Good.more {P : List Grp} {ws : List Wd} {y : It} {r : List It} {wi off : Nat} {x : Wd} (hk : y.k = 1) (hx : ws[wi]? = some x) (hs : off + y.t.size < x.t.size) (h : Good P ws r wi (off + y.t.size)) : Good P ws (y :: r) wi off := by
  rw [Good, if_pos hk]
  refine ⟨x, hx, by omega, ?_⟩
  rw [if_neg (by omega), if_neg (by omega)]
  exact h
theorem Good.last {P : List Grp} {ws : List Wd} {y : It} {r : List It} {wi off : Nat} {x : Wd} (hk : y.k = 1) (hx : ws[wi]? = some x) (hs : off + y.t.size = x.t.size) (h : Good P ws r (wi + 1) 0) : Good P ws (y :: r) wi off := by
  rw [Good, if_pos hk]
  refine ⟨x, hx, by omega, ?_⟩
  rw [if_pos hs, if_pos hs]
  exact h
theorem upw_mem : ∀ {L : List Nat} {f k : Nat}, Upw f L k → ∀ x ∈ L, f < x ∧ x < k
  | [], _, _, _, x, hx => by cases hx
  | y :: t, f, k, h, x, hx => by
    obtain ⟨h1, h2⟩ := h
    rcases List.mem_cons.1 hx with rfl | hx
    · exact ⟨h1, Upw.lt h2⟩
    · have := upw_mem h2 x hx
      omega
theorem ptE_lt (P : List Grp) {s : ByteArray} (h : 1 ≤ s.size) {j : Nat} (hj : j + 1 < (ptE P s).length) : (ptE P s).getD j 0 ∈ ptsF P s ∧ (ptE P s).getD j 0 < s.size := by
  have hl : (ptE P s).length = (ptsF P s).length + 1 := by unfold ptE; rw [List.length_append]; rfl
  have hj2 : j < (ptsF P s).length := by omega
  have e : (ptE P s).getD j 0 = (ptsF P s)[j] := by
    unfold ptE
    rw [List.getD_eq_getElem?_getD, List.getElem?_append_left hj2, List.getElem?_eq_getElem hj2]; rfl
  have hm : (ptsF P s)[j] ∈ ptsF P s := List.getElem_mem hj2
  rw [e]
  exact ⟨hm, (upw_mem (ptsF_up P s h) _ hm).2⟩
theorem ptE_last (P : List Grp) {s : ByteArray} {j : Nat} (hj : j + 1 = (ptE P s).length) : (ptE P s).getD j 0 = s.size := by
  have hl : (ptE P s).length = (ptsF P s).length + 1 := by unfold ptE; rw [List.length_append]; rfl
  have hj2 : j = (ptsF P s).length := by omega
  unfold ptE
  rw [List.getD_eq_getElem?_getD, List.getElem?_append_right (by omega), hj2, Nat.sub_self]; rfl
theorem good_boxes {st : St} {P : List Grp} {ws : List Wd} {wi : Nat} {x : Wd} (hx : ws[wi]? = some x) (h1 : 1 ≤ x.t.size) (hc : hckI P x.t = 0) {n : Nat} (hn : n = (ptE P x.t).length) : ∀ (j : Nat) (r : List It), j < n → Good P ws r wi (pv (ptE P x.t) j) → Good P ws (bxN st (pcN x.t (ptE P x.t) n) j ++ r) wi 0
  | 0, r, _, h => h
  | j + 1, r, hj, h => by
    have hg := pcN_get x.t (ptE P x.t) n j (by omega)
    have hb := ptE_bd P h1 (j := j) (by omega)
    have hlt := ptE_lt P h1 (j := j) (by omega)
    have hsz : (x.t.extract (pv (ptE P x.t) j) ((ptE P x.t).getD j 0)).size = (ptE P x.t).getD j 0 - pv (ptE P x.t) j := by rw [ByteArray.size_extract]; omega
    have e : bxN st (pcN x.t (ptE P x.t) n) (j + 1) ++ r = bxN st (pcN x.t (ptE P x.t) n) j ++ ((if j = 0 then [] else [penH st]) ++ boxI st (x.t.extract (pv (ptE P x.t) j) ((ptE P x.t).getD j 0)) :: r) := by
      rw [bxN, hg]
      simp
    rw [e]
    refine good_boxes hx h1 hc hn j _ (by omega) ?_
    have hbox : Good P ws (boxI st (x.t.extract (pv (ptE P x.t) j) ((ptE P x.t).getD j 0)) :: r) wi (pv (ptE P x.t) j) := by
      refine Good.more rfl hx ?_ ?_
      · show _ + (x.t.extract (pv (ptE P x.t) j) ((ptE P x.t).getD j 0)).size < _
        omega
      · show Good P ws r wi (_ + (x.t.extract (pv (ptE P x.t) j) ((ptE P x.t).getD j 0)).size)
        rw [hsz, show pv (ptE P x.t) j + ((ptE P x.t).getD j 0 - pv (ptE P x.t) j) = (ptE P x.t).getD j 0 by omega]
        exact h
    by_cases h0 : j = 0
    · rw [if_pos h0]; exact hbox
    · rw [if_neg h0]
      obtain ⟨i, rfl⟩ : ∃ i, j = i + 1 := ⟨j - 1, by omega⟩
      exact Good.hyph (show (3 : Int) ≠ 1 by decide) hx rfl hc (ptE_lt P h1 (j := i) (by omega)).1 hbox
theorem good_word {st : St} {P : List Grp} {ws : List Wd} {wi : Nat} {x : Wd} (hx : ws[wi]? = some x) (h1 : 1 ≤ x.t.size) (hP : hchkI P = 0) {r : List It} (h : Good P ws r (wi + 1) 0) : Good P ws (wdI st P wi x ++ r) wi 0 := by
  have key : Good P ws (bxN st (prtF P x.t) (prtF P x.t).length ++ r) wi 0 := by
    unfold prtF
    split
    · rename_i hw
      have hc : hckI P x.t = 0 := by
        unfold hckI
        rw [if_neg (by simpa using hP), if_neg (by simpa using hw)]
      obtain ⟨n, hn⟩ : ∃ n, n = (ptE P x.t).length := ⟨_, rfl⟩
      rw [← hn, pcN_len]
      obtain ⟨j, rfl⟩ : ∃ j, n = j + 1 := ⟨n - 1, by unfold ptE at hn; rw [List.length_append] at hn; simp at hn; omega⟩
      have hg := pcN_get x.t (ptE P x.t) (j + 1) j (by omega)
      have hb := ptE_bd P h1 (j := j) (by omega)
      have hla := ptE_last P (s := x.t) (j := j) (by omega)
      have e : bxN st (pcN x.t (ptE P x.t) (j + 1)) (j + 1) ++ r = bxN st (pcN x.t (ptE P x.t) (j + 1)) j ++ ((if j = 0 then [] else [penH st]) ++ boxI st (x.t.extract (pv (ptE P x.t) j) ((ptE P x.t).getD j 0)) :: r) := by
        rw [bxN, hg]
        simp
      rw [e]
      refine good_boxes hx h1 hc hn j _ (by omega) ?_
      have hbox : Good P ws (boxI st (x.t.extract (pv (ptE P x.t) j) ((ptE P x.t).getD j 0)) :: r) wi (pv (ptE P x.t) j) := by
        refine Good.last rfl hx ?_ h
        show _ + (x.t.extract (pv (ptE P x.t) j) ((ptE P x.t).getD j 0)).size = _
        rw [ByteArray.size_extract]
        omega
      by_cases h0 : j = 0
      · rw [if_pos h0]; exact hbox
      · rw [if_neg h0]
        obtain ⟨i, rfl⟩ : ∃ i, j = i + 1 := ⟨j - 1, by omega⟩
        exact Good.hyph (show (3 : Int) ≠ 1 by decide) hx rfl hc (ptE_lt P h1 (j := i) (by omega)).1 hbox
    · show Good P ws (boxI st x.t :: r) wi 0
      exact Good.last rfl hx (Nat.zero_add _) h
  unfold wdI preI
  split
  · exact key
  split
  · exact Good.skip (by decide) key
  split
  · exact key
  · exact Good.skip (show (2 : Int) ≠ 1 by decide) key
theorem good_all {st : St} {P : List Grp} {ws : List Wd} (hP : hchkI P = 0) (h1 : ∀ x ∈ ws, 1 ≤ x.t.size) : ∀ (i : Nat) (r : List It), i ≤ ws.length → Good P ws r i 0 → Good P ws (itmN st P ws i ++ r) 0 0
  | 0, r, _, h => h
  | i + 1, r, hi, h => by
    obtain ⟨x, hx⟩ : ∃ x, ws[i]? = some x := ⟨_, List.getElem?_eq_getElem (by omega)⟩
    rw [itmN, hx, List.append_assoc]
    exact good_all hP h1 i _ (by omega) (good_word hx (h1 x (List.mem_of_getElem? hx)) hP h)
/-- The plain law. -/
theorem hyphens_plain {st : St} {P : List Grp} {ws : List Wd} (he : itE st P ws = 0) : Good P ws (itmF st P ws) 0 0 := by
  obtain ⟨_, hP, hb, _⟩ := itE_ok he
  have h := good_all (st := st) hP (fun x hx => by
    have h := List.any_eq_false.1 hb x hx
    unfold badW at h
    simp only [Bool.or_eq_true, decide_eq_true_eq] at h
    omega) ws.length [] (Nat.le_refl _) rfl
  rw [List.append_nil] at h
  exact h
end Go.Proofs.Ytalpgilncohkbaa
