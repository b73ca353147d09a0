/-
  (sides).potentials: what is kept while it runs.
-/
import Derived.Test.YtlneimjenjpbnaaFit
import Derived.Test.YtlneimjenjpbnaaMks
namespace Go.Proofs.Ytlneimjenjpbnaa
open Go.RowKit

/-- A row of the potentials that is filled from k on. -/
def rowF (s : FS) (a k : Nat) : List Int := (List.range (s.R.n + 1)).map fun j => if j < k then 0 else fpot s (a, j)
def fpotM (s : FS) : List (List Int) := (List.range (s.L.n + 1)).map fun a => rowF s a 0
theorem rowF_len (s : FS) (a k : Nat) : (rowF s a k).length = s.R.n + 1 := by unfold rowF; simp
theorem rowF_at (s : FS) (a k j : Nat) (h : j ≤ s.R.n) : (rowF s a k)[j]? = some (if j < k then 0 else fpot s (a, j)) := by unfold rowF; simp [Nat.lt_succ_of_le h]
theorem rowF_set (s : FS) (a k : Nat) (h : k ≤ s.R.n) : (rowF s a (k + 1)).set k (fpot s (a, k)) = rowF s a k := by
  refine List.ext_getElem? fun i => ?_
  by_cases hi : i ≤ s.R.n
  · by_cases e : k = i
    · subst e
      rw [List.getElem?_set_self (by rw [rowF_len]; omega), rowF_at _ _ _ _ hi, if_neg (by omega)]
    · rw [List.getElem?_set_ne e, rowF_at _ _ _ _ hi, rowF_at _ _ _ _ hi]
      by_cases h2 : i < k
      · rw [if_pos h2, if_pos (by omega)]
      · rw [if_neg h2, if_neg (by omega)]
  · rw [List.getElem?_eq_none (by simp [rowF_len]; omega), List.getElem?_eq_none (by rw [rowF_len]; omega)]
theorem rowF_end (s : FS) : rowF s s.L.n (s.R.n + 1) = rowF s s.L.n s.R.n := by
  refine List.ext_getElem? fun i => ?_
  by_cases hi : i ≤ s.R.n
  · rw [rowF_at _ _ _ _ hi, rowF_at _ _ _ _ hi, if_pos (by omega)]
    by_cases h2 : i < s.R.n
    · rw [if_pos h2]
    · rw [if_neg h2, show i = s.R.n by omega]
      exact (congrArg some (fpot_end s)).symm
  · rw [List.getElem?_eq_none (by rw [rowF_len]; omega), List.getElem?_eq_none (by rw [rowF_len]; omega)]
theorem rowF_zero (s : FS) (a : Nat) : rowF s a (s.R.n + 1) = List.replicate (s.R.n + 1) 0 := by
  refine List.ext_getElem? fun i => ?_
  by_cases hi : i ≤ s.R.n
  · rw [rowF_at _ _ _ _ hi, if_pos (by omega), List.getElem?_replicate, if_pos (by omega)]
  · rw [List.getElem?_eq_none (by rw [rowF_len]; omega), List.getElem?_eq_none (by simp; omega)]

def rowC (l : List Int) : Array Value := (l.map (Value.int .i64)).toArray
/-- The rows from i on lie in the blocks rs, the row i filled from k on. -/
structure PoF (w : World) (s : FS) (x : FV) (Bs Zl Bo O i k : Nat) (rs : Nat → Nat) (Ds : List Nat) (W : World) : Prop where
  bel : Below w.heap.size w W
  bs : Row W Bs (fsC s x) 46
  zl : Row W Zl #[.int .i64 s.L.n, .int .i64 s.R.n] 48
  bo : Row W Bo #[.slice (some ⟨O, 0, none⟩) (s.L.n + 1 : Nat) (s.L.n + 1 : Nat)] 23
  mks : MkOk w.heap.size Ds W
  lo : w.heap.size ≤ O
  out : ∃ cur : List Value, Row W O cur.toArray 22 ∧ cur.length = s.L.n + 1 ∧ ∀ a, i ≤ a → a ≤ s.L.n → cur[a]? = some (.slice (some ⟨rs a, 0, none⟩) (s.R.n + 1 : Nat) (s.R.n + 1 : Nat))
  rows : ∀ a, i ≤ a → a ≤ s.L.n → w.heap.size ≤ rs a ∧ Row W (rs a) (rowC (rowF s a (if a = i then k else 0))) 3
  dec : ∀ a b, i ≤ a → a < b → b ≤ s.L.n → rs b < rs a
variable {w : World} {s : FS} {x : FV} {Bs Zl Bo O i k : Nat} {rs : Nat → Nat} {Ds : List Nat} {W : World}
theorem Row.oldW {W W' : World} {B : Nat} {cs : Array Value} {t : TypeId} (h : Row W B cs t) (hb : OldW W W') : Row W' B cs t := (hb.2 _ h.lt).trans h
theorem MkOk.oldW {B : Nat} {Ds : List Nat} {W W' : World} (h : MkOk B Ds W) (hb : OldW W W') : MkOk B Ds W' :=
  ⟨h.nd, fun D hD => ⟨(h.at_ D hD).1, (hb.2 D (h.lt hD)).trans (h.at_ D hD).2⟩⟩
theorem PoF.oldW (h : PoF w s x Bs Zl Bo O i k rs Ds W) {W' : World} (hb : OldW W W') (hw : Below w.heap.size w W') : PoF w s x Bs Zl Bo O i k rs Ds W' := by
  obtain ⟨cur, h1, h2, h3⟩ := h.out
  exact ⟨hw, h.bs.oldW hb, h.zl.oldW hb, h.bo.oldW hb, h.mks.oldW hb, h.lo, ⟨cur, h1.oldW hb, h2, h3⟩, fun a h1 h2 => ⟨(h.rows a h1 h2).1, (h.rows a h1 h2).2.oldW hb⟩, h.dec⟩
theorem PoF.below (h : PoF w s x Bs Zl Bo O i k rs Ds W) {W' : World} (hb : Below W.heap.size W W') : PoF w s x Bs Zl Bo O i k rs Ds W' := h.oldW (OldW.of hb) (below_tr h.bel hb)
/-- One mark more. -/
theorem PoF.mark (h : PoF w s x Bs Zl Bo O i k rs Ds W) {D : Nat} (hD : w.heap.size ≤ D) (hn : D ∉ Ds) (hat : W.heap[D]? = some (.deferred (some []))) : PoF w s x Bs Zl Bo O i k rs (D :: Ds) W :=
  { h with mks := ⟨List.nodup_cons.2 ⟨hn, h.mks.nd⟩, fun E hE => by
      rcases List.mem_cons.1 hE with rfl | hE
      · exact ⟨hD, hat⟩
      · exact h.mks.at_ E hE⟩ }
theorem ne_row {W : World} {b c : Nat} {cs cs' : Array Value} {t t' : TypeId} (h : Row W b cs t) (h' : Row W c cs' t') (hne : t ≠ t') : b ≠ c := fun e => by
  subst e
  have h1 : W.heap[b]? = _ := h
  have h2 : W.heap[b]? = _ := h'
  rw [h1] at h2
  simp only [Option.some.injEq, Obj.cells.injEq] at h2
  exact hne h2.2.1
/-- What is found is stored. -/
theorem PoF.put (h : PoF w s x Bs Zl Bo O i (k + 1) rs Ds W) (hi : i ≤ s.L.n) (hk : k ≤ s.R.n) : PoF w s x Bs Zl Bo O i k rs Ds (W.setCell ⟨rs i, k, none⟩ (.int .i64 (fpot s (i, k)))) := by
  obtain ⟨cur, h1, h2, h3⟩ := h.out
  obtain ⟨r1, r2⟩ := h.rows i (Nat.le_refl _) hi
  rw [if_pos rfl] at r2
  refine ⟨h.bel.setCell r1 _, h.bs.other _ _ (by simpa using ne_row h.bs r2 (by decide)), h.zl.other _ _ (by simpa using ne_row h.zl r2 (by decide)), h.bo.other _ _ (by simpa using ne_row h.bo r2 (by decide)), ?_, h.lo, ⟨cur, h1.other _ _ (by simpa using ne_row h1 r2 (by decide)), h2, h3⟩, fun a ha1 ha2 => ⟨(h.rows a ha1 ha2).1, ?_⟩, h.dec⟩
  · refine ⟨h.mks.nd, fun D hD => ⟨(h.mks.at_ D hD).1, (Below.heap_setCell _ _ _ _ ?_).trans (h.mks.at_ D hD).2⟩⟩
    have h4 := (h.mks.at_ D hD).2
    have h5 : W.heap[rs i]? = _ := r2
    intro e
    simp only at e
    rw [e, h5] at h4
    cases h4
  · by_cases e : a = i
    · subst e
      rw [if_pos rfl]
      have h6 := r2.set k (.int .i64 (fpot s (a, k)))
      have h7 : (rowC (rowF s a (k + 1))).setIfInBounds k (.int .i64 (fpot s (a, k))) = rowC (rowF s a k) := by
        unfold rowC
        rw [← rowF_set s a k hk, List.map_set]; simp
      rw [h7] at h6
      exact h6
    · have h6 := (h.rows a ha1 ha2).2
      rw [if_neg e] at h6 ⊢
      exact h6.other _ _ (by have := h.dec i a (Nat.le_refl _) (by omega) ha2; show rs a ≠ rs i; omega)
/-- A new row. -/
theorem PoF.row (h : PoF w s x Bs Zl Bo O (i + 1) 0 rs Ds W) (hi : i ≤ s.L.n) {W' : World} (hb : Below W.heap.size W W') {r : Nat} (hr0 : W.heap.size ≤ r) (hr : Row W' r (rowC (List.replicate (s.R.n + 1) 0)) 3) :
    PoF w s x Bs Zl Bo O i (s.R.n + 1) (fun a => if a = i then r else rs a) Ds (W'.setCell ⟨O, i, none⟩ (.slice (some ⟨r, 0, none⟩) (s.R.n + 1 : Nat) (s.R.n + 1 : Nat))) := by
  have h' := h.below hb
  obtain ⟨cur, h1, h2, h3⟩ := h'.out
  have hlt : ∀ a, i + 1 ≤ a → a ≤ s.L.n → rs a < W.heap.size := fun a ha1 ha2 => (h.rows a ha1 ha2).2.lt
  refine ⟨h'.bel.setCell h.lo _, h'.bs.other _ _ (by simpa using ne_row h'.bs h1 (by decide)), h'.zl.other _ _ (by simpa using ne_row h'.zl h1 (by decide)), h'.bo.other _ _ (by simpa using ne_row h'.bo h1 (by decide)), ?_, h.lo, ⟨cur.set i (.slice (some ⟨r, 0, none⟩) (s.R.n + 1 : Nat) (s.R.n + 1 : Nat)), ?_, by rw [List.length_set]; exact h2, fun a ha1 ha2 => ?_⟩, fun a ha1 ha2 => ?_, fun a b ha1 hab hb2 => ?_⟩
  · refine ⟨h'.mks.nd, fun D hD => ⟨(h'.mks.at_ D hD).1, (Below.heap_setCell _ _ _ _ ?_).trans (h'.mks.at_ D hD).2⟩⟩
    have h4 := (h'.mks.at_ D hD).2
    have h5 : W'.heap[O]? = _ := h1
    intro e
    simp only at e
    rw [e, h5] at h4
    cases h4
  · have h6 := h1.set i (.slice (some ⟨r, 0, none⟩) (s.R.n + 1 : Nat) (s.R.n + 1 : Nat))
    rw [show cur.toArray.setIfInBounds i (Value.slice (some ⟨r, 0, none⟩) (s.R.n + 1 : Nat) (s.R.n + 1 : Nat)) = (cur.set i (.slice (some ⟨r, 0, none⟩) (s.R.n + 1 : Nat) (s.R.n + 1 : Nat))).toArray by simp] at h6
    exact h6
  · by_cases e : a = i
    · subst e
      rw [if_pos rfl]
      exact List.getElem?_set_self (by omega)
    · rw [if_neg e, List.getElem?_set_ne (fun h => e h.symm)]
      exact h3 a (by omega) ha2
  · by_cases e : a = i
    · subst e
      rw [if_pos rfl, if_pos rfl, rowF_zero]
      exact ⟨Nat.le_trans h.bel.size hr0, hr.other _ _ (by simpa using (ne_row h1 hr (by decide)).symm)⟩
    · rw [if_neg e, if_neg e]
      have h6 := h'.rows a (by omega) ha2
      rw [ite_self] at h6
      exact ⟨h6.1, h6.2.other _ _ (by simpa using (ne_row h1 h6.2 (by decide)).symm)⟩
  · by_cases e : a = i
    · subst e
      rw [if_pos rfl, if_neg (by omega)]
      have := hlt b (by omega) hb2
      omega
    · rw [if_neg e, if_neg (by omega)]
      exact h.dec a b (by omega) hab hb2
/-- The end of all pairs. -/
theorem PoF.last (h : PoF w s x Bs Zl Bo O s.L.n (s.R.n + 1) rs Ds W) : PoF w s x Bs Zl Bo O s.L.n s.R.n rs Ds W :=
  ⟨h.bel, h.bs, h.zl, h.bo, h.mks, h.lo, h.out, fun a h1 h2 => by
    have h3 := h.rows a h1 h2
    obtain rfl : a = s.L.n := by omega
    rw [if_pos rfl] at h3 ⊢
    rw [← rowF_end]
    exact h3, h.dec⟩
theorem PoF.full (h : PoF w s x Bs Zl Bo O i 0 rs Ds W) (j : Nat) (hj : i = j) : PoF w s x Bs Zl Bo O j 0 rs Ds W := by subst hj; exact h
/-- A number that was found before. -/
theorem PoF.at (h : PoF w s x Bs Zl Bo O i (k + 1) rs Ds W) {t : Nat × Nat} (h1 : i ≤ t.1) (h2 : t.1 ≤ s.L.n) (h3 : t.2 ≤ s.R.n) (h4 : i < t.1 ∨ k < t.2) :
    W.cell? ⟨O, t.1, none⟩ = some (.slice (some ⟨rs t.1, 0, none⟩) (s.R.n + 1 : Nat) (s.R.n + 1 : Nat)) ∧ W.cell? ⟨rs t.1, t.2, none⟩ = some (.int .i64 (fpot s t)) := by
  obtain ⟨cur, c1, c2, c3⟩ := h.out
  refine ⟨c1.cell _ (by simpa using c3 _ h1 h2), ?_⟩
  have r := (h.rows t.1 h1 h2).2
  refine r.cell _ ?_
  unfold rowC
  have e := rowF_at s t.1 (if t.1 = i then k + 1 else 0) t.2 h3
  by_cases e1 : t.1 = i
  · rw [if_pos e1, if_neg (by omega)] at e
    rw [if_pos e1]
    simp [e]
  · rw [if_neg e1, if_neg (by omega)] at e
    rw [if_neg e1]
    simp [e]
theorem PoF.own (h : PoF w s x Bs Zl Bo O i k rs Ds W) (h2 : i ≤ s.L.n) (_h3 : k ≤ s.R.n + 1) :
    W.cell? ⟨O, i, none⟩ = some (.slice (some ⟨rs i, 0, none⟩) (s.R.n + 1 : Nat) (s.R.n + 1 : Nat)) ∧ ∀ j, j ≤ s.R.n → ∃ y, W.cell? ⟨rs i, j, none⟩ = some (.int .i64 y) ∧ W.frozen? ⟨rs i, j, none⟩ = false := by
  obtain ⟨cur, c1, c2, c3⟩ := h.out
  refine ⟨c1.cell _ (by simpa using c3 _ (Nat.le_refl _) h2), fun j hj => ?_⟩
  have r := (h.rows i (Nat.le_refl _) h2).2
  exact ⟨_, r.cell j (by unfold rowC; simp [rowF_at s i _ j hj]; rfl), r.frozen j⟩
theorem PoF.rd (h : PoF w s x Bs Zl Bo O 0 0 rs Ds W) (n1 : s.L.n ≤ 4096) (n2 : s.R.n ≤ 4096) : RdM W (.slice (some ⟨O, 0, none⟩) (s.L.n + 1 : Nat) (s.L.n + 1 : Nat)) (fpotM s) := by
  obtain ⟨cur, c1, c2, c3⟩ := h.out
  have hl : (fpotM s).length = s.L.n + 1 := by unfold fpotM; simp
  refine ⟨some ⟨O, 0, none⟩, s.L.n + 1, by rw [hl], by rw [hl]; exact Nat.le_refl _, by unfold maxLen; omega, fun i row hi => ?_⟩
  have hi2 : i ≤ s.L.n := by have := (List.getElem?_eq_some_iff.1 hi).1; omega
  have he : row = rowF s i 0 := by
    unfold fpotM at hi
    rw [List.getElem?_map, List.getElem?_range (by omega)] at hi
    simpa using hi.symm
  subst he
  refine ⟨O, 0, _, rfl, by rw [Nat.zero_add]; exact c1.cell i (by simpa using c3 i (Nat.zero_le _) hi2), some ⟨rs i, 0, none⟩, s.R.n + 1, by rw [rowF_len], by rw [rowF_len]; exact Nat.le_refl _, by unfold maxLen; omega, fun j y hj => ⟨rs i, 0, rfl, ?_⟩⟩
  have r := (h.rows i (Nat.zero_le _) hi2).2
  rw [ite_self] at r
  rw [Nat.zero_add]
  exact r.cell j (by unfold rowC; simp [hj])
end Go.Proofs.Ytlneimjenjpbnaa
