/-
  Plain laws of sets, sigla and places. No program.
-/
import Derived.Test.YtigaflmhdbgmdaaDoorShort
import Derived.Test.YtigaflmhdbgmdaaDoorFine
namespace Go.Proofs.YtigaflmhdbgmdaaDoor

theorem ckNames_nd : ∀ (l pre : List ByteArray), ckNames pre l = 0 → l.Nodup ∧ ∀ x ∈ l, x ∉ pre := by
  intro l
  induction l with
  | nil => intro pre _; exact ⟨List.nodup_nil, fun x hx => by cases hx⟩
  | cons a l ih =>
    intro pre h
    unfold ckNames at h
    split at h
    · omega
    split at h
    · omega
    · next h1 =>
      obtain ⟨h2, h3⟩ := ih _ h
      have ha : a ∉ pre := fun hm => h1 (List.any_eq_true.2 ⟨a, hm, by simp⟩)
      refine ⟨List.nodup_cons.2 ⟨fun hm => h3 a hm (by simp), h2⟩, fun x hx => ?_⟩
      rcases List.mem_cons.1 hx with rfl | hx
      · exact ha
      · exact fun hm => h3 x hx (List.mem_append_left _ hm)
theorem ckGrps_nd (names : List ByteArray) : ∀ (gs pre : List Grp), ckGrps names pre gs = 0 → (gs.map (·.name)).Nodup ∧ ∀ g ∈ gs, g.name ∉ names ∧ g.name ∉ pre.map (·.name) := by
  intro l
  induction l with
  | nil => intro pre _; exact ⟨List.nodup_nil, fun x hx => by cases hx⟩
  | cons a l ih =>
    intro pre h
    unfold ckGrps at h
    split at h
    · omega
    split at h
    · omega
    next h1 =>
    split at h
    · omega
    split at h
    · next hh => exact absurd h hh
    · obtain ⟨h2, h3⟩ := ih _ h
      have ha : a.name ∉ names ∧ a.name ∉ pre.map (·.name) := by
        refine ⟨fun hm => h1 (.inl (List.any_eq_true.2 ⟨a.name, hm, by simp⟩)), fun hm => h1 (.inr ?_)⟩
        obtain ⟨g, hg, e⟩ := List.mem_map.1 hm
        exact List.any_eq_true.2 ⟨g, hg, by simpa using e⟩
      refine ⟨List.nodup_cons.2 ⟨fun hm => ?_, h2⟩, fun x hx => ?_⟩
      · obtain ⟨g, hg, e⟩ := List.mem_map.1 hm
        exact (h3 g hg).2 (by rw [e]; simp)
      · rcases List.mem_cons.1 hx with rfl | hx
        · exact ha
        · exact ⟨(h3 x hx).1, fun hm => (h3 x hx).2 (by rw [List.map_append]; exact List.mem_append_left _ hm)⟩

/-- What valid names and groups are. -/
structure Good (names : List ByteArray) (gs : List Grp) : Prop where
  nd : names.Nodup
  gd : (gs.map (·.name)).Nodup
  dj : ∀ g ∈ gs, g.name ∉ names
  mem : ∀ g ∈ gs, ∀ x ∈ g.mem, 0 ≤ x ∧ x < names.length
  nl : names.length ≤ 32
  gl : gs.length ≤ 16
theorem good_of {names : List ByteArray} {gs : List Grp} (h : checkI names gs = 0) : Good names gs := by
  obtain ⟨h1, h2, h3, h4⟩ := checkI_ok h
  obtain ⟨a, b⟩ := ckGrps_nd names gs [] h4
  exact ⟨(ckNames_nd names [] h3).1, a, fun g hg => (b g hg).1, fun g hg x hx => ckSet_ok _ _ _ (ckGrps_ok names gs [] h4 g hg).2.2 x hx, h1, h2⟩

theorem sorted_ext : ∀ (l m : List Int), l.Pairwise (· < ·) → m.Pairwise (· < ·) → (∀ x, x ∈ l ↔ x ∈ m) → l = m
  | [], [], _, _, _ => rfl
  | [], b :: m, _, _, h => by have := (h b).2 List.mem_cons_self; cases this
  | a :: l, [], _, _, h => by have := (h a).1 List.mem_cons_self; cases this
  | a :: l, b :: m, hl, hm, h => by
    rw [List.pairwise_cons] at hl hm
    have e : a = b := by
      rcases List.mem_cons.1 ((h a).1 List.mem_cons_self) with e | e
      · exact e
      · rcases List.mem_cons.1 ((h b).2 List.mem_cons_self) with e2 | e2
        · exact e2.symm
        · have h1 := hm.1 a e; have h2 := hl.1 b e2; omega
    subst e
    rw [sorted_ext l m hl.2 hm.2 fun x => ?_]
    constructor
    · intro hx
      rcases List.mem_cons.1 ((h x).1 (List.mem_cons_of_mem _ hx)) with e | e
      · have := hl.1 x hx; omega
      · exact e
    · intro hx
      rcases List.mem_cons.1 ((h x).2 (List.mem_cons_of_mem _ hx)) with e | e
      · have := hm.1 x hx; omega
      · exact e

theorem bitsTo_sorted (m k : Nat) : (bitsTo m k).Pairwise (· < ·) := by
  unfold bitsTo
  rw [List.pairwise_map]
  refine List.Pairwise.imp ?_ (List.Pairwise.filter _ List.pairwise_lt_range)
  intro a b h; omega
theorem bitsTo_mem (m k : Nat) (x : Int) : x ∈ bitsTo m k ↔ 0 ≤ x ∧ x < k ∧ m.testBit x.toNat = true := by
  unfold bitsTo
  simp only [List.mem_map, List.mem_filter, List.mem_range]
  constructor
  · rintro ⟨i, ⟨h1, h2⟩, rfl⟩; exact ⟨by omega, by omega, by simpa using h2⟩
  · rintro ⟨h1, h2, h3⟩; exact ⟨x.toNat, ⟨by omega, h3⟩, by omega⟩
theorem bitsL_sorted (m : Nat) : (bitsL m).Pairwise (· < ·) := bitsTo_sorted m 64
theorem bitsL_mem (m : Nat) (x : Int) : x ∈ bitsL m ↔ 0 ≤ x ∧ x < 64 ∧ m.testBit x.toNat = true := bitsTo_mem m 64 x

theorem maskN_mem {l : List Int} (h : ∀ x ∈ l, 0 ≤ x) (x : Int) (hx : 0 ≤ x) : (maskN l).testBit x.toNat = true ↔ x ∈ l := by
  rw [maskN_bit, List.any_eq_true]
  constructor
  · rintro ⟨y, hy, e⟩
    have := h y hy
    have e' : y.toNat = x.toNat := by simpa using e
    rwa [show x = y by omega]
  · exact fun hm => ⟨x, hm, by simp⟩

theorem bits_of_mask {l : List Int} (hs : l.Pairwise (· < ·)) (h : ∀ x ∈ l, 0 ≤ x ∧ x < 64) : bitsL (maskN l) = l := by
  refine sorted_ext _ _ (bitsL_sorted _) hs fun x => ?_
  rw [bitsL_mem]
  constructor
  · rintro ⟨h1, h2, h3⟩; exact (maskN_mem (fun y hy => (h y hy).1) x h1).1 h3
  · intro hx; exact ⟨(h x hx).1, (h x hx).2, (maskN_mem (fun y hy => (h y hy).1) x (h x hx).1).2 hx⟩

theorem ckSet_sorted (n : Int) (l : List Int) : ∀ p, l.Pairwise (· < ·) → (∀ x ∈ l, 0 ≤ x ∧ x < n) → (∀ q, p = some q → ∀ x ∈ l, q < x) → ckSet n p l = 0 := by
  induction l with
  | nil => intros; rfl
  | cons a l ih =>
    intro p hl h hp
    rw [List.pairwise_cons] at hl
    have ha := h a List.mem_cons_self
    unfold ckSet
    rw [if_neg (by omega), if_neg]
    · exact ih _ hl.2 (fun x hx => h x (List.mem_cons_of_mem _ hx)) (fun q e x hx => by cases e; exact hl.1 x hx)
    · rintro ⟨q, e, hq⟩
      have := hp q e a List.mem_cons_self
      omega
theorem ckSet_srt (n : Int) (l : List Int) : ∀ p, ckSet n p l = 0 → l.Pairwise (· < ·) ∧ ∀ q, p = some q → ∀ x ∈ l, q < x := by
  induction l with
  | nil => intro p _; exact ⟨List.Pairwise.nil, fun q _ x hx => by cases hx⟩
  | cons a l ih =>
    intro p h
    unfold ckSet at h
    split at h
    · omega
    split at h
    · omega
    next h1 =>
    obtain ⟨h2, h3⟩ := ih _ h
    have hq : ∀ q, p = some q → q < a := fun q e => by
      rcases Int.lt_or_le q a with h | h
      · exact h
      · exact absurd ⟨q, e, h⟩ h1
    refine ⟨List.pairwise_cons.2 ⟨fun x hx => h3 a rfl x hx, h2⟩, fun q e x hx => ?_⟩
    rcases List.mem_cons.1 hx with rfl | hx
    · exact hq q e
    · have := h3 a rfl x hx; have := hq q e; omega

/-! ### places and sigla -/
def vld (names : List ByteArray) (gs : List Grp) (p : Int) : Prop := 0 ≤ p ∧ p < gs.length + names.length
def meanP (gs : List Grp) (p : Int) : Nat := if p < gs.length then maskN (memAt gs p) else 2 ^ (p - gs.length).toNat

theorem nm_g {names : List ByteArray} {gs : List Grp} {p : Int} (h0 : 0 ≤ p) (h : p < gs.length) : ∃ g, gs[p.toNat]? = some g ∧ nameOf names gs p = g.name ∧ memAt gs p = g.mem := by
  have hlt : p.toNat < gs.length := by omega
  refine ⟨gs[p.toNat], List.getElem?_eq_getElem hlt, ?_, ?_⟩
  · unfold nameOf; rw [if_pos h, List.getElem?_eq_getElem hlt]
  · unfold memAt; rw [List.getElem?_eq_getElem hlt]
theorem nm_n {names : List ByteArray} {gs : List Grp} {p : Int} (h : vld names gs p) (hg : ¬ p < gs.length) : names[(p - gs.length).toNat]? = some (nameOf names gs p) := by
  have h1 : (p - gs.length).toNat < names.length := by have := h.2; omega
  unfold nameOf
  rw [if_neg hg, List.getD_eq_getElem?_getD, List.getElem?_eq_getElem h1]; rfl

theorem nodup_idx {α : Type} {l : List α} (h : l.Nodup) {i j : Nat} {x : α} (hi : l[i]? = some x) (hj : l[j]? = some x) : i = j := by
  obtain ⟨h1, e1⟩ := List.getElem?_eq_some_iff.1 hi
  obtain ⟨h2, e2⟩ := List.getElem?_eq_some_iff.1 hj
  exact (List.getElem_inj h).1 (e1.trans e2.symm)

theorem nm_inj {names : List ByteArray} {gs : List Grp} (G : Good names gs) {p q : Int} (hp : vld names gs p) (hq : vld names gs q) (e : nameOf names gs p = nameOf names gs q) : p = q := by
  by_cases h1 : p < gs.length
  · obtain ⟨g, hg, hn, _⟩ := nm_g (names := names) hp.1 h1
    by_cases h2 : q < gs.length
    · obtain ⟨g', hg', hn', _⟩ := nm_g (names := names) hq.1 h2
      have a1 : (gs.map (·.name))[p.toNat]? = some g.name := by rw [List.getElem?_map, hg]; rfl
      have a2 : (gs.map (·.name))[q.toNat]? = some g.name := by rw [List.getElem?_map, hg', ← hn, e, hn']; rfl
      have := nodup_idx G.gd a1 a2
      have := hp.1; have := hq.1; omega
    · exact absurd (List.mem_of_getElem? (nm_n hq h2)) (by rw [← e, hn]; exact G.dj g (List.mem_of_getElem? hg))
  · by_cases h2 : q < gs.length
    · obtain ⟨g', hg', hn', _⟩ := nm_g (names := names) hq.1 h2
      exact absurd (List.mem_of_getElem? (nm_n hp h1)) (by rw [e, hn']; exact G.dj g' (List.mem_of_getElem? hg'))
    · have := nodup_idx G.nd (nm_n hp h1) (by rw [e]; exact nm_n hq h2)
      have := hp.1; have := hq.1; omega

theorem nodup_take {α : Type} {l : List α} (h : l.Nodup) {k : Nat} {x : α} (hx : l[k]? = some x) : x ∉ l.take k := by
  intro hm
  obtain ⟨j, hj, e⟩ := List.mem_take_iff_getElem.1 hm
  have := nodup_idx h hx (List.getElem?_eq_some_iff.2 ⟨by omega, e⟩)
  omega

theorem fx_g {names : List ByteArray} {gs : List Grp} (G : Good names gs) {p : Int} (h0 : 0 ≤ p) (h : p < gs.length) :
    fIdx (fun x => decide (nameOf names gs p = x)) names = -1 ∧ fIdx (fun x : Grp => decide (x.name = nameOf names gs p)) gs = p := by
  obtain ⟨g, hg, hn, _⟩ := nm_g (names := names) h0 h
  rw [hn]
  refine ⟨fIdx_none _ _ fun x hx => decide_eq_false fun e => G.dj g (List.mem_of_getElem? hg) (e ▸ hx), ?_⟩
  have := fIdx_hit (fun x : Grp => decide (x.name = g.name)) gs p.toNat g (fun y hy => decide_eq_false fun e => ?_) hg (by simp)
  · omega
  · have a1 : (gs.map (·.name))[p.toNat]? = some g.name := by rw [List.getElem?_map, hg]; rfl
    exact nodup_take G.gd a1 (by rw [← List.map_take, ← e]; exact List.mem_map_of_mem hy)
theorem fx_n {names : List ByteArray} {gs : List Grp} (G : Good names gs) {p : Int} (h : vld names gs p) (hg : ¬ p < gs.length) :
    fIdx (fun x => decide (nameOf names gs p = x)) names = p - gs.length := by
  have h1 := nm_n h hg
  have := fIdx_hit (fun x => decide (nameOf names gs p = x)) names (p - gs.length).toNat _ (fun y hy => decide_eq_false fun e => nodup_take G.nd h1 (e ▸ hy)) h1 (by simp)
  omega

theorem expGo_places {names : List ByteArray} {gs : List Grp} (G : Good names gs) : ∀ (L pre : List Int) (all : Nat), (pre ++ L).Nodup → (∀ p ∈ pre ++ L, vld names gs p) →
    expGo names gs (pre.map (nameOf names gs)) (L.map (nameOf names gs)) all = (0, L.foldl (fun a p => a ||| meanP gs p) all) := by
  intro L
  induction L with
  | nil => intros; rfl
  | cons p L ih =>
    intro pre all hnd hv
    have hp := hv p (by simp)
    have hany : ((pre.map (nameOf names gs)).any fun x => decide (nameOf names gs p = x)) = false := by
      rw [List.any_eq_false]
      intro x hx
      obtain ⟨q, hq, rfl⟩ := List.mem_map.1 hx
      have hne : p ≠ q := by
        rintro rfl
        rw [List.nodup_append] at hnd
        exact hnd.2.2 p hq p List.mem_cons_self rfl
      simp only [decide_eq_true_eq]
      exact fun e => hne (nm_inj G hp (hv q (by simp [hq])) e)
    have hih := fun all' => ih (pre ++ [p]) all' (by simpa using hnd) (fun q hq => hv q (by simpa using hq))
    simp only [List.map_append, List.map_cons, List.map_nil] at hih
    rw [List.map_cons, expGo]
    simp only [hany, List.foldl_cons]
    by_cases hg : p < gs.length
    · obtain ⟨e1, e2⟩ := fx_g G hp.1 hg
      rw [e1, e2, if_neg (by have := hp.1; omega), if_neg (by simp), if_neg (by omega), hih]
      unfold meanP; rw [if_pos hg]
    · have e1 := fx_n G hp hg
      rw [e1, if_neg (by omega), if_neg (by simp), if_pos (by omega), hih]
      unfold meanP; rw [if_neg hg]

theorem foldl_or_any {α : Type} (f : α → Nat) (l : List α) (i : Nat) : ∀ a : Nat, (l.foldl (fun a p => a ||| f p) a).testBit i = (a.testBit i || l.any fun p => (f p).testBit i) := by
  induction l with
  | nil => intro a; simp
  | cons x l ih => intro a; rw [List.foldl_cons, ih, Nat.testBit_or, List.any_cons, Bool.or_assoc]
end Go.Proofs.YtigaflmhdbgmdaaDoor
