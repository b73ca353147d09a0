/-
  Plain law for P42.7: groups that are kept. No program.
-/
import Derived.Test.YtigaflmhdbgmdaaKeep
import Derived.Test.YtigaflmhdbgmdaaPlS
namespace Go.Proofs.Ytigaflmhdbgmdaa

theorem ckNames_sig : ∀ (l pre : List ByteArray), ckNames pre l = 0 → ∀ x ∈ l, sigB x = true := by
  intro l
  induction l with
  | nil => intro pre _ x hx; cases hx
  | cons a l ih =>
    intro pre h x hx
    unfold ckNames at h
    split at h
    · omega
    next h1 =>
    split at h
    · omega
    rcases List.mem_cons.1 hx with rfl | hx
    · simpa using h1
    · exact ih _ h x hx
theorem ckNames_of : ∀ (l pre : List ByteArray), (∀ x ∈ l, sigB x = true) → l.Nodup → (∀ x ∈ l, x ∉ pre) → ckNames pre l = 0 := by
  intro l
  induction l with
  | nil => intros; rfl
  | cons a l ih =>
    intro pre h1 h2 h3
    rw [List.nodup_cons] at h2
    unfold ckNames
    rw [if_neg (by rw [h1 a List.mem_cons_self]; simp), if_neg]
    · refine ih _ (fun x hx => h1 x (List.mem_cons_of_mem _ hx)) h2.2 (fun x hx hm => ?_)
      rcases List.mem_append.1 hm with h | h
      · exact h3 x (List.mem_cons_of_mem _ hx) h
      · rw [List.mem_singleton] at h; subst h; exact h2.1 hx
    · intro h
      obtain ⟨x, hx, e⟩ := List.any_eq_true.1 h
      have e' : a = x := by simpa using e
      exact h3 a List.mem_cons_self (e' ▸ hx)
theorem ckGrps_of (names : List ByteArray) : ∀ (l pre : List Grp), (∀ g ∈ l, isNameB g.name = true ∧ g.name ∉ names ∧ g.mem ≠ [] ∧ ckSet names.length none g.mem = 0) → (l.map (·.name)).Nodup → (∀ g ∈ l, g.name ∉ pre.map (·.name)) → ckGrps names pre l = 0 := by
  intro l
  induction l with
  | nil => intros; rfl
  | cons a l ih =>
    intro pre h1 h2 h3
    rw [List.map_cons, List.nodup_cons] at h2
    obtain ⟨a1, a2, a3, a4⟩ := h1 a List.mem_cons_self
    unfold ckGrps
    rw [if_neg (by rw [a1]; simp), if_neg, if_neg (by intro e; exact a3 (List.eq_nil_of_length_eq_zero e)), if_neg (by omega)]
    · refine ih _ (fun x hx => h1 x (List.mem_cons_of_mem _ hx)) h2.2 (fun x hx hm => ?_)
      rw [List.map_append] at hm
      rcases List.mem_append.1 hm with h | h
      · exact h3 x (List.mem_cons_of_mem _ hx) h
      · have e : x.name = a.name := by simpa using h
        exact h2.1 (by rw [← e]; exact List.mem_map_of_mem hx)
    · rintro (h | h)
      · obtain ⟨x, hx, e⟩ := List.any_eq_true.1 h
        have e' : a.name = x := by simpa using e
        exact a2 (e' ▸ hx)
      · obtain ⟨x, hx, e⟩ := List.any_eq_true.1 h
        have e' : x.name = a.name := by simpa using e
        exact h3 a List.mem_cons_self (by rw [← e']; exact List.mem_map_of_mem hx)

theorem idxTo_sorted (old mem : List Int) (k : Nat) : (idxTo old mem k).Pairwise (· < ·) := by
  unfold idxTo
  rw [List.pairwise_map]
  refine List.Pairwise.imp ?_ (List.Pairwise.filter _ List.pairwise_lt_range)
  intro a b h; omega
theorem idxTo_lt (old mem : List Int) (k : Nat) : ∀ x ∈ idxTo old mem k, 0 ≤ x ∧ x < k := by
  intro x hx
  unfold idxTo at hx
  simp only [List.mem_map, List.mem_filter, List.mem_range] at hx
  obtain ⟨i, ⟨h1, _⟩, rfl⟩ := hx
  omega

theorem keepG_mem {old : List Int} {g x : Grp} (h : x ∈ keepG old g) : x.name = g.name ∧ x.mem = idxTo old g.mem old.length ∧ idxTo old g.mem old.length ≠ [] := by
  unfold keepG at h
  split at h
  · cases h
  · next h1 => rw [List.mem_singleton] at h; subst h; exact ⟨rfl, rfl, h1⟩
theorem keepTo_all (gs : List Grp) (old : List Int) : keepTo gs old gs.length = gs.flatMap (keepG old) := by unfold keepTo; rw [List.take_length]
theorem keep_len (gs : List Grp) (old : List Int) : (gs.flatMap (keepG old)).length ≤ gs.length := by
  induction gs with
  | nil => simp
  | cons a l ih =>
    rw [List.flatMap_cons, List.length_append, List.length_cons]
    have : (keepG old a).length ≤ 1 := by unfold keepG; split <;> simp
    omega
theorem keep_nd (gs : List Grp) (old : List Int) (h : (gs.map (·.name)).Nodup) : ((gs.flatMap (keepG old)).map (·.name)).Nodup := by
  induction gs with
  | nil => simp
  | cons a l ih =>
    rw [List.map_cons, List.nodup_cons] at h
    rw [List.flatMap_cons, List.map_append]
    have hk : keepG old a = [] ∨ keepG old a = [⟨a.name, idxTo old a.mem old.length⟩] := by
      unfold keepG
      split
      · left; rfl
      · right; rfl
    rcases hk with e | e <;> rw [e]
    · simpa using ih h.2
    · rw [List.map_cons, List.map_nil, List.singleton_append, List.nodup_cons]
      refine ⟨fun hm => ?_, ih h.2⟩
      obtain ⟨x, hx, e⟩ := List.mem_map.1 hm
      obtain ⟨g, hg, hxg⟩ := List.mem_flatMap.1 hx
      exact h.1 (by rw [← e, (keepG_mem hxg).1]; exact List.mem_map_of_mem hg)

def leftL (names : List ByteArray) (old : List Int) : List ByteArray := old.map fun k => names.getD k.toNat ByteArray.empty

section
variable {names : List ByteArray} {gs : List Grp} {set : List Int}

theorem left_mem (h0 : startI names gs set = 0) : ∀ x ∈ leftL names set, x ∈ names := by
  obtain ⟨_, _, _, hx, _⟩ := set_facts h0
  intro x hm
  obtain ⟨k, hk, rfl⟩ := List.mem_map.1 hm
  have := hx k hk
  rw [List.getD_eq_getElem?_getD, List.getElem?_eq_getElem (by omega)]
  exact List.getElem_mem _
theorem left_nd (h0 : startI names gs set = 0) : (leftL names set).Nodup := by
  obtain ⟨G, _, _, hx, hsrt⟩ := set_facts h0
  unfold leftL
  show List.Pairwise (fun a b => a ≠ b) _
  rw [List.pairwise_map]
  refine List.Pairwise.imp_of_mem ?_ hsrt
  intro a b ha hb hab
  have h1 := hx a ha
  have h2 := hx b hb
  intro e
  have i1 : a.toNat < names.length := by omega
  have i2 : b.toNat < names.length := by omega
  rw [List.getD_eq_getElem?_getD, List.getD_eq_getElem?_getD, List.getElem?_eq_getElem i1, List.getElem?_eq_getElem i2] at e
  have := (List.getElem_inj G.nd).1 e
  omega

theorem ckSet_weaken {n m : Int} {l : List Int} (h : ckSet n none l = 0) (hnm : n ≤ m) : ckSet m none l = 0 :=
  ckSet_sorted m l none (ckSet_srt _ _ _ h).1 (fun x hx => by have := ckSet_ok _ _ _ h x hx; omega) (fun q e => by cases e)

theorem keepE_zero : ∀ (l : List Grp), (∀ g ∈ l, ckSet 32 none g.mem = 0) → keepE l = 0 := by
  intro l
  induction l with
  | nil => intro _; rfl
  | cons a l ih =>
    intro h
    unfold keepE
    rw [if_neg (by rw [h a List.mem_cons_self]; simp)]
    exact ih fun g hg => h g (List.mem_cons_of_mem _ hg)

theorem keep_ok (h0 : startI names gs set = 0) : keepI gs set = 0 := by
  obtain ⟨hc, hs⟩ := startI_ok h0
  obtain ⟨h1, h2, _, h4⟩ := checkI_ok hc
  unfold keepI
  rw [if_neg (by omega), if_neg (by rw [ckSet_weaken hs (by omega)]; simp)]
  exact keepE_zero _ fun g hg => ckSet_weaken (ckGrps_ok names gs [] h4 g hg).2.2 (by omega)

theorem keep_check (h0 : startI names gs set = 0) : checkI (leftL names set) (gs.flatMap (keepG set)) = 0 := by
  obtain ⟨hc, hs⟩ := startI_ok h0
  obtain ⟨h1, h2, h3, h4⟩ := checkI_ok hc
  obtain ⟨G, _, _, hx, hsrt⟩ := set_facts h0
  have hll : (leftL names set).length = set.length := by simp [leftL]
  have hsl : set.length ≤ names.length := by
    have := nodup_len set ((List.range names.length).map fun (i : Nat) => (i : Int)) (List.Pairwise.imp (fun h => by omega) hsrt)
      (fun x hm => List.mem_map.2 ⟨x.toNat, List.mem_range.2 (by have := hx x hm; omega), by have := hx x hm; omega⟩)
    simpa using this
  have hkl := keep_len gs set
  have hn : ckNames [] (leftL names set) = 0 := ckNames_of _ _ (fun x hm => ckNames_sig _ _ h3 x (left_mem h0 x hm)) (left_nd h0) (fun x _ h => by cases h)
  have hg : ckGrps (leftL names set) [] (gs.flatMap (keepG set)) = 0 := by
    refine ckGrps_of _ _ _ (fun x hm => ?_) (keep_nd gs set G.gd) (fun x _ h => by cases h)
    obtain ⟨g, hg, hxg⟩ := List.mem_flatMap.1 hm
    obtain ⟨e1, e2, e3⟩ := keepG_mem hxg
    refine ⟨by rw [e1]; exact (ckGrps_ok names gs [] h4 g hg).1, by rw [e1]; exact fun h => G.dj g hg (left_mem h0 _ h), by rw [e2]; exact e3, ?_⟩
    rw [e2, hll]
    exact ckSet_sorted _ _ _ (idxTo_sorted _ _ _) (fun y hy => idxTo_lt _ _ _ y hy) (fun q e => by cases e)
  unfold checkI
  rw [if_neg (by omega), hn, if_neg (by simp), if_neg (by omega), hg]

theorem keep_expand (h0 : startI names gs set = 0) {g : Grp} (hg : g ∈ gs) :
    (idxTo set g.mem set.length = [] → expandI (leftL names set) (gs.flatMap (keepG set)) [g.name] = 6) ∧
    (idxTo set g.mem set.length ≠ [] → expandI (leftL names set) (gs.flatMap (keepG set)) [g.name] = 0 ∧ expandL (leftL names set) (gs.flatMap (keepG set)) [g.name] = idxTo set g.mem set.length) := by
  have hck := keep_check h0
  obtain ⟨G, _, _, hx, hsrt⟩ := set_facts h0
  have hnl := G.nl
  have hsl : set.length ≤ names.length := by
    have := nodup_len set ((List.range names.length).map fun (i : Nat) => (i : Int)) (List.Pairwise.imp (fun h => by omega) hsrt)
      (fun x hm => List.mem_map.2 ⟨x.toNat, List.mem_range.2 (by have := hx x hm; omega), by have := hx x hm; omega⟩)
    simpa using this
  have hn : fIdx (fun x => decide (g.name = x)) (leftL names set) = -1 := fIdx_none _ _ fun x hm => decide_eq_false fun e => G.dj g hg (left_mem h0 _ (e ▸ hm))
  have huniq : ∀ x ∈ gs.flatMap (keepG set), x.name = g.name → x.mem = idxTo set g.mem set.length ∧ idxTo set g.mem set.length ≠ [] := by
    intro x hm e
    obtain ⟨g', hg', hxg⟩ := List.mem_flatMap.1 hm
    obtain ⟨e1, e2, e3⟩ := keepG_mem hxg
    obtain ⟨i, hi, rfl⟩ := List.getElem_of_mem hg
    obtain ⟨j, hj, rfl⟩ := List.getElem_of_mem hg'
    have a1 : (gs.map (·.name))[i]? = some (gs[i].name) := by rw [List.getElem?_map, List.getElem?_eq_getElem hi]; rfl
    have a2 : (gs.map (·.name))[j]? = some (gs[i].name) := by rw [List.getElem?_map, List.getElem?_eq_getElem hj, ← e, e1]; rfl
    have hij := nodup_idx G.gd a1 a2
    subst hij
    exact ⟨e2, e3⟩
  have hexp : expGo (leftL names set) (gs.flatMap (keepG set)) [] [g.name] 0 = if fIdx (fun x : Grp => decide (x.name = g.name)) (gs.flatMap (keepG set)) < 0 then (6, 0) else (0, 0 ||| maskN (memAt (gs.flatMap (keepG set)) (fIdx (fun x : Grp => decide (x.name = g.name)) (gs.flatMap (keepG set))))) := by
    simp only [expGo, hn]
    by_cases hf : fIdx (fun x : Grp => decide (x.name = g.name)) (gs.flatMap (keepG set)) < 0
    · rw [if_pos ⟨by omega, hf⟩, if_pos hf]
    · rw [if_neg (by omega), if_neg (by simp), if_neg (by omega), if_neg hf]
  constructor
  · intro he
    have hf : fIdx (fun x : Grp => decide (x.name = g.name)) (gs.flatMap (keepG set)) = -1 := fIdx_none _ _ fun x hm => decide_eq_false fun e => (huniq x hm e).2 he
    unfold expandI
    rw [if_neg (by omega), hexp, hf, if_pos (by omega)]
  · intro hne
    have hkm : (⟨g.name, idxTo set g.mem set.length⟩ : Grp) ∈ gs.flatMap (keepG set) := List.mem_flatMap.2 ⟨g, hg, by unfold keepG; rw [if_neg hne]; simp⟩
    rcases fIdx_cases (fun x : Grp => decide (x.name = g.name)) (gs.flatMap (keepG set)) with h | ⟨k, x, h, hkx, _, hpx⟩
    · exfalso
      have := fIdx_pos (fun x : Grp => decide (x.name = g.name)) (gs.flatMap (keepG set))
      rw [h, List.any_eq_true.2 ⟨_, hkm, by simp⟩] at this
      simp at this
    · have hxm := (huniq x (List.mem_of_getElem? hkx) (by simpa using hpx)).1
      have hma : memAt (gs.flatMap (keepG set)) (k : Int) = idxTo set g.mem set.length := by unfold memAt; rw [Int.toNat_natCast, hkx]; exact hxm
      rw [h, if_neg (by omega), hma, Nat.zero_or] at hexp
      have hI : expandI (leftL names set) (gs.flatMap (keepG set)) [g.name] = 0 := by unfold expandI; rw [if_neg (by omega), hexp]
      refine ⟨hI, ?_⟩
      unfold expandL
      rw [if_pos hI, hexp]
      exact bits_of_mask (idxTo_sorted _ _ _) fun y hy => by have := idxTo_lt _ _ _ y hy; omega
end
end Go.Proofs.Ytigaflmhdbgmdaa
