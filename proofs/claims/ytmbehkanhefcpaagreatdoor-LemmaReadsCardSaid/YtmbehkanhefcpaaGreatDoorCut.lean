/-
  Cutting a list of bytes at a byte, and joining it again: plain laws.
-/
import Derived.Lib.SplitLaws
import Derived.Lib.Join
import Derived.Test.YtmbehkanhefcpaaGreatDoorLib
import Derived.Test.YtmbehkanhefcpaaGreatDoorPl
namespace Go.Proofs.YtmbehkanhefcpaaGreatDoor

def cutL (c : UInt8) : List UInt8 → List (List UInt8)
  | [] => [[]]
  | b :: l => if b = c then [] :: cutL c l else match cutL c l with
    | [] => [[b]]
    | h :: t => (b :: h) :: t

theorem cutL_ne (c : UInt8) : ∀ l, cutL c l ≠ []
  | [] => by simp [cutL]
  | b :: l => by
    unfold cutL
    split
    · simp
    · split <;> simp
theorem cutL_none {c : UInt8} : ∀ {l : List UInt8}, c ∉ l → cutL c l = [l]
  | [], _ => rfl
  | b :: l, h => by
    have h1 : b ≠ c := fun e => h (by simp [e])
    have h2 := cutL_none (l := l) (c := c) fun e => h (by simp [e])
    rw [cutL, if_neg h1, h2]
theorem cutL_app {c : UInt8} (r : List UInt8) : ∀ {a : List UInt8}, c ∉ a → cutL c (a ++ c :: r) = a :: cutL c r
  | [], _ => by simp [cutL]
  | b :: a, h => by
    have h1 : b ≠ c := fun e => h (by simp [e])
    have h2 := cutL_app r (a := a) (c := c) fun e => h (by simp [e])
    rw [List.cons_append, cutL, if_neg h1, h2]
theorem cutL_no (c : UInt8) : ∀ (l : List UInt8), ∀ x ∈ cutL c l, c ∉ x
  | [], x, h => by simp [cutL] at h; simp [h]
  | b :: l, x, h => by
    have ih := cutL_no c l
    unfold cutL at h
    split at h
    · rcases List.mem_cons.1 h with rfl | h
      · simp
      · exact ih x h
    · rename_i hb
      split at h
      · rcases List.mem_cons.1 h with rfl | h
        · simpa using fun e : c = b => hb e.symm
        · cases h
      · rename_i y t e
        rcases List.mem_cons.1 h with rfl | h
        · have := ih y (by rw [e]; simp)
          simp only [List.mem_cons, not_or]
          exact ⟨fun e => hb e.symm, this⟩
        · exact ih x (by rw [e]; simp [h])
theorem cutL_len (c : UInt8) : ∀ l : List UInt8, (cutL c l).length ≤ l.length + 1
  | [] => by simp [cutL]
  | b :: l => by
    have ih := cutL_len c l
    unfold cutL
    split
    · simpa using ih
    · split
      · simp
      · rename_i e; rw [e] at ih; simp at ih ⊢; omega
theorem cutL_size (c : UInt8) : ∀ l : List UInt8, ∀ x ∈ cutL c l, x.length ≤ l.length
  | [], x, h => by simp [cutL] at h; simp [h]
  | b :: l, x, h => by
    have ih := cutL_size c l
    unfold cutL at h
    split at h
    · rcases List.mem_cons.1 h with rfl | h
      · simp
      · have := ih x h; simp; omega
    · split at h
      · rcases List.mem_cons.1 h with rfl | h
        · simp
        · cases h
      · rename_i y t e
        rcases List.mem_cons.1 h with rfl | h
        · have := ih y (by rw [e]; simp)
          simpa using this
        · have := ih x (by rw [e]; simp [h]); simp; omega
theorem join_cut (c : UInt8) : ∀ l : List UInt8, Lib.join (cutL c l) [c] = l
  | [] => by simp [cutL, Lib.join_one]
  | b :: l => by
    have ih := join_cut c l
    unfold cutL
    split
    · rename_i e
      cases h : cutL c l with
      | nil => exact absurd h (cutL_ne c l)
      | cons y t =>
        rw [h, Lib.join_cons] at ih
        rw [Lib.join_cons, Lib.joinTail, List.map_cons, List.flatten_cons]
        rw [Lib.joinTail] at ih
        subst e
        rw [List.nil_append, List.append_assoc, ih]; rfl
    · cases h : cutL c l with
      | nil => exact absurd h (cutL_ne c l)
      | cons y t =>
        rw [h, Lib.join_cons] at ih
        simp [Lib.join_cons, ih]
theorem cut_join {c : UInt8} : ∀ {x : List UInt8} {r : List (List UInt8)}, (∀ y ∈ x :: r, c ∉ y) → cutL c (Lib.join (x :: r) [c]) = x :: r
  | x, [], h => by rw [Lib.join_one]; exact cutL_none (h x (by simp))
  | x, y :: r, h => by
    have ih := cut_join (x := y) (r := r) (c := c) fun z hz => h z (by simp [hz])
    rw [Lib.join_cons, Lib.joinTail, List.map_cons, List.flatten_cons]
    rw [Lib.join_cons, Lib.joinTail] at ih
    rw [List.singleton_append, List.cons_append, cutL_app _ (h x (by simp)), ih]

theorem index_miss {c : UInt8} : ∀ {l : List UInt8}, Lib.index l [c] = -1 → c ∉ l
  | [], _ => by simp
  | b :: l, h => by
    unfold Lib.index at h
    split at h
    · cases h
    · rename_i hp
      have h1 : c ≠ b := fun e => hp (by simp [e])
      split at h
      · rename_i h2
        have := index_miss (by simpa using h2)
        simp [h1, this]
      · have := Lib.index_ge l [c]; omega
theorem index_at {c : UInt8} : ∀ {l : List UInt8} {i : Nat}, Lib.index l [c] = i → ∃ a r, l = a ++ c :: r ∧ a.length = i ∧ c ∉ a
  | [], i, h => by simp [Lib.index] at h
  | b :: l, i, h => by
    unfold Lib.index at h
    split at h
    · rename_i hp
      have : c = b := by simpa using hp
      exact ⟨[], l, by simp [this], by simp; omega, by simp⟩
    · rename_i hp
      have h1 : c ≠ b := fun e => hp (by simp [e])
      split at h
      · omega
      · rename_i h2
        have hge := Lib.index_ge l [c]
        have h3 : Lib.index l [c] ≠ -1 := fun e => h2 (by simp [e])
        obtain ⟨a, r, e, hl, hn⟩ := index_at (l := l) (i := i - 1) (c := c) (by omega)
        exact ⟨b :: a, r, by simp [e], by simp; omega, by simp [h1, hn]⟩
theorem split_cut (c : UInt8) : ∀ (n : Nat) (l : List UInt8), l.length ≤ n → Lib.splitK [c] 0 (Lib.count l [c]) l = cutL c l := by
  intro n
  induction n with
  | zero =>
    intro l h
    obtain rfl : l = [] := List.length_eq_zero_iff.1 (by omega)
    rw [Lib.count_miss (by rfl)]; rfl
  | succ n ih =>
    intro l h
    by_cases hm : Lib.index l [c] = -1
    · rw [Lib.count_miss hm, cutL_none (index_miss hm)]; rfl
    · have hge := Lib.index_ge l [c]
      have hi : Lib.index l [c] = ((Lib.index l [c]).toNat : Int) := by omega
      generalize (Lib.index l [c]).toNat = i at hi
      obtain ⟨a, r, rfl, hl, hn⟩ := index_at hi
      have h2 := ih r (by simp at h; omega)
      rw [Lib.count_hit (by simp) hi, cutL_app r hn, ← h2]
      have hd : (a ++ c :: r).drop (i + [c].length) = r := by
        rw [List.drop_append, List.drop_of_length_le (by simp; omega)]
        simp [show i + 1 - a.length = 1 by omega]
      have ht : (a ++ c :: r).take i = a := by rw [← hl]; simp
      rw [hd, show 1 + Lib.count r [c] = Lib.count r [c] + 1 by omega, Lib.splitK, if_neg (by rw [beq_iff_eq]; exact hm), hi]
      simp only [Int.toNat_natCast, Nat.add_zero]
      rw [ht, hd]

/-- The pieces of a string between spaces. -/
def splitS (s : ByteArray) : List ByteArray := Lib.splitB ⟨#[32]⟩ 0 (Lib.countB s ⟨#[32]⟩) s
theorem splitS_data (s : ByteArray) : (splitS s).map (·.data.toList) = cutL 32 s.data.toList := by
  unfold splitS
  rw [Lib.splitB_data]
  exact split_cut 32 _ _ (Nat.le_refl _)
theorem splitS_len (s : ByteArray) : (splitS s).length ≤ s.size + 1 := by
  have h := congrArg List.length (splitS_data s)
  rw [List.length_map] at h
  rw [h]
  exact cutL_len 32 _
theorem splitS_size (s : ByteArray) : ∀ x ∈ splitS s, x.size ≤ s.size := by
  intro x hx
  exact cutL_size 32 s.data.toList x.data.toList (by rw [← splitS_data]; exact List.mem_map_of_mem hx)
theorem splitS_count (s : ByteArray) : (splitS s).length = Lib.countB s ⟨#[32]⟩ + 1 := Lib.splitB_all ⟨#[32]⟩ (by decide) 0 _ s rfl

def joinB (l : List ByteArray) : ByteArray := ⟨(Lib.join (l.map (·.data.toList)) [32]).toArray⟩
def holeB (l : List ByteArray) : Bool := l.any fun x => decide ((⟨#[]⟩ : ByteArray) = x)
theorem splitS_szs (s : ByteArray) (h : s.size ≤ maxLen) : Szs (splitS s) := fun x hx => Nat.le_trans (splitS_size s x hx) h
theorem splitS_join (s : ByteArray) : Lib.join ((splitS s).map (·.data.toList)) [32] = s.data.toList := by rw [splitS_data]; exact join_cut 32 _
theorem joinB_split (s : ByteArray) : joinB (splitS s) = s := by
  unfold joinB
  rw [splitS_join]

theorem mt_ne {s : ByteArray} (h : ¬ s.size = 0) : s.toList.isEmpty = false := by
  rw [List.isEmpty_eq_false_iff]
  intro e; apply h
  rw [ByteArray.toList_eq] at e
  show s.data.size = 0
  rw [← Array.length_toList, e]; rfl
theorem ba_ext {a b : ByteArray} (h : a.data.toList = b.data.toList) : a = b := by
  cases a; cases b; simp only [ByteArray.mk.injEq]; exact Array.toList_inj.1 h
theorem map_data_inj {l m : List ByteArray} (h : l.map (·.data.toList) = m.map (·.data.toList)) : l = m := (List.map_inj_right fun _ _ e => ba_ext e).1 h
theorem hole_no {l : List ByteArray} (h : ∀ x ∈ l, x.size ≠ 0) : holeB l = false := by
  unfold holeB
  rw [List.any_eq_false]
  intro x hx e
  exact h x hx (by rw [← of_decide_eq_true e]; rfl)
theorem mt_app (x : ByteArray) : (⟨#[]⟩ : ByteArray) ++ x = x := by
  apply ba_ext; rw [ByteArray.data_append]; simp
/-- What a loop that joins has written before step k. -/
def joinTo (l : List ByteArray) (k : Nat) : ByteArray := joinB (l.take k)
theorem joinTo_one (l : List ByteArray) (x : ByteArray) (h : l[0]? = some x) : joinTo l 1 = x := by
  unfold joinTo joinB
  rw [List.take_add_one, h]
  simp [Lib.join_one]
theorem joinTo_succ (l : List ByteArray) (k : Nat) (x : ByteArray) (h : l[k + 1]? = some x) : joinTo l (k + 2) = (joinTo l (k + 1) ++ ⟨#[32]⟩) ++ x := by
  apply ba_ext
  cases l with
  | nil => cases h
  | cons y r =>
    unfold joinTo joinB
    rw [ByteArray.data_append, ByteArray.data_append, Array.toList_append, Array.toList_append]
    simp only [List.take_succ_cons, List.map_cons, Lib.join_cons]
    rw [List.getElem?_cons_succ] at h
    rw [List.map_take, List.map_take, Lib.joinTail_take_succ [32] (r.map (·.data.toList)) k x.data.toList (by simp [h])]
    simp [List.append_assoc]
/-- The state of the reference's Parse: the pieces ks are cut, the next one begins at f. -/
def CutAt (d : List UInt8) (ks : List ByteArray) (f i : Nat) : Prop :=
  (∀ x ∈ ks, x.size ≠ 0) ∧ ((i ≤ d.length ∧ f ≤ i ∧ cutL 32 d = ks.map (·.data.toList) ++ cutL 32 (d.drop f) ∧ (32 : UInt8) ∉ (d.drop f).take (i - f)) ∨ (i = d.length + 1 ∧ cutL 32 d = ks.map (·.data.toList)))
theorem CutAt.start (d : List UInt8) : CutAt d [] 0 0 := ⟨fun x h => (by cases h), .inl ⟨Nat.zero_le _, Nat.le_refl _, by simp, by simp⟩⟩
theorem CutAt.skip {d : List UInt8} {ks : List ByteArray} {f i : Nat} (h : CutAt d ks f i) (hi : i < d.length) (c : UInt8) (hc : d[i]? = some c) (hn : c ≠ 32) : CutAt d ks f (i + 1) := by
  obtain ⟨h1, h2⟩ := h
  refine ⟨h1, ?_⟩
  rcases h2 with ⟨_, hf, he, hm⟩ | ⟨e, _⟩
  · refine .inl ⟨by omega, by omega, he, ?_⟩
    rw [show i + 1 - f = (i - f) + 1 by omega, List.take_add_one, List.getElem?_drop, show f + (i - f) = i by omega, hc]
    simp only [Option.toList_some, List.mem_append, List.mem_singleton, not_or]
    exact ⟨hm, fun e => hn e.symm⟩
  · omega
theorem take_drop_piece (s : ByteArray) (f i : Nat) : (s.extract f i).data.toList = (s.data.toList.drop f).take (i - f) := by
  rw [ByteArray.data_extract, Array.toList_extract, List.extract_eq_take_drop]
theorem CutAt.split {s : ByteArray} {ks : List ByteArray} {f i : Nat} (h : CutAt s.data.toList ks f i) (hi : i < s.size) (hc : s.data.toList[i]? = some 32) (hne : i ≠ f) : CutAt s.data.toList (ks ++ [s.extract f i]) (i + 1) (i + 1) := by
  obtain ⟨h1, h2⟩ := h
  have hl : s.data.toList.length = s.size := rfl
  rcases h2 with ⟨_, hf, he, hm⟩ | ⟨e, _⟩
  · refine ⟨fun x hx => ?_, .inl ⟨by omega, Nat.le_refl _, ?_, by simp⟩⟩
    · rcases List.mem_append.1 hx with h | h
      · exact h1 x h
      · rw [List.mem_singleton] at h
        subst h
        rw [ByteArray.size_extract]; omega
    · rw [he, List.map_append, List.append_assoc]
      congr 1
      have e1 : s.data.toList.drop f = (s.data.toList.drop f).take (i - f) ++ 32 :: s.data.toList.drop (i + 1) := by
        have h3 := List.take_append_drop (i - f) (s.data.toList.drop f)
        rw [List.drop_drop, show f + (i - f) = i by omega] at h3
        have h4 : s.data.toList.drop i = 32 :: s.data.toList.drop (i + 1) := by
          obtain ⟨hlt, hx⟩ := List.getElem?_eq_some_iff.1 hc
          rw [List.drop_eq_getElem_cons hlt, hx]
        rw [h4] at h3
        exact h3.symm
      rw [e1, cutL_app _ hm, List.map_cons, List.map_nil, take_drop_piece]
      rfl
  · omega
theorem CutAt.last {s : ByteArray} {ks : List ByteArray} {f : Nat} (h : CutAt s.data.toList ks f s.size) (hne : s.size ≠ f) : CutAt s.data.toList (ks ++ [s.extract f s.size]) (s.size + 1) (s.size + 1) := by
  obtain ⟨h1, h2⟩ := h
  have hl : s.data.toList.length = s.size := rfl
  rcases h2 with ⟨_, hf, he, hm⟩ | ⟨e, _⟩
  · refine ⟨fun x hx => ?_, .inr ⟨by omega, ?_⟩⟩
    · rcases List.mem_append.1 hx with h | h
      · exact h1 x h
      · rw [List.mem_singleton] at h
        subst h
        rw [ByteArray.size_extract]; omega
    · rw [List.take_of_length_le (by rw [List.length_drop]; omega)] at hm
      rw [he, List.map_append, cutL_none hm, List.map_cons, List.map_nil, take_drop_piece, List.take_of_length_le (by rw [List.length_drop]; omega)]
  · omega
/-- An empty piece. -/
theorem CutAt.hole {s : ByteArray} {ks : List ByteArray} {i : Nat} (h : CutAt s.data.toList ks i i) (hc : i < s.size → s.data.toList[i]? = some 32) (hi : i ≤ s.size) : holeB (splitS s) = true := by
  obtain ⟨_, h2⟩ := h
  have hl : s.data.toList.length = s.size := rfl
  rcases h2 with ⟨_, hf, he, _⟩ | ⟨e, _⟩
  · have hm : [] ∈ cutL 32 s.data.toList := by
      rw [he]
      apply List.mem_append_right
      by_cases hlt : i < s.size
      · obtain ⟨hlt', hx⟩ := List.getElem?_eq_some_iff.1 (hc hlt)
        rw [List.drop_eq_getElem_cons hlt', hx]
        simp [cutL]
      · rw [List.drop_of_length_le (by omega)]; simp [cutL]
    rw [← splitS_data] at hm
    obtain ⟨x, hx, e⟩ := List.mem_map.1 hm
    exact List.any_eq_true.2 ⟨x, hx, decide_eq_true (ba_ext (by rw [e]))⟩
  · omega
theorem CutAt.done {s : ByteArray} {ks : List ByteArray} {f : Nat} (h : CutAt s.data.toList ks f (s.size + 1)) : splitS s = ks ∧ holeB (splitS s) = false := by
  obtain ⟨h1, h2⟩ := h
  have hl : s.data.toList.length = s.size := rfl
  rcases h2 with ⟨h, _⟩ | ⟨_, he⟩
  · omega
  · have e : splitS s = ks := map_data_inj (by rw [splitS_data, he])
    exact ⟨e, by rw [e]; exact hole_no h1⟩
theorem CutAt.bound {d : List UInt8} {ks : List ByteArray} {f i : Nat} (h : CutAt d ks f i) : ks.length ≤ d.length + 1 := by
  have hl := cutL_len 32 d
  obtain ⟨_, h2⟩ := h
  rcases h2 with ⟨_, _, he, _⟩ | ⟨_, he⟩ <;> (rw [he] at hl; simp at hl; omega)

theorem getL (s : ByteArray) (k : Nat) (h : k < s.size) : s.data.toList[k]? = some s[k] := by
  rw [List.getElem?_eq_getElem (show k < s.data.toList.length from h)]; rfl
theorem byte_ne {c : UInt8} (h : ¬ c = 32) : ((c.toNat : Int) == 32) = false := by
  rw [beq_eq_false_iff_ne]
  intro e; apply h; apply UInt8.toNat_inj.1
  have : c.toNat = 32 := by omega
  rw [this]; rfl
end Go.Proofs.YtmbehkanhefcpaaGreatDoor
