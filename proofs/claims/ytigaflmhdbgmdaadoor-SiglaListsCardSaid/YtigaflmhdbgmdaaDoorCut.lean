/-
  Cutting a list of bytes at a byte, and joining it again: plain laws.
-/
import Derived.Lib.SplitLaws
import Derived.Lib.Join
import Derived.Test.YtigaflmhdbgmdaaDoorLib
namespace Go.Proofs.YtigaflmhdbgmdaaDoor

def cutL (c : UInt8) : List UInt8 → List (List UInt8)
  | [] => [[]]
  | b :: l => if b = c then [] :: cutL c l else match cutL c l with
    | [] => [[b]]
    | h :: t => (b :: h) :: t

theorem cutL_ne (c : UInt8) : ∀ l, cutL c l ≠ []
  | [] => by simp [cutL]
  | b :: l => by
    unfold cutL
    split
    · simp
    · split <;> simp
theorem cutL_none {c : UInt8} : ∀ {l : List UInt8}, c ∉ l → cutL c l = [l]
  | [], _ => rfl
  | b :: l, h => by
    have h1 : b ≠ c := fun e => h (by simp [e])
    have h2 := cutL_none (l := l) (c := c) fun e => h (by simp [e])
    rw [cutL, if_neg h1, h2]
theorem cutL_app {c : UInt8} (r : List UInt8) : ∀ {a : List UInt8}, c ∉ a → cutL c (a ++ c :: r) = a :: cutL c r
  | [], _ => by simp [cutL]
  | b :: a, h => by
    have h1 : b ≠ c := fun e => h (by simp [e])
    have h2 := cutL_app r (a := a) (c := c) fun e => h (by simp [e])
    rw [List.cons_append, cutL, if_neg h1, h2]
theorem cutL_no (c : UInt8) : ∀ (l : List UInt8), ∀ x ∈ cutL c l, c ∉ x
  | [], x, h => by simp [cutL] at h; simp [h]
  | b :: l, x, h => by
    have ih := cutL_no c l
    unfold cutL at h
    split at h
    · rcases List.mem_cons.1 h with rfl | h
      · simp
      · exact ih x h
    · rename_i hb
      split at h
      · rcases List.mem_cons.1 h with rfl | h
        · simpa using fun e : c = b => hb e.symm
        · cases h
      · rename_i y t e
        rcases List.mem_cons.1 h with rfl | h
        · have := ih y (by rw [e]; simp)
          simp only [List.mem_cons, not_or]
          exact ⟨fun e => hb e.symm, this⟩
        · exact ih x (by rw [e]; simp [h])
theorem cutL_len (c : UInt8) : ∀ l : List UInt8, (cutL c l).length ≤ l.length + 1
  | [] => by simp [cutL]
  | b :: l => by
    have ih := cutL_len c l
    unfold cutL
    split
    · simpa using ih
    · split
      · simp
      · rename_i e; rw [e] at ih; simp at ih ⊢; omega
theorem cutL_size (c : UInt8) : ∀ l : List UInt8, ∀ x ∈ cutL c l, x.length ≤ l.length
  | [], x, h => by simp [cutL] at h; simp [h]
  | b :: l, x, h => by
    have ih := cutL_size c l
    unfold cutL at h
    split at h
    · rcases List.mem_cons.1 h with rfl | h
      · simp
      · have := ih x h; simp; omega
    · split at h
      · rcases List.mem_cons.1 h with rfl | h
        · simp
        · cases h
      · rename_i y t e
        rcases List.mem_cons.1 h with rfl | h
        · have := ih y (by rw [e]; simp)
          simpa using this
        · have := ih x (by rw [e]; simp [h]); simp; omega
theorem join_cut (c : UInt8) : ∀ l : List UInt8, Lib.join (cutL c l) [c] = l
  | [] => by simp [cutL, Lib.join_one]
  | b :: l => by
    have ih := join_cut c l
    unfold cutL
    split
    · rename_i e
      cases h : cutL c l with
      | nil => exact absurd h (cutL_ne c l)
      | cons y t =>
        rw [h, Lib.join_cons] at ih
        rw [Lib.join_cons, Lib.joinTail, List.map_cons, List.flatten_cons]
        rw [Lib.joinTail] at ih
        subst e
        rw [List.nil_append, List.append_assoc, ih]; rfl
    · cases h : cutL c l with
      | nil => exact absurd h (cutL_ne c l)
      | cons y t =>
        rw [h, Lib.join_cons] at ih
        simp [Lib.join_cons, ih]
theorem cut_join {c : UInt8} : ∀ {x : List UInt8} {r : List (List UInt8)}, (∀ y ∈ x :: r, c ∉ y) → cutL c (Lib.join (x :: r) [c]) = x :: r
  | x, [], h => by rw [Lib.join_one]; exact cutL_none (h x (by simp))
  | x, y :: r, h => by
    have ih := cut_join (x := y) (r := r) (c := c) fun z hz => h z (by simp [hz])
    rw [Lib.join_cons, Lib.joinTail, List.map_cons, List.flatten_cons]
    rw [Lib.join_cons, Lib.joinTail] at ih
    rw [List.singleton_append, List.cons_append, cutL_app _ (h x (by simp)), ih]

theorem index_miss {c : UInt8} : ∀ {l : List UInt8}, Lib.index l [c] = -1 → c ∉ l
  | [], _ => by simp
  | b :: l, h => by
    unfold Lib.index at h
    split at h
    · cases h
    · rename_i hp
      have h1 : c ≠ b := fun e => hp (by simp [e])
      split at h
      · rename_i h2
        have := index_miss (by simpa using h2)
        simp [h1, this]
      · have := Lib.index_ge l [c]; omega
theorem index_at {c : UInt8} : ∀ {l : List UInt8} {i : Nat}, Lib.index l [c] = i → ∃ a r, l = a ++ c :: r ∧ a.length = i ∧ c ∉ a
  | [], i, h => by simp [Lib.index] at h
  | b :: l, i, h => by
    unfold Lib.index at h
    split at h
    · rename_i hp
      have : c = b := by simpa using hp
      exact ⟨[], l, by simp [this], by simp; omega, by simp⟩
    · rename_i hp
      have h1 : c ≠ b := fun e => hp (by simp [e])
      split at h
      · omega
      · rename_i h2
        have hge := Lib.index_ge l [c]
        have h3 : Lib.index l [c] ≠ -1 := fun e => h2 (by simp [e])
        obtain ⟨a, r, e, hl, hn⟩ := index_at (l := l) (i := i - 1) (c := c) (by omega)
        exact ⟨b :: a, r, by simp [e], by simp; omega, by simp [h1, hn]⟩
theorem split_cut (c : UInt8) : ∀ (n : Nat) (l : List UInt8), l.length ≤ n → Lib.splitK [c] 0 (Lib.count l [c]) l = cutL c l := by
  intro n
  induction n with
  | zero =>
    intro l h
    obtain rfl : l = [] := List.length_eq_zero_iff.1 (by omega)
    rw [Lib.count_miss (by rfl)]; rfl
  | succ n ih =>
    intro l h
    by_cases hm : Lib.index l [c] = -1
    · rw [Lib.count_miss hm, cutL_none (index_miss hm)]; rfl
    · have hge := Lib.index_ge l [c]
      have hi : Lib.index l [c] = ((Lib.index l [c]).toNat : Int) := by omega
      generalize (Lib.index l [c]).toNat = i at hi
      obtain ⟨a, r, rfl, hl, hn⟩ := index_at hi
      have h2 := ih r (by simp at h; omega)
      rw [Lib.count_hit (by simp) hi, cutL_app r hn, ← h2]
      have hd : (a ++ c :: r).drop (i + [c].length) = r := by
        rw [List.drop_append, List.drop_of_length_le (by simp; omega)]
        simp [show i + 1 - a.length = 1 by omega]
      have ht : (a ++ c :: r).take i = a := by rw [← hl]; simp
      rw [hd, show 1 + Lib.count r [c] = Lib.count r [c] + 1 by omega, Lib.splitK, if_neg (by rw [beq_iff_eq]; exact hm), hi]
      simp only [Int.toNat_natCast, Nat.add_zero]
      rw [ht, hd]

/-- The pieces of a string between spaces. -/
def splitS (s : ByteArray) : List ByteArray := Lib.splitB ⟨#[32]⟩ 0 (Lib.countB s ⟨#[32]⟩) s
theorem splitS_data (s : ByteArray) : (splitS s).map (·.data.toList) = cutL 32 s.data.toList := by
  unfold splitS
  rw [Lib.splitB_data]
  exact split_cut 32 _ _ (Nat.le_refl _)
theorem splitS_len (s : ByteArray) : (splitS s).length ≤ s.size + 1 := by
  have h := congrArg List.length (splitS_data s)
  rw [List.length_map] at h
  rw [h]
  exact cutL_len 32 _
theorem splitS_size (s : ByteArray) : ∀ x ∈ splitS s, x.size ≤ s.size := by
  intro x hx
  exact cutL_size 32 s.data.toList x.data.toList (by rw [← splitS_data]; exact List.mem_map_of_mem hx)
theorem splitS_count (s : ByteArray) : (splitS s).length = Lib.countB s ⟨#[32]⟩ + 1 := Lib.splitB_all ⟨#[32]⟩ (by decide) 0 _ s rfl
end Go.Proofs.YtigaflmhdbgmdaaDoor
