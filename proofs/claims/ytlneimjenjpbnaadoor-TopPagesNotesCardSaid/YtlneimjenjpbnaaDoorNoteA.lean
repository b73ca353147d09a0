/-
  notes.check, notes.Text, and the reference's Text.
-/
import Derived.Test.YtlneimjenjpbnaaDoorSearch
import Derived.Test.YtlneimjenjpbnaaDoorJ02
import Derived.Test.YtlneimjenjpbnaaDoorJ01
namespace Go.Proofs.YtlneimjenjpbnaaDoor
open Go.RowKit Go.Shelf

def adj (c : UInt8) : List UInt8 → Bool
  | a :: b :: r => (decide (a = c) && decide (b = c)) || adj c (b :: r)
  | _ => false
theorem cut_tail (c : UInt8) : ∀ l, [] ∈ (cutL c l).tail ↔ (l.getLast? = some c ∨ adj c l = true)
  | [] => by simp [cutL, adj]
  | [b] => by
    by_cases h : b = c
    · subst h; simp [cutL, adj]
    · simp [cutL, adj, h]
  | b :: d :: r => by
    have ih := cut_tail c (d :: r)
    rw [List.getLast?_cons_cons]
    by_cases h : b = c
    · subst h
      rw [cutL, if_pos rfl, List.tail_cons]
      by_cases h2 : d = b
      · subst h2
        rw [cutL, if_pos rfl]; simp [adj]
      · have e : ([] ∈ cutL b (d :: r)) ↔ [] ∈ (cutL b (d :: r)).tail := by
          rw [cutL, if_neg h2]
          split <;> simp
        rw [e, ih]; simp [adj, h2]
    · have e : (cutL c (b :: d :: r)).tail = (cutL c (d :: r)).tail := by
        rw [cutL, if_neg h]
        split
        · rename_i h0; exact absurd h0 (cutL_ne c _)
        · rename_i h0; rw [h0]; rfl
      rw [e, ih]; simp [adj, h]
theorem cut_nil (c : UInt8) (b : UInt8) (r : List UInt8) : [] ∈ cutL c (b :: r) ↔ (b = c ∨ (b :: r).getLast? = some c ∨ adj c (b :: r) = true) := by
  rw [← cut_tail]
  by_cases h : b = c
  · subst h; simp [cutL]
  · rw [cutL, if_neg h]
    split <;> simp [h]
theorem index_two (c : UInt8) : ∀ l : List UInt8, (0 ≤ Lib.index l [c, c]) ↔ adj c l = true
  | [] => by simp [Lib.index, adj]
  | [b] => by
    have h : Lib.index [b] [c, c] = -1 := by simp [Lib.index]
    rw [h]; simp [adj]
  | b :: d :: r => by
    have ih := index_two c (d :: r)
    have hge := Lib.index_ge (d :: r) [c, c]
    rw [Lib.index]
    by_cases hp : [c, c].isPrefixOf (b :: d :: r) = true
    · rw [if_pos hp]
      have : c = b ∧ c = d := by simpa using hp
      simp [adj, this.1.symm, this.2.symm]
    · rw [if_neg hp]
      have hn : ¬ (b = c ∧ d = c) := fun ⟨h1, h2⟩ => hp (by simp [h1, h2])
      have e : adj c (b :: d :: r) = adj c (d :: r) := by
        rw [adj]
        by_cases h1 : b = c
        · have h2 : ¬ d = c := fun h2 => hn ⟨h1, h2⟩
          simp [h2]
        · simp [h1]
      rw [e, ← ih]
      split
      · rename_i h; have : Lib.index (d :: r) [c, c] = -1 := by simpa using h
        omega
      · rename_i h; have : Lib.index (d :: r) [c, c] ≠ -1 := by simpa using h
        omega
theorem contains_two (l : List UInt8) : Lib.contains l [32, 32] = adj 32 l := by
  unfold Lib.contains
  rw [Bool.eq_iff_iff, decide_eq_true_eq]
  exact index_two 32 l
theorem holeB_iff (s : ByteArray) : holeB (splitS s) = true ↔ [] ∈ cutL 32 s.data.toList := by
  rw [← splitS_data, holeB, List.any_eq_true]
  constructor
  · rintro ⟨x, hx, e⟩
    exact List.mem_map.2 ⟨x, hx, by rw [← of_decide_eq_true e]⟩
  · intro h
    obtain ⟨x, hx, e⟩ := List.mem_map.1 h
    exact ⟨x, hx, decide_eq_true (ba_ext (by rw [e]))⟩
theorem hole_parts (s : ByteArray) (h : 0 < s.size) : holeB (splitS s) = (decide (s[0] = 32) || (decide (s[s.size - 1] = 32) || Lib.contains s.data.toList [32, 32])) := by
  rw [Bool.eq_iff_iff, holeB_iff, contains_two]
  have e0 := getL s 0 h
  have e1 := getL s (s.size - 1) (by omega)
  have el : s.data.toList.getLast? = some s[s.size - 1] := by rw [List.getLast?_eq_getElem?]; exact e1
  cases hd : s.data.toList with
  | nil => rw [hd] at e0; cases e0
  | cons b r =>
    rw [hd] at e0 el
    have eb : b = s[0] := by simpa using e0
    rw [cut_nil, el, eb]
    simp

def badC (c : UInt8) : Bool := decide (c.toNat < 32) || decide (126 < c.toNat)
def noteI (s : ByteArray) : Int := if 65536 < s.size then 4 else if s.size = 0 then 5 else if s.data.toList.any badC = true then 11 else if holeB (splitS s) = true then 3 else 0
def noteL (s : ByteArray) : List ByteArray := if noteI s = 0 then splitS s else []

theorem contains2_any (s : ByteArray) (m : Int) (w : World) (hs : s.size < 4294967281) (hm : w.cell? ⟨0, 0, none⟩ = some (.int .i64 m)) :
    Calls Tryd.prog 51 #[.string s, .string ⟨#[32, 32]⟩] w fun e w' => e = .returned (.bool (Lib.contains s.data.toList [32, 32])) ∧ w = w' := by
  refine (Go.Proofs.Any.strings_Contains { Tryd.laysM144 with } s ⟨#[32, 32]⟩ m w hs hm).mono ?_
  rintro e w' ⟨rfl, rfl⟩
  exact ⟨rfl, rfl⟩

theorem bad_take {d : List UInt8} {k : Nat} {c : UInt8} (h : ∀ y ∈ d.take k, badC y = false) (hc : d[k]? = some c) (hb : badC c = false) : ∀ y ∈ d.take (k + 1), badC y = false := by
  intro y hy
  rw [List.take_add_one, hc] at hy
  rcases List.mem_append.1 hy with h' | h'
  · exact h y h'
  · simp at h'; rw [h']; exact hb

set_option maxHeartbeats 2000000 in
set_option maxRecDepth 100000 in
theorem ncheck_any (s : ByteArray) (m : Int) (w : World) (hm : w.cell? ⟨0, 0, none⟩ = some (.int .i64 m)) :
    Calls Tryd.prog 42 #[.string s] w fun e w' => e = .returned (.int .i64 (noteI s)) ∧ w = w' := by
  by_cases h64 : 65536 < s.size
  · have hI : Hid (noteI s = 4) := by unfold noteI; rw [if_pos h64]; rfl
    have q1 : (65536 : Int) < (s.size : Int) := by omega
    go_enter Tryd.func42, Tryd.ntmps42
    go_wp2
    go_ret
    exact ⟨ret_int hI.out.symm, rfl⟩
  have q1 : ¬ (65536 : Int) < (s.size : Int) := by omega
  by_cases h0 : s.size = 0
  · have hI : Hid (noteI s = 5) := by unfold noteI; rw [if_neg h64, if_pos h0]; rfl
    obtain rfl : s = ⟨#[]⟩ := by
      rcases s with ⟨a⟩
      congr 1
      exact Array.eq_empty_of_size_eq_zero h0
    clear h0 h64
    go_enter Tryd.func42, Tryd.ntmps42
    go_wp2
    go_ret
    exact ⟨ret_int hI.out.symm, rfl⟩
  have h2 := mt_ne h0
  have hpos : 0 < s.size := by omega
  have HI : Hid (noteI s = if s.data.toList.any badC = true then 11 else if holeB (splitS s) = true then 3 else 0) := by unfold noteI; rw [if_neg h64, if_neg h0]; rfl
  have HC := hid (contains2_any s m w (by omega) hm)
  have HP := hid (hole_parts s hpos)
  clear h0 hm
  go_enter Tryd.func42, Tryd.ntmps42
  go_wp2
  go_loop [13] (fun i => ∃ k : Nat, k ≤ s.size ∧ i = .int .i64 k ∧ Hid (∀ y ∈ s.data.toList.take k, badC y = false)) (fun i => s.size - (intOf i).toNat)
  case atStart => exact ⟨0, by omega, rfl, by simp [Hid]⟩
  case round =>
    obtain ⟨k, hk, rfl, HK⟩ := hrel
    by_cases hlt : k < s.size
    · have HG := hid (getL s k hlt)
      by_cases h32 : s[k].toNat < 32
      · have hI : Hid (noteI s = 11) := by
          rw [HI.out, if_pos]; · rfl
          exact List.any_eq_true.2 ⟨_, List.mem_of_getElem? HG.out, by simp [badC, h32]⟩
        have q2 : (s[k].toNat : Int) < 32 := by omega
        go_wp2
        go_ret
        exact ⟨ret_int hI.out.symm, rfl⟩
      · have q2 : ¬ (s[k].toNat : Int) < 32 := by omega
        by_cases h126 : 126 < s[k].toNat
        · have hI : Hid (noteI s = 11) := by
            rw [HI.out, if_pos]; · rfl
            exact List.any_eq_true.2 ⟨_, List.mem_of_getElem? HG.out, by simp [badC, h126]⟩
          have q3 : (126 : Int) < (s[k].toNat : Int) := by omega
          go_wp2
          go_ret
          exact ⟨ret_int hI.out.symm, rfl⟩
        · have q3 : ¬ (126 : Int) < (s[k].toNat : Int) := by omega
          have HB : Hid (badC s[k] = false) := by simp [badC, Hid]; omega
          go_wp2
          go_round
          case rel => exact ⟨k + 1, by omega, by go_num, bad_take HK.out HG.out HB.out⟩
          case measure => simp [intOf]; omega
    · obtain rfl : k = s.size := by omega
      have HI2 : Hid (noteI s = if holeB (splitS s) = true then 3 else 0) := by
        rw [HI.out, if_neg]; · rfl
        rw [Bool.not_eq_true, List.any_eq_false]
        have h := HK.out
        rw [List.take_of_length_le (show s.data.toList.length ≤ s.size from Nat.le_refl _)] at h
        intro y hy; rw [h y hy]; simp
      clear HI HK
      have q5 : (0 : Int) < (s.size : Int) := by omega
      by_cases ha : s[0] = 32
      · have hI : Hid (noteI s = 3) := by rw [HI2.out, HP.out, if_pos (by simp [ha])]; rfl
        have q4 : ((s[0].toNat : Int) == 32) = true := by rw [ha]; rfl
        clear ha
        go_wp2
        go_ret
        exact ⟨ret_int hI.out.symm, rfl⟩
      · have q4 := byte_ne ha
        by_cases hb : s[s.size - 1] = 32
        · have hI : Hid (noteI s = 3) := by rw [HI2.out, HP.out, if_pos (by simp [hb])]; rfl
          have q6 : ((s[s.size - 1].toNat : Int) == 32) = true := by rw [hb]; rfl
          clear ha hb
          go_wp2
          go_ret
          exact ⟨ret_int hI.out.symm, rfl⟩
        · have q6 := byte_ne hb
          have hp := HP.out
          rw [decide_eq_false ha, decide_eq_false hb, Bool.false_or, Bool.false_or] at hp
          have HI3 := hid HI2.out
          rw [hp] at HI3
          clear ha hb hp HP HI2
          cases hc : Lib.contains s.data.toList [32, 32] with
          | true =>
            rw [hc] at HC HI3
            go_wp2_with fail
            refine HC.out.mono ?_
            rintro e w1 ⟨rfl, rfl⟩
            go_wp2
            go_ret
            exact ⟨ret_int (by rw [HI3.out]; rfl), rfl⟩
          | false =>
            rw [hc] at HC HI3
            go_wp2_with fail
            refine HC.out.mono ?_
            rintro e w1 ⟨rfl, rfl⟩
            go_wp2
            go_ret
            exact ⟨ret_int (by rw [HI3.out]; rfl), rfl⟩

set_option maxHeartbeats 1000000 in
set_option maxRecDepth 100000 in
theorem ntext_any (s : ByteArray) (m : Int) (w : World) (hm : w.cell? ⟨0, 0, none⟩ = some (.int .i64 m)) :
    Calls Tryd.prog 34 #[.string s] w fun e w' => ∃ v, e = .returned (.tuple #[v, .int .i64 (noteI s)]) ∧ RdS w' v (noteL s) ∧ Below w.heap.size w w' := by
  have HC := hid (ncheck_any s m w hm)
  by_cases h0 : noteI s = 0
  · have HL : Hid (noteL s = splitS s) := by unfold noteL; rw [if_pos h0]; rfl
    have hsz : s.size < 4294967281 := by
      unfold noteI at h0
      split at h0
      · cases h0
      · omega
    have HS := hid (split_any s m w hsz hm)
    rw [h0] at HC ⊢
    clear h0 hm
    go_enter Tryd.func34, Tryd.ntmps34
    go_wp2_with fail
    refine HC.out.mono ?_
    rintro e w1 ⟨rfl, rfl⟩
    go_wp2_with fail
    refine HS.out.mono ?_
    rintro e w1 ⟨v, rfl, hr, hB⟩
    obtain ⟨a, cap, rfl, _, _, _⟩ := hr.open
    go_wp2
    go_ret2
    exact ⟨_, rfl, by rw [HL.out]; exact hr, hB⟩
  · have HL : Hid (noteL s = []) := by unfold noteL; rw [if_neg h0]; rfl
    have hb : (noteI s == 0) = false := by simpa using h0
    generalize noteI s = ne at *
    clear hm
    go_enter Tryd.func34, Tryd.ntmps34
    go_wp2_with fail
    refine HC.out.mono ?_
    rintro e w1 ⟨rfl, rfl⟩
    go_wp2
    go_ret2
    exact ⟨_, rfl, by rw [HL.out]; exact Rd.nil _, Below.refl _ _⟩
end Go.Proofs.YtlneimjenjpbnaaDoor
