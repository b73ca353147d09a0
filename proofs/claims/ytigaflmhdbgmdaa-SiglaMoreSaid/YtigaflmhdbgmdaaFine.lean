/-
  The statements' own fine and chosen.
-/
import Derived.Test.YtigaflmhdbgmdaaGreat
import Derived.Test.YtigaflmhdbgmdaaAp
import Derived.Deep.QuietTactic
namespace Go.Proofs.Ytigaflmhdbgmdaa
open Go.RowKit

def fineB (names : List ByteArray) (gs : List Grp) : Bool := !greatB names gs && decide (checkI names gs = 0)

set_option maxHeartbeats 1000000 in
set_option maxRecDepth 100000 in
theorem fine_any (v u : Value) (names : List ByteArray) (gs : List Grp) (w : World) (hr : RdS w v names) (hg : RdG w u gs) (hz : Szs names) (hzg : SzG gs) :
    Calls Try.prog 9 #[v, u] w fun e w' => e = .returned (.bool (fineB names gs)) ∧ Below w.heap.size w w' := by
  have HG := fun w' h1 h2 => hid (great_any v u names gs w' h1 h2 hz hzg)
  have HC := fun w' h1 h2 => hid (rcheckG_any v u names gs w' h1 h2 hz hzg)
  have HF : Hid (fineB names gs = (!greatB names gs && decide (checkI names gs = 0))) := rfl
  generalize greatB names gs = g at *
  obtain ⟨c, hc⟩ : ∃ c, c = checkI names gs := ⟨_, rfl⟩
  rw [← hc] at HF HC
  clear hc
  have hccase : ((c == 0) = true ∧ Hid (c = 0)) ∨ ((c == 0) = false ∧ Hid (c ≠ 0)) := by
    by_cases hc0 : c = 0
    · left; exact ⟨by simp [hc0], hc0⟩
    · right; exact ⟨by simpa using hc0, hc0⟩
  cases g with
  | true =>
    go_enter Try.func9, Try.ntmps9
    go_wp2_with (go_at_call 15; refine (HG _ hr hg).out.mono ?_; rintro e w3 ⟨rfl, rfl⟩)
    go_ret
    exact ⟨ret_bool (by rw [HF.out]; rfl), Below.refl _ _⟩
  | false =>
    rcases hccase with ⟨hb, H0⟩ | ⟨hb, H0⟩
    all_goals
      go_enter Try.func9, Try.ntmps9
      go_wp2_with (first | (go_at_call 15; refine (HG _ hr hg).out.mono ?_; rintro e w3 ⟨rfl, rfl⟩) | (go_at_call 20; refine (HC _ hr hg).out.mono ?_; rintro e w3 ⟨rfl, hB3⟩))
      go_ret
      exact ⟨ret_bool (by rw [HF.out]; simp [H0.out]), by assumption⟩

/-! chosen -/
theorem bit_test8 (m k : Nat) (hm : m < 256) : (bits .and .u8 ((m : Int) / 2 ^ k) 1 == 1) = m.testBit k := by
  have e1 : (m : Int) / 2 ^ k = ((m / 2 ^ k : Nat) : Int) := by simp
  have hlt : m / 2 ^ k < 256 := Nat.lt_of_le_of_lt (Nat.div_le_self _ _) hm
  have e2 : bits .and .u8 ((m / 2 ^ k : Nat) : Int) ((1 : Nat) : Int) = ((m / 2 ^ k &&& 1 : Nat) : Int) := by
    generalize m / 2 ^ k = a at hlt
    have hx : a &&& 1 < 2 ^ 8 := Nat.and_lt_two_pow _ (by omega)
    have h1 : (BitVec.ofInt 8 (a : Int)).toNat = a := by
      rw [BitVec.ofInt_natCast, BitVec.toNat_ofNat]; exact Nat.mod_eq_of_lt (by omega)
    have h2 : (BitVec.ofInt 8 ((1 : Nat) : Int)).toNat = 1 := by decide
    show IntKind.u8.wrap ((BitVec.ofInt 8 (a : Int) &&& BitVec.ofInt 8 ((1 : Nat) : Int)).toNat : Int) = _
    rw [BitVec.toNat_and, h1, h2]
    have hw : ∀ z : Nat, z < 256 → IntKind.u8.wrap (z : Int) = (z : Int) := by
      intro z hz
      simp [IntKind.wrap, IntKind.signed, IntKind.bits]
      omega
    exact hw _ hx
  rw [e1, show (1 : Int) = ((1 : Nat) : Int) from rfl, e2, Nat.and_one_is_mod, Nat.testBit_eq_decide_div_mod_eq]
  generalize m / 2 ^ k % 2 = r
  rw [Bool.eq_iff_iff]; simp; omega

set_option maxHeartbeats 400000 in
set_option maxRecDepth 100000 in
theorem chosen_any (n m : Nat) (w : World) (hn : n ≤ 8) (h1 : m < 256) :
    Calls Try.prog 11 #[.int .i64 n, .int .u8 m] w fun e w' => ∃ v, e = .returned v ∧ RdI w' v (bitsTo m n) ∧ Below w.heap.size w w' := by
  have HB := fun k => hid (bit_test8 m k h1)
  clear h1
  go_enter Try.func11, Try.ntmps11
  go_wp2
  go_loopw [5, 8] (fun v i wr => ∃ (k : Nat) (xs : List Int), k ≤ n ∧ i = .int .i64 k ∧ Hid (xs = bitsTo m k) ∧ xs.length ≤ k ∧ wr.ownsRow w.heap.size 3 1 v xs.length (xs.map (Value.int .i64)) ∧ Below w.heap.size w wr) (fun _ i _ => n - (intOf i).toNat)
  case atStart => exact ⟨0, [], by omega, rfl, rfl, by simp, World.ownsRow_nil _ _ _ _, Below.refl _ _⟩
  case round =>
    rename_i wr
    obtain ⟨k, xs, hk, rfl, HX, hl, hown, hB⟩ := hrel
    have hs := bitsTo_succ m k
    have hbt := (HB k).out
    by_cases hlt : k < n
    · have hm8 : Int.tmod (k : Int) 8 = (k : Int) := by rw [Int.tmod_eq_emod_of_nonneg (by omega)]; omega
      by_cases hb : m.testBit k = true
      · rw [hb] at hbt
        rw [hb, if_pos rfl] at hs
        have HS := hid hs; clear hs hb
        go_wp2_with (at_builtin; refine wpList_ap rfl _ _ 26 rfl w.heap.size 3 Try.underlying26 infoInt rfl (by decide) (by decide) _ _ _ rfl hown [.int .i64 k] rfl (by simp [Value.oneCell']) rfl (by simp) (by omega) hB.size ?_; intro v' w1 hown' hb1 _)
        go_roundw
        case rel => exact ⟨k + 1, xs ++ [(k : Int)], by omega, by go_num, by rw [HS.out, HX.out]; rfl, by simp; omega, by simpa using hown', hB.trans hb1⟩
        case measure => simp [intOf]; omega
      · have hb' : m.testBit k = false := by simpa using hb
        rw [hb'] at hbt
        rw [hb', if_neg (by simp)] at hs
        have HS := hid hs; clear hs hb hb'
        go_wp2
        go_roundw
        case rel => exact ⟨k + 1, xs, by omega, by go_num, by rw [HS.out, HX.out, List.append_nil]; rfl, by omega, hown, hB⟩
        case measure => simp [intOf]; omega
    · clear hs hbt
      obtain rfl : k = n := by omega
      go_wp2
      go_ret
      exact ⟨_, rfl, by rw [show bitsTo m k = xs from HX.out.symm]; exact Rd.of_own hown, hB⟩
end Go.Proofs.Ytigaflmhdbgmdaa
