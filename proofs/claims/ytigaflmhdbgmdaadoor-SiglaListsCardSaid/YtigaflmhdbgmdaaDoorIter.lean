/-
  sigla.choices: what it yields, for every loop body.
-/
import Derived.Test.YtigaflmhdbgmdaaDoorBits
import Derived.RangeFuncNested
import Derived.RangeFuncBound
import Derived.RangeFuncCalls
import Derived.RangeFuncLeaves
import Derived.OwnWalkIn
import Derived.TacticsInMore
import Derived.LoopNIn
import Derived.LoopIn
namespace Go.Proofs.YtigaflmhdbgmdaaDoor
open Go.RowKit
attribute [local go_sem] Oper.semAt_some

abbrev RdN (W : World) (v : Value) (l : List Nat) : Prop := Rd (fun m : Nat => Value.int .u64 (m : Int)) W v l

/-- What the groups of a choice mean together: the first k of them. -/
def orTo (ms : List Nat) (c : Nat) : Nat → Nat
  | 0 => 0
  | k + 1 => if c.testBit k then orTo ms c k ||| ms.getD k 0 else orTo ms c k
def orSel (ms : List Nat) (c : Nat) : Nat := orTo ms c ms.length

theorem orTo_lt (ms : List Nat) (c : Nat) (h : ∀ m ∈ ms, m < 18446744073709551616) (k : Nat) (hk : k ≤ ms.length) : orTo ms c k < 18446744073709551616 := by
  induction k with
  | zero => simp [orTo]
  | succ k ih =>
    unfold orTo
    have h1 := ih (by omega)
    split
    · have h2 : ms.getD k 0 < 18446744073709551616 := by
        rw [List.getD_eq_getElem?_getD, List.getElem?_eq_getElem (by omega)]
        exact h _ (List.getElem_mem _)
      exact Nat.or_lt_two_pow (n := 64) h1 h2
    · exact h1

set_option maxHeartbeats 1000000 in
theorem choices_any (a : Option Addr) (len cap : Nat) (w : World) :
    Calls Tryd.prog 46 #[.slice a len cap] w fun e w' => e = .returned (.func (.func 58) #[] #[.pointer (some ⟨w.heap.size, 0, none⟩)]) ∧ w.alloc (.cells #[.slice a len cap] 72) = w' := by
  go_enter Tryd.func46, Tryd.ntmps46
  go_wp2
  go_ret
  exact ⟨rfl, rfl⟩

set_option maxRecDepth 100000 in
set_option maxHeartbeats 4000000 in
theorem choices1_in (n : Nat) (hn : 1 ≤ n) (T : Nat) (ms : List Nat) (sv : Value) (Bs : Nat) (hms : ms.length ≤ 16) (hT : T = 2 ^ ms.length) (hlt : ∀ m ∈ ms, m < 18446744073709551616)
    (Kp : World → World → Prop) (hK1 : ∀ A B, Kp A B → A.cell? ⟨Bs, 0, none⟩ = some sv → B.cell? ⟨Bs, 0, none⟩ = some sv) (hK2 : ∀ A B, Kp A B → RdN A sv ms → RdN B sv ms)
    (l : Nat) (J Jx : List {c : Nat // c < T} → World → Prop)
    (hY : ∀ pre x W, J pre W → pre.length < T → YieldAt Fence.wide (n - 1) Tryd.prog l #[.int .u64 (x.1 : Int), .int .u64 (orSel ms x.1 : Int)] W fun e W' =>
      (e = .returned (.bool true) ∧ J (pre ++ [x]) W' ∧ Kp W W') ∨ (e = .returned (.bool false) ∧ Jx (pre ++ [x]) W'))
    (W : World) (hBs : W.cell? ⟨Bs, 0, none⟩ = some sv) (hc : RdN W sv ms) (h0 : J [] W) :
    CallsIn Fence.wide n Tryd.prog 58 #[.func (.yield l) #[] #[], .pointer (some ⟨Bs, 0, none⟩)] W fun e W' => (∃ v, e = .returned v) ∧
      ((∃ xs : List {c : Nat // c < T}, xs.map (·.1) = List.range T ∧ J xs W') ∨ (∃ pre : List {c : Nat // c < T}, True ∧ Jx pre W')) := by
  obtain ⟨a, cap, rfl, hlc, hcm, _⟩ := hc.open
  have hTT : IntKind.u64.wrap (2 ^ ms.length) = (T : Int) := by
    rw [hT, show ((2 ^ ms.length : Nat) : Int) = (2 : Int) ^ ms.length by simp, IntKind.wrap_u64]
    have : (2 : Nat) ^ ms.length ≤ 2 ^ 16 := Nat.pow_le_pow_right (by omega) hms
    apply Int.emod_eq_of_lt
    · exact Int.le_of_lt (Int.pow_pos (by omega))
    · have h2 : ((2 ^ ms.length : Nat) : Int) ≤ ((2 ^ 16 : Nat) : Int) := by exact_mod_cast this
      simp at h2; omega
  have hT16 : T ≤ 65536 := by
    have : (2 : Nat) ^ ms.length ≤ 2 ^ 16 := Nat.pow_le_pow_right (by omega) hms
    omega
  have HT := hid hT; clear hT
  have HLT := hid hlt; clear hlt
  have HK1 := hid hK1; clear hK1
  have HK2 := hid hK2; clear hK2
  have HY := hid hY; clear hY
  refine callsIn_of_wp Tryd.func58 rfl trivial ?_ rfl
  simp only [Tryd.ntmps58, List.size_toArray, List.length_cons, List.length_nil, Nat.reduceAdd, Nat.reduceSub, Array.replicate_succ, Array.replicate_zero, List.push_toArray, List.append_toArray, List.nil_append, List.cons_append]
  gi_wp2
  gi_loopw [10] (fun c wr => ∃ (k : Nat) (pre : List {c : Nat // c < T}), k ≤ T ∧ c = .int .u64 k ∧ Hid (pre.map (·.1) = List.range k) ∧ J pre wr ∧ wr.cell? ⟨Bs, 0, none⟩ = some (.slice a ms.length cap) ∧ RdN wr (.slice a ms.length cap) ms) (fun c _ => T - (intOf c).toNat)
  case atStart => exact ⟨0, [], Nat.zero_le _, rfl, rfl, h0, hBs, hc⟩
  case round =>
    rename_i wr
    obtain ⟨k, pre, hk, rfl, HP, hJ, hbs, hrd⟩ := hrel
    by_cases hlt : k < T
    · have hplen : pre.length < T := by have := congrArg List.length HP.out; simp at this; omega
      obtain ⟨a', cap', he, hlc', hcm', hcell⟩ := hrd.open
      cases he
      have HCell := hid hcell; clear hcell
      have HYk := hid (HY.out pre ⟨k, hlt⟩ wr hJ hplen)
      have hk64 : k < 18446744073709551616 := by omega
      have HBT := fun i => hid (bit_test k i hk64)
      clear hk64
      gi_wp2
      gi_loop [4, 15] (fun m i => ∃ (j M : Nat), j ≤ ms.length ∧ i = .int .i64 j ∧ m = .int .u64 M ∧ Hid (M = orTo ms k j)) (fun _ i => ms.length - (intOf i).toNat)
      case atStart => exact ⟨0, 0, Nat.zero_le _, rfl, rfl, rfl⟩
      case round =>
        obtain ⟨j, M, hj, rfl, rfl, HM⟩ := hrel
        by_cases hjl : j < ms.length
        · obtain ⟨m, b, off, hm, rfl, hcj⟩ := HCell.out j hjl
          have hmlt := hid (HLT.out m (List.mem_of_getElem? hm))
          have hMlt : Hid (M < 18446744073709551616) := by rw [HM.out]; exact orTo_lt ms k HLT.out j (by omega)
          have hgd : Hid (ms.getD j 0 = m) := by rw [List.getD_eq_getElem?_getD, hm]; rfl
          have hbt := (HBT j).out
          clear hm
          by_cases hb : k.testBit j = true
          · rw [hb] at hbt
            have HN : Hid (orTo ms k (j + 1) = M ||| m) := by show orTo ms k (j + 1) = _; unfold orTo; rw [if_pos hb, hgd.out, HM.out]
            clear hb
            gi_wp2
            go_round
            case rel => exact ⟨j + 1, M ||| m, by omega, by go_num, by rw [bits_or_u64_nat _ _ hMlt.out hmlt.out], HN.out.symm⟩
            case measure => simp [intOf]; omega
          · have hb' : k.testBit j = false := by simpa using hb
            rw [hb'] at hbt
            have HN : Hid (orTo ms k (j + 1) = M) := by show orTo ms k (j + 1) = _; unfold orTo; rw [if_neg hb, HM.out]
            clear hb hb'
            gi_wp2
            go_round
            case rel => exact ⟨j + 1, M, by omega, by go_num, rfl, HN.out.symm⟩
            case measure => simp [intOf]; omega
        · obtain rfl : j = ms.length := by omega
          obtain rfl : M = orSel ms k := HM.out
          obtain ⟨fn, tmps, assign, body, hy, hR⟩ := HYk.out
          try dsimp only at hy
          gi_wp2
          refine hR.mono ?_
          rintro e W3 (⟨rfl, hJ3, hk3⟩ | ⟨rfl, hJx3⟩)
          · have hbs3 := HK1.out _ _ hk3 hbs
            have hrd3 := HK2.out _ _ hk3 hrd
            gi_wp2
            go_roundw
            case rel => exact ⟨k + 1, pre ++ [⟨k, hlt⟩], by omega, by go_num, by rw [List.map_append, HP.out, List.range_succ]; rfl, hJ3, hbs3, hrd3⟩
            case measure => simp [intOf]; omega
          · gi_wp2
            refine bodyPost_ret (results_none rfl _ _ _) rfl ?_
            exact ⟨⟨_, rfl⟩, .inr ⟨_, trivial, hJx3⟩⟩
    · obtain rfl : k = T := by omega
      gi_wp2
      go_end0
      exact ⟨⟨_, rfl⟩, .inl ⟨pre, HP.out, hJ⟩⟩
end Go.Proofs.YtigaflmhdbgmdaaDoor
