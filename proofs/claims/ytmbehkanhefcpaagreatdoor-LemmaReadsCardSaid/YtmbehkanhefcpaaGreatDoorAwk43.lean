/-
  lemma.Print; example, awake of chapter 43.
-/
import Derived.Test.YtmbehkanhefcpaaGreatDoorLem
import Derived.Lib.ItoaMem
namespace Go.Proofs.YtmbehkanhefcpaaGreatDoor
open Go.RowKit

def printT (f l : ByteArray) (n : Int) : ByteArray :=
  let a := if l.size = 0 then f else f ++ (⟨#[32, 43, 32]⟩ ++ l)
  if n = 0 then a else a ++ (⟨#[35]⟩ ++ itoaB n)

theorem lck_bounds {f l : ByteArray} {n : Int} (h : lemCk f l n = 0) : 0 ≤ n ∧ n ≤ 65536 := by
  unfold lemCk at h
  split at h
  · cases h
  · split at h
    · cases h
    · omega

theorem nDigits_le : ∀ (u : Nat), Lib.nDigits u ≤ u + 1 := by
  intro u
  induction u using Nat.strongRecOn with
  | ind u ih =>
    unfold Lib.nDigits
    split
    · omega
    · have := ih (u / 10) (by omega)
      omega
theorem itoaB_size {n : Int} (h0 : 0 ≤ n) (h1 : n ≤ 65536) : (itoaB n).size ≤ 65537 := by
  have h := nDigits_le n.toNat
  have e : (itoaB n).size = Lib.nDigits n.toNat := by
    show (Lib.itoa n).toArray.size = _
    rw [List.size_toArray]
    unfold Lib.itoa
    rw [if_neg (by omega), Lib.decDigits_length]
  omega

set_option maxRecDepth 100000 in
set_option maxHeartbeats 1000000 in
theorem print_any (f l : ByteArray) (n : Int) (w : World) (he : Env w) (hf : f.size ≤ 65536) (hl : l.size ≤ 65536) (hck : lemCk f l n = 0) :
    Calls Tryz.prog 6 #[.agg #[.string f, .string l, .int .i64 n]] w fun e w' => e = .returned (.tuple #[.string (printT f l n), .int .i64 0]) ∧ Below w.heap.size w w' := by
  have hb0 := below_al w (.cells #[.string f, .string l, .int .i64 n] 23)
  have hr0 := row_nw w #[.string f, .string l, .int .i64 n] 23 rfl
  have HC := hid (lck_any f l n (w.alloc (.cells #[.string f, .string l, .int .i64 n] 23)) (he.below hb0) hf hl)
  rw [hck] at HC
  have hnb := lck_bounds hck
  have HIT := fun w' (h : Below w.heap.size w w') => hid (itoa_b n w' (he.below h) (by omega) (by omega))
  have hIS := itoaB_size hnb.1 hnb.2
  have hE := ba_isE l
  have HP : Hid (printT f l n = (if n = 0 then (if l.size = 0 then f else f ++ (⟨#[32, 43, 32]⟩ ++ l)) else (if l.size = 0 then f else f ++ (⟨#[32, 43, 32]⟩ ++ l)) ++ (⟨#[35]⟩ ++ itoaB n))) := rfl
  clear hck
  by_cases hl0 : l.size = 0
  all_goals by_cases hn0 : n = 0
  · rw [decide_eq_true hl0] at hE
    have HP2 : Hid (printT f l n = f) := by unfold Hid; rw [HP.out, if_pos hn0, if_pos hl0]
    clear HP hl0
    subst hn0
    go_enter Tryz.func6, Tryz.ntmps6
    go_wp2_with fail
    refine HC.out.mono ?_
    rintro e w1 ⟨rfl, hB1⟩
    have hr1 := hr0.below hB1
    have c0 := hr1.cell 0 rfl
    have c1 := hr1.cell 1 rfl
    have c2 := hr1.cell 2 rfl
    go_wp2
    go_ret2
    exact ⟨by rw [HP2.out]; rfl, below_tr hb0 hB1⟩
  · rw [decide_eq_true hl0] at hE
    have hn1 : (n == 0) = false := beq_eq_false_iff_ne.2 hn0
    have HP2 : Hid (printT f l n = f ++ (⟨#[35]⟩ ++ itoaB n)) := by unfold Hid; rw [HP.out, if_neg hn0, if_pos hl0]
    clear HP hl0
    go_enter Tryz.func6, Tryz.ntmps6
    go_wp2_with fail
    refine HC.out.mono ?_
    rintro e w1 ⟨rfl, hB1⟩
    have hr1 := hr0.below hB1
    have c0 := hr1.cell 0 rfl
    have c1 := hr1.cell 1 rfl
    have c2 := hr1.cell 2 rfl
    go_wp2_with fail
    refine (HIT _ (below_tr hb0 hB1)).out.mono ?_
    rintro e w2 ⟨rfl, hB2⟩
    go_wp2
    go_ret2
    exact ⟨by rw [HP2.out]; rfl, below_tr (below_tr hb0 hB1) hB2⟩
  · rw [decide_eq_false hl0] at hE
    have HP2 : Hid (printT f l n = f ++ (⟨#[32, 43, 32]⟩ ++ l)) := by unfold Hid; rw [HP.out, if_pos hn0, if_neg hl0]
    clear HP hl0
    subst hn0
    go_enter Tryz.func6, Tryz.ntmps6
    go_wp2_with fail
    refine HC.out.mono ?_
    rintro e w1 ⟨rfl, hB1⟩
    have hr1 := hr0.below hB1
    have c0 := hr1.cell 0 rfl
    have c1 := hr1.cell 1 rfl
    have c2 := hr1.cell 2 rfl
    go_wp2
    go_ret2
    exact ⟨by rw [HP2.out]; rfl, below_tr hb0 hB1⟩
  · rw [decide_eq_false hl0] at hE
    have hn1 : (n == 0) = false := beq_eq_false_iff_ne.2 hn0
    have HP2 : Hid (printT f l n = (f ++ (⟨#[32, 43, 32]⟩ ++ l)) ++ (⟨#[35]⟩ ++ itoaB n)) := by unfold Hid; rw [HP.out, if_neg hn0, if_neg hl0]
    clear HP hl0
    go_enter Tryz.func6, Tryz.ntmps6
    go_wp2_with fail
    refine HC.out.mono ?_
    rintro e w1 ⟨rfl, hB1⟩
    have hr1 := hr0.below hB1
    have c0 := hr1.cell 0 rfl
    have c1 := hr1.cell 1 rfl
    have c2 := hr1.cell 2 rfl
    go_wp2_with fail
    refine (HIT _ (below_tr hb0 hB1)).out.mono ?_
    rintro e w2 ⟨rfl, hB2⟩
    go_wp2
    go_ret2
    exact ⟨by rw [HP2.out]; rfl, below_tr (below_tr hb0 hB1) hB2⟩

def exW : List ByteArray := [⟨#[100, 101, 117, 115]⟩, ⟨#[101, 115, 116]⟩, ⟨#[101, 116]⟩, ⟨#[100, 101, 117, 115]⟩, ⟨#[101, 114, 97, 116]⟩]
theorem exw1 : lcheckI exW = 0 := by decide +kernel
theorem exw2 : ofNum (occ exW (exW.getD 0 ⟨#[]⟩) (lastW exW 0 2)) (0, 2 - 1) = 0 := by decide +kernel
theorem exw3 : ofNum (occ exW (exW.getD 3 ⟨#[]⟩) (lastW exW 3 4)) (3, 4 - 1) = 2 := by decide +kernel
theorem exw4 : ofNum (occ exW (exW.getD 0 ⟨#[]⟩) (lastW exW 0 5)) (0, 5 - 1) = 1 := by decide +kernel
theorem exw5 : lemCk ⟨#[100, 101, 117, 115]⟩ ⟨#[101, 114, 97, 116]⟩ 1 = 0 := by decide +kernel
theorem exw6 : printT ⟨#[100, 101, 117, 115]⟩ ⟨#[101, 114, 97, 116]⟩ 1 = ⟨#[100, 101, 117, 115, 32, 43, 32, 101, 114, 97, 116, 35, 49]⟩ := by decide +kernel
theorem exw7 : (∀ s ∈ exW, s.size ≤ 65536) ∧ (∀ s ∈ exW, s.size ≠ 0) := by decide +kernel

theorem run_max_int4 {P : Program} {w : World} (ts : Array TypeId) (t : TypeId) (k : IntKind) (x : Int) : (Builtin.max_ ts t #[.int k x, .int k x, .int k x, .int k x]).run P w = .ok (.int k x) w := by
  simp [Builtin.max_, Builtin.max2, go_sem]
attribute [local go_sem] run_max_int4

theorem rdS_five (W : World) (b : Nat) (s0 s1 s2 s3 s4 : ByteArray) (h : ∀ i v, (#[Value.string s0, .string s1, .string s2, .string s3, .string s4])[i]? = some v → W.cell? ⟨b, i, none⟩ = some v) : RdS W (.slice (some ⟨b, 0, none⟩) 5 5) [s0, s1, s2, s3, s4] := by
  refine ⟨_, _, rfl, by simp, by unfold maxLen; omega, fun i x hx => ⟨_, _, rfl, ?_⟩⟩
  rw [Nat.zero_add]
  apply h
  rcases i with _ | _ | _ | _ | _ | i
  all_goals first | (simp at hx; subst hx; rfl) | (simp at hx)

set_option maxRecDepth 100000 in
set_option maxHeartbeats 1000000 in
theorem example_any (w : World) : Calls Tryz.prog 16 #[] w fun e w' => ∃ v, e = .returned v ∧ RdS w' v exW ∧ Below w.heap.size w w' := by
  go_enter Tryz.func16, Tryz.ntmps16
  go_wp2
  go_ret
  exact ⟨_, rfl, rdS_five _ _ _ _ _ _ _ (fun i v h => cell_nw w _ _ i h), below_al _ _⟩

theorem ex_of1 (v : Value) (w : World) (he : Env w) (hr : RdS w v exW) : Calls Tryz.prog 15 #[v, .int .i64 0, .int .i64 2] w fun e w' => e = .returned (.tuple #[.agg #[.string ⟨#[100, 101, 117, 115]⟩, .string ⟨#[101, 115, 116]⟩, .int .i64 0], .int .i64 0]) ∧ Below w.heap.size w w' := by
  have h := of_any exW 0 2 v w he hr exw7.1 (by decide) exw1 (by decide) (by decide) exw7.2
  rw [exw2] at h
  exact h
theorem ex_of2 (v : Value) (w : World) (he : Env w) (hr : RdS w v exW) : Calls Tryz.prog 15 #[v, .int .i64 3, .int .i64 4] w fun e w' => e = .returned (.tuple #[.agg #[.string ⟨#[100, 101, 117, 115]⟩, .string ⟨#[]⟩, .int .i64 2], .int .i64 0]) ∧ Below w.heap.size w w' := by
  have h := of_any exW 3 4 v w he hr exw7.1 (by decide) exw1 (by decide) (by decide) exw7.2
  rw [exw3] at h
  exact h
theorem ex_of3 (v : Value) (w : World) (he : Env w) (hr : RdS w v exW) : Calls Tryz.prog 15 #[v, .int .i64 0, .int .i64 5] w fun e w' => e = .returned (.tuple #[.agg #[.string ⟨#[100, 101, 117, 115]⟩, .string ⟨#[101, 114, 97, 116]⟩, .int .i64 1], .int .i64 0]) ∧ Below w.heap.size w w' := by
  have h := of_any exW 0 5 v w he hr exw7.1 (by decide) exw1 (by decide) (by decide) exw7.2
  rw [exw4] at h
  exact h
theorem ex_pr (w : World) (he : Env w) : Calls Tryz.prog 6 #[.agg #[.string ⟨#[100, 101, 117, 115]⟩, .string ⟨#[101, 114, 97, 116]⟩, .int .i64 1]] w fun e w' => e = .returned (.tuple #[.string ⟨#[100, 101, 117, 115, 32, 43, 32, 101, 114, 97, 116, 35, 49]⟩, .int .i64 0]) ∧ Below w.heap.size w w' := by
  have h := print_any ⟨#[100, 101, 117, 115]⟩ ⟨#[101, 114, 97, 116]⟩ 1 w he (by decide) (by decide) exw5
  rw [exw6] at h
  exact h

set_option maxRecDepth 100000 in
set_option maxHeartbeats 1000000 in
theorem awake43_any (w : World) (he : Env w) : Calls Tryz.prog 5 #[] w fun e w' => e = .returned (.bool true) ∧ Below w.heap.size w w' := by
  have HE := fun w' (h : Below w.heap.size w w') => hid (he.below h)
  go_enter Tryz.func5, Tryz.ntmps5
  go_wp2_with fail
  refine (example_any _).mono ?_
  rintro e w1 ⟨v1, rfl, hr1, hB1⟩
  go_wp2_with fail
  refine (ex_of1 _ _ (HE _ hB1).out hr1).mono ?_
  rintro e w2 ⟨rfl, hB2⟩
  have hb2 := below_tr hB1 hB2
  go_wp2_with fail
  have hb3 := below_tr hb2 (below_al w2 (.cells #[.string ⟨#[100, 101, 117, 115]⟩, .string ⟨#[101, 115, 116]⟩, .int .i64 0] 23))
  have ha3 := hid (row_nw w2 #[.string ⟨#[100, 101, 117, 115]⟩, .string ⟨#[101, 115, 116]⟩, .int .i64 0] 23 rfl)
  generalize w2.alloc (.cells #[.string ⟨#[100, 101, 117, 115]⟩, .string ⟨#[101, 115, 116]⟩, .int .i64 0] 23) = w3 at *
  refine (example_any _).mono ?_
  rintro e w4 ⟨v4, rfl, hr4, hB4⟩
  have hb4 := below_tr hb3 hB4
  have ha4 := hid (ha3.out.below hB4)
  clear hr1 hB1 hB2 hb2 hb3 ha3
  go_wp2_with fail
  refine (ex_of2 _ _ (HE _ hb4).out hr4).mono ?_
  rintro e w5 ⟨rfl, hB5⟩
  have hb5 := below_tr hb4 hB5
  have ha5 := hid (ha4.out.below hB5)
  go_wp2_with fail
  have hb6 := below_tr hb5 (below_al w5 (.cells #[.string ⟨#[100, 101, 117, 115]⟩, .string ⟨#[]⟩, .int .i64 2] 23))
  have ha6 := hid (ha5.out.al (.cells #[.string ⟨#[100, 101, 117, 115]⟩, .string ⟨#[]⟩, .int .i64 2] 23))
  have hd6 := hid (row_nw w5 #[.string ⟨#[100, 101, 117, 115]⟩, .string ⟨#[]⟩, .int .i64 2] 23 rfl)
  generalize w5.alloc (.cells #[.string ⟨#[100, 101, 117, 115]⟩, .string ⟨#[]⟩, .int .i64 2] 23) = w6 at *
  clear hB4 hb4 ha4 hr4 hB5 hb5 ha5
  refine (example_any _).mono ?_
  rintro e w7 ⟨v7, rfl, hr7, hB7⟩
  have hb7 := below_tr hb6 hB7
  have ha7 := hid (ha6.out.below hB7)
  have hd7 := hid (hd6.out.below hB7)
  clear hb6 ha6 hd6
  go_wp2_with fail
  refine (ex_of3 _ _ (HE _ hb7).out hr7).mono ?_
  rintro e w8 ⟨rfl, hB8⟩
  have hb8 := below_tr hb7 hB8
  have ha8 := hid (ha7.out.below hB8)
  have hd8 := hid (hd7.out.below hB8)
  clear hb7 ha7 hd7 hr7 hB7 hB8
  have hb9 := below_tr hb8 (below_al w8 (.cells #[.string ⟨#[100, 101, 117, 115]⟩, .string ⟨#[101, 114, 97, 116]⟩, .int .i64 1] 23))
  have ha9 := hid (ha8.out.al (.cells #[.string ⟨#[100, 101, 117, 115]⟩, .string ⟨#[101, 114, 97, 116]⟩, .int .i64 1] 23))
  have hd9 := hid (hd8.out.al (.cells #[.string ⟨#[100, 101, 117, 115]⟩, .string ⟨#[101, 114, 97, 116]⟩, .int .i64 1] 23))
  have HP := hid (ex_pr _ (HE _ hb9).out)
  go_wp2_with fail
  refine HP.out.mono ?_
  generalize w8.alloc (.cells #[.string ⟨#[100, 101, 117, 115]⟩, .string ⟨#[101, 114, 97, 116]⟩, .int .i64 1] 23) = w9 at *
  rintro e w10 ⟨rfl, hB10⟩
  have ha10 := ha9.out.below hB10
  have hd10 := hd9.out.below hB10
  have p0 := ha10.cell 0 rfl
  have p1 := ha10.cell 1 rfl
  have p2 := ha10.cell 2 rfl
  have q0 := hd10.cell 0 rfl
  have q1 := hd10.cell 1 rfl
  have q2 := hd10.cell 2 rfl
  have hb10 := hid (below_tr hb9 hB10)
  clear ha9 hd9 HP hb8 ha8 hd8 hb9 ha10 hd10 hB10
  go_wp2
  go_ret
  exact ⟨ret_bool (by decide +kernel), hb10.out⟩
end Go.Proofs.YtmbehkanhefcpaaGreatDoor
