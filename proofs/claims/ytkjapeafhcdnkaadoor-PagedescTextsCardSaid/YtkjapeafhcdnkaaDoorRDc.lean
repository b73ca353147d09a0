/-
  The reference's decimal, words.
-/
import Derived.Test.YtkjapeafhcdnkaaDoorPl53
import Derived.WalkSpells
namespace Go.Proofs.YtkjapeafhcdnkaaDoor
open Go.RowKit

theorem dec_step (u : Nat) (h : ¬ u < 10) : Lib.decDigits u = Lib.decDigits (u / 10) ++ [UInt8.ofNat (48 + u % 10)] := by
  rw [Lib.decDigits, dif_neg h]
theorem dec_last (u : Nat) (h : u < 10) : Lib.decDigits u = [UInt8.ofNat (48 + u)] := by
  rw [Lib.decDigits, dif_pos h]
def dgA : ByteArray := ⟨#[48, 49, 50, 51, 52, 53, 54, 55, 56, 57]⟩
theorem dg_at (k : Nat) (h : k < 10) : dgA.extract k (k + 1) = ⟨#[UInt8.ofNat (48 + k)]⟩ := by
  have : k = 0 ∨ k = 1 ∨ k = 2 ∨ k = 3 ∨ k = 4 ∨ k = 5 ∨ k = 6 ∨ k = 7 ∨ k = 8 ∨ k = 9 := by omega
  rcases this with rfl | rfl | rfl | rfl | rfl | rfl | rfl | rfl | rfl | rfl <;> decide +kernel

set_option maxRecDepth 100000 in
set_option maxHeartbeats 1000000 in
theorem rdec_any (n : Nat) (hn : n < 10000000000) (w : World) : Calls Tryd.prog 78 #[.int .i64 n] w fun e w' => e = .returned (.string (itoaB n)) ∧ w = w' := by
  have HL : Hid ((Lib.decDigits n).length ≤ 10) := by
    show _ ≤ _
    rw [Lib.decDigits_length]; exact nDigits_10 n hn
  have HI : Hid ((itoaB (n : Int)).data.toList = Lib.decDigits n) := by
    show _ = _
    rw [itoaB_data (by omega)]; simp
  go_enter Tryd.func78, Tryd.ntmps78
  go_wp2
  go_loop [0, 3] (fun nv sv => ∃ (u : Nat) (s : ByteArray), nv = .int .i64 u ∧ sv = .string s ∧ u < 10000000000 ∧ Hid (Lib.decDigits n = Lib.decDigits u ++ s.data.toList)) (fun nv _ => (intOf nv).toNat)
  case atStart => exact ⟨n, ⟨#[]⟩, rfl, rfl, hn, by simp [Hid]⟩
  case round =>
    obtain ⟨u, s, rfl, rfl, hu, HD⟩ := hrel
    have hsz : s.size ≤ 10 := by
      have h1 := congrArg List.length HD.out
      have h2 := HL.out
      rw [List.length_append, data_size] at h1
      omega
    by_cases h9 : u < 10
    · have h9i : (u : Int) < 10 := by omega
      have HV : Hid (dgA.extract u (u + 1) ++ s = itoaB (n : Int)) := by
        apply ba_ext
        rw [dg_at u h9, HI.out, HD.out, dec_last u h9]
        simp
      go_wp2
      go_ret
      exact ⟨congrArg (fun x => Ending.returned (.string x)) HV.out, rfl⟩
    · have h9i : (9 : Int) < (u : Int) := by omega
      have HV : Hid (Lib.decDigits n = Lib.decDigits (u / 10) ++ (dgA.extract (u % 10) (u % 10 + 1) ++ s).data.toList) := by
        show _ = _
        rw [dg_at _ (by omega), HD.out, dec_step u h9]
        simp
      go_wp2
      go_round
      case rel => exact ⟨u / 10, _, by go_num, rfl, by omega, HV.out⟩
      case measure => simp [intOf]; omega

set_option maxHeartbeats 1000000 in
theorem rwords_any (w : World) : Calls Tryd.prog 79 #[] w fun e w' => e = .returned (.slice (some ⟨w.heap.size, 0, none⟩) 7 7) ∧ w.alloc (.cells kwA 9) = w' := by
  unfold kwA
  go_enter Tryd.func79, Tryd.ntmps79
  go_wp2
  go_ret
  exact ⟨rfl, rfl⟩

theorem decFrom_lt : ∀ (l : List UInt8) (acc n : Nat), Lib.decFrom acc l = some n → n < (acc + 1) * 10 ^ l.length
  | [], acc, n, h => by
    have e : acc = n := by simpa [Lib.decFrom] using h
    subst e; simp
  | c :: r, acc, n, h => by
    unfold Lib.decFrom at h
    cases hc : Lib.digitVal c with
    | none => rw [hc] at h; simp at h
    | some x =>
      rw [hc] at h
      have h2 := decFrom_lt r _ n h
      have hx : x < 10 := by
        unfold Lib.digitVal at hc
        split at hc
        · cases hc; omega
        · cases hc
      have h3 : (acc * 10 + x + 1) * 10 ^ r.length ≤ ((acc + 1) * 10) * 10 ^ r.length := Nat.mul_le_mul_right _ (by omega)
      rw [List.length_cons, Nat.pow_succ', ← Nat.mul_assoc]
      exact Nat.lt_of_lt_of_le h2 h3
theorem digit_of {c : UInt8} (h1 : 48 ≤ c.toNat) (h2 : c.toNat ≤ 57) : Lib.digitVal c = some (c.toNat - 48) := by
  unfold Lib.digitVal
  rw [if_pos ⟨h1, h2⟩]
theorem rnum_byte (s : ByteArray) (k : Nat) (h : k < s.size) : s.data.toList[k]? = some s[k] := by
  have : k < s.data.toList.length := by rw [data_size]; exact h
  rw [List.getElem?_eq_getElem this]; rfl

/-- What the reference's number answers. -/
def numR (s : ByteArray) : Int := match Lib.decFrom 0 s.data.toList with
  | some N => if s.size ≤ 10 ∧ s.size ≠ 0 ∧ itoaB (N : Int) = s then (N : Int) else -1
  | none => -1
theorem decFrom_bad {c : UInt8} (hc : Lib.digitVal c = none) : ∀ (l : List UInt8) (acc : Nat), c ∈ l → Lib.decFrom acc l = none
  | x :: r, acc, hm => by
    unfold Lib.decFrom
    cases hx : Lib.digitVal x with
    | none => rfl
    | some d =>
      rcases List.mem_cons.1 hm with rfl | hm
      · rw [hc] at hx; cases hx
      · exact decFrom_bad hc r _ hm
theorem digit_no {c : UInt8} (h : c.toNat < 48 ∨ 57 < c.toNat) : Lib.digitVal c = none := by
  unfold Lib.digitVal
  rw [if_neg (by omega)]
theorem numR_bad {s : ByteArray} {k : Nat} (h : k < s.size) (hc : s[k].toNat < 48 ∨ 57 < s[k].toNat) : numR s = -1 := by
  unfold numR
  rw [decFrom_bad (digit_no hc) _ _ (List.mem_of_getElem? (rnum_byte s k h))]
theorem numR_long {s : ByteArray} (h : 10 < s.size) : numR s = -1 := by
  unfold numR
  split
  · rw [if_neg (by omega)]
  · rfl
theorem numR_itoa {v : Int} (h0 : 0 ≤ v) (h1 : v ≤ 1073741824) : numR (itoaB v) = v := by
  have hd : (itoaB v).data.toList = Lib.decDigits v.toNat := itoaB_data h0
  obtain ⟨g1, g2, _⟩ := digits_ok v.toNat
  have hl := data_size (itoaB v)
  rw [hd, Lib.decDigits_length] at hl
  have h10 := nDigits_10 v.toNat (by omega)
  have hp := Lib.nDigits_pos v.toNat
  unfold numR
  rw [hd, g1]
  simp only
  rw [if_pos ⟨by omega, by omega, by congr 1; omega⟩]
  omega
theorem numR_bound (s : ByteArray) : -1 ≤ numR s ∧ numR s ≤ 10000000000 := by
  unfold numR
  split
  · rename_i N hN
    split
    · rename_i h
      have h1 := decFrom_lt _ _ _ hN
      rw [data_size] at h1
      have h3 : (10 : Nat) ^ s.size ≤ 10 ^ 10 := Nat.pow_le_pow_right (by decide) h.1
      have e : (10 : Nat) ^ 10 = 10000000000 := by decide
      omega
    · omega
  · omega

set_option maxRecDepth 100000 in
set_option maxHeartbeats 2000000 in
theorem rnum_any (s : ByteArray) (w : World) (hs : s.size ≤ 1000000) : Calls Tryd.prog 55 #[.string s] w fun e w' => e = .returned (.int .i64 (numR s)) ∧ w = w' := by
  go_enter Tryd.func55, Tryd.ntmps55
  go_wp2
  go_loop [3, 4] (fun nv i => ∃ (k N : Nat), k ≤ s.size ∧ k ≤ 10 ∧ i = .int .i64 k ∧ nv = .int .i64 N ∧ N < 10000000000 ∧ Hid (Lib.decFrom 0 (s.data.toList.take k) = some N)) (fun _ i => s.size - (intOf i).toNat)
  case atStart => exact ⟨0, 0, by omega, by omega, rfl, rfl, by omega, rfl⟩
  case round =>
    obtain ⟨k, N, hk, hk10, rfl, rfl, hN, HF⟩ := hrel
    by_cases hlt : k < s.size
    · have hki : (k : Int) < (s.size : Int) := by omega
      have HBK := hid (rnum_byte s k hlt)
      by_cases b1 : (s[k].toNat : Int) < 48
      · have HV : Hid (-1 = numR s) := (numR_bad hlt (.inl (by omega))).symm
        go_wp2
        go_ret
        exact ⟨ret_int HV.out, rfl⟩
      · by_cases b2 : (57 : Int) < (s[k].toNat : Int)
        · have HV : Hid (-1 = numR s) := (numR_bad hlt (.inr (by omega))).symm
          go_wp2
          go_ret
          exact ⟨ret_int HV.out, rfl⟩
        · by_cases b3 : 9 < k
          · have b3i : (9 : Int) < (k : Int) := by omega
            have HV : Hid (-1 = numR s) := (numR_long (by omega)).symm
            go_wp2
            go_ret
            exact ⟨ret_int HV.out, rfl⟩
          · have b3i : ¬ (9 : Int) < (k : Int) := by omega
            have hd := digit_of (c := s[k]) (by omega) (by omega)
            have HF2 : Hid (Lib.decFrom 0 (s.data.toList.take (k + 1)) = some (N * 10 + (s[k].toNat - 48))) := by
              show _ = _
              rw [List.take_add_one, HBK.out]
              exact decFrom_snoc _ _ hd _ _ _ HF.out
            have hN2 : N * 10 + (s[k].toNat - 48) < 10000000000 := by
              have h1 := decFrom_lt _ _ _ HF2.out
              have h2 : (s.data.toList.take (k + 1)).length ≤ 10 := by rw [List.length_take]; omega
              have h3 : (10 : Nat) ^ (s.data.toList.take (k + 1)).length ≤ 10 ^ 10 := Nat.pow_le_pow_right (by decide) h2
              have e : (10 : Nat) ^ 10 = 10000000000 := by decide
              omega
            clear hd HF HBK
            go_wp2
            go_round
            case rel => exact ⟨k + 1, N * 10 + (s[k].toNat - 48), by omega, by omega, by go_num, by go_num, hN2, HF2.out⟩
            case measure => simp [intOf]; omega
    · have hki : ¬ (k : Int) < (s.size : Int) := by omega
      have HF2 : Hid (Lib.decFrom 0 s.data.toList = some N) := by
        have h := HF.out
        rw [List.take_of_length_le (by rw [data_size]; omega)] at h
        exact h
      have HRD := hid (rdec_any N hN w)
      clear HF
      by_cases h0 : s.size = 0
      · have h0i : (s.size : Int) = 0 := by omega
        have HV : Hid (-1 = numR s) := by
          show _ = _
          unfold numR
          rw [HF2.out]
          simp only
          rw [if_neg (by omega)]
        go_wp2
        go_ret
        exact ⟨ret_int HV.out, rfl⟩
      · have h0i : ((s.size : Int) == 0) = false := beq_eq_false_iff_ne.2 (by omega)
        have hb := ba_beq (itoaB (N : Int)) s
        by_cases he : itoaB (N : Int) = s
        · rw [decide_eq_true he] at hb
          have hb2 : (!((itoaB (N : Int)).toList == s.toList)) = false := by rw [hb]; rfl
          have HV : Hid ((N : Int) = numR s) := by
            show _ = _
            unfold numR
            rw [HF2.out]
            simp only
            rw [if_pos ⟨by omega, h0, he⟩]
          clear he
          go_wp2_with fail
          refine HRD.out.mono ?_
          rintro e w' ⟨rfl, rfl⟩
          go_wp2
          go_ret
          exact ⟨ret_int HV.out, rfl⟩
        · rw [decide_eq_false he] at hb
          have HV : Hid (-1 = numR s) := by
            show _ = _
            unfold numR
            rw [HF2.out]
            simp only
            rw [if_neg (fun h => he h.2.2)]
          clear he
          go_wp2_with fail
          refine HRD.out.mono ?_
          rintro e w' ⟨rfl, rfl⟩
          go_wp2
          go_ret
          exact ⟨ret_int HV.out, rfl⟩
end Go.Proofs.YtkjapeafhcdnkaaDoor
