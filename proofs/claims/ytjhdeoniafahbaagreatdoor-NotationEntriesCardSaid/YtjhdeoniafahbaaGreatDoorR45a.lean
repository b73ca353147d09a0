/-
  The reference's siglum, sigla, right.
-/
import Derived.Test.YtjhdeoniafahbaaGreatDoorHd
import Derived.Test.YtjhdeoniafahbaaGreatDoorRWrd
import Derived.Test.YtjhdeoniafahbaaGreatDoorJ02
namespace Go.Proofs.YtjhdeoniafahbaaGreatDoor
open Go.RowKit

theorem ext_last45 (s : ByteArray) (h : 1 ≤ s.size) : (s.extract (s.size - 1) s.size).toList = [s[s.size - 1]'(by omega)] := by
  rw [ByteArray.toList_eq, ByteArray.data_extract, Array.toList_extract, List.extract_eq_take_drop]
  have h2 : s.size - 1 < s.data.toList.length := by simp; omega
  rw [List.drop_eq_getElem_cons h2, show s.size - (s.size - 1) = 1 by omega]
  simp; rfl

set_option maxHeartbeats 400000 in
theorem rsig45_any (s : ByteArray) (w : World) (hs : s.size ≤ maxLen) :
    Calls Tryz.prog 111 #[.string s] w fun e w' => e = .returned (.bool (sigB s)) ∧ Below w.heap.size w w' := by
  have hs' := hs
  unfold maxLen at hs
  have HNs := fun w' => hid (risName_any s w' hs')
  by_cases h1 : 1 < s.size
  · have he := ext_last45 s (by omega)
    obtain ⟨c, hc⟩ : ∃ c, c = s[s.size - 1]'(by omega) := ⟨_, rfl⟩
    have hlt : s.size - 1 < s.size := by omega
    have h10 : (1 : Int) < s.size := by omega
    by_cases h42 : s[s.size - 1]'(by omega) = 42
    · have hcs : cutStar s = (s.extract 0 (s.size - 1), true) := by unfold cutStar; rw [if_pos ⟨by omega, by rw [he, h42]⟩]
      have hb : ((s[s.size - 1]'(by omega)).toNat : Int) = 42 := by rw [h42]; rfl
      have hbb := beq_iff_eq.2 hb
      have hN := fun w' => hid (risName_any (s.extract 0 (s.size - 1)) w' (by simp; omega))
      by_cases h16 : (s.size : Int) ≤ 16
      · have HS : Hid (sigB s = isNameB (s.extract 0 (s.size - 1))) := by
          unfold sigB; rw [hcs]; simp [Hid]; intro _; omega
        clear hcs he hb h42 hc HNs
        generalize isNameB (s.extract 0 (s.size - 1)) = nb at *
        go_enter Tryz.func111, Tryz.ntmps111
        go_wp2_with (go_at_call 133; refine (hN _).out.mono ?_; rintro e w1 ⟨rfl, hB1⟩)
        go_ret
        exact ⟨ret_bool HS.out.symm, by assumption⟩
      · have HS : Hid (sigB s = false) := by
          unfold sigB; rw [hcs]; simp [Hid]; intro _; omega
        have HS2 : Hid (isNameB s = false) := by
          show _ = _
          have e := risName_eq s
          unfold risNameB at e
          rw [← e, show decide (s.size ≤ 16) = false by simp; omega]; simp
        clear hcs he hb h42 hc hN
        have HN2 := HNs
        go_enter Tryz.func111, Tryz.ntmps111
        go_wp2_with (go_at_call 133; refine (HN2 _).out.mono ?_; rintro e w1 ⟨rfl, hB1⟩)
        go_ret
        exact ⟨ret_bool (by rw [HS.out, HS2.out]), by assumption⟩
    · have hcs : cutStar s = (s, false) := by unfold cutStar; rw [if_neg]; rintro ⟨_, h⟩; rw [he] at h; simp at h; exact h42 h
      have HS : Hid (sigB s = isNameB s) := by unfold sigB; rw [hcs]; simp [Hid]
      have hb : ((s[s.size - 1]'(by omega)).toNat : Int) ≠ 42 := by
        intro h; apply h42; apply UInt8.toNat_inj.1; have : (s[s.size - 1]'(by omega)).toNat = 42 := by omega
        rw [this]; rfl
      have hbb := beq_eq_false_iff_ne.2 hb
      clear hcs he hb h42 hc
      generalize isNameB s = nb at *
      by_cases h16 : (s.size : Int) ≤ 16
      · go_enter Tryz.func111, Tryz.ntmps111
        go_wp2_with (go_at_call 133; refine (HNs _).out.mono ?_; rintro e w1 ⟨rfl, hB1⟩)
        go_ret
        exact ⟨ret_bool HS.out.symm, by assumption⟩
      · go_enter Tryz.func111, Tryz.ntmps111
        go_wp2_with (go_at_call 133; refine (HNs _).out.mono ?_; rintro e w1 ⟨rfl, hB1⟩)
        go_ret
        exact ⟨ret_bool HS.out.symm, by assumption⟩
  · have h10 : ¬ (1 : Int) < s.size := by omega
    have HS : Hid (sigB s = isNameB s) := by
      show _ = _
      rw [sigB_if]
      cases hc : (cutStar s).2 with
      | false => simp
      | true =>
        have hne : (cutStar s).1.size = 0 := by
          unfold cutStar at hc ⊢
          split
          · rename_i hh; simp; omega
          · rename_i hh; rw [if_neg hh] at hc; cases hc
        have hst : s.size = 1 ∧ (s.extract (s.size - 1) s.size).toList = [42] := by
          unfold cutStar at hc
          split at hc
          · rename_i hh; exact ⟨by omega, hh.2⟩
          · cases hc
        have e1 : s = ⟨#[42]⟩ := by
          have h2 := ext_last45 s (by omega)
          rw [hst.2] at h2
          have h3 : s[s.size - 1]'(by omega) = 42 := by simpa using h2.symm
          apply ba_ext
          apply List.ext_getElem?
          intro i
          rcases i with _ | i
          · have h4 := byte_at s 0 (by omega)
            rw [h4]
            have : s[0]'(by omega) = s[s.size - 1]'(by omega) := by congr 1; omega
            rw [this, h3]; rfl
          · rw [List.getElem?_eq_none (by rw [Array.length_toList]; have h5 : s.data.size = s.size := rfl; have := hst.1; omega), List.getElem?_eq_none (by simp)]
        have e2 := (ba_ext (List.eq_nil_of_length_eq_zero (by rw [Array.length_toList]; exact hne)) : (cutStar s).1 = ⟨#[]⟩)
        rw [e2, e1]; decide +kernel
    generalize isNameB s = nb at *
    go_enter Tryz.func111, Tryz.ntmps111
    go_wp2_with (go_at_call 133; refine (HNs _).out.mono ?_; rintro e w1 ⟨rfl, hB1⟩)
    go_ret
    exact ⟨ret_bool HS.out.symm, by assumption⟩

set_option maxRecDepth 100000 in
set_option maxHeartbeats 1000000 in
theorem rsigla45_any (v : Value) (ws : List ByteArray) (w : World) (hr : RdS w v ws) (hz : ∀ s ∈ ws, s.size ≤ 65536) :
    Calls Tryz.prog 79 #[v] w fun e w' => e = .returned (.bool (!(ws.any fun s => !sigB s))) ∧ Below w.heap.size w w' := by
  have HW := fun s (h : s ∈ ws) w' => hid (rsig45_any s w' (by have := hz s h; unfold maxLen; omega))
  obtain ⟨ad, cap, rfl, hlc, hcm, hcell⟩ := hr.open
  have HC := hid hcell
  clear hcell hr hz
  go_enter Tryz.func79, Tryz.ntmps79
  go_wp2
  go_loopw [3] (fun i wr => ∃ k : Nat, k ≤ ws.length ∧ i = .int .i64 k ∧ Hid ((ws.take k).any (fun s => !sigB s) = false) ∧ Hid (Below w.heap.size w wr)) (fun i _ => ws.length - (intOf i).toNat)
  case atStart => exact ⟨0, Nat.zero_le _, rfl, rfl, Below.refl _ _⟩
  case round =>
    obtain ⟨k, hk, rfl, HN, HB⟩ := hrel
    by_cases hlt : k < ws.length
    · obtain ⟨x, b, o, hx, rfl, hc⟩ := HC.out k hlt
      have hki : (k : Int) < (ws.length : Int) := by omega
      have dc := Below.keeps HB.out _ _ hc
      have HWk := HW x (List.mem_of_getElem? hx) wr
      have HS := hid (any_snoc (fun s => !sigB s) ws k x hx)
      cases hw : sigB x with
      | true =>
        rw [hw] at HWk
        have HN2 : Hid ((ws.take (k + 1)).any (fun s => !sigB s) = false) := by unfold Hid; rw [HS.out, HN.out, hw]; rfl
        clear hc hx hw HS HN
        go_wp2_with fail
        refine HWk.out.mono ?_
        rintro e w1 ⟨rfl, hB1⟩
        have HB1 := hid (below_tr HB.out hB1)
        clear hB1 HB
        go_wp2_with fail
        go_roundw
        case rel => exact ⟨k + 1, by omega, by go_num, HN2.out, HB1.out⟩
        case measure => simp [intOf]; omega
      | false =>
        rw [hw] at HWk
        have HN2 : Hid ((ws.any fun s => !sigB s) = true) := any_take_true (k := k + 1) (by rw [HS.out, hw]; simp)
        clear hc hx hw HS HN
        go_wp2_with fail
        refine HWk.out.mono ?_
        rintro e w1 ⟨rfl, hB1⟩
        go_wp2
        go_ret
        exact ⟨ret_bool (by rw [HN2.out]; rfl), below_tr HB.out hB1⟩
    · have hki : ¬ (k : Int) < (ws.length : Int) := by omega
      have HN2 : Hid ((ws.any fun s => !sigB s) = false) := by
        have h := HN.out
        rw [List.take_of_length_le (by omega)] at h
        exact h
      clear HN
      go_wp2
      go_ret
      exact ⟨ret_bool (by rw [HN2.out]; rfl), HB.out⟩

theorem lemCk_word (x : ByteArray) : lemCk x ⟨#[]⟩ 0 = if wordB x = true then 0 else 11 := by
  have e : decide ((⟨#[]⟩ : ByteArray).size ≠ 0) = false := by decide
  unfold lemCk
  rw [e]
  cases wordB x <;> simp
set_option maxRecDepth 100000 in
set_option maxHeartbeats 1000000 in
theorem rright_any (v : Value) (ws : List ByteArray) (w : World) (he : Env w) (hr : RdS w v ws) (hz : ∀ s ∈ ws, s.size ≤ 65536) :
    Calls Tryz.prog 77 #[v] w fun e w' => e = .returned (.bool (!(ws.any fun s => !wordB s))) ∧ Below w.heap.size w w' := by
  have HW := fun s (h : s ∈ ws) w' (hb : Below w.heap.size w w') => hid (rlck_any s ⟨#[]⟩ 0 w' (he.below hb) (hz s h) (by decide))
  obtain ⟨ad, cap, rfl, hlc, hcm, hcell⟩ := hr.open
  have HC := hid hcell
  clear hcell hr hz he
  go_enter Tryz.func77, Tryz.ntmps77
  go_wp2
  go_loopw [3] (fun i wr => ∃ k : Nat, k ≤ ws.length ∧ i = .int .i64 k ∧ Hid ((ws.take k).any (fun s => !wordB s) = false) ∧ Hid (Below w.heap.size w wr)) (fun i _ => ws.length - (intOf i).toNat)
  case atStart => exact ⟨0, Nat.zero_le _, rfl, rfl, Below.refl _ _⟩
  case round =>
    obtain ⟨k, hk, rfl, HN, HB⟩ := hrel
    by_cases hlt : k < ws.length
    · obtain ⟨x, b, o, hx, rfl, hc⟩ := HC.out k hlt
      have hki : (k : Int) < (ws.length : Int) := by omega
      have dc := Below.keeps HB.out _ _ hc
      have HWk := HW x (List.mem_of_getElem? hx) wr HB.out
      have HS := hid (any_snoc (fun s => !wordB s) ws k x hx)
      rw [lemCk_word] at HWk
      cases hw : wordB x with
      | true =>
        rw [hw, if_pos rfl] at HWk
        have HN2 : Hid ((ws.take (k + 1)).any (fun s => !wordB s) = false) := by unfold Hid; rw [HS.out, HN.out, hw]; rfl
        clear hc hx hw HS HN
        go_wp2_with fail
        refine HWk.out.mono ?_
        rintro e w1 ⟨rfl, hB1⟩
        have HB1 := hid (below_tr HB.out hB1)
        clear hB1 HB
        go_wp2_with fail
        go_roundw
        case rel => exact ⟨k + 1, by omega, by go_num, HN2.out, HB1.out⟩
        case measure => simp [intOf]; omega
      | false =>
        rw [hw, if_neg (by simp)] at HWk
        have HN2 : Hid ((ws.any fun s => !wordB s) = true) := any_take_true (k := k + 1) (by rw [HS.out, hw]; simp)
        clear hc hx hw HS HN
        go_wp2_with fail
        refine HWk.out.mono ?_
        rintro e w1 ⟨rfl, hB1⟩
        go_wp2
        go_ret
        exact ⟨ret_bool (by rw [HN2.out]; rfl), below_tr HB.out hB1⟩
    · have hki : ¬ (k : Int) < (ws.length : Int) := by omega
      have HN2 : Hid ((ws.any fun s => !wordB s) = false) := by
        have h := HN.out
        rw [List.take_of_length_le (by omega)] at h
        exact h
      clear HN
      go_wp2
      go_ret
      exact ⟨ret_bool (by rw [HN2.out]; rfl), HB.out⟩
end Go.Proofs.YtjhdeoniafahbaaGreatDoor
