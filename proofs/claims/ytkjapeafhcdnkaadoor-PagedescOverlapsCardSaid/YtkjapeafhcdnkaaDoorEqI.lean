/-
  slices.Equal on numbers; slices.ContainsFunc over rows of two with the law's function.
-/
import Derived.Test.YtkjapeafhcdnkaaDoorTwo
import Derived.Test.YtkjapeafhcdnkaaDoorRws
import Derived.Deep.QuietTactic
import Derived.BigQuiet
namespace Go.Proofs.YtkjapeafhcdnkaaDoor
open Go.RowKit

theorem eq_takes {α : Type} {l1 l2 : List α} {n : Nat} (h1 : l1.length = n) (h2 : l2.length = n) (h : l1.take n = l2.take n) : l1 = l2 := by
  rw [List.take_of_length_le (by omega), List.take_of_length_le (by omega)] at h; exact h
theorem take_same {α : Type} {l1 l2 : List α} {k : Nat} {x : α} (h : l1.take k = l2.take k) (h1 : l1[k]? = some x) (h2 : l2[k]? = some x) : l1.take (k + 1) = l2.take (k + 1) := by
  rw [List.take_add_one, List.take_add_one, h, h1, h2]

set_option maxHeartbeats 2000000 in
set_option maxRecDepth 100000 in
theorem eqI_any (v u : Value) (l1 l2 : List Int) (w : World) (hn : l1.length = l2.length) (hr : RdI w v l1) (hs : RdI w u l2) :
    Calls Tryd.prog 33 #[v, u] w fun e w' => e = .returned (.bool (decide (l1 = l2))) ∧ Below w.heap.size w w' := by
  obtain ⟨a1, cap1, rfl, hc1, hm1, hcell1⟩ := hr.open
  obtain ⟨a2, cap2, rfl, hc2, hm2, hcell2⟩ := hs.open
  have HC1 := hid hcell1
  have HC2 := hid hcell2
  rw [← hn] at HC2 hc2 ⊢
  have HN := hid hn
  have HD : Hid (∀ b, decide (l1 = l2) = b → Ending.returned (.bool b) = .returned (.bool (decide (l1 = l2)))) := fun b h => by rw [h]
  generalize hdd : decide (l1 = l2) = dd at *
  have HDD := hid hdd
  clear hcell1 hcell2 hr hs hn hdd HD
  have q0 : ((l1.length : Int) != (l1.length : Int)) = false := by simp
  go_enter Tryd.func33, Tryd.ntmps33
  go_wp2
  go_loopw [13] (fun i wr => ∃ k : Nat, k ≤ l1.length ∧ i = .int .i64 k ∧ Hid (l1.take k = l2.take k) ∧ Hid (Below w.heap.size w wr)) (fun i _ => l1.length - (intOf i).toNat)
  case atStart => exact ⟨0, by omega, rfl, rfl, Below.refl _ _⟩
  case round =>
    obtain ⟨k, hk, rfl, HT, HB⟩ := hrel
    by_cases hlt : k < l1.length
    · obtain ⟨x, rb, ro, hx, rfl, hcx⟩ := HC1.out k hlt
      obtain ⟨y, sb, so, hy, rfl, hcy⟩ := HC2.out k hlt
      have hdx := Below.keeps HB.out _ _ hcx
      have hdy := Below.keeps HB.out _ _ hcy
      have hki : (k : Int) < (l1.length : Int) := by omega
      by_cases hxy : x = y
      · subst hxy
        have q2 : (x != x) = false := by simp
        have HT2 := hid (take_same HT.out hx hy)
        clear hx hy hcx hcy HT
        go_wp2
        go_quiet (fail)
        have HBr := hid (below_tr HB.out (below_drewN (Below.refl _ _) nq))
        clear hdx hdy
        go_wp2
        go_roundw
        case rel => exact ⟨k + 1, by omega, by go_num, HT2.out, HBr.out⟩
        case measure => simp [intOf]; omega
      · have q2 : (x != y) = true := by simpa using hxy
        have HV : Hid (dd = false) := by
          unfold Hid; rw [← HDD.out]
          refine decide_eq_false fun e => hxy ?_
          rw [e, hy] at hx
          exact (Option.some.inj hx).symm
        clear hx hy hcx hcy HT hxy
        go_wp2
        go_quiet (fail)
        have HBr := hid (below_tr HB.out (below_drewN (Below.refl _ _) nq))
        clear hdx hdy
        go_wp2
        go_ret
        exact ⟨ret_bool HV.out.symm, HBr.out⟩
    · have hki : ¬ (k : Int) < (l1.length : Int) := by omega
      have hkl : k = l1.length := by omega
      have HV : Hid (dd = true) := by
        unfold Hid; rw [← HDD.out]
        have h := HT.out
        rw [hkl] at h
        exact decide_eq_true (eq_takes rfl HN.out.symm h)
      clear hkl
      go_wp2
      go_ret
      exact ⟨ret_bool HV.out.symm, HB.out⟩
theorem rdI_pair {w : World} {r : Nat} {p : Nat × Nat} (h1 : w.cell? ⟨r, 0, none⟩ = some (.int .i64 (p.1 : Int))) (h2 : w.cell? ⟨r, 1, none⟩ = some (.int .i64 (p.2 : Int))) : RdI w (.slice (some ⟨r, 0, none⟩) 2 2) [(p.1 : Int), (p.2 : Int)] := by
  refine ⟨some ⟨r, 0, none⟩, 2, rfl, Nat.le_refl _, by unfold maxLen; omega, fun i x hx => ⟨r, 0, rfl, ?_⟩⟩
  match i, hx with
  | 0, hx => cases hx; exact h1
  | 1, hx => cases hx; exact h2
theorem pair_dec (p q : Nat × Nat) : decide ([(p.1 : Int), (p.2 : Int)] = [(q.1 : Int), (q.2 : Int)]) = decide (p = q) := by
  refine decide_eq_decide.2 ⟨fun h => ?_, fun h => by rw [h]⟩
  simp only [List.cons.injEq, and_true] at h
  exact Prod.ext (by omega) (by omega)

set_option maxHeartbeats 1000000 in
theorem ovl1_any (p q : Nat × Nat) (r1 r2 c : Nat) (w : World) (h1 : w.cell? ⟨r1, 0, none⟩ = some (.int .i64 (p.1 : Int))) (h2 : w.cell? ⟨r1, 1, none⟩ = some (.int .i64 (p.2 : Int)))
    (h3 : w.cell? ⟨r2, 0, none⟩ = some (.int .i64 (q.1 : Int))) (h4 : w.cell? ⟨r2, 1, none⟩ = some (.int .i64 (q.2 : Int))) (hc : w.cell? ⟨c, 0, none⟩ = some (.slice (some ⟨r2, 0, none⟩) 2 2)) :
    Calls Tryd.prog 32 #[.slice (some ⟨r1, 0, none⟩) 2 2, .pointer (some ⟨c, 0, none⟩)] w fun e w' => e = .returned (.bool (decide (p = q))) ∧ Below w.heap.size w w' := by
  have HE := hid (eqI_any _ _ _ _ w (by rfl) (rdI_pair h1 h2) (rdI_pair h3 h4))
  rw [pair_dec] at HE
  clear h1 h2 h3 h4
  generalize decide (p = q) = dd at *
  go_enter Tryd.func32, Tryd.ntmps32
  go_wp2_with fail
  refine HE.out.mono ?_
  rintro e w' ⟨rfl, hB⟩
  go_wp2
  go_ret
  exact ⟨rfl, hB⟩

set_option maxHeartbeats 1000000 in
set_option maxRecDepth 100000 in
theorem indexOv_any (v : Value) (l : List (Nat × Nat)) (q : Nat × Nat) (r2 c : Nat) (w : World) (hr : RdP w v l)
    (h3 : w.cell? ⟨r2, 0, none⟩ = some (.int .i64 (q.1 : Int))) (h4 : w.cell? ⟨r2, 1, none⟩ = some (.int .i64 (q.2 : Int))) (hc : w.cell? ⟨c, 0, none⟩ = some (.slice (some ⟨r2, 0, none⟩) 2 2)) :
    Calls Tryd.prog 64 #[v, .func (.func 32) #[] #[.pointer (some ⟨c, 0, none⟩)]] w fun e w' => e = .returned (.int .i64 (fIdx (fun p => decide (p = q)) l)) ∧ Below w.heap.size w w' := by
  obtain ⟨a, cap, rfl, hlc, hcm, hcell⟩ := hr.open
  have HCell := hid hcell; clear hcell
  have eK := enters_of Tryd.func32 (by kernel_rfl) rfl
  have HQ := hid (And.intro h3 (And.intro h4 hc))
  clear h3 h4 hc hr
  go_enter Tryd.func64, Tryd.ntmps64
  go_wp2
  go_loopw [8] (fun i wr => ∃ k : Nat, k ≤ l.length ∧ i = .int .i64 k ∧ Hid (∀ y ∈ l.take k, decide (y = q) = false) ∧ Below w.heap.size w wr) (fun i _ => l.length - (intOf i).toNat)
  case atStart => exact ⟨0, Nat.zero_le _, rfl, by simp [Hid], Below.refl _ _⟩
  case round =>
    rename_i wr
    obtain ⟨k, hk, rfl, HK, hB⟩ := hrel
    by_cases hlt : k < l.length
    · obtain ⟨x, b, off, r, hx, rfl, hc0, hc1, hc2⟩ := HCell.out k hlt
      have hc := Below.keeps hB _ _ hc0
      have HX := hid hx; clear hx
      have HCx := hid (ovl1_any x q r r2 c wr (Below.keeps hB _ _ hc1) (Below.keeps hB _ _ hc2) (Below.keeps hB _ _ HQ.out.1) (Below.keeps hB _ _ HQ.out.2.1) (Below.keeps hB _ _ HQ.out.2.2))
      clear hc0 hc1 hc2
      by_cases hp : decide (x = q) = true
      · have HP := hid hp
        rw [hp] at HCx
        clear hp
        go_wp2_with fail
        refine HCx.out.mono ?_
        rintro e w' ⟨rfl, hB2⟩
        go_wp2
        go_ret
        exact ⟨ret_int (fIdx_hit _ l k x HK.out HX.out HP.out).symm, below_tr hB hB2⟩
      · have hp' : decide (x = q) = false := by simpa using hp
        have HP := hid hp'
        rw [hp'] at HCx
        clear hp hp'
        go_wp2_with fail
        refine HCx.out.mono ?_
        rintro e w' ⟨rfl, hB2⟩
        go_wp2
        go_roundw
        case rel => exact ⟨k + 1, by omega, by go_num, take_none HK.out HX.out HP.out, below_tr hB hB2⟩
        case measure => simp [intOf]; omega
    · go_wp2
      go_ret
      refine ⟨ret_int ?_, hB⟩
      have h := HK.out
      rw [List.take_of_length_le (by omega)] at h
      exact (fIdx_none _ l h).symm

theorem containsOv_any (v : Value) (l : List (Nat × Nat)) (q : Nat × Nat) (r2 c : Nat) (w : World) (hr : RdP w v l)
    (h3 : w.cell? ⟨r2, 0, none⟩ = some (.int .i64 (q.1 : Int))) (h4 : w.cell? ⟨r2, 1, none⟩ = some (.int .i64 (q.2 : Int))) (hc : w.cell? ⟨c, 0, none⟩ = some (.slice (some ⟨r2, 0, none⟩) 2 2)) :
    Calls Tryd.prog 31 #[v, .func (.func 32) #[] #[.pointer (some ⟨c, 0, none⟩)]] w fun e w' => e = .returned (.bool (l.any fun p => decide (p = q))) ∧ Below w.heap.size w w' := by
  have HI := indexOv_any v l q r2 c w hr h3 h4 hc
  have HF := hid (fIdx_pos (fun p => decide (p = q)) l)
  generalize fIdx (fun p => decide (p = q)) l = r at *
  have H2 := hid HI; clear HI hr h3 h4 hc
  go_enter Tryd.func31, Tryd.ntmps31
  go_wp2_with (go_at_call 64; refine H2.out.mono ?_; rintro e w' ⟨rfl, hB⟩)
  go_ret
  exact ⟨ret_bool HF.out, hB⟩
end Go.Proofs.YtkjapeafhcdnkaaDoor
