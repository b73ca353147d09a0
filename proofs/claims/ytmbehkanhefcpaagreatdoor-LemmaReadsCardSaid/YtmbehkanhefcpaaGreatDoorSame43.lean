/-
  The statements' SameInts and SameTable, on tables that are equal.
-/
import Derived.Test.YtmbehkanhefcpaaGreatDoorOccs
import Derived.Deep.RegionHeld3
namespace Go.Proofs.YtmbehkanhefcpaaGreatDoor
open Go.RowKit

set_option maxHeartbeats 4000000 in
set_option maxRecDepth 100000 in
theorem sameI_any (v u : Value) (l : List Int) (w : World) (hr : RdI w v l) (hs : RdI w u l) :
    Calls Tryz.prog 27 #[v, u] w fun e w' => e = .returned (.bool true) ∧ Below w.heap.size w w' := by
  obtain ⟨a1, cap1, rfl, hc1, hm1, hcell1⟩ := hr.open
  obtain ⟨a2, cap2, rfl, hc2, hm2, hcell2⟩ := hs.open
  have HC1 := hid hcell1
  have HC2 := hid hcell2
  clear hcell1 hcell2 hr hs
  have q0 : ((l.length : Int) != (l.length : Int)) = false := by simp
  go_enter Tryz.func27, Tryz.ntmps27
  go_wp2
  go_loopw [5] (fun i wr => ∃ k : Nat, k ≤ l.length ∧ i = .int .i64 k ∧ Hid (Below w.heap.size w wr)) (fun i _ => l.length - (intOf i).toNat)
  case atStart => exact ⟨0, by omega, rfl, Below.refl _ _⟩
  case round =>
    obtain ⟨k, hk, rfl, HB⟩ := hrel
    by_cases hlt : k < l.length
    · obtain ⟨x, rb, ro, hx, rfl, hcx⟩ := HC1.out k hlt
      obtain ⟨y, sb, so, hy, rfl, hcy⟩ := HC2.out k hlt
      rw [hx] at hy
      cases hy
      have hdx := Below.keeps HB.out _ _ hcx
      have hdy := Below.keeps HB.out _ _ hcy
      have hki : (k : Int) < (l.length : Int) := by omega
      have q2 : (x != x) = false := by simp
      clear hx hcx hcy
      go_wp2
      go_quiet (fail)
      have HBr := hid (below_tr HB.out (below_drewN (Below.refl _ _) nq))
      clear hdx hdy
      go_wp2
      go_roundw
      case rel => exact ⟨k + 1, by omega, by go_num, HBr.out⟩
      case measure => simp [intOf]; omega
    · have hki : ¬ (k : Int) < (l.length : Int) := by omega
      go_wp2
      go_ret
      exact ⟨rfl, HB.out⟩
theorem rdI_two {w : World} {r : Nat} {p : Nat × Nat} (h1 : w.cell? ⟨r, 0, none⟩ = some (.int .i64 (p.1 : Int))) (h2 : w.cell? ⟨r, 1, none⟩ = some (.int .i64 (p.2 : Int))) : RdI w (.slice (some ⟨r, 0, none⟩) 2 2) [(p.1 : Int), (p.2 : Int)] := by
  refine ⟨some ⟨r, 0, none⟩, 2, rfl, Nat.le_refl _, by unfold maxLen; omega, fun i x hx => ⟨r, 0, rfl, ?_⟩⟩
  match i, hx with
  | 0, hx => cases hx; exact h1
  | 1, hx => cases hx; exact h2

set_option maxHeartbeats 4000000 in
set_option maxRecDepth 100000 in
theorem sameT_any (v u : Value) (M : List (Nat × Nat)) (w : World) (hr : RdP w v M) (hs : RdP w u M) :
    Calls Tryz.prog 14 #[v, u] w fun e w' => e = .returned (.bool true) ∧ Below w.heap.size w w' := by
  obtain ⟨a1, cap1, rfl, hc1, hm1, hcell1⟩ := hr.open
  obtain ⟨a2, cap2, rfl, hc2, hm2, hcell2⟩ := hs.open
  have HC1 := hid hcell1
  have HC2 := hid hcell2
  clear hcell1 hcell2 hr hs
  have q0 : ((M.length : Int) != (M.length : Int)) = false := by simp
  go_enter Tryz.func14, Tryz.ntmps14
  go_wp2
  go_loopw [5] (fun i wr => ∃ k : Nat, k ≤ M.length ∧ i = .int .i64 k ∧ Hid (Below w.heap.size w wr)) (fun i _ => M.length - (intOf i).toNat)
  case atStart => exact ⟨0, by omega, rfl, Below.refl _ _⟩
  case round =>
    obtain ⟨k, hk, rfl, HB⟩ := hrel
    by_cases hlt : k < M.length
    · obtain ⟨x, b1, o1, r1, hx, rfl, hcu1, hx1, hx2⟩ := HC1.out k hlt
      obtain ⟨y, b2, o2, r2, hy, rfl, hcu2, hy1, hy2⟩ := HC2.out k hlt
      rw [hx] at hy
      cases hy
      have hd1 := Below.keeps HB.out _ _ hcu1
      have hd2 := Below.keeps HB.out _ _ hcu2
      have HS := fun w' (h : Below w.heap.size w w') => hid (sameI_any _ _ _ w' ((rdI_two hx1 hx2).below h) ((rdI_two hy1 hy2).below h))
      have hki : (k : Int) < (M.length : Int) := by omega
      clear hx hcu1 hcu2 hx1 hx2 hy1 hy2
      have HBw := HB.out
      go_wp2_with fail
      go_region_held3 (fun w' => w'.cell? ⟨b1, o1 + k, none⟩ = some (.slice (some ⟨r1, 0, none⟩) 2 2) ∧ w'.cell? ⟨b2, o2 + k, none⟩ = some (.slice (some ⟨r2, 0, none⟩) 2 2) ∧ Below w.heap.size w w')
        ((refine ⟨?_, ?_, ?_⟩ <;> first | assumption | (exact Below.drew (by assumption)) | go_keep))
        (first
          | (go_at_call 27; go_split_ands; refine (HS _ (by assumption)).out.mono ?_; rintro e w6 ⟨rfl, hB6⟩; have z0 := Below.keeps hB6 _ _ (by assumption : World.cell? _ ⟨b1, o1 + k, none⟩ = some _); have z1 := Below.keeps hB6 _ _ (by assumption : World.cell? _ ⟨b2, o2 + k, none⟩ = some _); have z5 : Below w.heap.size w w6 := below_tr (by assumption) hB6))
      all_goals go_split_ands
      all_goals go_wp2_with fail
      all_goals go_roundw
      all_goals first | (exact ⟨k + 1, by omega, by go_num, by assumption⟩) | (simp [intOf]; omega)
    · have hki : ¬ (k : Int) < (M.length : Int) := by omega
      go_wp2
      go_ret
      exact ⟨rfl, HB.out⟩
end Go.Proofs.YtmbehkanhefcpaaGreatDoor
