/-
  The reference's Great, the statements' fine and chosen.
-/
import Derived.Test.YtigaflmhdbgmdaaDoorRefD
import Derived.Test.YtigaflmhdbgmdaaDoorBits
namespace Go.Proofs.YtigaflmhdbgmdaaDoor
open Go.RowKit

def bigG (g : Grp) : Bool := decide (20 < g.name.size) || decide (40 < g.mem.length)
def greatB (names : List ByteArray) (gs : List Grp) : Bool :=
  (names.any fun x => decide (20 < x.size)) || gs.any bigG || (decide (8 < names.length) && decide (names.length ≤ 32)) || decide (34 < names.length) || (decide (5 < gs.length) && decide (gs.length ≤ 16)) || decide (18 < gs.length)

set_option maxHeartbeats 1000000 in
set_option maxRecDepth 100000 in
theorem great_any (v u : Value) (names : List ByteArray) (gs : List Grp) (w : World) (hr : RdS w v names) (hg : RdG w u gs) (hz : Szs names) (hzg : SzG gs) :
    Calls Tryd.prog 10 #[v, u] w fun e w' => e = .returned (.bool (greatB names gs)) ∧ w = w' := by
  obtain ⟨a, cap, rfl, hlc, hcm, hcell⟩ := hr.open
  obtain ⟨a2, cap2, rfl, hlc2, hcm2, hcell2⟩ := hg.open
  have HCell := hid hcell; clear hcell
  have HCell2 := hid hcell2; clear hcell2
  have HZ := hid hz; clear hz
  have HZG := hid hzg; clear hzg
  go_enter Tryd.func10, Tryd.ntmps10
  go_wp2
  go_loop [5] (fun i => ∃ k : Nat, k ≤ names.length ∧ i = .int .i64 k ∧ Hid (∀ y ∈ names.take k, decide (20 < y.size) = false)) (fun i => names.length - (intOf i).toNat)
  case atStart => exact ⟨0, Nat.zero_le _, rfl, by simp [Hid]⟩
  case round =>
    obtain ⟨k, hk, rfl, HK⟩ := hrel
    by_cases hlt : k < names.length
    · obtain ⟨x, b, off, hx, rfl, hc⟩ := HCell.out k hlt
      have HX := hid hx
      have hz1 := HZ.out x (List.mem_of_getElem? hx)
      clear hx
      unfold maxLen at hz1
      by_cases h20 : 20 < x.size
      · go_wp2
        go_ret
        refine ⟨ret_bool ?_, rfl⟩
        have : (names.any fun x => decide (20 < x.size)) = true := List.any_eq_true.2 ⟨x, List.mem_of_getElem? HX.out, decide_eq_true h20⟩
        unfold greatB; rw [this]; simp
      · go_wp2
        go_round
        case rel => exact ⟨k + 1, by omega, by go_num, take_none HK.out HX.out (decide_eq_false h20)⟩
        case measure => simp [intOf]; omega
    · have hn0 : Hid ((names.any fun x => decide (20 < x.size)) = false) := by
        have h := HK.out
        rw [List.take_of_length_le (by omega)] at h
        exact List.any_eq_false.2 (fun y hy => by simpa using h y hy)
      clear HK
      go_wp2
      go_loop [6] (fun i => ∃ k : Nat, k ≤ gs.length ∧ i = .int .i64 k ∧ Hid (∀ y ∈ gs.take k, bigG y = false)) (fun i => gs.length - (intOf i).toNat)
      case atStart => exact ⟨0, Nat.zero_le _, rfl, by simp [Hid]⟩
      case round =>
        obtain ⟨j, hj, rfl, HJ⟩ := hrel
        by_cases hltj : j < gs.length
        · obtain ⟨g, b2, off2, m, hgx, rfl, hc, hd, hm⟩ := HCell2.out j hltj
          obtain ⟨am, capm, rfl, hlm, hcm3, _⟩ := hm.open
          have HX := hid hgx
          have hz1 := HZG.out g (List.mem_of_getElem? hgx)
          clear hgx
          unfold maxLen at hz1
          by_cases h20 : 20 < g.name.size
          · go_wp2
            go_ret
            refine ⟨ret_bool ?_, rfl⟩
            have : gs.any bigG = true := List.any_eq_true.2 ⟨g, List.mem_of_getElem? HX.out, by simp [bigG, h20]⟩
            unfold greatB; rw [this]; simp
          · by_cases h40 : 40 < g.mem.length
            · go_wp2
              go_ret
              refine ⟨ret_bool ?_, rfl⟩
              have : gs.any bigG = true := List.any_eq_true.2 ⟨g, List.mem_of_getElem? HX.out, by simp [bigG, h40]⟩
              unfold greatB; rw [this]; simp
            · go_wp2
              go_round
              case rel => exact ⟨j + 1, by omega, by go_num, take_none HJ.out HX.out (by simp [bigG, h20, h40])⟩
              case measure => simp [intOf]; omega
        · have hg0 : Hid (gs.any bigG = false) := by
            have h := HJ.out
            rw [List.take_of_length_le (by omega)] at h
            exact List.any_eq_false.2 (fun y hy => by simpa using h y hy)
          clear HJ
          have HG : Hid (greatB names gs = ((decide (8 < names.length) && decide (names.length ≤ 32)) || decide (34 < names.length) || (decide (5 < gs.length) && decide (gs.length ≤ 16)) || decide (18 < gs.length))) := by
            unfold greatB; rw [hn0.out, hg0.out]; rfl
          clear hn0 hg0
          by_cases q1 : 8 < names.length <;> by_cases q2 : names.length ≤ 32 <;> by_cases q3 : 34 < names.length <;> by_cases q4 : 5 < gs.length <;> by_cases q5 : gs.length ≤ 16 <;> by_cases q6 : 18 < gs.length <;> first | (exfalso; omega) |
          (go_wp2
           go_ret
           refine ⟨ret_bool ?_, rfl⟩
           rw [HG.out]; simp [q1, q2, q3, q4, q5, q6] <;> omega)
end Go.Proofs.YtigaflmhdbgmdaaDoor
