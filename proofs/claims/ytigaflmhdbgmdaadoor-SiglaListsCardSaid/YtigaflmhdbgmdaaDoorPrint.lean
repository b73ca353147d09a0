/-
  sigla.Print.
-/
import Derived.Test.YtigaflmhdbgmdaaDoorShelf
import Derived.Test.YtigaflmhdbgmdaaDoorSigA
import Derived.Test.YtigaflmhdbgmdaaDoorPl
namespace Go.Proofs.YtigaflmhdbgmdaaDoor
open Go.RowKit

def printI (l : List ByteArray) : Int := if 64 < l.length then 4 else if l.all sigB = true then 0 else 14
def joinB (l : List ByteArray) : ByteArray := ⟨(Lib.join (l.map (·.data.toList)) [32]).toArray⟩
def printS (l : List ByteArray) : ByteArray := if printI l = 0 then joinB l else ByteArray.empty

set_option maxHeartbeats 1000000 in
set_option maxRecDepth 100000 in
theorem print_any2 (v : Value) (l : List ByteArray) (w : World) (hr : RdS w v l) (hz : Szs l) (hj : printI l = 0 → (Lib.join (l.map (·.data.toList)) [32]).length ≤ 140737488355328) :
    Calls Tryd.prog 6 #[v] w fun e w' => e = .returned (.tuple #[.string (printS l), .int .i64 (printI l)]) ∧ Below w.heap.size w w' := by
  obtain ⟨a, cap, rfl, hlc, hcm, hcell⟩ := hr.open
  have HCell := hid hcell; clear hcell
  have HZ := hid hz; clear hz
  have HJ := hid hj; clear hj
  by_cases h64 : 64 < l.length
  · have hI : printI l = 4 := by unfold printI; rw [if_pos h64]
    have hS : Hid (printS l = ByteArray.empty) := by unfold printS; rw [hI]; rfl
    have HI := hid hI; clear hI
    go_enter Tryd.func6, Tryd.ntmps6
    go_wp2
    go_ret2
    exact ⟨by rw [hS.out, HI.out]; rfl, Below.refl _ _⟩
  have HI : Hid (printI l = if l.all sigB = true then 0 else 14) := by unfold printI; rw [if_neg h64]; rfl
  go_enter Tryd.func6, Tryd.ntmps6
  go_wp2
  go_loopw [11] (fun i wr => ∃ k : Nat, k ≤ l.length ∧ i = .int .i64 k ∧ Hid (∀ y ∈ l.take k, (!sigB y) = false) ∧ Below w.heap.size w wr) (fun i _ => l.length - (intOf i).toNat)
  case atStart => exact ⟨0, Nat.zero_le _, rfl, by simp [Hid], Below.refl _ _⟩
  case round =>
    rename_i wr
    obtain ⟨k, hk, rfl, HK, hB⟩ := hrel
    by_cases hlt : k < l.length
    · obtain ⟨x, b, off, hx, rfl, hc0⟩ := HCell.out k hlt
      have hc := Below.keeps hB _ _ hc0
      clear hc0
      have HX := hid hx
      have hxz := HZ.out x (List.mem_of_getElem? hx)
      clear hx
      have HC := fun w' => hid (siglum_any x w' hxz)
      clear hxz
      obtain ⟨hb, hbe⟩ : ∃ hb, hb = sigB x := ⟨_, rfl⟩
      have HBE := hid hbe
      rw [← hbe] at HC
      clear hbe
      cases hb with
      | true =>
        go_wp2_with (go_at_call 22; refine (HC _).out.mono ?_; rintro e w2 ⟨rfl, rfl⟩)
        go_roundw
        case rel => exact ⟨k + 1, by omega, by go_num, take_none HK.out HX.out (by rw [← HBE.out]; rfl), hB⟩
        case measure => simp [intOf]; omega
      | false =>
        have hI : Hid (printI l = 14) := by
          rw [HI.out, if_neg]; · rfl
          rw [Bool.not_eq_true]
          exact List.all_eq_false.2 ⟨x, List.mem_of_getElem? HX.out, by rw [← HBE.out]; simp⟩
        have hS : Hid (printS l = ByteArray.empty) := by unfold printS; rw [hI.out]; rfl
        go_wp2_with (go_at_call 22; refine (HC _).out.mono ?_; rintro e w2 ⟨rfl, rfl⟩)
        go_ret2
        exact ⟨by rw [hS.out, hI.out]; rfl, hB⟩
    · have hI : Hid (printI l = 0) := by
        rw [HI.out, if_pos]; · rfl
        have h := HK.out
        rw [List.take_of_length_le (by omega)] at h
        exact List.all_eq_true.2 fun y hy => by simpa using h y hy
      have hS : Hid (printS l = joinB l) := by unfold printS; rw [hI.out]; rfl
      have hr2 := hr.below hB
      by_cases h0 : l = []
      · have HL := hid h0
        have hlen : l.length = 0 := by rw [h0]; rfl
        have hj2 : Hid (joinB l = ⟨#[]⟩) := by rw [h0]; rfl
        clear h0
        rw [hlen] at *
        clear hlen
        go_wp2_with (go_at_call 9; refine (Tryd.strings_Join_none a cap (ByteArray.mk #[32]) wr).mono ?_; rintro e w2 ⟨rfl, rfl⟩)
        go_ret2
        exact ⟨by rw [hS.out, hI.out, hj2.out]; rfl, hB⟩
      · obtain ⟨x, b, off, hx, rfl, hc0⟩ := HCell.out 0 (by cases l with | nil => exact absurd rfl h0 | cons _ _ => simp)
        have hbw := World.block_lt_of_cell? _ _ (Below.keeps hB _ _ hc0)
        clear hx hc0 h0
        have HJn := hid (Tryd.strings_Join b off cap l (ByteArray.mk #[32]) wr (fun j y hy => by
          obtain ⟨x, b', off', hx', e, hc⟩ := HCell.out j (List.getElem?_eq_some_iff.1 hy).1
          cases e
          rw [hy] at hx'; cases hx'
          exact Below.keeps hB _ _ hc) hbw (by omega) hlc (HJ.out hI.out))
        go_wp2_with (go_at_call 9; refine HJn.out.mono ?_; rintro e w2 ⟨rfl, hB2⟩)
        go_ret2
        exact ⟨by rw [hS.out, hI.out]; rfl, below_tr hB (by assumption)⟩
theorem print_any (v : Value) (l : List ByteArray) (w : World) (hr : RdS w v l) (hz : Szs l) (hj : (Lib.join (l.map (·.data.toList)) [32]).length ≤ 140737488355328) :
    Calls Tryd.prog 6 #[v] w fun e w' => e = .returned (.tuple #[.string (printS l), .int .i64 (printI l)]) ∧ Below w.heap.size w w' := print_any2 v l w hr hz fun _ => hj
end Go.Proofs.YtigaflmhdbgmdaaDoor
