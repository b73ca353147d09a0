/-
  charset.Fold.
-/
import Derived.Test.YtalpgilncohkbaaCls
import Derived.Test.YtalpgilncohkbaaWdh
import Derived.Laws.BytesArg
import Derived.Lib.FrozenHead
namespace Go.Proofs.Ytalpgilncohkbaa
open Go.RowKit

def foldC (c : UInt8) : UInt8 := if 65 ≤ c.toNat ∧ c.toNat ≤ 90 then UInt8.ofNat (c.toNat + 32) else c
def foldB (s : ByteArray) : ByteArray := ⟨⟨s.data.toList.map foldC⟩⟩
theorem foldC_up {c : UInt8} (h : 65 ≤ c.toNat ∧ c.toNat ≤ 90) : ((foldC c).toNat : Int) = (c.toNat : Int) - 65 + 97 := by
  unfold foldC
  rw [if_pos h, UInt8.toNat_ofNat']
  omega
theorem foldC_not {c : UInt8} (h : ¬ (65 ≤ c.toNat ∧ c.toNat ≤ 90)) : foldC c = c := by unfold foldC; rw [if_neg h]
theorem foldB_list (s : ByteArray) : (foldB s).data.toList = s.data.toList.map foldC := rfl
theorem foldB_size (s : ByteArray) : (foldB s).size = s.size := by
  show (s.data.toList.map foldC).length = s.size
  rw [List.length_map]; rfl
/-- The bytes, of which the first k are folded. -/
structure FoB (s : ByteArray) (B k : Nat) (W : World) : Prop where
  row : ∃ cur fz, W.heap[B]? = some (.cells cur 5 fz) ∧ cur.size ≤ fz.1 ∧ s.size ≤ cur.size ∧ ∀ j c, s.data.toList[j]? = some c → cur[j]? = some (Value.int .u8 ((if j < k then foldC c else c).toNat : Int))
theorem FoB.cell {s : ByteArray} {B k : Nat} {W : World} (h : FoB s B k W) {j : Nat} {c : UInt8} (hc : s.data.toList[j]? = some c) : W.cell? ⟨B, j, none⟩ = some (.int .u8 ((if j < k then foldC c else c).toNat : Int)) := by
  obtain ⟨cur, fz, h1, _, _, h4⟩ := h.row
  rw [cell_of_row W B j cur _ fz h1]
  exact h4 j c hc
theorem FoB.frozen {s : ByteArray} {B k : Nat} {W : World} (h : FoB s B k W) {j : Nat} (hj : j < s.size) : W.frozen? ⟨B, j, none⟩ = false := by
  obtain ⟨cur, ⟨lo, hi⟩, h1, h2, h3, _⟩ := h.row
  simp only [World.frozen?, h1, Bool.and_eq_false_iff, decide_eq_false_iff_not]
  simp only at h2
  omega
theorem FoB.put {s : ByteArray} {B k : Nat} {W : World} (h : FoB s B k W) {c : UInt8} (hc : s.data.toList[k]? = some c) : FoB s B (k + 1) (W.setCell ⟨B, k, none⟩ (.int .u8 ((foldC c).toNat : Int))) := by
  obtain ⟨cur, fz, h1, h2, h3, h4⟩ := h.row
  have e : (W.setCell ⟨B, k, none⟩ (.int .u8 ((foldC c).toNat : Int))).heap[B]? = some (.cells (cur.setIfInBounds k (.int .u8 ((foldC c).toNat : Int))) 5 fz) := by
    rw [setCell_eq_setRow W B k cur _ fz _ h1]
    exact setRow_heap W B cur _ _ fz h1
  refine ⟨_, fz, e, by simpa using h2, by simpa using h3, fun j d hd => ?_⟩
  have hjs : j < cur.size := by have := (List.getElem?_eq_some_iff.1 hd).1; have e2 : s.data.toList.length = s.size := rfl; omega
  by_cases hj : j = k
  · subst hj
    rw [hd] at hc
    cases hc
    rw [Array.getElem?_setIfInBounds_self_of_lt hjs, if_pos (by omega)]
  · rw [Array.getElem?_setIfInBounds_ne (fun e => hj e.symm), h4 j d hd]
    by_cases hlt : j < k
    · rw [if_pos hlt, if_pos (by omega)]
    · rw [if_neg hlt, if_neg (by omega)]
theorem FoB.keep {s : ByteArray} {B k : Nat} {W : World} (h : FoB s B k W) {c : UInt8} (hc : s.data.toList[k]? = some c) (hn : foldC c = c) : FoB s B (k + 1) W := by
  obtain ⟨cur, fz, h1, h2, h3, h4⟩ := h.row
  refine ⟨cur, fz, h1, h2, h3, fun j d hd => ?_⟩
  rw [h4 j d hd]
  by_cases hj : j = k
  · subst hj
    rw [hd] at hc
    cases hc
    rw [if_neg (by omega), if_pos (by omega), hn]
  · by_cases hlt : j < k
    · rw [if_pos hlt, if_pos (by omega)]
    · rw [if_neg hlt, if_neg (by omega)]
theorem FoB.new (s : ByteArray) (w : World) : FoB s w.heap.size 0 (Lib.bytesWorld w 5 s) := by
  refine ⟨_, _, Lib.bytesWorld_at_new w _ s, Nat.le_refl _, ?_, fun j c hc => ?_⟩
  · unfold Lib.bytesCells
    rw [Array.size_append, Array.size_map]
    exact Nat.le_add_right _ _
  · have hj := (List.getElem?_eq_some_iff.1 hc).1
    have e2 : s.data.toList.length = s.size := rfl
    have h := Lib.bytesWorld_cell w 5 s j (by omega)
    rw [cell_of_row _ _ j _ _ _ (Lib.bytesWorld_at_new w _ s)] at h
    rw [h, List.getD_eq_getElem?_getD, hc]
    rfl
theorem fold_back (s : ByteArray) : strOfNums ((s.data.toList.map foldC).map fun c => (c.toNat : Int)) = foldB s := by
  unfold strOfNums foldB
  congr 1
  rw [List.map_map]
  have e : ((fun n : Int => UInt8.ofNat n.toNat) ∘ fun c : UInt8 => (c.toNat : Int)) = id := by
    funext c
    simp
  first
    | rw [e, List.map_id]
    | (simp only [e, List.map_id])

set_option maxRecDepth 100000 in
set_option maxHeartbeats 2000000 in
theorem fold_any (s : ByteArray) (w : World) (hs : s.size ≤ 1048576) :
    Calls Try.prog 69 #[.string s] w fun e w' => e = .returned (.string (foldB s)) ∧ Below w.heap.size w w' := by
  have hd : s.data.toList.length = s.size := rfl
  have hconv := Lib.run_convert_string_bytes w _ _ 5 s Try.underlying9 Try.underlying95 Try.underlying5
  have hcap : s.size ≤ grownCap w s.size 0 5 := grownCap_ge _ _ _ _
  have hcap2 := grownCap_le_maxLen w s.size 0 5 (by unfold maxLen; omega)
  have HF0 := hid (FoB.new s w)
  have HB0 : Hid (Below w.heap.size w (Lib.bytesWorld w 5 s)) := Lib.bytesWorld_below w 5 s
  generalize grownCap w s.size 0 5 = cap at *
  go_enter Try.func69, Try.ntmps69
  go_wp2
  generalize Lib.bytesWorld w 5 s = W1 at *
  go_loopw [10] (fun i wr => ∃ k : Nat, k ≤ s.size ∧ i = .int .i64 k ∧ Hid (FoB s w.heap.size k wr) ∧ Hid (Below w.heap.size w wr)) (fun i _ => s.size - (intOf i).toNat)
  case atStart => exact ⟨0, Nat.zero_le _, rfl, HF0.out, HB0.out⟩
  case round =>
    clear HF0 HB0 hconv
    obtain ⟨k, hk, rfl, HF, HB⟩ := hrel
    by_cases hlt : k < s.size
    · have hti : (k : Int) < (s.size : Int) := by omega
      have hk0 : (0 : Int) ≤ (k : Int) := by omega
      obtain ⟨c, hc⟩ : ∃ c, s.data.toList[k]? = some c := ⟨_, List.getElem?_eq_getElem (by omega)⟩
      have hcell := HF.out.cell hc
      rw [if_neg (Nat.lt_irrefl k)] at hcell
      have hfr := HF.out.frozen hlt
      have hu := byte_bd c
      have HCC := hid hc
      by_cases h1 : 65 ≤ c.toNat
      · have g1 : (65 : Int) ≤ (c.toNat : Int) := by omega
        by_cases h2 : c.toNat ≤ 90
        · have g2 : (c.toNat : Int) ≤ 90 := by omega
          have e1 : IntKind.u8.wrap ((c.toNat : Int) - 65) = (c.toNat : Int) - 65 := IntWalk.u8_in _ (by omega)
          have e2 : IntKind.u8.wrap ((c.toNat : Int) - 65 + 97) = (c.toNat : Int) - 65 + 97 := IntWalk.u8_in _ (by omega)
          have HP : Hid (FoB s w.heap.size (k + 1) (wr.setCell ⟨w.heap.size, k, none⟩ (.int .u8 ((c.toNat : Int) - 65 + 97)))) := by
            have h := HF.out.put hc
            rw [foldC_up ⟨h1, h2⟩] at h
            exact h
          clear hc
          go_wp2_with fail
          go_roundw
          case rel => exact ⟨k + 1, by omega, by go_num, HP.out, HB.out.setCell (p := ⟨w.heap.size, k, none⟩) (Nat.le_refl _) _⟩
          case measure => simp [intOf]; omega
        · have g2 : ¬ (c.toNat : Int) ≤ 90 := by omega
          have HP := hid (HF.out.keep hc (foldC_not (by omega)))
          clear hc
          go_wp2_with fail
          go_roundw
          case rel => exact ⟨k + 1, by omega, by go_num, HP.out, HB.out⟩
          case measure => simp [intOf]; omega
      · have g1 : ¬ (65 : Int) ≤ (c.toNat : Int) := by omega
        have HP := hid (HF.out.keep hc (foldC_not (by omega)))
        clear hc
        go_wp2_with fail
        go_roundw
        case rel => exact ⟨k + 1, by omega, by go_num, HP.out, HB.out⟩
        case measure => simp [intOf]; omega
    · obtain rfl : k = s.size := by omega
      have hti : ¬ (s.size : Int) < (s.size : Int) := by omega
      have hback := run_convert_bytes_arg (P := Try.prog) wr 95 5 Try.underlying95 Try.underlying5 w.heap.size 0 s.size cap ((s.data.toList.map foldC).map fun c => (c.toNat : Int)) (by simp) (fun i hi => by
        have hi2 : i < s.data.toList.length := by omega
        have h := HF.out.cell (List.getElem?_eq_getElem hi2)
        rw [if_pos hi] at h
        rw [Nat.zero_add, h, List.getD_eq_getElem?_getD, List.getElem?_map, List.getElem?_map, List.getElem?_eq_getElem hi2]
        rfl) 9 Try.underlying9
      rw [fold_back] at hback
      go_wp2_with fail
      go_ret
      exact ⟨rfl, HB.out⟩
end Go.Proofs.Ytalpgilncohkbaa
