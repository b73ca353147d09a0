/-
  Contracts of the library's functions on slices, at this program's element types.
-/
import Derived.Test.YtalpgilncohkbaaCharset
import Derived.Test.YtalpgilncohkbaaJ01
import Derived.Test.YtalpgilncohkbaaPl
namespace Go.Proofs.Ytalpgilncohkbaa
open Go.RowKit

set_option maxHeartbeats 400000 in
theorem indexI_any (v : Value) (l : List Int) (s : Int) (w : World) (hr : RdI w v l) :
    Calls Try.prog 22 #[v, .int .i64 s] w fun e w' => e = .returned (.int .i64 (fIdx (fun x => decide (s = x)) l)) ∧ w = w' := by
  obtain ⟨a, cap, rfl, hlc, hcm, hcell⟩ := hr.open
  have HCell := hid hcell; clear hcell
  go_enter Try.func22, Try.ntmps22
  go_wp2
  go_loop [8] (fun i => ∃ k : Nat, k ≤ l.length ∧ i = .int .i64 k ∧ Hid (∀ y ∈ l.take k, decide (s = y) = false)) (fun i => l.length - (intOf i).toNat)
  case atStart => exact ⟨0, Nat.zero_le _, rfl, by simp [Hid]⟩
  case round =>
    obtain ⟨k, hk, rfl, HK⟩ := hrel
    by_cases hlt : k < l.length
    · obtain ⟨x, b, off, hx, rfl, hc⟩ := HCell.out k hlt
      have HX := hid hx; clear hx
      by_cases he : s = x
      · have hb' : (s == x) = true := beq_iff_eq.2 he
        have HE := hid he; clear he
        go_wp2
        go_ret
        exact ⟨ret_int (fIdx_hit _ l k x HK.out HX.out (decide_eq_true HE.out)).symm, rfl⟩
      · have hb' : (s == x) = false := beq_eq_false_iff_ne.2 he
        have HE := hid he; clear he
        go_wp2
        go_round
        case rel => exact ⟨k + 1, by omega, by go_num, take_none HK.out HX.out (decide_eq_false HE.out)⟩
        case measure => simp [intOf]; omega
    · go_wp2
      go_ret
      refine ⟨ret_int ?_, rfl⟩
      have h := HK.out
      rw [List.take_of_length_le (by omega)] at h
      exact (fIdx_none _ l h).symm

theorem containsI_any (v : Value) (l : List Int) (s : Int) (w : World) (hr : RdI w v l) :
    Calls Try.prog 9 #[v, .int .i64 s] w fun e w' => e = .returned (.bool (l.any fun x => decide (s = x))) ∧ w = w' := by
  have HI := fun w' (h : RdI w' v l) => indexI_any v l s w' h
  have HF := hid (fIdx_pos (fun x => decide (s = x)) l)
  generalize fIdx (fun x => decide (s = x)) l = r at *
  have H2 := hid HI; clear HI
  go_enter Try.func9, Try.ntmps9
  go_wp2_with (go_at_call 22; refine (H2.out _ hr).mono ?_; rintro e w' ⟨rfl, rfl⟩)
  go_ret
  exact ⟨ret_bool HF.out, rfl⟩

set_option maxHeartbeats 400000 in
theorem equalI_any (v u : Value) (l m : List Int) (w : World) (hr : RdI w v l) (hs : RdI w u m) :
    Calls Try.prog 17 #[v, u] w fun e w' => e = .returned (.bool (decide (l = m))) ∧ Below w.heap.size w w' := by
  obtain ⟨a, cap, rfl, hlc, hcm, hcell⟩ := hr.open
  obtain ⟨a2, cap2, rfl, hlc2, hcm2, hcell2⟩ := hs.open
  have HCell := hid hcell; clear hcell
  have HCell2 := hid hcell2; clear hcell2
  by_cases hlen : l.length = m.length
  · have b1 : ((l.length : Int) != (m.length : Int)) = false := by simp [hlen]
    have HL := hid hlen; clear hlen
    go_enter Try.func17, Try.ntmps17
    go_wp2
    go_loopw [13] (fun i wr => ∃ k : Nat, k ≤ l.length ∧ i = .int .i64 k ∧ Hid (l.take k = m.take k) ∧ Below w.heap.size w wr) (fun i _ => l.length - (intOf i).toNat)
    case atStart => exact ⟨0, Nat.zero_le _, rfl, by simp [Hid], Below.refl _ _⟩
    case round =>
      rename_i wr
      obtain ⟨k, hk, rfl, HK, hB⟩ := hrel
      by_cases hlt : k < l.length
      · obtain ⟨x, b, off, hx, rfl, hc0⟩ := HCell.out k hlt
        obtain ⟨y, b2, off2, hy, rfl, hd0⟩ := HCell2.out k (by have := HL.out; omega)
        have hc := Below.keeps hB _ _ hc0
        have hd := Below.keeps hB _ _ hd0
        clear hc0 hd0
        have HX := hid hx; clear hx
        have HY := hid hy; clear hy
        have hlt2 : k < m.length := by have := HL.out; omega
        by_cases he : x = y
        · have hb' : (x != y) = false := by simp [he]
          have HE := hid he; clear he
          go_wp2
          go_quiet (fail)
          go_wp2
          go_roundw
          case rel => exact ⟨k + 1, by omega, by go_num, take_eq_step HK.out HX.out HY.out HE.out, below_drewN hB _⟩
          case measure => simp [intOf]; omega
        · have hb' : (x != y) = true := by simpa using he
          have HE := hid he; clear he
          go_wp2
          go_quiet (fail)
          go_wp2
          go_ret
          exact ⟨ret_bool (decide_eq_false (ne_of_at HX.out HY.out HE.out)).symm, below_drewN hB _⟩
      · go_wp2
        go_ret
        refine ⟨ret_bool ?_, hB⟩
        have h := HK.out
        rw [List.take_of_length_le (by omega), List.take_of_length_le (by have := HL.out; omega)] at h
        exact (decide_eq_true h).symm
  · have b1 : ((l.length : Int) != (m.length : Int)) = true := by simpa using (fun e => hlen (Int.ofNat.inj e))
    go_enter Try.func17, Try.ntmps17
    go_wp2
    go_ret
    exact ⟨ret_bool (decide_eq_false (fun e => hlen (by rw [e]))).symm, Below.refl _ _⟩
set_option maxHeartbeats 400000 in
theorem equalS_any (v u : Value) (l m : List ByteArray) (w : World) (hr : RdS w v l) (hs : RdS w u m) :
    Calls Try.prog 71 #[v, u] w fun e w' => e = .returned (.bool (decide (l = m))) ∧ Below w.heap.size w w' := by
  obtain ⟨a, cap, rfl, hlc, hcm, hcell⟩ := hr.open
  obtain ⟨a2, cap2, rfl, hlc2, hcm2, hcell2⟩ := hs.open
  have HCell := hid hcell; clear hcell
  have HCell2 := hid hcell2; clear hcell2
  by_cases hlen : l.length = m.length
  · have b1 : ((l.length : Int) != (m.length : Int)) = false := by simp [hlen]
    have HL := hid hlen; clear hlen
    go_enter Try.func71, Try.ntmps71
    go_wp2
    go_loopw [13] (fun i wr => ∃ k : Nat, k ≤ l.length ∧ i = .int .i64 k ∧ Hid (l.take k = m.take k) ∧ Below w.heap.size w wr) (fun i _ => l.length - (intOf i).toNat)
    case atStart => exact ⟨0, Nat.zero_le _, rfl, by simp [Hid], Below.refl _ _⟩
    case round =>
      rename_i wr
      obtain ⟨k, hk, rfl, HK, hB⟩ := hrel
      by_cases hlt : k < l.length
      · obtain ⟨x, b, off, hx, rfl, hc0⟩ := HCell.out k hlt
        obtain ⟨y, b2, off2, hy, rfl, hd0⟩ := HCell2.out k (by have := HL.out; omega)
        have hc := Below.keeps hB _ _ hc0
        have hd := Below.keeps hB _ _ hd0
        clear hc0 hd0
        have HX := hid hx; clear hx
        have HY := hid hy; clear hy
        have hlt2 : k < m.length := by have := HL.out; omega
        by_cases he : x = y
        · have hb' : (!x.toList == y.toList) = false := by rw [ba_beq]; simp [he]
          have HE := hid he; clear he
          go_wp2
          go_quiet (fail)
          go_wp2
          go_roundw
          case rel => exact ⟨k + 1, by omega, by go_num, take_eq_step HK.out HX.out HY.out HE.out, below_drewN hB _⟩
          case measure => simp [intOf]; omega
        · have hb' : (!x.toList == y.toList) = true := by rw [ba_beq]; simpa using he
          have HE := hid he; clear he
          go_wp2
          go_quiet (fail)
          go_wp2
          go_ret
          exact ⟨ret_bool (decide_eq_false (ne_of_at HX.out HY.out HE.out)).symm, below_drewN hB _⟩
      · go_wp2
        go_ret
        refine ⟨ret_bool ?_, hB⟩
        have h := HK.out
        rw [List.take_of_length_le (by omega), List.take_of_length_le (by have := HL.out; omega)] at h
        exact (decide_eq_true h).symm
  · have b1 : ((l.length : Int) != (m.length : Int)) = true := by simpa using (fun e => hlen (Int.ofNat.inj e))
    go_enter Try.func71, Try.ntmps71
    go_wp2
    go_ret
    exact ⟨ret_bool (decide_eq_false (fun e => hlen (by rw [e]))).symm, Below.refl _ _⟩

def cmpI (a b : Int) : Int := if a < b then -1 else if b < a then 1 else 0

/-- lexicographic comparison -/
def lexI : List Int → List Int → Int
  | [], [] => 0
  | [], _ :: _ => -1
  | _ :: _, [] => 1
  | x :: l, y :: m => if cmpI x y = 0 then lexI l m else cmpI x y

theorem lexI_drop (l m : List Int) (k : Nat) (x y : Int) (hx : l[k]? = some x) (hy : m[k]? = some y) : lexI (l.drop k) (m.drop k) = if cmpI x y = 0 then lexI (l.drop (k + 1)) (m.drop (k + 1)) else cmpI x y := by
  obtain ⟨hk, rfl⟩ := List.getElem?_eq_some_iff.1 hx
  obtain ⟨hk2, rfl⟩ := List.getElem?_eq_some_iff.1 hy
  rw [List.drop_eq_getElem_cons hk, List.drop_eq_getElem_cons hk2]; rfl
theorem lexI_short (l m : List Int) (k : Nat) (hk : k < l.length) (hk2 : m.length ≤ k) : lexI (l.drop k) (m.drop k) = 1 := by
  rw [List.drop_eq_getElem_cons hk, List.drop_of_length_le hk2]; rfl
theorem lexI_end (l m : List Int) (k : Nat) (hk : l.length ≤ k) : lexI (l.drop k) (m.drop k) = if k < m.length then -1 else 0 := by
  rw [List.drop_of_length_le hk]
  split
  · next h => rw [List.drop_eq_getElem_cons h]; rfl
  · next h => rw [List.drop_of_length_le (by omega)]; rfl

def sortedB : List Int → Bool
  | x :: y :: l => decide (x ≤ y) && sortedB (y :: l)
  | _ => true

theorem sortedB_iff (l : List Int) : sortedB l = true ↔ ∀ (k : Nat) (x y : Int), l[k]? = some x → l[k + 1]? = some y → x ≤ y := by
  induction l with
  | nil => simp [sortedB]
  | cons a l ih =>
    cases l with
    | nil => simp [sortedB]
    | cons b l =>
      simp only [sortedB, Bool.and_eq_true, decide_eq_true_eq, ih]
      constructor
      · rintro ⟨h1, h2⟩ k x y hx hy
        cases k with
        | zero => simp at hx hy; omega
        | succ k => exact h2 k x y (by simpa using hx) (by simpa using hy)
      · intro h
        exact ⟨h 0 a b rfl rfl, fun k x y hx hy => h (k + 1) x y (by simpa using hx) (by simpa using hy)⟩

end Go.Proofs.Ytalpgilncohkbaa
