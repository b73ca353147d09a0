/-
  slices.ContainsFunc over strings; two rows of numbers that grow.
-/
import Derived.Test.YtlneimjenjpbnaaDoorAwk51
import Derived.Test.YtlneimjenjpbnaaDoorNoteF
import Derived.Test.YtlneimjenjpbnaaDoorPvf
import Derived.Test.YtlneimjenjpbnaaDoorPen
import Derived.Test.YtlneimjenjpbnaaDoorPpt
import Derived.Test.YtlneimjenjpbnaaDoorJ03
namespace Go.Proofs.YtlneimjenjpbnaaDoor
open Go.RowKit

set_option maxHeartbeats 400000 in
theorem indexFuncS_any (K : Nat) (eK : ∀ args w, (callFunc K args).run Tryd.prog w = .ok (.enter K args) w) (p : ByteArray → Bool) (v : Value) (l : List ByteArray) (w : World) (hr : RdS w v l)
    (hC : ∀ (x : ByteArray) (W' : World), x ∈ l → Calls Tryd.prog K #[.string x] W' fun e W'' => e = .returned (.bool (p x)) ∧ W' = W'') :
    Calls Tryd.prog 16 #[v, .func (.func K) #[] #[]] w fun e w' => e = .returned (.int .i64 (fIdx p l)) ∧ w = w' := by
  obtain ⟨a, cap, rfl, hlc, hcm, hcell⟩ := hr.open
  have HCell := hid hcell; clear hcell
  have HC := hid hC; clear hC
  go_enter Tryd.func16, Tryd.ntmps16
  go_wp2
  go_loop [8] (fun i => ∃ k : Nat, k ≤ l.length ∧ i = .int .i64 k ∧ Hid (∀ y ∈ l.take k, p y = false)) (fun i => l.length - (intOf i).toNat)
  case atStart => exact ⟨0, Nat.zero_le _, rfl, by simp [Hid]⟩
  case round =>
    obtain ⟨k, hk, rfl, HK⟩ := hrel
    by_cases hlt : k < l.length
    · obtain ⟨x, b, off, hx, rfl, hc⟩ := HCell.out k hlt
      have HX := hid hx; clear hx
      have HM := hid (List.mem_of_getElem? HX.out)
      by_cases hp : p x = true
      · have HP := hid hp
        go_wp2_with (refine (HC.out _ _ HM.out).mono ?_; rintro e w' ⟨rfl, rfl⟩)
        go_ret
        exact ⟨ret_int (fIdx_hit _ l k x HK.out HX.out HP.out).symm, rfl⟩
      · have hp' : p x = false := by simpa using hp
        have HP := hid hp'
        clear hp
        go_wp2_with (refine (HC.out _ _ HM.out).mono ?_; rintro e w' ⟨rfl, rfl⟩)
        go_round
        case rel => exact ⟨k + 1, by omega, by go_num, take_none HK.out HX.out HP.out⟩
        case measure => simp [intOf]; omega
    · go_wp2
      go_ret
      refine ⟨ret_int ?_, rfl⟩
      have h := HK.out
      rw [List.take_of_length_le (by omega)] at h
      exact (fIdx_none _ l h).symm

theorem containsFuncS_any (K : Nat) (eK : ∀ args w, (callFunc K args).run Tryd.prog w = .ok (.enter K args) w) (p : ByteArray → Bool) (v : Value) (l : List ByteArray) (w : World) (hr : RdS w v l)
    (hC : ∀ (x : ByteArray) (W' : World), x ∈ l → Calls Tryd.prog K #[.string x] W' fun e W'' => e = .returned (.bool (p x)) ∧ W' = W'') :
    Calls Tryd.prog 4 #[v, .func (.func K) #[] #[]] w fun e w' => e = .returned (.bool (l.any p)) ∧ w = w' := by
  have HI := indexFuncS_any K eK p v l w hr hC
  have HF := hid (fIdx_pos p l)
  generalize fIdx p l = r at *
  have H2 := hid HI; clear HI hC
  go_enter Tryd.func4, Tryd.ntmps4
  go_wp2_with (go_at_call 16; refine H2.out.mono ?_; rintro e w' ⟨rfl, rfl⟩)
  go_ret
  exact ⟨ret_bool HF.out, rfl⟩
theorem tpn1_any (x : ByteArray) (w : World) (hx : x.size ≤ maxLen) : Calls Tryd.prog 5 #[.string x] w fun e w' => e = .returned (.bool (decide (80 < x.size))) ∧ w = w' := by
  unfold maxLen at hx
  by_cases h : 80 < x.size
  · have h1 : (80 : Int) < (x.size : Int) := by omega
    have HV : Hid (decide (80 < x.size) = true) := decide_eq_true h
    go_enter Tryd.func5, Tryd.ntmps5
    go_wp2
    go_ret
    exact ⟨by first | rfl | (rw [HV.out]; rfl), rfl⟩
  · have h1 : ¬ (80 : Int) < (x.size : Int) := by omega
    have HV : Hid (decide (80 < x.size) = false) := decide_eq_false h
    go_enter Tryd.func5, Tryd.ntmps5
    go_wp2
    go_ret
    exact ⟨by first | rfl | (rw [HV.out]; rfl), rfl⟩
/-- Two rows of numbers of the call's own, apart. -/
structure TwI (W : World) (base : Nat) (v u : Value) (L M : List Int) : Prop where
  o1 : W.ownsRow base 3 1 v L.length (L.map (Value.int .i64))
  o2 : W.ownsRow base 3 1 u M.length (M.map (Value.int .i64))
  ap : v.ownBlock = none ∨ v.ownBlock ≠ u.ownBlock
theorem TwI.nil (W : World) (base : Nat) : TwI W base (.slice none 0 0) (.slice none 0 0) [] [] := ⟨World.ownsRow_nil _ _ _ _, World.ownsRow_nil _ _ _ _, .inl rfl⟩
theorem TwI.push1 {W W' : World} {base g cap : Nat} {v u : Value} {L M : List Int} (h : TwI W base v u L M) (x : Int) (ho : W'.ownsRow base 3 1 (.slice (some ⟨g, 0, none⟩) (L.length + 1) cap) (L.length + 1) (L.map (Value.int .i64) ++ [.int .i64 x])) (hg : W.grownBy W' v.ownBlock) (hat : v.ownBlock = some g ∨ W.heap.size < g) :
    TwI W' base (.slice (some ⟨g, 0, none⟩) (L.length + 1) cap) u (L ++ [x]) M := by
  refine ⟨by rw [List.length_append, List.map_append]; exact ho, h.o2.kept hg ?_, .inr ?_⟩
  · rcases h.ap with e | e
    · rw [e]
      cases hu : u.ownBlock with
      | none => exact .inl rfl
      | some k => exact .inr (by simp)
    · exact .inr fun e2 => e e2.symm
  · intro e
    rcases hat with h1 | h1
    · rcases h.ap with e2 | e2
      · rw [e2] at h1; cases h1
      · exact e2 (by rw [h1]; exact e)
    · have := h.o2.lt g e.symm
      omega
theorem TwI.push2 {W W' : World} {base g cap : Nat} {v u : Value} {L M : List Int} (h : TwI W base v u L M) (x : Int) (ho : W'.ownsRow base 3 1 (.slice (some ⟨g, 0, none⟩) (M.length + 1) cap) (M.length + 1) (M.map (Value.int .i64) ++ [.int .i64 x])) (hg : W.grownBy W' u.ownBlock) (hat : u.ownBlock = some g ∨ W.heap.size < g) :
    TwI W' base v (.slice (some ⟨g, 0, none⟩) (M.length + 1) cap) L (M ++ [x]) := by
  refine ⟨h.o1.kept hg ?_, by rw [List.length_append, List.map_append]; exact ho, ?_⟩
  · cases hv : v.ownBlock with
    | none => exact .inl rfl
    | some k =>
      right
      rcases h.ap with e | e
      · rw [e] at hv; cases hv
      · rw [← hv]; exact e
  · cases hv : v.ownBlock with
    | none => exact .inl rfl
    | some k =>
      right
      intro e
      have e3 : k = g := by cases e; rfl
      rcases hat with h1 | h1
      · rcases h.ap with e2 | e2
        · rw [e2] at hv; cases hv
        · exact e2 (by rw [hv, h1, e3])
      · have := h.o1.lt k hv
        omega
theorem TwI.below {W W' : World} {base : Nat} {v u : Value} {L M : List Int} (h : TwI W base v u L M) (hb : Below W.heap.size W W') : TwI W' base v u L M := ⟨own_belowX h.o1 hb, own_belowX h.o2 hb, h.ap⟩
theorem TwI.rd1 {W : World} {base : Nat} {v u : Value} {L M : List Int} (h : TwI W base v u L M) : RdI W v L := Rd.of_own (enc := Value.int .i64) h.o1
theorem TwI.rd2 {W : World} {base : Nat} {v u : Value} {L M : List Int} (h : TwI W base v u L M) : RdI W u M := Rd.of_own (enc := Value.int .i64) h.o2
end Go.Proofs.YtlneimjenjpbnaaDoor
