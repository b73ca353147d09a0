/-
  charset.IsWord.
-/
import Derived.Test.YtalpgilncohkbaaChk
import Derived.Lib.AtoiErrMem
namespace Go.Proofs.Ytalpgilncohkbaa
open Go.RowKit

theorem ba_isE (l : ByteArray) : l.toList.isEmpty = decide (l.size = 0) := by
  by_cases h : l = ⟨#[]⟩
  · subst h; decide +kernel
  · have h1 : ¬ l.size = 0 := fun e => h (by cases l with | mk d => exact congrArg ByteArray.mk (Array.eq_empty_of_size_eq_zero e))
    have h2 := ba_beq l ⟨#[]⟩
    rw [show (⟨#[]⟩ : ByteArray).toList = [] by decide +kernel, decide_eq_false h] at h2
    rw [decide_eq_false h1]
    cases hl : l.toList with
    | nil => rw [hl] at h2; simp at h2
    | cons x r => rfl
abbrev RdY (W : World) (v : Value) (l : List Int) : Prop := Rd (Value.int .u8) W v l

set_option maxHeartbeats 400000 in
theorem indexFnB_any (K : Nat) (eK : ∀ args w, (callFunc K args).run Try.prog w = .ok (.enter K args) w) (p : Int → Bool) (v : Value) (l : List Int) (w : World) (hr : RdY w v l)
    (hC : ∀ (x : Int) (W' : World), x ∈ l → Below w.heap.size w W' → Calls Try.prog K #[.int .u8 x] W' fun e W'' => e = .returned (.bool (p x)) ∧ Below W'.heap.size W' W'') :
    Calls Try.prog 67 #[v, .func (.func K) #[] #[]] w fun e w' => e = .returned (.int .i64 (fIdx p l)) ∧ Below w.heap.size w w' := by
  obtain ⟨a, cap, rfl, hlc, hcm, hcell⟩ := hr.open
  have HCell := hid hcell; clear hcell
  have HC := hid hC; clear hC
  go_enter Try.func67, Try.ntmps67
  go_wp2
  go_loopw [8] (fun i wr => ∃ k : Nat, k ≤ l.length ∧ i = .int .i64 k ∧ Hid (∀ y ∈ l.take k, p y = false) ∧ Below w.heap.size w wr) (fun i _ => l.length - (intOf i).toNat)
  case atStart => exact ⟨0, Nat.zero_le _, rfl, by simp [Hid], Below.refl _ _⟩
  case round =>
    rename_i wr
    obtain ⟨k, hk, rfl, HK, hB⟩ := hrel
    by_cases hlt : k < l.length
    · obtain ⟨x, b, off, hx, rfl, hc0⟩ := HCell.out k hlt
      have hc := Below.keeps hB _ _ hc0
      clear hc0
      have HX := hid hx; clear hx
      have HM := hid (List.mem_of_getElem? HX.out)
      have HCx := hid (HC.out x wr HM.out hB)
      by_cases hp : p x = true
      · have HP := hid hp
        rw [hp] at HCx
        clear hp
        go_wp2_with fail
        refine HCx.out.mono ?_
        rintro e w' ⟨rfl, hB2⟩
        go_wp2
        go_ret
        exact ⟨ret_int (fIdx_hit _ l k x HK.out HX.out HP.out).symm, below_tr hB hB2⟩
      · have hp' : p x = false := by simpa using hp
        have HP := hid hp'
        rw [hp'] at HCx
        clear hp hp'
        go_wp2_with fail
        refine HCx.out.mono ?_
        rintro e w' ⟨rfl, hB2⟩
        go_wp2
        go_roundw
        case rel => exact ⟨k + 1, by omega, by go_num, take_none HK.out HX.out HP.out, below_tr hB hB2⟩
        case measure => simp [intOf]; omega
    · go_wp2
      go_ret
      refine ⟨ret_int ?_, hB⟩
      have h := HK.out
      rw [List.take_of_length_le (by omega)] at h
      exact (fIdx_none _ l h).symm

theorem containsFnB_any (K : Nat) (eK : ∀ args w, (callFunc K args).run Try.prog w = .ok (.enter K args) w) (p : Int → Bool) (v : Value) (l : List Int) (w : World) (hr : RdY w v l)
    (hC : ∀ (x : Int) (W' : World), x ∈ l → Below w.heap.size w W' → Calls Try.prog K #[.int .u8 x] W' fun e W'' => e = .returned (.bool (p x)) ∧ Below W'.heap.size W' W'') :
    Calls Try.prog 49 #[v, .func (.func K) #[] #[]] w fun e w' => e = .returned (.bool (l.any p)) ∧ Below w.heap.size w w' := by
  have HI := indexFnB_any K eK p v l w hr hC
  have HF := hid (fIdx_pos p l)
  generalize fIdx p l = r at *
  have H2 := hid HI; clear HI hC
  go_enter Try.func49, Try.ntmps49
  go_wp2_with (go_at_call 67; refine H2.out.mono ?_; rintro e w' ⟨rfl, hB⟩)
  go_ret
  exact ⟨ret_bool HF.out, hB⟩

def sepB (x : Int) : Bool := decide (kindI x = 5) || decide (kindI x = 6)
set_option maxHeartbeats 400000 in
theorem isWord1_any (x : Int) (h0 : 0 ≤ x) (h1 : x ≤ 255) (w : World) :
    Calls Try.prog 50 #[.int .u8 x] w fun e w' => e = .returned (.bool (sepB x)) ∧ w = w' := by
  have HK := fun w' => hid (kind_any x h0 h1 w')
  have HS : Hid (sepB x = (decide (kindI x = 5) || decide (kindI x = 6))) := rfl
  generalize kindI x = kk at *
  by_cases h5 : kk = 5
  · subst h5
    go_enter Try.func50, Try.ntmps50
    go_wp2_with (go_at_call 48; refine (HK _).out.mono ?_; rintro e w' ⟨rfl, rfl⟩)
    go_ret
    exact ⟨ret_bool (by rw [HS.out]; rfl), rfl⟩
  · have b5 := beq_eq_false_iff_ne.2 h5
    have HD := hid (decide_eq_false h5)
    clear h5
    go_enter Try.func50, Try.ntmps50
    go_wp2_with (go_at_call 48; refine (HK _).out.mono ?_; rintro e w' ⟨rfl, rfl⟩)
    go_ret
    exact ⟨ret_bool (by rw [HS.out, HD.out, Bool.false_or]; rfl), rfl⟩

def bytesL (s : ByteArray) : List Int := s.data.toList.map fun c => (c.toNat : Int)
def firstK (s : ByteArray) : Int := match s.data.toList with | [] => 0 | c :: _ => kindI c.toNat
def isWordB (s : ByteArray) : Bool := decide (s.size ≠ 0) && decide (s.size ≤ 64) && chkB s && (decide (firstK s = 1) || decide (firstK s = 3)) && !((bytesL s).any sepB)

theorem firstK_at (s : ByteArray) (h : 0 < s.size) : firstK s = kindI s[0].toNat := by
  have h1 := byte_at s 0 h
  unfold firstK
  cases hl : s.data.toList with
  | nil => rw [hl] at h1; simp at h1
  | cons c r =>
    rw [hl] at h1
    simp at h1
    rw [h1]

set_option maxRecDepth 100000 in
set_option maxHeartbeats 1000000 in
theorem isWord_any (s : ByteArray) (w : World) (hs : s.size ≤ 65536) :
    Calls Try.prog 39 #[.string s] w fun e w' => e = .returned (.bool (isWordB s)) ∧ Below w.heap.size w w' := by
  have hE := ba_isE s
  have HI : Hid (isWordB s = (decide (s.size ≠ 0) && decide (s.size ≤ 64) && chkB s && (decide (firstK s = 1) || decide (firstK s = 3)) && !((bytesL s).any sepB))) := rfl
  by_cases h0 : s.size = 0
  · rw [decide_eq_true h0] at hE
    go_enter Try.func39, Try.ntmps39
    go_wp2
    go_ret
    exact ⟨ret_bool (by rw [HI.out, decide_eq_false (by simp [h0])]; rfl), Below.refl _ _⟩
  rw [decide_eq_false h0] at hE
  by_cases h64 : 64 < s.size
  · have hi : (64 : Int) < (s.size : Int) := by omega
    go_enter Try.func39, Try.ntmps39
    go_wp2
    go_ret
    exact ⟨ret_bool (by rw [HI.out, decide_eq_false (p := s.size ≤ 64) (by omega)]; simp), Below.refl _ _⟩
  have hi : ¬ (64 : Int) < (s.size : Int) := by omega
  have HC := hid (chk_any s w (by omega))
  have hfk := firstK_at s (by omega)
  cases hc : chkB s with
  | false =>
    rw [chkI_f hc] at HC
    have HI2 : Hid (isWordB s = false) := by unfold Hid; rw [HI.out, hc]; simp
    clear hc HI hfk
    go_enter Try.func39, Try.ntmps39
    go_wp2_with fail
    refine HC.out.mono ?_
    rintro e w1 ⟨rfl, hB⟩
    go_wp2
    go_ret
    exact ⟨ret_bool HI2.out.symm, hB⟩
  | true =>
    rw [chkI_t hc] at HC
    have HI2 : Hid (isWordB s = ((decide (firstK s = 1) || decide (firstK s = 3)) && !((bytesL s).any sepB))) := by unfold Hid; rw [HI.out, hc, decide_eq_true (p := s.size ≤ 64) (by omega), decide_eq_true h0]; simp
    clear hc HI
    have hu := byte_bd s[0]
    have HK := fun w' => hid (kind_any (s[0].toNat : Int) hu.1 hu.2 w')
    have hsi : (0 : Int) < (s.size : Int) := by omega
    rw [← hfk] at HK
    by_cases h13 : firstK s = 1 ∨ firstK s = 3
    · have HI3 : Hid (isWordB s = !((bytesL s).any sepB)) := by
        unfold Hid
        rw [HI2.out]
        rcases h13 with h | h <;> rw [h] <;> simp
      clear HI2 hfk
      have HY : Hid (∀ w' : World, ∃ a cap, ((convert 9 95 (.string s)).run Try.prog w' = .ok (.slice a s.size cap) (Lib.bytesWorld w' 5 s)) ∧ RdY (Lib.bytesWorld w' 5 s) (.slice a s.size cap) (bytesL s)) := by
        intro w'
        refine ⟨_, _, Lib.run_convert_string_bytes w' _ _ 5 s Try.underlying9 Try.underlying95 Try.underlying5, ?_⟩
        refine ⟨_, _, by rw [show (bytesL s).length = s.size by simp [bytesL]], by rw [show (bytesL s).length = s.size by simp [bytesL]]; exact grownCap_ge _ _ _ _, grownCap_le_maxLen _ _ _ _ (by unfold maxLen; omega), ?_⟩
        intro i x hx
        obtain ⟨hil, hxe⟩ := List.getElem?_eq_some_iff.1 hx
        have hil2 : i < s.size := by simpa [bytesL] using hil
        refine ⟨_, _, rfl, ?_⟩
        rw [Nat.zero_add, Lib.bytesWorld_cell w' _ s i hil2]
        have : x = ((s.data.toList.getD i 0).toNat : Int) := by
          rw [← hxe]
          simp [bytesL, List.getD_eq_getElem?_getD, hil2]
        rw [this]
      have HCF : Hid (∀ (w' : World) (v : Value), RdY w' v (bytesL s) → Calls Try.prog 49 #[v, .func (.func 50) #[] #[]] w' fun e w'' => e = .returned (.bool ((bytesL s).any sepB)) ∧ Below w'.heap.size w' w'') := by
        intro w' v hr
        refine containsFnB_any 50 (enters_of Try.func50 (by kernel_rfl) rfl) sepB v (bytesL s) w' hr ?_
        intro x W' hx _
        obtain ⟨c, _, rfl⟩ := List.mem_map.1 hx
        have hu := byte_bd c
        exact (isWord1_any _ hu.1 hu.2 W').mono fun e w'' ⟨h1, h2⟩ => ⟨h1, by rw [h2]; exact Below.refl _ _⟩
      generalize (bytesL s).any sepB = bs at *
      rcases h13 with h | h
      · rw [h] at HK
        clear h
        go_enter Try.func39, Try.ntmps39
        go_wp2_with fail
        refine HC.out.mono ?_
        rintro e w1 ⟨rfl, hB⟩
        obtain ⟨a, cap, hcv, hry⟩ := HY.out w1
        go_wp2_with fail
        refine (HK _).out.mono ?_
        rintro e w2 ⟨rfl, rfl⟩
        go_wp2_with fail
        have HB2 := hid (below_tr hB (Lib.bytesWorld_below w1 5 s))
        have HRY := hid hry
        clear hry hcv
        generalize Lib.bytesWorld w1 5 s = w3 at *
        refine (HCF.out _ _ HRY.out).mono ?_
        rintro e w4 ⟨rfl, hB4⟩
        go_wp2
        go_ret
        exact ⟨ret_bool HI3.out.symm, below_tr HB2.out hB4⟩
      · rw [h] at HK
        clear h
        go_enter Try.func39, Try.ntmps39
        go_wp2_with fail
        refine HC.out.mono ?_
        rintro e w1 ⟨rfl, hB⟩
        obtain ⟨a, cap, hcv, hry⟩ := HY.out w1
        go_wp2_with fail
        refine (HK _).out.mono ?_
        rintro e w2 ⟨rfl, rfl⟩
        go_wp2_with fail
        have HB2 := hid (below_tr hB (Lib.bytesWorld_below w1 5 s))
        have HRY := hid hry
        clear hry hcv
        generalize Lib.bytesWorld w1 5 s = w3 at *
        refine (HCF.out _ _ HRY.out).mono ?_
        rintro e w4 ⟨rfl, hB4⟩
        go_wp2
        go_ret
        exact ⟨ret_bool HI3.out.symm, below_tr HB2.out hB4⟩
    · have h1 := fun h => h13 (.inl h)
      have h3 := fun h => h13 (.inr h)
      have b1 : (firstK s != 1) = true := by simpa using h1
      have b3 : (firstK s != 3) = true := by simpa using h3
      have HI3 : Hid (isWordB s = false) := by unfold Hid; rw [HI2.out, decide_eq_false h1, decide_eq_false h3]; rfl
      generalize firstK s = kk at *
      clear h13 h1 h3 HI2 hfk
      go_enter Try.func39, Try.ntmps39
      go_wp2_with fail
      refine HC.out.mono ?_
      rintro e w1 ⟨rfl, hB⟩
      go_wp2_with fail
      refine (HK _).out.mono ?_
      rintro e w2 ⟨rfl, rfl⟩
      go_wp2
      go_ret
      exact ⟨ret_bool HI3.out.symm, hB⟩
end Go.Proofs.Ytalpgilncohkbaa
