/-
  slices.ContainsFunc with a function that may lay blocks; charset.IsWord, lemma.word, lemma.check.
-/
import Derived.Test.YtjhdeoniafahbaaGreatDoorChk
import Derived.Test.YtjhdeoniafahbaaGreatDoorJ03
import Derived.Test.YtjhdeoniafahbaaGreatDoorOccI
namespace Go.Proofs.YtjhdeoniafahbaaGreatDoor
open Go.RowKit

abbrev RdY (W : World) (v : Value) (l : List Int) : Prop := Rd (Value.int .u8) W v l

set_option maxHeartbeats 400000 in
theorem indexFnS_any (K : Nat) (eK : ∀ args w, (callFunc K args).run Tryz.prog w = .ok (.enter K args) w) (p : ByteArray → Bool) (v : Value) (l : List ByteArray) (w : World) (hr : RdS w v l)
    (hC : ∀ (x : ByteArray) (W' : World), x ∈ l → Below w.heap.size w W' → Calls Tryz.prog K #[.string x] W' fun e W'' => e = .returned (.bool (p x)) ∧ Below W'.heap.size W' W'') :
    Calls Tryz.prog 96 #[v, .func (.func K) #[] #[]] w fun e w' => e = .returned (.int .i64 (fIdx p l)) ∧ Below w.heap.size w w' := by
  obtain ⟨a, cap, rfl, hlc, hcm, hcell⟩ := hr.open
  have HCell := hid hcell; clear hcell
  have HC := hid hC; clear hC
  go_enter Tryz.func96, Tryz.ntmps96
  go_wp2
  go_loopw [8] (fun i wr => ∃ k : Nat, k ≤ l.length ∧ i = .int .i64 k ∧ Hid (∀ y ∈ l.take k, p y = false) ∧ Below w.heap.size w wr) (fun i _ => l.length - (intOf i).toNat)
  case atStart => exact ⟨0, Nat.zero_le _, rfl, by simp [Hid], Below.refl _ _⟩
  case round =>
    rename_i wr
    obtain ⟨k, hk, rfl, HK, hB⟩ := hrel
    by_cases hlt : k < l.length
    · obtain ⟨x, b, off, hx, rfl, hc0⟩ := HCell.out k hlt
      have hc := Below.keeps hB _ _ hc0
      clear hc0
      have HX := hid hx; clear hx
      have HM := hid (List.mem_of_getElem? HX.out)
      have HCx := hid (HC.out x wr HM.out hB)
      by_cases hp : p x = true
      · have HP := hid hp
        rw [hp] at HCx
        clear hp
        go_wp2_with fail
        refine HCx.out.mono ?_
        rintro e w' ⟨rfl, hB2⟩
        go_wp2
        go_ret
        exact ⟨ret_int (fIdx_hit _ l k x HK.out HX.out HP.out).symm, below_tr hB hB2⟩
      · have hp' : p x = false := by simpa using hp
        have HP := hid hp'
        rw [hp'] at HCx
        clear hp hp'
        go_wp2_with fail
        refine HCx.out.mono ?_
        rintro e w' ⟨rfl, hB2⟩
        go_wp2
        go_roundw
        case rel => exact ⟨k + 1, by omega, by go_num, take_none HK.out HX.out HP.out, below_tr hB hB2⟩
        case measure => simp [intOf]; omega
    · go_wp2
      go_ret
      refine ⟨ret_int ?_, hB⟩
      have h := HK.out
      rw [List.take_of_length_le (by omega)] at h
      exact (fIdx_none _ l h).symm

theorem containsFnS_any (K : Nat) (eK : ∀ args w, (callFunc K args).run Tryz.prog w = .ok (.enter K args) w) (p : ByteArray → Bool) (v : Value) (l : List ByteArray) (w : World) (hr : RdS w v l)
    (hC : ∀ (x : ByteArray) (W' : World), x ∈ l → Below w.heap.size w W' → Calls Tryz.prog K #[.string x] W' fun e W'' => e = .returned (.bool (p x)) ∧ Below W'.heap.size W' W'') :
    Calls Tryz.prog 91 #[v, .func (.func K) #[] #[]] w fun e w' => e = .returned (.bool (l.any p)) ∧ Below w.heap.size w w' := by
  have HI := indexFnS_any K eK p v l w hr hC
  have HF := hid (fIdx_pos p l)
  generalize fIdx p l = r at *
  have H2 := hid HI; clear HI hC
  go_enter Tryz.func91, Tryz.ntmps91
  go_wp2_with (go_at_call 96; refine H2.out.mono ?_; rintro e w' ⟨rfl, hB⟩)
  go_ret
  exact ⟨ret_bool HF.out, hB⟩

set_option maxHeartbeats 400000 in
theorem indexFnB_any (K : Nat) (eK : ∀ args w, (callFunc K args).run Tryz.prog w = .ok (.enter K args) w) (p : Int → Bool) (v : Value) (l : List Int) (w : World) (hr : RdY w v l)
    (hC : ∀ (x : Int) (W' : World), x ∈ l → Below w.heap.size w W' → Calls Tryz.prog K #[.int .u8 x] W' fun e W'' => e = .returned (.bool (p x)) ∧ Below W'.heap.size W' W'') :
    Calls Tryz.prog 171 #[v, .func (.func K) #[] #[]] w fun e w' => e = .returned (.int .i64 (fIdx p l)) ∧ Below w.heap.size w w' := by
  obtain ⟨a, cap, rfl, hlc, hcm, hcell⟩ := hr.open
  have HCell := hid hcell; clear hcell
  have HC := hid hC; clear hC
  go_enter Tryz.func171, Tryz.ntmps171
  go_wp2
  go_loopw [8] (fun i wr => ∃ k : Nat, k ≤ l.length ∧ i = .int .i64 k ∧ Hid (∀ y ∈ l.take k, p y = false) ∧ Below w.heap.size w wr) (fun i _ => l.length - (intOf i).toNat)
  case atStart => exact ⟨0, Nat.zero_le _, rfl, by simp [Hid], Below.refl _ _⟩
  case round =>
    rename_i wr
    obtain ⟨k, hk, rfl, HK, hB⟩ := hrel
    by_cases hlt : k < l.length
    · obtain ⟨x, b, off, hx, rfl, hc0⟩ := HCell.out k hlt
      have hc := Below.keeps hB _ _ hc0
      clear hc0
      have HX := hid hx; clear hx
      have HM := hid (List.mem_of_getElem? HX.out)
      have HCx := hid (HC.out x wr HM.out hB)
      by_cases hp : p x = true
      · have HP := hid hp
        rw [hp] at HCx
        clear hp
        go_wp2_with fail
        refine HCx.out.mono ?_
        rintro e w' ⟨rfl, hB2⟩
        go_wp2
        go_ret
        exact ⟨ret_int (fIdx_hit _ l k x HK.out HX.out HP.out).symm, below_tr hB hB2⟩
      · have hp' : p x = false := by simpa using hp
        have HP := hid hp'
        rw [hp'] at HCx
        clear hp hp'
        go_wp2_with fail
        refine HCx.out.mono ?_
        rintro e w' ⟨rfl, hB2⟩
        go_wp2
        go_roundw
        case rel => exact ⟨k + 1, by omega, by go_num, take_none HK.out HX.out HP.out, below_tr hB hB2⟩
        case measure => simp [intOf]; omega
    · go_wp2
      go_ret
      refine ⟨ret_int ?_, hB⟩
      have h := HK.out
      rw [List.take_of_length_le (by omega)] at h
      exact (fIdx_none _ l h).symm

theorem containsFnB_any (K : Nat) (eK : ∀ args w, (callFunc K args).run Tryz.prog w = .ok (.enter K args) w) (p : Int → Bool) (v : Value) (l : List Int) (w : World) (hr : RdY w v l)
    (hC : ∀ (x : Int) (W' : World), x ∈ l → Below w.heap.size w W' → Calls Tryz.prog K #[.int .u8 x] W' fun e W'' => e = .returned (.bool (p x)) ∧ Below W'.heap.size W' W'') :
    Calls Tryz.prog 157 #[v, .func (.func K) #[] #[]] w fun e w' => e = .returned (.bool (l.any p)) ∧ Below w.heap.size w w' := by
  have HI := indexFnB_any K eK p v l w hr hC
  have HF := hid (fIdx_pos p l)
  generalize fIdx p l = r at *
  have H2 := hid HI; clear HI hC
  go_enter Tryz.func157, Tryz.ntmps157
  go_wp2_with (go_at_call 171; refine H2.out.mono ?_; rintro e w' ⟨rfl, hB⟩)
  go_ret
  exact ⟨ret_bool HF.out, hB⟩

def sepB (x : Int) : Bool := decide (kindI x = 5) || decide (kindI x = 6)
set_option maxHeartbeats 400000 in
theorem isWord1_any (x : Int) (h0 : 0 ≤ x) (h1 : x ≤ 255) (w : World) :
    Calls Tryz.prog 158 #[.int .u8 x] w fun e w' => e = .returned (.bool (sepB x)) ∧ w = w' := by
  have HK := fun w' => hid (kind_any x h0 h1 w')
  have HS : Hid (sepB x = (decide (kindI x = 5) || decide (kindI x = 6))) := rfl
  generalize kindI x = kk at *
  by_cases h5 : kk = 5
  · subst h5
    go_enter Tryz.func158, Tryz.ntmps158
    go_wp2_with (go_at_call 135; refine (HK _).out.mono ?_; rintro e w' ⟨rfl, rfl⟩)
    go_ret
    exact ⟨ret_bool (by rw [HS.out]; rfl), rfl⟩
  · have b5 := beq_eq_false_iff_ne.2 h5
    have HD := hid (decide_eq_false h5)
    clear h5
    go_enter Tryz.func158, Tryz.ntmps158
    go_wp2_with (go_at_call 135; refine (HK _).out.mono ?_; rintro e w' ⟨rfl, rfl⟩)
    go_ret
    exact ⟨ret_bool (by rw [HS.out, HD.out, Bool.false_or]; rfl), rfl⟩

def bytesL (s : ByteArray) : List Int := s.data.toList.map fun c => (c.toNat : Int)
def firstK (s : ByteArray) : Int := match s.data.toList with | [] => 0 | c :: _ => kindI c.toNat
def isWordB (s : ByteArray) : Bool := decide (s.size ≠ 0) && decide (s.size ≤ 64) && chkB s && (decide (firstK s = 1) || decide (firstK s = 3)) && !((bytesL s).any sepB)

theorem firstK_at (s : ByteArray) (h : 0 < s.size) : firstK s = kindI s[0].toNat := by
  have h1 := byte_at s 0 h
  unfold firstK
  cases hl : s.data.toList with
  | nil => rw [hl] at h1; simp at h1
  | cons c r =>
    rw [hl] at h1
    simp at h1
    rw [h1]

set_option maxRecDepth 100000 in
set_option maxHeartbeats 1000000 in
theorem isWord_any (s : ByteArray) (w : World) (hs : s.size ≤ 65536) :
    Calls Tryz.prog 134 #[.string s] w fun e w' => e = .returned (.bool (isWordB s)) ∧ Below w.heap.size w w' := by
  have hE := ba_isE s
  have HI : Hid (isWordB s = (decide (s.size ≠ 0) && decide (s.size ≤ 64) && chkB s && (decide (firstK s = 1) || decide (firstK s = 3)) && !((bytesL s).any sepB))) := rfl
  by_cases h0 : s.size = 0
  · rw [decide_eq_true h0] at hE
    go_enter Tryz.func134, Tryz.ntmps134
    go_wp2
    go_ret
    exact ⟨ret_bool (by rw [HI.out, decide_eq_false (by simp [h0])]; rfl), Below.refl _ _⟩
  rw [decide_eq_false h0] at hE
  by_cases h64 : 64 < s.size
  · have hi : (64 : Int) < (s.size : Int) := by omega
    go_enter Tryz.func134, Tryz.ntmps134
    go_wp2
    go_ret
    exact ⟨ret_bool (by rw [HI.out, decide_eq_false (p := s.size ≤ 64) (by omega)]; simp), Below.refl _ _⟩
  have hi : ¬ (64 : Int) < (s.size : Int) := by omega
  have HC := hid (chk_any s w (by omega))
  have hfk := firstK_at s (by omega)
  cases hc : chkB s with
  | false =>
    rw [chkI_f hc] at HC
    have HI2 : Hid (isWordB s = false) := by unfold Hid; rw [HI.out, hc]; simp
    clear hc HI hfk
    go_enter Tryz.func134, Tryz.ntmps134
    go_wp2_with fail
    refine HC.out.mono ?_
    rintro e w1 ⟨rfl, hB⟩
    go_wp2
    go_ret
    exact ⟨ret_bool HI2.out.symm, hB⟩
  | true =>
    rw [chkI_t hc] at HC
    have HI2 : Hid (isWordB s = ((decide (firstK s = 1) || decide (firstK s = 3)) && !((bytesL s).any sepB))) := by unfold Hid; rw [HI.out, hc, decide_eq_true (p := s.size ≤ 64) (by omega), decide_eq_true h0]; simp
    clear hc HI
    have hu := byte_bd s[0]
    have HK := fun w' => hid (kind_any (s[0].toNat : Int) hu.1 hu.2 w')
    have hsi : (0 : Int) < (s.size : Int) := by omega
    rw [← hfk] at HK
    by_cases h13 : firstK s = 1 ∨ firstK s = 3
    · have HI3 : Hid (isWordB s = !((bytesL s).any sepB)) := by
        unfold Hid
        rw [HI2.out]
        rcases h13 with h | h <;> rw [h] <;> simp
      clear HI2 hfk
      have HY : Hid (∀ w' : World, ∃ a cap, ((convert 9 98 (.string s)).run Tryz.prog w' = .ok (.slice a s.size cap) (Lib.bytesWorld w' 5 s)) ∧ RdY (Lib.bytesWorld w' 5 s) (.slice a s.size cap) (bytesL s)) := by
        intro w'
        refine ⟨_, _, Lib.run_convert_string_bytes w' _ _ 5 s Tryz.underlying9 Tryz.underlying98 Tryz.underlying5, ?_⟩
        refine ⟨_, _, by rw [show (bytesL s).length = s.size by simp [bytesL]], by rw [show (bytesL s).length = s.size by simp [bytesL]]; exact grownCap_ge _ _ _ _, grownCap_le_maxLen _ _ _ _ (by unfold maxLen; omega), ?_⟩
        intro i x hx
        obtain ⟨hil, hxe⟩ := List.getElem?_eq_some_iff.1 hx
        have hil2 : i < s.size := by simpa [bytesL] using hil
        refine ⟨_, _, rfl, ?_⟩
        rw [Nat.zero_add, Lib.bytesWorld_cell w' _ s i hil2]
        have : x = ((s.data.toList.getD i 0).toNat : Int) := by
          rw [← hxe]
          simp [bytesL, List.getD_eq_getElem?_getD, hil2]
        rw [this]
      have HCF : Hid (∀ (w' : World) (v : Value), RdY w' v (bytesL s) → Calls Tryz.prog 157 #[v, .func (.func 158) #[] #[]] w' fun e w'' => e = .returned (.bool ((bytesL s).any sepB)) ∧ Below w'.heap.size w' w'') := by
        intro w' v hr
        refine containsFnB_any 158 (enters_of Tryz.func158 (by kernel_rfl) rfl) sepB v (bytesL s) w' hr ?_
        intro x W' hx _
        obtain ⟨c, _, rfl⟩ := List.mem_map.1 hx
        have hu := byte_bd c
        exact (isWord1_any _ hu.1 hu.2 W').mono fun e w'' ⟨h1, h2⟩ => ⟨h1, by rw [h2]; exact Below.refl _ _⟩
      generalize (bytesL s).any sepB = bs at *
      rcases h13 with h | h
      · rw [h] at HK
        clear h
        go_enter Tryz.func134, Tryz.ntmps134
        go_wp2_with fail
        refine HC.out.mono ?_
        rintro e w1 ⟨rfl, hB⟩
        obtain ⟨a, cap, hcv, hry⟩ := HY.out w1
        go_wp2_with fail
        refine (HK _).out.mono ?_
        rintro e w2 ⟨rfl, rfl⟩
        go_wp2_with fail
        have HB2 := hid (below_tr hB (Lib.bytesWorld_below w1 5 s))
        have HRY := hid hry
        clear hry hcv
        generalize Lib.bytesWorld w1 5 s = w3 at *
        refine (HCF.out _ _ HRY.out).mono ?_
        rintro e w4 ⟨rfl, hB4⟩
        go_wp2
        go_ret
        exact ⟨ret_bool HI3.out.symm, below_tr HB2.out hB4⟩
      · rw [h] at HK
        clear h
        go_enter Tryz.func134, Tryz.ntmps134
        go_wp2_with fail
        refine HC.out.mono ?_
        rintro e w1 ⟨rfl, hB⟩
        obtain ⟨a, cap, hcv, hry⟩ := HY.out w1
        go_wp2_with fail
        refine (HK _).out.mono ?_
        rintro e w2 ⟨rfl, rfl⟩
        go_wp2_with fail
        have HB2 := hid (below_tr hB (Lib.bytesWorld_below w1 5 s))
        have HRY := hid hry
        clear hry hcv
        generalize Lib.bytesWorld w1 5 s = w3 at *
        refine (HCF.out _ _ HRY.out).mono ?_
        rintro e w4 ⟨rfl, hB4⟩
        go_wp2
        go_ret
        exact ⟨ret_bool HI3.out.symm, below_tr HB2.out hB4⟩
    · have h1 := fun h => h13 (.inl h)
      have h3 := fun h => h13 (.inr h)
      have b1 : (firstK s != 1) = true := by simpa using h1
      have b3 : (firstK s != 3) = true := by simpa using h3
      have HI3 : Hid (isWordB s = false) := by unfold Hid; rw [HI2.out, decide_eq_false h1, decide_eq_false h3]; rfl
      generalize firstK s = kk at *
      clear h13 h1 h3 HI2 hfk
      go_enter Tryz.func134, Tryz.ntmps134
      go_wp2_with fail
      refine HC.out.mono ?_
      rintro e w1 ⟨rfl, hB⟩
      go_wp2_with fail
      refine (HK _).out.mono ?_
      rintro e w2 ⟨rfl, rfl⟩
      go_wp2
      go_ret
      exact ⟨ret_bool HI3.out.symm, hB⟩

/-- What stands between the brackets. -/
def innB (s : ByteArray) : ByteArray := cutXS (cutPS s ⟨#[91]⟩) ⟨#[93]⟩
def gapB (s : ByteArray) : Bool := cutPB s ⟨#[91]⟩ && cutXB (cutPS s ⟨#[91]⟩) ⟨#[93]⟩ && decB (innB s) && decide (decV (innB s) ≤ 64)
def wordB (s : ByteArray) : Bool := isWordB s || (if s.size = 1 then (decide (firstK s = 5) || decide (firstK s = 4)) else gapB s)
theorem wordB_ne {s : ByteArray} (h : wordB s = true) : s.size ≠ 0 := by
  intro h0
  have e : s = ⟨#[]⟩ := by
    cases s with
    | mk d => exact congrArg ByteArray.mk (Array.eq_empty_of_size_eq_zero h0)
  subst e
  have h1 : wordB ⟨#[]⟩ = false := by
    unfold wordB
    rw [show isWordB ⟨#[]⟩ = false by rfl, if_neg (by decide)]
    unfold gapB
    rw [show cutPB ⟨#[]⟩ ⟨#[91]⟩ = false by rfl]
    rfl
  rw [h1] at h; cases h

set_option maxRecDepth 100000 in
set_option maxHeartbeats 1000000 in
theorem word_any (s : ByteArray) (w : World) (he : Env w) (hs : s.size ≤ 65536) :
    Calls Tryz.prog 113 #[.string s] w fun e w' => e = .returned (.bool (wordB s)) ∧ Below w.heap.size w w' := by
  have HI := hid (isWord_any s w hs)
  have HW : Hid (wordB s = (isWordB s || (if s.size = 1 then (decide (firstK s = 5) || decide (firstK s = 4)) else gapB s))) := rfl
  cases hi : isWordB s with
  | true =>
    rw [hi] at HI
    have HW2 : Hid (wordB s = true) := by unfold Hid; rw [HW.out, hi]; rfl
    clear hi
    go_enter Tryz.func113, Tryz.ntmps113
    go_wp2_with fail
    refine HI.out.mono ?_
    rintro e w1 ⟨rfl, hB⟩
    go_wp2
    go_ret
    exact ⟨ret_bool HW2.out.symm, hB⟩
  | false =>
    rw [hi] at HI
    have HW2 : Hid (wordB s = (if s.size = 1 then (decide (firstK s = 5) || decide (firstK s = 4)) else gapB s)) := by unfold Hid; rw [HW.out, hi]; rfl
    clear hi HW
    by_cases h1 : s.size = 1
    · have hfk := firstK_at s (by omega)
      have hu := byte_bd s[0]
      have HK := fun w' => hid (kind_any (s[0].toNat : Int) hu.1 hu.2 w')
      rw [← hfk] at HK
      have HW3 : Hid (wordB s = (decide (firstK s = 5) || decide (firstK s = 4))) := by unfold Hid; rw [HW2.out, if_pos h1]
      have hsi : (s.size : Int) = 1 := by omega
      have hsi0 : (0 : Int) < (s.size : Int) := by omega
      generalize firstK s = kk at *
      clear hfk HW2
      by_cases h5 : kk = 5
      · subst h5
        go_enter Tryz.func113, Tryz.ntmps113
        go_wp2_with fail
        refine HI.out.mono ?_
        rintro e w1 ⟨rfl, hB⟩
        go_wp2_with fail
        refine (HK _).out.mono ?_
        rintro e w2 ⟨rfl, rfl⟩
        go_wp2
        go_ret
        exact ⟨ret_bool (by rw [HW3.out]; rfl), hB⟩
      · have b5 := beq_eq_false_iff_ne.2 h5
        have HD := hid (decide_eq_false h5)
        clear h5
        go_enter Tryz.func113, Tryz.ntmps113
        go_wp2_with fail
        refine HI.out.mono ?_
        rintro e w1 ⟨rfl, hB⟩
        go_wp2_with fail
        refine (HK _).out.mono ?_
        rintro e w2 ⟨rfl, rfl⟩
        go_wp2
        go_ret
        exact ⟨ret_bool (by rw [HW3.out, HD.out, Bool.false_or]; rfl), hB⟩
    · have HW3 : Hid (wordB s = gapB s) := by unfold Hid; rw [HW2.out, if_neg h1]
      have hsi : ((s.size : Int) == 1) = false := by simp; omega
      have hsi2 : ¬ (s.size : Int) = 1 := by omega
      have HG : Hid (gapB s = (cutPB s ⟨#[91]⟩ && cutXB (cutPS s ⟨#[91]⟩) ⟨#[93]⟩ && decB (innB s) && decide (decV (innB s) ≤ 64))) := rfl
      have hz1 : (cutPS s ⟨#[91]⟩).size ≤ 65536 := by
        unfold cutPS
        split
        · rw [ByteArray.size_extract]; omega
        · exact hs
      have hz2 : (innB s).size ≤ 65536 := by
        unfold innB cutXS
        split
        · rw [ByteArray.size_extract]; omega
        · exact hz1
      have HP := fun w' => hid (cutP_any s ⟨#[91]⟩ w' (by omega))
      have HX := fun w' => hid (cutX_any (cutPS s ⟨#[91]⟩) ⟨#[93]⟩ w' (by omega))
      rw [show cutXS (cutPS s ⟨#[91]⟩) ⟨#[93]⟩ = innB s from rfl] at HX
      have HD := fun w' (h : Env w') => hid (decimal_any (innB s) w' h (by omega))
      have HEN := fun w' (h : Below w.heap.size w w') => hid (he.below h)
      clear HW2 h1 hz1 hz2
      generalize gapB s = gb at *
      generalize decV (innB s) = dv at *
      generalize decB (innB s) = db at *
      generalize innB s = i2 at *
      generalize cutXB (cutPS s ⟨#[91]⟩) ⟨#[93]⟩ = xb at *
      generalize cutPS s ⟨#[91]⟩ = i1 at *
      generalize cutPB s ⟨#[91]⟩ = pb at *
      have HF : Hid (wordB s = (pb && xb && db && decide (dv ≤ 64))) := by unfold Hid; rw [HW3.out, HG.out]
      clear HW3 HG
      cases pb <;> cases xb <;> cases db
      all_goals by_cases h64 : dv ≤ 64
      all_goals
        go_enter Tryz.func113, Tryz.ntmps113
        go_wp2_with fail
        refine HI.out.mono ?_
        rintro e w1 ⟨rfl, hB⟩
        go_wp2_with fail
        refine (HP _).out.mono ?_
        rintro e w2 ⟨rfl, rfl⟩
        go_wp2_with fail
        refine (HX _).out.mono ?_
        rintro e w3 ⟨rfl, rfl⟩
        go_wp2_with fail
        refine (HD _ (HEN _ hB).out).out.mono ?_
        rintro e w4 ⟨rfl, hB4⟩
        go_wp2
        go_ret
        exact ⟨ret_bool (by rw [HF.out]; first | rfl | (simp; omega)), below_tr hB hB4⟩

set_option maxRecDepth 100000 in
set_option maxHeartbeats 1000000 in
theorem check1_any (s : ByteArray) (w : World) (he : Env w) (hs : s.size ≤ 65536) :
    Calls Tryz.prog 112 #[.string s] w fun e w' => e = .returned (.bool (!wordB s)) ∧ Below w.heap.size w w' := by
  have HW := hid (word_any s w he hs)
  go_enter Tryz.func112, Tryz.ntmps112
  go_wp2_with fail
  refine HW.out.mono ?_
  rintro e w1 ⟨rfl, hB⟩
  go_wp2
  go_ret
  exact ⟨rfl, hB⟩

def lcheckI (ws : List ByteArray) : Int := if 4096 < ws.length then 4 else if (ws.any fun s => !wordB s) = true then 11 else 0
set_option maxRecDepth 100000 in
set_option maxHeartbeats 1000000 in
theorem lcheck_any (v : Value) (ws : List ByteArray) (w : World) (he : Env w) (hr : RdS w v ws) (hs : ∀ s ∈ ws, s.size ≤ 65536) :
    Calls Tryz.prog 85 #[v] w fun e w' => e = .returned (.int .i64 (lcheckI ws)) ∧ Below w.heap.size w w' := by
  have HI : Hid (lcheckI ws = if 4096 < ws.length then 4 else if (ws.any fun s => !wordB s) = true then 11 else 0) := rfl
  obtain ⟨a, cap, rfl, hlc, hcm, _⟩ := hr.open
  by_cases h1 : 4096 < ws.length
  · have h1' : (4096 : Int) < (ws.length : Int) := by omega
    go_enter Tryz.func85, Tryz.ntmps85
    go_wp2
    go_ret
    exact ⟨ret_int (by rw [HI.out, if_pos h1]), Below.refl _ _⟩
  · have h1' : ¬ (4096 : Int) < (ws.length : Int) := by omega
    have HC := hid (containsFnS_any 112 (enters_of Tryz.func112 (by kernel_rfl) rfl) (fun s => !wordB s) _ ws w hr
      (fun x W' hx hW => check1_any x W' (he.below hW) (hs x hx)))
    have HI2 : Hid (lcheckI ws = if (ws.any fun s => !wordB s) = true then 11 else 0) := by unfold Hid; rw [HI.out, if_neg h1]
    clear HI h1
    generalize (ws.any fun s => !wordB s) = ab at *
    cases ab with
    | true =>
      go_enter Tryz.func85, Tryz.ntmps85
      go_wp2_with fail
      refine HC.out.mono ?_
      rintro e w1 ⟨rfl, hB⟩
      go_wp2
      go_ret
      exact ⟨ret_int HI2.out.symm, hB⟩
    | false =>
      go_enter Tryz.func85, Tryz.ntmps85
      go_wp2_with fail
      refine HC.out.mono ?_
      rintro e w1 ⟨rfl, hB⟩
      go_wp2
      go_ret
      exact ⟨ret_int HI2.out.symm, hB⟩
end Go.Proofs.YtjhdeoniafahbaaGreatDoor
