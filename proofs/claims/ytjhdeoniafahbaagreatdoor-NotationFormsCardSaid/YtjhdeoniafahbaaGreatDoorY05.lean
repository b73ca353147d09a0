/-
  Joined, what is needed of: Wrd Of PlDec.
-/
import Derived.Test.YtjhdeoniafahbaaGreatDoorY04
import Derived.Test.YtjhdeoniafahbaaGreatDoorY01
import Derived.Lib.AtoiTie
import Derived.Lib.ItoaMem
namespace Go.Proofs.YtjhdeoniafahbaaGreatDoor
open Go.RowKit
abbrev RdY (W : World) (v : Value) (l : List Int) : Prop := Rd (Value.int .u8) W v l
set_option maxHeartbeats 400000 in
theorem indexFnS_any (K : Nat) (eK : ∀ args w, (callFunc K args).run Tryz.prog w = .ok (.enter K args) w) (p : ByteArray → Bool) (v : Value) (l : List ByteArray) (w : World) (hr : RdS w v l)
    (hC : ∀ (x : ByteArray) (W' : World), x ∈ l → Below w.heap.size w W' → Calls Tryz.prog K #[.string x] W' fun e W'' => e = .returned (.bool (p x)) ∧ Below W'.heap.size W' W'') :
    Calls Tryz.prog 96 #[v, .func (.func K) #[] #[]] w fun e w' => e = .returned (.int .i64 (fIdx p l)) ∧ Below w.heap.size w w' := by
  obtain ⟨a, cap, rfl, hlc, hcm, hcell⟩ := hr.open
  have HCell := hid hcell; clear hcell
  have HC := hid hC; clear hC
  go_enter Tryz.func96, Tryz.ntmps96
  go_wp2
  go_loopw [8] (fun i wr => ∃ k : Nat, k ≤ l.length ∧ i = .int .i64 k ∧ Hid (∀ y ∈ l.take k, p y = false) ∧ Below w.heap.size w wr) (fun i _ => l.length - (intOf i).toNat)
  case atStart => exact ⟨0, Nat.zero_le _, rfl, by simp [Hid], Below.refl _ _⟩
  case round =>
    rename_i wr
    obtain ⟨k, hk, rfl, HK, hB⟩ := hrel
    by_cases hlt : k < l.length
    · obtain ⟨x, b, off, hx, rfl, hc0⟩ := HCell.out k hlt
      have hc := Below.keeps hB _ _ hc0
      clear hc0
      have HX := hid hx; clear hx
      have HM := hid (List.mem_of_getElem? HX.out)
      have HCx := hid (HC.out x wr HM.out hB)
      by_cases hp : p x = true
      · have HP := hid hp
        rw [hp] at HCx
        clear hp
        go_wp2_with fail
        refine HCx.out.mono ?_
        rintro e w' ⟨rfl, hB2⟩
        go_wp2
        go_ret
        exact ⟨ret_int (fIdx_hit _ l k x HK.out HX.out HP.out).symm, below_tr hB hB2⟩
      · have hp' : p x = false := by simpa using hp
        have HP := hid hp'
        rw [hp'] at HCx
        clear hp hp'
        go_wp2_with fail
        refine HCx.out.mono ?_
        rintro e w' ⟨rfl, hB2⟩
        go_wp2
        go_roundw
        case rel => exact ⟨k + 1, by omega, by go_num, take_none HK.out HX.out HP.out, below_tr hB hB2⟩
        case measure => simp [intOf]; omega
    · go_wp2
      go_ret
      refine ⟨ret_int ?_, hB⟩
      have h := HK.out
      rw [List.take_of_length_le (by omega)] at h
      exact (fIdx_none _ l h).symm
theorem containsFnS_any (K : Nat) (eK : ∀ args w, (callFunc K args).run Tryz.prog w = .ok (.enter K args) w) (p : ByteArray → Bool) (v : Value) (l : List ByteArray) (w : World) (hr : RdS w v l)
    (hC : ∀ (x : ByteArray) (W' : World), x ∈ l → Below w.heap.size w W' → Calls Tryz.prog K #[.string x] W' fun e W'' => e = .returned (.bool (p x)) ∧ Below W'.heap.size W' W'') :
    Calls Tryz.prog 91 #[v, .func (.func K) #[] #[]] w fun e w' => e = .returned (.bool (l.any p)) ∧ Below w.heap.size w w' := by
  have HI := indexFnS_any K eK p v l w hr hC
  have HF := hid (fIdx_pos p l)
  generalize fIdx p l = r at *
  have H2 := hid HI; clear HI hC
  go_enter Tryz.func91, Tryz.ntmps91
  go_wp2_with (go_at_call 96; refine H2.out.mono ?_; rintro e w' ⟨rfl, hB⟩)
  go_ret
  exact ⟨ret_bool HF.out, hB⟩
set_option maxHeartbeats 400000 in
theorem indexFnB_any (K : Nat) (eK : ∀ args w, (callFunc K args).run Tryz.prog w = .ok (.enter K args) w) (p : Int → Bool) (v : Value) (l : List Int) (w : World) (hr : RdY w v l)
    (hC : ∀ (x : Int) (W' : World), x ∈ l → Below w.heap.size w W' → Calls Tryz.prog K #[.int .u8 x] W' fun e W'' => e = .returned (.bool (p x)) ∧ Below W'.heap.size W' W'') :
    Calls Tryz.prog 171 #[v, .func (.func K) #[] #[]] w fun e w' => e = .returned (.int .i64 (fIdx p l)) ∧ Below w.heap.size w w' := by
  obtain ⟨a, cap, rfl, hlc, hcm, hcell⟩ := hr.open
  have HCell := hid hcell; clear hcell
  have HC := hid hC; clear hC
  go_enter Tryz.func171, Tryz.ntmps171
  go_wp2
  go_loopw [8] (fun i wr => ∃ k : Nat, k ≤ l.length ∧ i = .int .i64 k ∧ Hid (∀ y ∈ l.take k, p y = false) ∧ Below w.heap.size w wr) (fun i _ => l.length - (intOf i).toNat)
  case atStart => exact ⟨0, Nat.zero_le _, rfl, by simp [Hid], Below.refl _ _⟩
  case round =>
    rename_i wr
    obtain ⟨k, hk, rfl, HK, hB⟩ := hrel
    by_cases hlt : k < l.length
    · obtain ⟨x, b, off, hx, rfl, hc0⟩ := HCell.out k hlt
      have hc := Below.keeps hB _ _ hc0
      clear hc0
      have HX := hid hx; clear hx
      have HM := hid (List.mem_of_getElem? HX.out)
      have HCx := hid (HC.out x wr HM.out hB)
      by_cases hp : p x = true
      · have HP := hid hp
        rw [hp] at HCx
        clear hp
        go_wp2_with fail
        refine HCx.out.mono ?_
        rintro e w' ⟨rfl, hB2⟩
        go_wp2
        go_ret
        exact ⟨ret_int (fIdx_hit _ l k x HK.out HX.out HP.out).symm, below_tr hB hB2⟩
      · have hp' : p x = false := by simpa using hp
        have HP := hid hp'
        rw [hp'] at HCx
        clear hp hp'
        go_wp2_with fail
        refine HCx.out.mono ?_
        rintro e w' ⟨rfl, hB2⟩
        go_wp2
        go_roundw
        case rel => exact ⟨k + 1, by omega, by go_num, take_none HK.out HX.out HP.out, below_tr hB hB2⟩
        case measure => simp [intOf]; omega
    · go_wp2
      go_ret
      refine ⟨ret_int ?_, hB⟩
      have h := HK.out
      rw [List.take_of_length_le (by omega)] at h
      exact (fIdx_none _ l h).symm
theorem containsFnB_any (K : Nat) (eK : ∀ args w, (callFunc K args).run Tryz.prog w = .ok (.enter K args) w) (p : Int → Bool) (v : Value) (l : List Int) (w : World) (hr : RdY w v l)
    (hC : ∀ (x : Int) (W' : World), x ∈ l → Below w.heap.size w W' → Calls Tryz.prog K #[.int .u8 x] W' fun e W'' => e = .returned (.bool (p x)) ∧ Below W'.heap.size W' W'') :
    Calls Tryz.prog 157 #[v, .func (.func K) #[] #[]] w fun e w' => e = .returned (.bool (l.any p)) ∧ Below w.heap.size w w' := by
  have HI := indexFnB_any K eK p v l w hr hC
  have HF := hid (fIdx_pos p l)
  generalize fIdx p l = r at *
  have H2 := hid HI; clear HI hC
  go_enter Tryz.func157, Tryz.ntmps157
  go_wp2_with (go_at_call 171; refine H2.out.mono ?_; rintro e w' ⟨rfl, hB⟩)
  go_ret
  exact ⟨ret_bool HF.out, hB⟩
def sepB (x : Int) : Bool := decide (kindI x = 5) || decide (kindI x = 6)
set_option maxHeartbeats 400000 in
theorem isWord1_any (x : Int) (h0 : 0 ≤ x) (h1 : x ≤ 255) (w : World) :
    Calls Tryz.prog 158 #[.int .u8 x] w fun e w' => e = .returned (.bool (sepB x)) ∧ w = w' := by
  have HK := fun w' => hid (kind_any x h0 h1 w')
  have HS : Hid (sepB x = (decide (kindI x = 5) || decide (kindI x = 6))) := rfl
  generalize kindI x = kk at *
  by_cases h5 : kk = 5
  · subst h5
    go_enter Tryz.func158, Tryz.ntmps158
    go_wp2_with (go_at_call 135; refine (HK _).out.mono ?_; rintro e w' ⟨rfl, rfl⟩)
    go_ret
    exact ⟨ret_bool (by rw [HS.out]; rfl), rfl⟩
  · have b5 := beq_eq_false_iff_ne.2 h5
    have HD := hid (decide_eq_false h5)
    clear h5
    go_enter Tryz.func158, Tryz.ntmps158
    go_wp2_with (go_at_call 135; refine (HK _).out.mono ?_; rintro e w' ⟨rfl, rfl⟩)
    go_ret
    exact ⟨ret_bool (by rw [HS.out, HD.out, Bool.false_or]; rfl), rfl⟩
def bytesL (s : ByteArray) : List Int := s.data.toList.map fun c => (c.toNat : Int)
def firstK (s : ByteArray) : Int := match s.data.toList with | [] => 0 | c :: _ => kindI c.toNat
def isWordB (s : ByteArray) : Bool := decide (s.size ≠ 0) && decide (s.size ≤ 64) && chkB s && (decide (firstK s = 1) || decide (firstK s = 3)) && !((bytesL s).any sepB)
theorem firstK_at (s : ByteArray) (h : 0 < s.size) : firstK s = kindI s[0].toNat := by
  have h1 := byte_at s 0 h
  unfold firstK
  cases hl : s.data.toList with
  | nil => rw [hl] at h1; simp at h1
  | cons c r =>
    rw [hl] at h1
    simp at h1
    rw [h1]
set_option maxRecDepth 100000 in
set_option maxHeartbeats 1000000 in
theorem isWord_any (s : ByteArray) (w : World) (hs : s.size ≤ 65536) :
    Calls Tryz.prog 134 #[.string s] w fun e w' => e = .returned (.bool (isWordB s)) ∧ Below w.heap.size w w' := by
  have hE := ba_isE s
  have HI : Hid (isWordB s = (decide (s.size ≠ 0) && decide (s.size ≤ 64) && chkB s && (decide (firstK s = 1) || decide (firstK s = 3)) && !((bytesL s).any sepB))) := rfl
  by_cases h0 : s.size = 0
  · rw [decide_eq_true h0] at hE
    go_enter Tryz.func134, Tryz.ntmps134
    go_wp2
    go_ret
    exact ⟨ret_bool (by rw [HI.out, decide_eq_false (by simp [h0])]; rfl), Below.refl _ _⟩
  rw [decide_eq_false h0] at hE
  by_cases h64 : 64 < s.size
  · have hi : (64 : Int) < (s.size : Int) := by omega
    go_enter Tryz.func134, Tryz.ntmps134
    go_wp2
    go_ret
    exact ⟨ret_bool (by rw [HI.out, decide_eq_false (p := s.size ≤ 64) (by omega)]; simp), Below.refl _ _⟩
  have hi : ¬ (64 : Int) < (s.size : Int) := by omega
  have HC := hid (chk_any s w (by omega))
  have hfk := firstK_at s (by omega)
  cases hc : chkB s with
  | false =>
    rw [chkI_f hc] at HC
    have HI2 : Hid (isWordB s = false) := by unfold Hid; rw [HI.out, hc]; simp
    clear hc HI hfk
    go_enter Tryz.func134, Tryz.ntmps134
    go_wp2_with fail
    refine HC.out.mono ?_
    rintro e w1 ⟨rfl, hB⟩
    go_wp2
    go_ret
    exact ⟨ret_bool HI2.out.symm, hB⟩
  | true =>
    rw [chkI_t hc] at HC
    have HI2 : Hid (isWordB s = ((decide (firstK s = 1) || decide (firstK s = 3)) && !((bytesL s).any sepB))) := by unfold Hid; rw [HI.out, hc, decide_eq_true (p := s.size ≤ 64) (by omega), decide_eq_true h0]; simp
    clear hc HI
    have hu := byte_bd s[0]
    have HK := fun w' => hid (kind_any (s[0].toNat : Int) hu.1 hu.2 w')
    have hsi : (0 : Int) < (s.size : Int) := by omega
    rw [← hfk] at HK
    by_cases h13 : firstK s = 1 ∨ firstK s = 3
    · have HI3 : Hid (isWordB s = !((bytesL s).any sepB)) := by
        unfold Hid
        rw [HI2.out]
        rcases h13 with h | h <;> rw [h] <;> simp
      clear HI2 hfk
      have HY : Hid (∀ w' : World, ∃ a cap, ((convert 9 98 (.string s)).run Tryz.prog w' = .ok (.slice a s.size cap) (Lib.bytesWorld w' 5 s)) ∧ RdY (Lib.bytesWorld w' 5 s) (.slice a s.size cap) (bytesL s)) := by
        intro w'
        refine ⟨_, _, Lib.run_convert_string_bytes w' _ _ 5 s Tryz.underlying9 Tryz.underlying98 Tryz.underlying5, ?_⟩
        refine ⟨_, _, by rw [show (bytesL s).length = s.size by simp [bytesL]], by rw [show (bytesL s).length = s.size by simp [bytesL]]; exact grownCap_ge _ _ _ _, grownCap_le_maxLen _ _ _ _ (by unfold maxLen; omega), ?_⟩
        intro i x hx
        obtain ⟨hil, hxe⟩ := List.getElem?_eq_some_iff.1 hx
        have hil2 : i < s.size := by simpa [bytesL] using hil
        refine ⟨_, _, rfl, ?_⟩
        rw [Nat.zero_add, Lib.bytesWorld_cell w' _ s i hil2]
        have : x = ((s.data.toList.getD i 0).toNat : Int) := by
          rw [← hxe]
          simp [bytesL, List.getD_eq_getElem?_getD, hil2]
        rw [this]
      have HCF : Hid (∀ (w' : World) (v : Value), RdY w' v (bytesL s) → Calls Tryz.prog 157 #[v, .func (.func 158) #[] #[]] w' fun e w'' => e = .returned (.bool ((bytesL s).any sepB)) ∧ Below w'.heap.size w' w'') := by
        intro w' v hr
        refine containsFnB_any 158 (enters_of Tryz.func158 (by kernel_rfl) rfl) sepB v (bytesL s) w' hr ?_
        intro x W' hx _
        obtain ⟨c, _, rfl⟩ := List.mem_map.1 hx
        have hu := byte_bd c
        exact (isWord1_any _ hu.1 hu.2 W').mono fun e w'' ⟨h1, h2⟩ => ⟨h1, by rw [h2]; exact Below.refl _ _⟩
      generalize (bytesL s).any sepB = bs at *
      rcases h13 with h | h
      · rw [h] at HK
        clear h
        go_enter Tryz.func134, Tryz.ntmps134
        go_wp2_with fail
        refine HC.out.mono ?_
        rintro e w1 ⟨rfl, hB⟩
        obtain ⟨a, cap, hcv, hry⟩ := HY.out w1
        go_wp2_with fail
        refine (HK _).out.mono ?_
        rintro e w2 ⟨rfl, rfl⟩
        go_wp2_with fail
        have HB2 := hid (below_tr hB (Lib.bytesWorld_below w1 5 s))
        have HRY := hid hry
        clear hry hcv
        generalize Lib.bytesWorld w1 5 s = w3 at *
        refine (HCF.out _ _ HRY.out).mono ?_
        rintro e w4 ⟨rfl, hB4⟩
        go_wp2
        go_ret
        exact ⟨ret_bool HI3.out.symm, below_tr HB2.out hB4⟩
      · rw [h] at HK
        clear h
        go_enter Tryz.func134, Tryz.ntmps134
        go_wp2_with fail
        refine HC.out.mono ?_
        rintro e w1 ⟨rfl, hB⟩
        obtain ⟨a, cap, hcv, hry⟩ := HY.out w1
        go_wp2_with fail
        refine (HK _).out.mono ?_
        rintro e w2 ⟨rfl, rfl⟩
        go_wp2_with fail
        have HB2 := hid (below_tr hB (Lib.bytesWorld_below w1 5 s))
        have HRY := hid hry
        clear hry hcv
        generalize Lib.bytesWorld w1 5 s = w3 at *
        refine (HCF.out _ _ HRY.out).mono ?_
        rintro e w4 ⟨rfl, hB4⟩
        go_wp2
        go_ret
        exact ⟨ret_bool HI3.out.symm, below_tr HB2.out hB4⟩
    · have h1 := fun h => h13 (.inl h)
      have h3 := fun h => h13 (.inr h)
      have b1 : (firstK s != 1) = true := by simpa using h1
      have b3 : (firstK s != 3) = true := by simpa using h3
      have HI3 : Hid (isWordB s = false) := by unfold Hid; rw [HI2.out, decide_eq_false h1, decide_eq_false h3]; rfl
      generalize firstK s = kk at *
      clear h13 h1 h3 HI2 hfk
      go_enter Tryz.func134, Tryz.ntmps134
      go_wp2_with fail
      refine HC.out.mono ?_
      rintro e w1 ⟨rfl, hB⟩
      go_wp2_with fail
      refine (HK _).out.mono ?_
      rintro e w2 ⟨rfl, rfl⟩
      go_wp2
      go_ret
      exact ⟨ret_bool HI3.out.symm, hB⟩
/-- What stands between the brackets. -/
def innB (s : ByteArray) : ByteArray := cutXS (cutPS s ⟨#[91]⟩) ⟨#[93]⟩
def gapB (s : ByteArray) : Bool := cutPB s ⟨#[91]⟩ && cutXB (cutPS s ⟨#[91]⟩) ⟨#[93]⟩ && decB (innB s) && decide (decV (innB s) ≤ 64)
def wordB (s : ByteArray) : Bool := isWordB s || (if s.size = 1 then (decide (firstK s = 5) || decide (firstK s = 4)) else gapB s)
theorem wordB_ne {s : ByteArray} (h : wordB s = true) : s.size ≠ 0 := by
  intro h0
  have e : s = ⟨#[]⟩ := by
    cases s with
    | mk d => exact congrArg ByteArray.mk (Array.eq_empty_of_size_eq_zero h0)
  subst e
  have h1 : wordB ⟨#[]⟩ = false := by
    unfold wordB
    rw [show isWordB ⟨#[]⟩ = false by rfl, if_neg (by decide)]
    unfold gapB
    rw [show cutPB ⟨#[]⟩ ⟨#[91]⟩ = false by rfl]
    rfl
  rw [h1] at h; cases h
set_option maxRecDepth 100000 in
set_option maxHeartbeats 1000000 in
theorem word_any (s : ByteArray) (w : World) (he : Env w) (hs : s.size ≤ 65536) :
    Calls Tryz.prog 113 #[.string s] w fun e w' => e = .returned (.bool (wordB s)) ∧ Below w.heap.size w w' := by
  have HI := hid (isWord_any s w hs)
  have HW : Hid (wordB s = (isWordB s || (if s.size = 1 then (decide (firstK s = 5) || decide (firstK s = 4)) else gapB s))) := rfl
  cases hi : isWordB s with
  | true =>
    rw [hi] at HI
    have HW2 : Hid (wordB s = true) := by unfold Hid; rw [HW.out, hi]; rfl
    clear hi
    go_enter Tryz.func113, Tryz.ntmps113
    go_wp2_with fail
    refine HI.out.mono ?_
    rintro e w1 ⟨rfl, hB⟩
    go_wp2
    go_ret
    exact ⟨ret_bool HW2.out.symm, hB⟩
  | false =>
    rw [hi] at HI
    have HW2 : Hid (wordB s = (if s.size = 1 then (decide (firstK s = 5) || decide (firstK s = 4)) else gapB s)) := by unfold Hid; rw [HW.out, hi]; rfl
    clear hi HW
    by_cases h1 : s.size = 1
    · have hfk := firstK_at s (by omega)
      have hu := byte_bd s[0]
      have HK := fun w' => hid (kind_any (s[0].toNat : Int) hu.1 hu.2 w')
      rw [← hfk] at HK
      have HW3 : Hid (wordB s = (decide (firstK s = 5) || decide (firstK s = 4))) := by unfold Hid; rw [HW2.out, if_pos h1]
      have hsi : (s.size : Int) = 1 := by omega
      have hsi0 : (0 : Int) < (s.size : Int) := by omega
      generalize firstK s = kk at *
      clear hfk HW2
      by_cases h5 : kk = 5
      · subst h5
        go_enter Tryz.func113, Tryz.ntmps113
        go_wp2_with fail
        refine HI.out.mono ?_
        rintro e w1 ⟨rfl, hB⟩
        go_wp2_with fail
        refine (HK _).out.mono ?_
        rintro e w2 ⟨rfl, rfl⟩
        go_wp2
        go_ret
        exact ⟨ret_bool (by rw [HW3.out]; rfl), hB⟩
      · have b5 := beq_eq_false_iff_ne.2 h5
        have HD := hid (decide_eq_false h5)
        clear h5
        go_enter Tryz.func113, Tryz.ntmps113
        go_wp2_with fail
        refine HI.out.mono ?_
        rintro e w1 ⟨rfl, hB⟩
        go_wp2_with fail
        refine (HK _).out.mono ?_
        rintro e w2 ⟨rfl, rfl⟩
        go_wp2
        go_ret
        exact ⟨ret_bool (by rw [HW3.out, HD.out, Bool.false_or]; rfl), hB⟩
    · have HW3 : Hid (wordB s = gapB s) := by unfold Hid; rw [HW2.out, if_neg h1]
      have hsi : ((s.size : Int) == 1) = false := by simp; omega
      have hsi2 : ¬ (s.size : Int) = 1 := by omega
      have HG : Hid (gapB s = (cutPB s ⟨#[91]⟩ && cutXB (cutPS s ⟨#[91]⟩) ⟨#[93]⟩ && decB (innB s) && decide (decV (innB s) ≤ 64))) := rfl
      have hz1 : (cutPS s ⟨#[91]⟩).size ≤ 65536 := by
        unfold cutPS
        split
        · rw [ByteArray.size_extract]; omega
        · exact hs
      have hz2 : (innB s).size ≤ 65536 := by
        unfold innB cutXS
        split
        · rw [ByteArray.size_extract]; omega
        · exact hz1
      have HP := fun w' => hid (cutP_any s ⟨#[91]⟩ w' (by omega))
      have HX := fun w' => hid (cutX_any (cutPS s ⟨#[91]⟩) ⟨#[93]⟩ w' (by omega))
      rw [show cutXS (cutPS s ⟨#[91]⟩) ⟨#[93]⟩ = innB s from rfl] at HX
      have HD := fun w' (h : Env w') => hid (decimal_any (innB s) w' h (by omega))
      have HEN := fun w' (h : Below w.heap.size w w') => hid (he.below h)
      clear HW2 h1 hz1 hz2
      generalize gapB s = gb at *
      generalize decV (innB s) = dv at *
      generalize decB (innB s) = db at *
      generalize innB s = i2 at *
      generalize cutXB (cutPS s ⟨#[91]⟩) ⟨#[93]⟩ = xb at *
      generalize cutPS s ⟨#[91]⟩ = i1 at *
      generalize cutPB s ⟨#[91]⟩ = pb at *
      have HF : Hid (wordB s = (pb && xb && db && decide (dv ≤ 64))) := by unfold Hid; rw [HW3.out, HG.out]
      clear HW3 HG
      cases pb <;> cases xb <;> cases db
      all_goals by_cases h64 : dv ≤ 64
      all_goals
        go_enter Tryz.func113, Tryz.ntmps113
        go_wp2_with fail
        refine HI.out.mono ?_
        rintro e w1 ⟨rfl, hB⟩
        go_wp2_with fail
        refine (HP _).out.mono ?_
        rintro e w2 ⟨rfl, rfl⟩
        go_wp2_with fail
        refine (HX _).out.mono ?_
        rintro e w3 ⟨rfl, rfl⟩
        go_wp2_with fail
        refine (HD _ (HEN _ hB).out).out.mono ?_
        rintro e w4 ⟨rfl, hB4⟩
        go_wp2
        go_ret
        exact ⟨ret_bool (by rw [HF.out]; first | rfl | (simp; omega)), below_tr hB hB4⟩
set_option maxRecDepth 100000 in
set_option maxHeartbeats 1000000 in
theorem check1_any (s : ByteArray) (w : World) (he : Env w) (hs : s.size ≤ 65536) :
    Calls Tryz.prog 112 #[.string s] w fun e w' => e = .returned (.bool (!wordB s)) ∧ Below w.heap.size w w' := by
  have HW := hid (word_any s w he hs)
  go_enter Tryz.func112, Tryz.ntmps112
  go_wp2_with fail
  refine HW.out.mono ?_
  rintro e w1 ⟨rfl, hB⟩
  go_wp2
  go_ret
  exact ⟨rfl, hB⟩
def lcheckI (ws : List ByteArray) : Int := if 4096 < ws.length then 4 else if (ws.any fun s => !wordB s) = true then 11 else 0
set_option maxRecDepth 100000 in
set_option maxHeartbeats 1000000 in
theorem lcheck_any (v : Value) (ws : List ByteArray) (w : World) (he : Env w) (hr : RdS w v ws) (hs : ∀ s ∈ ws, s.size ≤ 65536) :
    Calls Tryz.prog 85 #[v] w fun e w' => e = .returned (.int .i64 (lcheckI ws)) ∧ Below w.heap.size w w' := by
  have HI : Hid (lcheckI ws = if 4096 < ws.length then 4 else if (ws.any fun s => !wordB s) = true then 11 else 0) := rfl
  obtain ⟨a, cap, rfl, hlc, hcm, _⟩ := hr.open
  by_cases h1 : 4096 < ws.length
  · have h1' : (4096 : Int) < (ws.length : Int) := by omega
    go_enter Tryz.func85, Tryz.ntmps85
    go_wp2
    go_ret
    exact ⟨ret_int (by rw [HI.out, if_pos h1]), Below.refl _ _⟩
  · have h1' : ¬ (4096 : Int) < (ws.length : Int) := by omega
    have HC := hid (containsFnS_any 112 (enters_of Tryz.func112 (by kernel_rfl) rfl) (fun s => !wordB s) _ ws w hr
      (fun x W' hx hW => check1_any x W' (he.below hW) (hs x hx)))
    have HI2 : Hid (lcheckI ws = if (ws.any fun s => !wordB s) = true then 11 else 0) := by unfold Hid; rw [HI.out, if_neg h1]
    clear HI h1
    generalize (ws.any fun s => !wordB s) = ab at *
    cases ab with
    | true =>
      go_enter Tryz.func85, Tryz.ntmps85
      go_wp2_with fail
      refine HC.out.mono ?_
      rintro e w1 ⟨rfl, hB⟩
      go_wp2
      go_ret
      exact ⟨ret_int HI2.out.symm, hB⟩
    | false =>
      go_enter Tryz.func85, Tryz.ntmps85
      go_wp2_with fail
      refine HC.out.mono ?_
      rintro e w1 ⟨rfl, hB⟩
      go_wp2
      go_ret
      exact ⟨ret_int HI2.out.symm, hB⟩
end Go.Proofs.YtjhdeoniafahbaaGreatDoor
namespace Go.Proofs.YtjhdeoniafahbaaGreatDoor
open Go.RowKit
attribute [local go_sem] Oper.semAt_some
theorem kpX_set2 {n b1 b2 : Nat} (W : World) (B o : Nat) (v : Value) (hB : B = b1 ∨ B = b2) : KpX n b1 b2 W (W.setCell ⟨B, o, none⟩ v) :=
  ⟨by simp [World.setCell], fun k _ hk1 hk2 => Below.heap_setCell _ _ _ _ (by
    rcases hB with rfl | rfl
    · simpa using hk1
    · simpa using hk2)⟩
theorem keepsFrom_set {n : Nat} (W : World) (B o : Nat) (v : Value) (hB : B < n) : KeepsFrom n W (W.setCell ⟨B, o, none⟩ v) :=
  ⟨by simp [World.setCell], fun k ob h1 h2 _ => (Below.heap_setCell _ _ _ _ (by simp; omega)).trans h2⟩
theorem keepsFrom_tr {n : Nat} {A B C : World} (h : KeepsFrom n A B) (k : KeepsFrom n B C) : KeepsFrom n A C :=
  ⟨Nat.le_trans h.1 k.1, fun i o h1 h2 h3 => k.2 i o h1 (h.2 i o h1 h2 h3) h3⟩
theorem cell_nwE (W : World) (cs : Array Value) (t : TypeId) (i : Nat) {n : Nat} {x : Value} (hn : n = W.heap.size) (h : cs[i]? = some x) : (W.alloc (.cells cs t)).cell? ⟨n, i, none⟩ = some x := by subst hn; exact cell_nw W cs t i h
/-- Block B holds the cells cs. -/
def Row (W : World) (B : Nat) (cs : Array Value) (t : TypeId) : Prop := W.heap[B]? = some (.cells cs t (0, 0))
theorem Row.cell {W : World} {B : Nat} {cs : Array Value} {t : TypeId} (h : Row W B cs t) (i : Nat) {x : Value} (hx : cs[i]? = some x) : W.cell? ⟨B, i, none⟩ = some x := by rw [cell_of_row W B i cs t (0, 0) h]; exact hx
theorem Row.frozen {W : World} {B : Nat} {cs : Array Value} {t : TypeId} (h : Row W B cs t) (i : Nat) : W.frozen? ⟨B, i, none⟩ = false := frozen_of_row W B i cs t h
theorem Row.set {W : World} {B : Nat} {cs : Array Value} {t : TypeId} (h : Row W B cs t) (i : Nat) (v : Value) : Row (W.setCell ⟨B, i, none⟩ v) B (cs.setIfInBounds i v) t := heap_setCell_same W B i cs t v h
theorem Row.other {W : World} {B : Nat} {cs : Array Value} {t : TypeId} (h : Row W B cs t) (p : Addr) (v : Value) (hp : B ≠ p.block) : Row (W.setCell p v) B cs t := (Below.heap_setCell W p v B hp).trans h
theorem Row.below {W W' : World} {B : Nat} {cs : Array Value} {t : TypeId} (h : Row W B cs t) (hb : Below W.heap.size W W') : Row W' B cs t := (hb.block B (Array.getElem?_eq_some_iff.1 h).1).trans h
theorem Row.lt {W : World} {B : Nat} {cs : Array Value} {t : TypeId} (h : Row W B cs t) : B < W.heap.size := (Array.getElem?_eq_some_iff.1 h).1
theorem row_nw (W : World) (cs : Array Value) (t : TypeId) {n : Nat} (hn : n = W.heap.size) : Row (W.alloc (.cells cs t)) n cs t := by subst hn; exact heap_alloc_new W _
theorem Row.al {W : World} {B : Nat} {cs : Array Value} {t : TypeId} (h : Row W B cs t) (o : Obj) : Row (W.alloc o) B cs t := h.below (below_al W o)
theorem Row.grown {W W' : World} {B : Nat} {cs : Array Value} {t : TypeId} {row : Option Nat} (h : Row W B cs t) (hg : W.grownBy W' row) (hr : ∀ r, row = some r → ∃ o : Obj, W.heap[r]? = some o ∧ o.isCells = false) : Row W' B cs t :=
  (hg.block B h.lt (fun e => by
    obtain ⟨o, ho, hc⟩ := hr B e.symm
    rw [show W.heap[B]? = _ from h] at ho
    cases ho; cases hc)).trans h
theorem numGo_le (p : Nat × Nat) : ∀ (l : List (Nat × Nat)) (n k : Nat), n ≤ k → numGo p n k l ≤ k + l.length
  | [], n, k, h => by simp [numGo]; omega
  | x :: r, n, k, h => by
    have := numGo_le p r (if x = p then k + 1 else n) (k + 1) (by split <;> omega)
    rw [numGo, List.length_cons]; omega
theorem numP_le2 (p : Nat × Nat) (l : List (Nat × Nat)) : numP p l ≤ l.length := by
  have := numGo_le p l 0 0 (Nat.le_refl _)
  unfold numP; omega
/-- Between two rounds of the loop in Of. -/
structure OfI (w : World) (n1 : Nat) (a b : Nat) (s1 L : ByteArray) (num cnt : Int) (W : World) : Prop where
  blk : Row W n1 #[.string s1, .string L, .int .i64 num] 28
  cn : Row W (n1 + 1) #[.int .i64 cnt] 3
  ba : Row W w.heap.size #[.int .i64 a] 3
  bb : Row W (w.heap.size + 1) #[.int .i64 b] 3
  res : Row W (w.heap.size + 1 + 1) #[.string ⟨#[]⟩, .string ⟨#[]⟩, .int .i64 0] 28
  bel : Below w.heap.size w W
theorem OfI.grown {w W W' : World} {n1 a b : Nat} {s1 L : ByteArray} {num cnt : Int} {row : Option Nat} (h : OfI w n1 a b s1 L num cnt W) (hg : W.grownBy W' row) (hr : ∀ r, row = some r → w.heap.size ≤ r ∧ ∃ o : Obj, W.heap[r]? = some o ∧ o.isCells = false) : OfI w n1 a b s1 L num cnt W' :=
  have hr2 := fun r e => (hr r e).2
  ⟨h.blk.grown hg hr2, h.cn.grown hg hr2, h.ba.grown hg hr2, h.bb.grown hg hr2, h.res.grown hg hr2, h.bel.grown hg h.bel.size (fun k e => (hr k e).1)⟩
theorem OfI.cast {w W : World} {n1 a b : Nat} {s1 L : ByteArray} {num cnt num' cnt' : Int} (h : OfI w n1 a b s1 L num cnt W) (h1 : num' = num) (h2 : cnt' = cnt) : OfI w n1 a b s1 L num' cnt' W := by
  subst h1; subst h2; exact h
theorem OfI.count {w W : World} {n1 a b : Nat} {s1 L : ByteArray} {num cnt : Int} (h : OfI w n1 a b s1 L num cnt W) (hn : w.heap.size + 3 ≤ n1) (c : Int) : OfI w n1 a b s1 L num c (W.setCell ⟨n1 + 1, 0, none⟩ (.int .i64 c)) :=
  ⟨h.blk.other _ _ (by simp), h.cn.set 0 _, h.ba.other _ _ (by simp; omega), h.bb.other _ _ (by simp; omega), h.res.other _ _ (by simp; omega), h.bel.setCell (p := ⟨n1 + 1, 0, none⟩) (by simp; omega) _⟩
theorem OfI.number {w W : World} {n1 a b : Nat} {s1 L : ByteArray} {num cnt : Int} (h : OfI w n1 a b s1 L num cnt W) (hn : w.heap.size + 3 ≤ n1) (c : Int) : OfI w n1 a b s1 L c cnt (W.setCell ⟨n1, 2, none⟩ (.int .i64 c)) :=
  ⟨h.blk.set 2 _, h.cn.other _ _ (by simp), h.ba.other _ _ (by simp; omega), h.bb.other _ _ (by simp; omega), h.res.other _ _ (by simp; omega), h.bel.setCell (p := ⟨n1, 2, none⟩) (by simp; omega) _⟩
set_option maxRecDepth 100000 in
set_option maxHeartbeats 2000000 in
theorem of_any (ws : List ByteArray) (a b : Nat) (v : Value) (w : World) (he : Env w) (hr : RdS w v ws) (hz : ∀ s ∈ ws, s.size ≤ 65536) (hlen : ws.length ≤ 13) (hck : lcheckI ws = 0) (hab : a < b) (hbl : b ≤ ws.length) (hne : ∀ s ∈ ws, s.size ≠ 0) :
    Calls Tryz.prog 80 #[v, .int .i64 a, .int .i64 b] w fun e w' => e = .returned (.tuple #[.agg #[.string (ws.getD a ⟨#[]⟩), .string (lastW ws a b), .int .i64 (ofNum (occ ws (ws.getD a ⟨#[]⟩) (lastW ws a b)) (a, b - 1))], .int .i64 0]) ∧ Below w.heap.size w w' := by
  refine (callsIn_wide (n := 9)).1 ?_
  have HCK := fun w' (h : Below w.heap.size w w') => hid (lcheck_any v ws w' (he.below h) (hr.below h) hz)
  rw [hck] at HCK
  have HMEM := hid (part_mem hne hab hbl)
  obtain ⟨ad, cap, rfl, hlc, hcm, hcell⟩ := hr.open
  obtain ⟨s1, b1, o1, hs1, rfl, hc1⟩ := hcell a (by omega)
  have hg1 : ws.getD a ⟨#[]⟩ = s1 := by rw [List.getD_eq_getElem?_getD, hs1]; rfl
  have hblk := World.block_lt_of_cell? w _ hc1
  dsimp only at hblk
  have HR := hid hr
  have hbo := below_al w (.cells #[.int .i64 a] 3)
  have hbo2 := below_al (w.alloc (.cells #[.int .i64 a] 3)) (.cells #[.int .i64 b] 3)
  have hbo3 := below_al ((w.alloc (.cells #[.int .i64 a] 3)).alloc (.cells #[.int .i64 b] 3)) (.cells #[.string ⟨#[]⟩, .string ⟨#[]⟩, .int .i64 0] 28)
  have HB0 := hid (below_tr hbo (below_tr hbo2 hbo3))
  have hra : Row (((w.alloc (.cells #[.int .i64 a] 3)).alloc (.cells #[.int .i64 b] 3)).alloc (.cells #[.string ⟨#[]⟩, .string ⟨#[]⟩, .int .i64 0] 28)) w.heap.size #[.int .i64 a] 3 := ((row_nw w _ _ rfl).al _).al _
  have hrb : Row (((w.alloc (.cells #[.int .i64 a] 3)).alloc (.cells #[.int .i64 b] 3)).alloc (.cells #[.string ⟨#[]⟩, .string ⟨#[]⟩, .int .i64 0] 28)) (w.heap.size + 1) #[.int .i64 b] 3 := (row_nw _ _ _ (by simp)).al _
  have hrr : Row (((w.alloc (.cells #[.int .i64 a] 3)).alloc (.cells #[.int .i64 b] 3)).alloc (.cells #[.string ⟨#[]⟩, .string ⟨#[]⟩, .int .i64 0] 28)) (w.heap.size + 1 + 1) #[.string ⟨#[]⟩, .string ⟨#[]⟩, .int .i64 0] 28 := row_nw _ _ _ (by simp)
  have hsz1 : (((w.alloc (.cells #[.int .i64 a] 3)).alloc (.cells #[.int .i64 b] 3)).alloc (.cells #[.string ⟨#[]⟩, .string ⟨#[]⟩, .int .i64 0] 28)).heap.size = w.heap.size + 3 := by simp
  have hq1 : ¬ (a : Int) < 0 := by omega
  have hq2 : ¬ (b : Int) ≤ (a : Int) := by omega
  have hq3 : ¬ (ws.length : Int) < (b : Int) := by omega
  have hq4 : (a : Int) < (ws.length : Int) := by omega
  clear hbo hbo2 hbo3 hcell hs1
  by_cases hd : b - a = 1
  · have HL : Hid (lastW ws a b = ⟨#[]⟩) := by unfold Hid lastW; rw [if_pos hd]
    have hd2 : ¬ (1 : Int) < (b : Int) - (a : Int) := by omega
    rw [hg1, HL.out] at HMEM ⊢
    refine callsIn_of_wp_marks Tryz.func80 rfl trivial ?_ rfl
    simp only [Tryz.ntmps80, List.size_toArray, List.length_cons, List.length_nil, Nat.reduceAdd, Nat.reduceSub, Array.replicate_succ, Array.replicate_zero, List.push_toArray, List.append_toArray, List.nil_append, List.cons_append]
    refine wpIn_wide.2 ?_
    have hca := hra.cell 0 rfl
    have hcb := hrb.cell 0 rfl
    go_wp2_with fail
    generalize ((w.alloc (.cells #[.int .i64 a] 3)).alloc (.cells #[.int .i64 b] 3)).alloc (.cells #[.string ⟨#[]⟩, .string ⟨#[]⟩, .int .i64 0] 28) = W1 at *
    refine (HCK _ HB0.out).out.mono ?_
    rintro e w2 ⟨rfl, hB1⟩
    have HB2 := hid (below_tr HB0.out hB1)
    have hra2 := hid (hra.below hB1)
    have hrb2 := hid (hrb.below hB1)
    have hrr2 := hid (hrr.below hB1)
    have hsz2 : w.heap.size + 3 ≤ w2.heap.size := by have := hB1.size; omega
    have hca2 := hra2.out.cell 0 rfl
    have hcb2 := hrb2.out.cell 0 rfl
    have hc12 := Below.keeps HB2.out _ _ hc1
    have hca3 := fun ob => cell_al hca2 ob
    have hcb3 := fun ob => cell_al hcb2 ob
    have HR2 := hid (HR.out.below HB2.out)
    clear hca hcb hc1 HCK hra hrb hrr hsz1
    go_wp2_with fail
    obtain ⟨W5, hW5⟩ : ∃ W5, W5 = (w2.alloc (.cells #[.string s1, .string ⟨#[]⟩, .int .i64 0] 28)).alloc (.cells #[.int .i64 0] 3) := ⟨_, rfl⟩
    have hb5 : Below w2.heap.size w2 W5 := by rw [hW5]; exact below_tr (below_al _ _) (below_al _ _)
    have HI5 : Hid (OfI w w2.heap.size a b s1 ⟨#[]⟩ 0 0 W5) := by
      refine ⟨?_, ?_, hra2.out.below hb5, hrb2.out.below hb5, hrr2.out.below hb5, below_tr HB2.out hb5⟩
      · rw [hW5]; exact (row_nw _ _ _ rfl).al _
      · rw [hW5]; exact row_nw _ _ _ (by simp)
    have hs5 : W5.heap.size = w2.heap.size + 2 := by rw [hW5]; simp
    have HR5 := hid (HR2.out.below hb5)
    rw [← hW5]
    clear hW5 hca2 hcb2 hc12 hca3 hcb3 hra2 hrb2 hrr2 hb5 HR2
    refine (occurrences_any _ _ _ _ _ _).mono ?_
    rintro e w3 ⟨rfl, rfl⟩
    have hb6 : Below W5.heap.size W5 (((W5.alloc (.cells #[.slice (some ⟨b1, o1, none⟩) ws.length cap] 23)).alloc (.cells #[.string s1] 9)).alloc (.cells #[.string ⟨#[]⟩] 9)) := below_tr (below_al _ _) (below_tr (below_al _ _) (below_al _ _))
    have HM6 : Hid (OccM W5.heap.size (W5.heap.size + 1) (W5.heap.size + 2) (some ⟨b1, o1, none⟩) cap ws s1 ⟨#[]⟩ (((W5.alloc (.cells #[.slice (some ⟨b1, o1, none⟩) ws.length cap] 23)).alloc (.cells #[.string s1] 9)).alloc (.cells #[.string ⟨#[]⟩] 9))) := by
      refine ⟨cell_al (cell_al (cell_nw _ _ _ 0 rfl) _) _, cell_al (cell_nwE _ _ _ 0 (by simp) rfl) _, cell_nwE _ _ _ 0 (by simp) rfl, HR5.out.below hb6⟩
    have hs6 : (((W5.alloc (.cells #[.slice (some ⟨b1, o1, none⟩) ws.length cap] 23)).alloc (.cells #[.string s1] 9)).alloc (.cells #[.string ⟨#[]⟩] 9)).heap.size = w2.heap.size + 5 := by simp; omega
    have HI6 : Hid (OfI w w2.heap.size a b s1 ⟨#[]⟩ 0 0 (((W5.alloc (.cells #[.slice (some ⟨b1, o1, none⟩) ws.length cap] 23)).alloc (.cells #[.string s1] 9)).alloc (.cells #[.string ⟨#[]⟩] 9))) :=
      ⟨HI5.out.blk.below hb6, HI5.out.cn.below hb6, HI5.out.ba.below hb6, HI5.out.bb.below hb6, HI5.out.res.below hb6, below_tr HI5.out.bel hb6⟩
    rw [hs5] at HM6 ⊢
    clear HI5 HR5 hb6
    go_wp2_with fail
    generalize ((W5.alloc (.cells #[.slice (some ⟨b1, o1, none⟩) ws.length cap] 23)).alloc (.cells #[.string s1] 9)).alloc (.cells #[.string ⟨#[]⟩] 9) = W6 at *
    generalize w2.heap.size = n1 at *
    have hol : (occ ws s1 ⟨#[]⟩).length ≤ 182 := occ_len hlen _ _
    refine (wpIn_wide (n := 9)).1 ?_
    refine wpIn_rangeFunc_ownG rfl (by omega) (gf := 114) (lb := #[.pointer (some ⟨n1 + 2, 0, none⟩), .pointer (some ⟨n1 + 2 + 1, 0, none⟩), .pointer (some ⟨n1 + 2 + 2, 0, none⟩)]) rfl trivial (enters_of Tryz.func114 (by kernel_rfl) rfl)
      (encs := fun x : Nat × Nat => #[.int .i64 (x.1 : Int), .int .i64 (x.2 : Int)]) (Kp := KpX W6.heap.size n1 (n1 + 1))
      (S := fun l => l = occ ws s1 ⟨#[]⟩) (Sp := fun l => ∃ r, l ++ r = occ ws s1 ⟨#[]⟩) (N := 182) (w0 := W6)
      ?hseq1 (fun h k => h.tr k) (KpX.put (Nat.le_refl _)) (Below.refl _ _) (fun _ => rfl)
      (fun pre W => OfI w n1 a b s1 ⟨#[]⟩ (numP (a, b - 1) pre) pre.length W)
      (fun c pre W => c = .exit 0 ∧ 1 < pre.length ∧ 0 < numP (a, b - 1) pre ∧ OfI w n1 a b s1 ⟨#[]⟩ (numP (a, b - 1) pre) pre.length W)
      ?own1 ?ownx1 HI6.out ?a11 ?assign1 ?body1 ?done1 ?stop1
    case own1 =>
      intro pre A B row hs2 hg hr
      exact hs2.grown hg (fun r e => ⟨by have := (hr r e).1; omega, (hr r e).2⟩)
    case ownx1 =>
      intro c pre A B row hs2 hg hr
      exact ⟨hs2.1, hs2.2.1, hs2.2.2.1, hs2.2.2.2.grown hg (fun r e => ⟨by have := (hr r e).1; omega, (hr r e).2⟩)⟩
    case assign1 =>
      intro l x W' K hK
      gi_wp2
      exact hK
    case hseq1 =>
      intro l J Jx W' hW' hJ _ hY h0
      refine (occs1_in (9 - 1) (by omega) ws s1 ⟨#[]⟩ _ cap (n1 + 2) (n1 + 2 + 1) (n1 + 2 + 2) 182 (by omega) hol (KpX W6.heap.size n1 (n1 + 1))
        (fun A B hk hM => ⟨hk.cell hM.cw (show n1 + 2 < _ by omega) (show n1 + 2 ≠ n1 by omega) (show n1 + 2 ≠ n1 + 1 by omega), hk.cell hM.cf (show n1 + 2 + 1 < _ by omega) (show n1 + 2 + 1 ≠ n1 by omega) (show n1 + 2 + 1 ≠ n1 + 1 by omega), hk.cell hM.cl (show n1 + 2 + 2 < _ by omega) (show n1 + 2 + 2 ≠ n1 by omega) (show n1 + 2 + 2 ≠ n1 + 1 by omega), hM.rd.blk (fun k e => by have e' : b1 = k := Option.some.inj e; subst e'; exact hk.2 _ (by omega) (by omega) (by omega))⟩)
        l J Jx hY W' hJ (HM6.out.below hW') h0).mono ?_
      rintro e W3 ⟨h1, h2⟩
      exact ⟨h1, h2.imp (fun j => ⟨_, rfl, j⟩) (fun h => h)⟩
    case body1 =>
      rintro l pre x W' hI hpl
      have hnn := numP_le2 (a, b - 1) pre
      have HS0 := hid (numP_snoc (a, b - 1) x pre)
      have HV := hid (hI.count hsz2 ((pre.length : Int) + 1))
      have HV2 := hid (HV.out.number hsz2 ((pre.length : Int) + 1))
      have c1 := hI.cn.cell 0 rfl
      have d1 := hI.cn.frozen 0
      have v1 := HV.out.ba.cell 0 rfl
      have v2 := HV.out.bb.cell 0 rfl
      have v3 := HV.out.cn.cell 0 rfl
      have v4 := HV.out.blk.cell 2 rfl
      have v5 := HV.out.blk.frozen 2
      have u3 := HV2.out.cn.cell 0 rfl
      have u4 := HV2.out.blk.cell 2 rfl
      clear hI HM6 HI6
      obtain ⟨x1, x2⟩ := x
      generalize numP (a, b - 1) pre = nn at *
      by_cases ha : x1 = a
      · by_cases hb : x2 = b - 1
        · have HS : Hid (numP (a, b - 1) (pre ++ [(x1, x2)]) = pre.length + 1) := by unfold Hid; rw [HS0.out, if_pos (by rw [ha, hb])]
          have e1 : ((x1 : Int) == (a : Int)) = true := by simp [ha]
          have e2 : ((x2 : Int) == (b : Int) - 1) = true := by simp; omega
          have e3 : (x1 : Int) = (a : Int) := by omega
          have e4 : (x2 : Int) = (b : Int) - 1 := by omega
          clear ha hb
          by_cases h0 : pre.length = 0
          · have i1 : ¬ (1 : Int) < (pre.length : Int) + 1 := by omega
            clear h0
            gi_wp2
            exact ⟨keepsFrom_tr (keepsFrom_set _ _ _ _ (by omega)) (keepsFrom_set _ _ _ _ (by omega)), (kpX_set2 _ _ _ _ (.inr rfl)).tr (kpX_set2 _ _ _ _ (.inl rfl)), HV2.out.cast (by have := HS.out; omega) (by rw [List.length_append, List.length_singleton]; omega)⟩
          · have i1 : (1 : Int) < (pre.length : Int) + 1 := by omega
            have i2 : (0 : Int) < (pre.length : Int) + 1 := by omega
            have H0 := hid h0
            clear h0
            gi_wp2
            exact ⟨keepsFrom_tr (keepsFrom_set _ _ _ _ (by omega)) (keepsFrom_set _ _ _ _ (by omega)), rfl, by rw [List.length_append, List.length_singleton]; omega, by have := HS.out; omega, HV2.out.cast (by have := HS.out; omega) (by rw [List.length_append, List.length_singleton]; omega)⟩
        · have HS : Hid (numP (a, b - 1) (pre ++ [(x1, x2)]) = nn) := by unfold Hid; rw [HS0.out, if_neg (by intro h; exact hb (Prod.mk.inj h).2)]
          have e1 : ((x1 : Int) == (a : Int)) = true := by simp [ha]
          have e2 : ((x2 : Int) == (b : Int) - 1) = false := by simp; omega
          have e3 : (x1 : Int) = (a : Int) := by omega
          have e4 : ¬ (x2 : Int) = (b : Int) - 1 := by omega
          clear ha hb
          by_cases h0 : pre.length = 0
          · have i1 : ¬ (1 : Int) < (pre.length : Int) + 1 := by omega
            clear h0
            gi_wp2
            exact ⟨keepsFrom_set _ _ _ _ (by omega), kpX_set2 _ _ _ _ (.inr rfl), HV.out.cast (by have := HS.out; omega) (by rw [List.length_append, List.length_singleton]; omega)⟩
          · have i1 : (1 : Int) < (pre.length : Int) + 1 := by omega
            by_cases hn : nn = 0
            · have i2 : ¬ (0 : Int) < (nn : Int) := by omega
              have HN := hid hn
              clear hn h0
              gi_wp2
              exact ⟨keepsFrom_set _ _ _ _ (by omega), kpX_set2 _ _ _ _ (.inr rfl), HV.out.cast (by have := HS.out; omega) (by rw [List.length_append, List.length_singleton]; omega)⟩
            · have i2 : (0 : Int) < (nn : Int) := by omega
              have H0 := hid h0
              have HN := hid hn
              clear hn h0
              gi_wp2
              exact ⟨keepsFrom_set _ _ _ _ (by omega), rfl, by rw [List.length_append, List.length_singleton]; omega, by have := HS.out; omega, HV.out.cast (by have := HS.out; omega) (by rw [List.length_append, List.length_singleton]; omega)⟩
      · have HS : Hid (numP (a, b - 1) (pre ++ [(x1, x2)]) = nn) := by unfold Hid; rw [HS0.out, if_neg (by intro h; exact ha (Prod.mk.inj h).1)]
        have e1 : ((x1 : Int) == (a : Int)) = false := by simp; omega
        have e3 : ¬ (x1 : Int) = (a : Int) := by omega
        clear ha
        by_cases h0 : pre.length = 0
        · have i1 : ¬ (1 : Int) < (pre.length : Int) + 1 := by omega
          clear h0
          gi_wp2
          exact ⟨keepsFrom_set _ _ _ _ (by omega), kpX_set2 _ _ _ _ (.inr rfl), HV.out.cast (by have := HS.out; omega) (by rw [List.length_append, List.length_singleton]; omega)⟩
        · have i1 : (1 : Int) < (pre.length : Int) + 1 := by omega
          by_cases hn : nn = 0
          · have i2 : ¬ (0 : Int) < (nn : Int) := by omega
            have HN := hid hn
            clear hn h0
            gi_wp2
            exact ⟨keepsFrom_set _ _ _ _ (by omega), kpX_set2 _ _ _ _ (.inr rfl), HV.out.cast (by have := HS.out; omega) (by rw [List.length_append, List.length_singleton]; omega)⟩
          · have i2 : (0 : Int) < (nn : Int) := by omega
            have H0 := hid h0
            have HN := hid hn
            clear hn h0
            gi_wp2
            exact ⟨keepsFrom_set _ _ _ _ (by omega), rfl, by rw [List.length_append, List.length_singleton]; omega, by have := HS.out; omega, HV.out.cast (by have := HS.out; omega) (by rw [List.length_append, List.length_singleton]; omega)⟩
    case done1 =>
      rintro D ys W' hD rfl hI hK
      have hple := numP_le (p := (a, b - 1)) (occ_sorted ws s1 ⟨#[]⟩)
      have hw1 := hI.cn.cell 0 rfl
      have hw2 := hI.blk.cell 2 rfl
      have hw3 := hI.blk.frozen 2
      by_cases h1 : (occ ws s1 ⟨#[]⟩).length = 1
      · have HON : Hid (ofNum (occ ws s1 ⟨#[]⟩) (a, b - 1) = 0) := by unfold Hid ofNum; rw [if_pos h1]
        have i1 : ((occ ws s1 ⟨#[]⟩).length : Int) = 1 := by omega
        rw [i1] at hw1
        have HV := hid (hI.number hsz2 0)
        have v1 := HV.out.blk.cell 0 rfl
        have v2 := HV.out.blk.cell 1 rfl
        have v3 := HV.out.blk.cell 2 rfl
        have g0 := HV.out.res.cell 0 rfl
        have g1 := HV.out.res.cell 1 rfl
        have g2 := HV.out.res.cell 2 rfl
        have d0 := HV.out.res.frozen 0
        have d1 := HV.out.res.frozen 1
        have d2 := HV.out.res.frozen 2
        have HKK := hid ((KeepsOthers.setCell W' ⟨n1, 2, none⟩ (.int .i64 0)).same D _ hK rfl)
        go_wp2_with fail
        generalize W'.setCell ⟨n1, 2, none⟩ (.int .i64 0) = V at *
        have hR := ((HV.out.res.set 0 (.string s1)).set 1 (.string ⟨#[]⟩)).set 2 (.int .i64 0)
        have hK3 := (KeepsOthers.setCell _ ⟨w.heap.size + 1 + 1, 2, none⟩ (.int .i64 0)).same D _ ((KeepsOthers.setCell _ ⟨w.heap.size + 1 + 1, 1, none⟩ (.string ⟨#[]⟩)).same D _ ((KeepsOthers.setCell V ⟨w.heap.size + 1 + 1, 0, none⟩ (.string s1)).same D _ HKK.out rfl) rfl) rfl
        have hB3 := ((HV.out.bel.setCell (p := ⟨w.heap.size + 1 + 1, 0, none⟩) (by simp; omega) (.string s1)).setCell (p := ⟨w.heap.size + 1 + 1, 1, none⟩) (by simp; omega) (.string ⟨#[]⟩)).setCell (p := ⟨w.heap.size + 1 + 1, 2, none⟩) (by simp; omega) (.int .i64 0)
        have hq0 := hR.cell 0 rfl
        have hq1 := hR.cell 1 rfl
        have hq2 := hR.cell 2 rfl
        clear hR
        generalize ((V.setCell ⟨w.heap.size + 1 + 1, 0, none⟩ (.string s1)).setCell ⟨w.heap.size + 1 + 1, 1, none⟩ (.string ⟨#[]⟩)).setCell ⟨w.heap.size + 1 + 1, 2, none⟩ (.int .i64 0) = V9 at *
        refine ⟨by simp, .inl ⟨_, _, rfl, run_takeDeferred hK3, ?_⟩⟩
        have hz0 := cell_kept hq0 (grownBy_putObj' _ D (.deferred none)) (fun r e => by cases e; exact ⟨_, hK3, rfl⟩)
        have hz1 := cell_kept hq1 (grownBy_putObj' _ D (.deferred none)) (fun r e => by cases e; exact ⟨_, hK3, rfl⟩)
        have hz2 := cell_kept hq2 (grownBy_putObj' _ D (.deferred none)) (fun r e => by cases e; exact ⟨_, hK3, rfl⟩)
        refine ⟨.tuple #[.agg #[.string s1, .string ⟨#[]⟩, .int .i64 0], .int .i64 0], ?_, by rw [HON.out]; rfl, hB3.grown (grownBy_putObj' _ D _) hB3.size (fun k e => by cases e; omega)⟩
        simp [results, Tryz.f80, go_sem, hz0, hz1, hz2]
      · have HON : Hid (ofNum (occ ws s1 ⟨#[]⟩) (a, b - 1) = numP (a, b - 1) (occ ws s1 ⟨#[]⟩)) := by unfold Hid ofNum; rw [if_neg h1]
        have i1 : ¬ ((occ ws s1 ⟨#[]⟩).length : Int) = 1 := by omega
        have i2 : ¬ (65536 : Int) < (numP (a, b - 1) (occ ws s1 ⟨#[]⟩) : Int) := by omega
        have v1 := hI.blk.cell 0 rfl
        have v2 := hI.blk.cell 1 rfl
        have g0 := hI.res.cell 0 rfl
        have g1 := hI.res.cell 1 rfl
        have g2 := hI.res.cell 2 rfl
        have d0 := hI.res.frozen 0
        have d1 := hI.res.frozen 1
        have d2 := hI.res.frozen 2
        generalize numP (a, b - 1) (occ ws s1 ⟨#[]⟩) = nn at *
        go_wp2_with fail
        have hR := ((hI.res.set 0 (.string s1)).set 1 (.string ⟨#[]⟩)).set 2 (.int .i64 nn)
        have hK3 := (KeepsOthers.setCell _ ⟨w.heap.size + 1 + 1, 2, none⟩ (.int .i64 nn)).same D _ ((KeepsOthers.setCell _ ⟨w.heap.size + 1 + 1, 1, none⟩ (.string ⟨#[]⟩)).same D _ ((KeepsOthers.setCell W' ⟨w.heap.size + 1 + 1, 0, none⟩ (.string s1)).same D _ hK rfl) rfl) rfl
        have hB3 := ((hI.bel.setCell (p := ⟨w.heap.size + 1 + 1, 0, none⟩) (by simp; omega) (.string s1)).setCell (p := ⟨w.heap.size + 1 + 1, 1, none⟩) (by simp; omega) (.string ⟨#[]⟩)).setCell (p := ⟨w.heap.size + 1 + 1, 2, none⟩) (by simp; omega) (.int .i64 nn)
        have hq0 := hR.cell 0 rfl
        have hq1 := hR.cell 1 rfl
        have hq2 := hR.cell 2 rfl
        clear hR
        generalize ((W'.setCell ⟨w.heap.size + 1 + 1, 0, none⟩ (.string s1)).setCell ⟨w.heap.size + 1 + 1, 1, none⟩ (.string ⟨#[]⟩)).setCell ⟨w.heap.size + 1 + 1, 2, none⟩ (.int .i64 nn) = V9 at *
        refine ⟨by simp, .inl ⟨_, _, rfl, run_takeDeferred hK3, ?_⟩⟩
        have hz0 := cell_kept hq0 (grownBy_putObj' _ D (.deferred none)) (fun r e => by cases e; exact ⟨_, hK3, rfl⟩)
        have hz1 := cell_kept hq1 (grownBy_putObj' _ D (.deferred none)) (fun r e => by cases e; exact ⟨_, hK3, rfl⟩)
        have hz2 := cell_kept hq2 (grownBy_putObj' _ D (.deferred none)) (fun r e => by cases e; exact ⟨_, hK3, rfl⟩)
        refine ⟨.tuple #[.agg #[.string s1, .string ⟨#[]⟩, .int .i64 nn], .int .i64 0], ?_, by rw [HON.out], hB3.grown (grownBy_putObj' _ D _) hB3.size (fun k e => by cases e; omega)⟩
        simp [results, Tryz.f80, go_sem, hz0, hz1, hz2]
    case stop1 =>
      rintro D c pre W' hD ⟨r, hsp⟩ ⟨rfl, hc1, hn0, hI⟩ hK
      have hple := numP_le (p := (a, b - 1)) (occ_sorted ws s1 ⟨#[]⟩)
      have HON : Hid (ofNum (occ ws s1 ⟨#[]⟩) (a, b - 1) = numP (a, b - 1) pre) := by
        have hl := congrArg List.length hsp
        rw [List.length_append] at hl
        unfold Hid ofNum
        rw [if_neg (by omega), ← hsp]
        exact (numP_part (by rw [hsp]; exact occ_sorted _ _ _) hn0).symm
      have hw1 := hI.cn.cell 0 rfl
      have hw2 := hI.blk.cell 2 rfl
      have hw3 := hI.blk.frozen 2
      have i1 : ¬ (pre.length : Int) = 1 := by omega
      have hnl := numP_le2 (a, b - 1) pre
      have hpl : pre.length ≤ 182 := by
        have hl := congrArg List.length hsp
        rw [List.length_append] at hl
        omega
      have i2 : ¬ (65536 : Int) < (numP (a, b - 1) pre : Int) := by omega
      have v1 := hI.blk.cell 0 rfl
      have v2 := hI.blk.cell 1 rfl
      have g0 := hI.res.cell 0 rfl
      have g1 := hI.res.cell 1 rfl
      have g2 := hI.res.cell 2 rfl
      have d0 := hI.res.frozen 0
      have d1 := hI.res.frozen 1
      have d2 := hI.res.frozen 2
      generalize numP (a, b - 1) pre = nn at *
      clear hsp hc1 hn0
      gi_wp2_with fail
      go_wp2_with fail
      have hR := ((hI.res.set 0 (.string s1)).set 1 (.string ⟨#[]⟩)).set 2 (.int .i64 nn)
      have hK3 := (KeepsOthers.setCell _ ⟨w.heap.size + 1 + 1, 2, none⟩ (.int .i64 nn)).same D _ ((KeepsOthers.setCell _ ⟨w.heap.size + 1 + 1, 1, none⟩ (.string ⟨#[]⟩)).same D _ ((KeepsOthers.setCell W' ⟨w.heap.size + 1 + 1, 0, none⟩ (.string s1)).same D _ hK rfl) rfl) rfl
      have hB3 := ((hI.bel.setCell (p := ⟨w.heap.size + 1 + 1, 0, none⟩) (by simp; omega) (.string s1)).setCell (p := ⟨w.heap.size + 1 + 1, 1, none⟩) (by simp; omega) (.string ⟨#[]⟩)).setCell (p := ⟨w.heap.size + 1 + 1, 2, none⟩) (by simp; omega) (.int .i64 nn)
      have hq0 := hR.cell 0 rfl
      have hq1 := hR.cell 1 rfl
      have hq2 := hR.cell 2 rfl
      clear hR
      generalize ((W'.setCell ⟨w.heap.size + 1 + 1, 0, none⟩ (.string s1)).setCell ⟨w.heap.size + 1 + 1, 1, none⟩ (.string ⟨#[]⟩)).setCell ⟨w.heap.size + 1 + 1, 2, none⟩ (.int .i64 nn) = V9 at *
      refine ⟨by simp, .inl ⟨_, _, rfl, run_takeDeferred hK3, ?_⟩⟩
      have hz0 := cell_kept hq0 (grownBy_putObj' _ D (.deferred none)) (fun r e => by cases e; exact ⟨_, hK3, rfl⟩)
      have hz1 := cell_kept hq1 (grownBy_putObj' _ D (.deferred none)) (fun r e => by cases e; exact ⟨_, hK3, rfl⟩)
      have hz2 := cell_kept hq2 (grownBy_putObj' _ D (.deferred none)) (fun r e => by cases e; exact ⟨_, hK3, rfl⟩)
      refine ⟨.tuple #[.agg #[.string s1, .string ⟨#[]⟩, .int .i64 nn], .int .i64 0], ?_, by rw [HON.out], hB3.grown (grownBy_putObj' _ D _) hB3.size (fun k e => by cases e; omega)⟩
      simp [results, Tryz.f80, go_sem, hz0, hz1, hz2]
  · obtain ⟨_, _, he2, _, _, hcell⟩ := HR.out.open
    obtain ⟨s2, b2, o2, hs2, he3, hc2⟩ := hcell (b - 1) (by omega)
    cases he2
    cases he3
    have HL : Hid (lastW ws a b = s2) := by unfold Hid lastW; rw [if_neg hd, List.getD_eq_getElem?_getD, hs2]; rfl
    have hd2 : (1 : Int) < (b : Int) - (a : Int) := by omega
    clear hcell hs2
    rw [hg1, HL.out] at HMEM ⊢
    refine callsIn_of_wp_marks Tryz.func80 rfl trivial ?_ rfl
    simp only [Tryz.ntmps80, List.size_toArray, List.length_cons, List.length_nil, Nat.reduceAdd, Nat.reduceSub, Array.replicate_succ, Array.replicate_zero, List.push_toArray, List.append_toArray, List.nil_append, List.cons_append]
    refine wpIn_wide.2 ?_
    have hca := hra.cell 0 rfl
    have hcb := hrb.cell 0 rfl
    go_wp2_with fail
    generalize ((w.alloc (.cells #[.int .i64 a] 3)).alloc (.cells #[.int .i64 b] 3)).alloc (.cells #[.string ⟨#[]⟩, .string ⟨#[]⟩, .int .i64 0] 28) = W1 at *
    refine (HCK _ HB0.out).out.mono ?_
    rintro e w2 ⟨rfl, hB1⟩
    have HB2 := hid (below_tr HB0.out hB1)
    have hra2 := hid (hra.below hB1)
    have hrb2 := hid (hrb.below hB1)
    have hrr2 := hid (hrr.below hB1)
    have hsz2 : w.heap.size + 3 ≤ w2.heap.size := by have := hB1.size; omega
    have hca2 := hra2.out.cell 0 rfl
    have hcb2 := hrb2.out.cell 0 rfl
    have hc12 := Below.keeps HB2.out _ _ hc1
    have hca3 := fun ob => cell_al hca2 ob
    have hcb3 := fun ob => cell_al hcb2 ob
    have HR2 := hid (HR.out.below HB2.out)
    have hc22 := Below.keeps HB2.out _ _ hc2
    have hc23 := fun ob => cell_al hc22 ob
    have hbi : IntKind.i64.wrap ((b : Int) - 1) = (b : Int) - 1 := IntWalk.i64_in _ (by omega)
    have hbj : (b : Int) - 1 < (ws.length : Int) := by omega
    have hbk : ((b : Int) - 1).toNat = b - 1 := by omega
    have hbm : (0 : Int) ≤ (b : Int) - 1 := by omega
    clear hca hcb hc1 HCK hra hrb hrr hsz1
    go_wp2_with fail
    obtain ⟨W5, hW5⟩ : ∃ W5, W5 = (w2.alloc (.cells #[.string s1, .string s2, .int .i64 0] 28)).alloc (.cells #[.int .i64 0] 3) := ⟨_, rfl⟩
    have hb5 : Below w2.heap.size w2 W5 := by rw [hW5]; exact below_tr (below_al _ _) (below_al _ _)
    have HI5 : Hid (OfI w w2.heap.size a b s1 s2 0 0 W5) := by
      refine ⟨?_, ?_, hra2.out.below hb5, hrb2.out.below hb5, hrr2.out.below hb5, below_tr HB2.out hb5⟩
      · rw [hW5]; exact (row_nw _ _ _ rfl).al _
      · rw [hW5]; exact row_nw _ _ _ (by simp)
    have hs5 : W5.heap.size = w2.heap.size + 2 := by rw [hW5]; simp
    have HR5 := hid (HR2.out.below hb5)
    rw [← hW5]
    clear hW5 hca2 hcb2 hc12 hca3 hcb3 hra2 hrb2 hrr2 hb5 HR2 hc2 hc22
    refine (occurrences_any _ _ _ _ _ _).mono ?_
    rintro e w3 ⟨rfl, rfl⟩
    have hb6 : Below W5.heap.size W5 (((W5.alloc (.cells #[.slice (some ⟨b1, o1, none⟩) ws.length cap] 23)).alloc (.cells #[.string s1] 9)).alloc (.cells #[.string s2] 9)) := below_tr (below_al _ _) (below_tr (below_al _ _) (below_al _ _))
    have HM6 : Hid (OccM W5.heap.size (W5.heap.size + 1) (W5.heap.size + 2) (some ⟨b1, o1, none⟩) cap ws s1 s2 (((W5.alloc (.cells #[.slice (some ⟨b1, o1, none⟩) ws.length cap] 23)).alloc (.cells #[.string s1] 9)).alloc (.cells #[.string s2] 9))) := by
      refine ⟨cell_al (cell_al (cell_nw _ _ _ 0 rfl) _) _, cell_al (cell_nwE _ _ _ 0 (by simp) rfl) _, cell_nwE _ _ _ 0 (by simp) rfl, HR5.out.below hb6⟩
    have hs6 : (((W5.alloc (.cells #[.slice (some ⟨b1, o1, none⟩) ws.length cap] 23)).alloc (.cells #[.string s1] 9)).alloc (.cells #[.string s2] 9)).heap.size = w2.heap.size + 5 := by simp; omega
    have HI6 : Hid (OfI w w2.heap.size a b s1 s2 0 0 (((W5.alloc (.cells #[.slice (some ⟨b1, o1, none⟩) ws.length cap] 23)).alloc (.cells #[.string s1] 9)).alloc (.cells #[.string s2] 9))) :=
      ⟨HI5.out.blk.below hb6, HI5.out.cn.below hb6, HI5.out.ba.below hb6, HI5.out.bb.below hb6, HI5.out.res.below hb6, below_tr HI5.out.bel hb6⟩
    rw [hs5] at HM6 ⊢
    clear HI5 HR5 hb6
    go_wp2_with fail
    generalize ((W5.alloc (.cells #[.slice (some ⟨b1, o1, none⟩) ws.length cap] 23)).alloc (.cells #[.string s1] 9)).alloc (.cells #[.string s2] 9) = W6 at *
    generalize w2.heap.size = n1 at *
    have hol : (occ ws s1 s2).length ≤ 182 := occ_len hlen _ _
    refine (wpIn_wide (n := 9)).1 ?_
    refine wpIn_rangeFunc_ownG rfl (by omega) (gf := 114) (lb := #[.pointer (some ⟨n1 + 2, 0, none⟩), .pointer (some ⟨n1 + 2 + 1, 0, none⟩), .pointer (some ⟨n1 + 2 + 2, 0, none⟩)]) rfl trivial (enters_of Tryz.func114 (by kernel_rfl) rfl)
      (encs := fun x : Nat × Nat => #[.int .i64 (x.1 : Int), .int .i64 (x.2 : Int)]) (Kp := KpX W6.heap.size n1 (n1 + 1))
      (S := fun l => l = occ ws s1 s2) (Sp := fun l => ∃ r, l ++ r = occ ws s1 s2) (N := 182) (w0 := W6)
      ?hseq2 (fun h k => h.tr k) (KpX.put (Nat.le_refl _)) (Below.refl _ _) (fun _ => rfl)
      (fun pre W => OfI w n1 a b s1 s2 (numP (a, b - 1) pre) pre.length W)
      (fun c pre W => c = .exit 0 ∧ 1 < pre.length ∧ 0 < numP (a, b - 1) pre ∧ OfI w n1 a b s1 s2 (numP (a, b - 1) pre) pre.length W)
      ?own2 ?ownx2 HI6.out ?a12 ?assign2 ?body2 ?done2 ?stop2
    case own2 =>
      intro pre A B row hs2 hg hr
      exact hs2.grown hg (fun r e => ⟨by have := (hr r e).1; omega, (hr r e).2⟩)
    case ownx2 =>
      intro c pre A B row hs2 hg hr
      exact ⟨hs2.1, hs2.2.1, hs2.2.2.1, hs2.2.2.2.grown hg (fun r e => ⟨by have := (hr r e).1; omega, (hr r e).2⟩)⟩
    case assign2 =>
      intro l x W' K hK
      gi_wp2
      exact hK
    case hseq2 =>
      intro l J Jx W' hW' hJ _ hY h0
      refine (occs1_in (9 - 1) (by omega) ws s1 s2 _ cap (n1 + 2) (n1 + 2 + 1) (n1 + 2 + 2) 182 (by omega) hol (KpX W6.heap.size n1 (n1 + 1))
        (fun A B hk hM => ⟨hk.cell hM.cw (show n1 + 2 < _ by omega) (show n1 + 2 ≠ n1 by omega) (show n1 + 2 ≠ n1 + 1 by omega), hk.cell hM.cf (show n1 + 2 + 1 < _ by omega) (show n1 + 2 + 1 ≠ n1 by omega) (show n1 + 2 + 1 ≠ n1 + 1 by omega), hk.cell hM.cl (show n1 + 2 + 2 < _ by omega) (show n1 + 2 + 2 ≠ n1 by omega) (show n1 + 2 + 2 ≠ n1 + 1 by omega), hM.rd.blk (fun k e => by have e' : b1 = k := Option.some.inj e; subst e'; exact hk.2 _ (by omega) (by omega) (by omega))⟩)
        l J Jx hY W' hJ (HM6.out.below hW') h0).mono ?_
      rintro e W3 ⟨h1, h2⟩
      exact ⟨h1, h2.imp (fun j => ⟨_, rfl, j⟩) (fun h => h)⟩
    case body2 =>
      rintro l pre x W' hI hpl
      have hnn := numP_le2 (a, b - 1) pre
      have HS0 := hid (numP_snoc (a, b - 1) x pre)
      have HV := hid (hI.count hsz2 ((pre.length : Int) + 1))
      have HV2 := hid (HV.out.number hsz2 ((pre.length : Int) + 1))
      have c1 := hI.cn.cell 0 rfl
      have d1 := hI.cn.frozen 0
      have v1 := HV.out.ba.cell 0 rfl
      have v2 := HV.out.bb.cell 0 rfl
      have v3 := HV.out.cn.cell 0 rfl
      have v4 := HV.out.blk.cell 2 rfl
      have v5 := HV.out.blk.frozen 2
      have u3 := HV2.out.cn.cell 0 rfl
      have u4 := HV2.out.blk.cell 2 rfl
      clear hI HM6 HI6
      obtain ⟨x1, x2⟩ := x
      generalize numP (a, b - 1) pre = nn at *
      by_cases ha : x1 = a
      · by_cases hb : x2 = b - 1
        · have HS : Hid (numP (a, b - 1) (pre ++ [(x1, x2)]) = pre.length + 1) := by unfold Hid; rw [HS0.out, if_pos (by rw [ha, hb])]
          have e1 : ((x1 : Int) == (a : Int)) = true := by simp [ha]
          have e2 : ((x2 : Int) == (b : Int) - 1) = true := by simp; omega
          have e3 : (x1 : Int) = (a : Int) := by omega
          have e4 : (x2 : Int) = (b : Int) - 1 := by omega
          clear ha hb
          by_cases h0 : pre.length = 0
          · have i1 : ¬ (1 : Int) < (pre.length : Int) + 1 := by omega
            clear h0
            gi_wp2
            exact ⟨keepsFrom_tr (keepsFrom_set _ _ _ _ (by omega)) (keepsFrom_set _ _ _ _ (by omega)), (kpX_set2 _ _ _ _ (.inr rfl)).tr (kpX_set2 _ _ _ _ (.inl rfl)), HV2.out.cast (by have := HS.out; omega) (by rw [List.length_append, List.length_singleton]; omega)⟩
          · have i1 : (1 : Int) < (pre.length : Int) + 1 := by omega
            have i2 : (0 : Int) < (pre.length : Int) + 1 := by omega
            have H0 := hid h0
            clear h0
            gi_wp2
            exact ⟨keepsFrom_tr (keepsFrom_set _ _ _ _ (by omega)) (keepsFrom_set _ _ _ _ (by omega)), rfl, by rw [List.length_append, List.length_singleton]; omega, by have := HS.out; omega, HV2.out.cast (by have := HS.out; omega) (by rw [List.length_append, List.length_singleton]; omega)⟩
        · have HS : Hid (numP (a, b - 1) (pre ++ [(x1, x2)]) = nn) := by unfold Hid; rw [HS0.out, if_neg (by intro h; exact hb (Prod.mk.inj h).2)]
          have e1 : ((x1 : Int) == (a : Int)) = true := by simp [ha]
          have e2 : ((x2 : Int) == (b : Int) - 1) = false := by simp; omega
          have e3 : (x1 : Int) = (a : Int) := by omega
          have e4 : ¬ (x2 : Int) = (b : Int) - 1 := by omega
          clear ha hb
          by_cases h0 : pre.length = 0
          · have i1 : ¬ (1 : Int) < (pre.length : Int) + 1 := by omega
            clear h0
            gi_wp2
            exact ⟨keepsFrom_set _ _ _ _ (by omega), kpX_set2 _ _ _ _ (.inr rfl), HV.out.cast (by have := HS.out; omega) (by rw [List.length_append, List.length_singleton]; omega)⟩
          · have i1 : (1 : Int) < (pre.length : Int) + 1 := by omega
            by_cases hn : nn = 0
            · have i2 : ¬ (0 : Int) < (nn : Int) := by omega
              have HN := hid hn
              clear hn h0
              gi_wp2
              exact ⟨keepsFrom_set _ _ _ _ (by omega), kpX_set2 _ _ _ _ (.inr rfl), HV.out.cast (by have := HS.out; omega) (by rw [List.length_append, List.length_singleton]; omega)⟩
            · have i2 : (0 : Int) < (nn : Int) := by omega
              have H0 := hid h0
              have HN := hid hn
              clear hn h0
              gi_wp2
              exact ⟨keepsFrom_set _ _ _ _ (by omega), rfl, by rw [List.length_append, List.length_singleton]; omega, by have := HS.out; omega, HV.out.cast (by have := HS.out; omega) (by rw [List.length_append, List.length_singleton]; omega)⟩
      · have HS : Hid (numP (a, b - 1) (pre ++ [(x1, x2)]) = nn) := by unfold Hid; rw [HS0.out, if_neg (by intro h; exact ha (Prod.mk.inj h).1)]
        have e1 : ((x1 : Int) == (a : Int)) = false := by simp; omega
        have e3 : ¬ (x1 : Int) = (a : Int) := by omega
        clear ha
        by_cases h0 : pre.length = 0
        · have i1 : ¬ (1 : Int) < (pre.length : Int) + 1 := by omega
          clear h0
          gi_wp2
          exact ⟨keepsFrom_set _ _ _ _ (by omega), kpX_set2 _ _ _ _ (.inr rfl), HV.out.cast (by have := HS.out; omega) (by rw [List.length_append, List.length_singleton]; omega)⟩
        · have i1 : (1 : Int) < (pre.length : Int) + 1 := by omega
          by_cases hn : nn = 0
          · have i2 : ¬ (0 : Int) < (nn : Int) := by omega
            have HN := hid hn
            clear hn h0
            gi_wp2
            exact ⟨keepsFrom_set _ _ _ _ (by omega), kpX_set2 _ _ _ _ (.inr rfl), HV.out.cast (by have := HS.out; omega) (by rw [List.length_append, List.length_singleton]; omega)⟩
          · have i2 : (0 : Int) < (nn : Int) := by omega
            have H0 := hid h0
            have HN := hid hn
            clear hn h0
            gi_wp2
            exact ⟨keepsFrom_set _ _ _ _ (by omega), rfl, by rw [List.length_append, List.length_singleton]; omega, by have := HS.out; omega, HV.out.cast (by have := HS.out; omega) (by rw [List.length_append, List.length_singleton]; omega)⟩
    case done2 =>
      rintro D ys W' hD rfl hI hK
      have hple := numP_le (p := (a, b - 1)) (occ_sorted ws s1 s2)
      have hw1 := hI.cn.cell 0 rfl
      have hw2 := hI.blk.cell 2 rfl
      have hw3 := hI.blk.frozen 2
      by_cases h1 : (occ ws s1 s2).length = 1
      · have HON : Hid (ofNum (occ ws s1 s2) (a, b - 1) = 0) := by unfold Hid ofNum; rw [if_pos h1]
        have i1 : ((occ ws s1 s2).length : Int) = 1 := by omega
        rw [i1] at hw1
        have HV := hid (hI.number hsz2 0)
        have v1 := HV.out.blk.cell 0 rfl
        have v2 := HV.out.blk.cell 1 rfl
        have v3 := HV.out.blk.cell 2 rfl
        have g0 := HV.out.res.cell 0 rfl
        have g1 := HV.out.res.cell 1 rfl
        have g2 := HV.out.res.cell 2 rfl
        have d0 := HV.out.res.frozen 0
        have d1 := HV.out.res.frozen 1
        have d2 := HV.out.res.frozen 2
        have HKK := hid ((KeepsOthers.setCell W' ⟨n1, 2, none⟩ (.int .i64 0)).same D _ hK rfl)
        go_wp2_with fail
        generalize W'.setCell ⟨n1, 2, none⟩ (.int .i64 0) = V at *
        have hR := ((HV.out.res.set 0 (.string s1)).set 1 (.string s2)).set 2 (.int .i64 0)
        have hK3 := (KeepsOthers.setCell _ ⟨w.heap.size + 1 + 1, 2, none⟩ (.int .i64 0)).same D _ ((KeepsOthers.setCell _ ⟨w.heap.size + 1 + 1, 1, none⟩ (.string s2)).same D _ ((KeepsOthers.setCell V ⟨w.heap.size + 1 + 1, 0, none⟩ (.string s1)).same D _ HKK.out rfl) rfl) rfl
        have hB3 := ((HV.out.bel.setCell (p := ⟨w.heap.size + 1 + 1, 0, none⟩) (by simp; omega) (.string s1)).setCell (p := ⟨w.heap.size + 1 + 1, 1, none⟩) (by simp; omega) (.string s2)).setCell (p := ⟨w.heap.size + 1 + 1, 2, none⟩) (by simp; omega) (.int .i64 0)
        have hq0 := hR.cell 0 rfl
        have hq1 := hR.cell 1 rfl
        have hq2 := hR.cell 2 rfl
        clear hR
        generalize ((V.setCell ⟨w.heap.size + 1 + 1, 0, none⟩ (.string s1)).setCell ⟨w.heap.size + 1 + 1, 1, none⟩ (.string s2)).setCell ⟨w.heap.size + 1 + 1, 2, none⟩ (.int .i64 0) = V9 at *
        refine ⟨by simp, .inl ⟨_, _, rfl, run_takeDeferred hK3, ?_⟩⟩
        have hz0 := cell_kept hq0 (grownBy_putObj' _ D (.deferred none)) (fun r e => by cases e; exact ⟨_, hK3, rfl⟩)
        have hz1 := cell_kept hq1 (grownBy_putObj' _ D (.deferred none)) (fun r e => by cases e; exact ⟨_, hK3, rfl⟩)
        have hz2 := cell_kept hq2 (grownBy_putObj' _ D (.deferred none)) (fun r e => by cases e; exact ⟨_, hK3, rfl⟩)
        refine ⟨.tuple #[.agg #[.string s1, .string s2, .int .i64 0], .int .i64 0], ?_, by rw [HON.out]; rfl, hB3.grown (grownBy_putObj' _ D _) hB3.size (fun k e => by cases e; omega)⟩
        simp [results, Tryz.f80, go_sem, hz0, hz1, hz2]
      · have HON : Hid (ofNum (occ ws s1 s2) (a, b - 1) = numP (a, b - 1) (occ ws s1 s2)) := by unfold Hid ofNum; rw [if_neg h1]
        have i1 : ¬ ((occ ws s1 s2).length : Int) = 1 := by omega
        have i2 : ¬ (65536 : Int) < (numP (a, b - 1) (occ ws s1 s2) : Int) := by omega
        have v1 := hI.blk.cell 0 rfl
        have v2 := hI.blk.cell 1 rfl
        have g0 := hI.res.cell 0 rfl
        have g1 := hI.res.cell 1 rfl
        have g2 := hI.res.cell 2 rfl
        have d0 := hI.res.frozen 0
        have d1 := hI.res.frozen 1
        have d2 := hI.res.frozen 2
        generalize numP (a, b - 1) (occ ws s1 s2) = nn at *
        go_wp2_with fail
        have hR := ((hI.res.set 0 (.string s1)).set 1 (.string s2)).set 2 (.int .i64 nn)
        have hK3 := (KeepsOthers.setCell _ ⟨w.heap.size + 1 + 1, 2, none⟩ (.int .i64 nn)).same D _ ((KeepsOthers.setCell _ ⟨w.heap.size + 1 + 1, 1, none⟩ (.string s2)).same D _ ((KeepsOthers.setCell W' ⟨w.heap.size + 1 + 1, 0, none⟩ (.string s1)).same D _ hK rfl) rfl) rfl
        have hB3 := ((hI.bel.setCell (p := ⟨w.heap.size + 1 + 1, 0, none⟩) (by simp; omega) (.string s1)).setCell (p := ⟨w.heap.size + 1 + 1, 1, none⟩) (by simp; omega) (.string s2)).setCell (p := ⟨w.heap.size + 1 + 1, 2, none⟩) (by simp; omega) (.int .i64 nn)
        have hq0 := hR.cell 0 rfl
        have hq1 := hR.cell 1 rfl
        have hq2 := hR.cell 2 rfl
        clear hR
        generalize ((W'.setCell ⟨w.heap.size + 1 + 1, 0, none⟩ (.string s1)).setCell ⟨w.heap.size + 1 + 1, 1, none⟩ (.string s2)).setCell ⟨w.heap.size + 1 + 1, 2, none⟩ (.int .i64 nn) = V9 at *
        refine ⟨by simp, .inl ⟨_, _, rfl, run_takeDeferred hK3, ?_⟩⟩
        have hz0 := cell_kept hq0 (grownBy_putObj' _ D (.deferred none)) (fun r e => by cases e; exact ⟨_, hK3, rfl⟩)
        have hz1 := cell_kept hq1 (grownBy_putObj' _ D (.deferred none)) (fun r e => by cases e; exact ⟨_, hK3, rfl⟩)
        have hz2 := cell_kept hq2 (grownBy_putObj' _ D (.deferred none)) (fun r e => by cases e; exact ⟨_, hK3, rfl⟩)
        refine ⟨.tuple #[.agg #[.string s1, .string s2, .int .i64 nn], .int .i64 0], ?_, by rw [HON.out], hB3.grown (grownBy_putObj' _ D _) hB3.size (fun k e => by cases e; omega)⟩
        simp [results, Tryz.f80, go_sem, hz0, hz1, hz2]
    case stop2 =>
      rintro D c pre W' hD ⟨r, hsp⟩ ⟨rfl, hc1, hn0, hI⟩ hK
      have hple := numP_le (p := (a, b - 1)) (occ_sorted ws s1 s2)
      have HON : Hid (ofNum (occ ws s1 s2) (a, b - 1) = numP (a, b - 1) pre) := by
        have hl := congrArg List.length hsp
        rw [List.length_append] at hl
        unfold Hid ofNum
        rw [if_neg (by omega), ← hsp]
        exact (numP_part (by rw [hsp]; exact occ_sorted _ _ _) hn0).symm
      have hw1 := hI.cn.cell 0 rfl
      have hw2 := hI.blk.cell 2 rfl
      have hw3 := hI.blk.frozen 2
      have i1 : ¬ (pre.length : Int) = 1 := by omega
      have hnl := numP_le2 (a, b - 1) pre
      have hpl : pre.length ≤ 182 := by
        have hl := congrArg List.length hsp
        rw [List.length_append] at hl
        omega
      have i2 : ¬ (65536 : Int) < (numP (a, b - 1) pre : Int) := by omega
      have v1 := hI.blk.cell 0 rfl
      have v2 := hI.blk.cell 1 rfl
      have g0 := hI.res.cell 0 rfl
      have g1 := hI.res.cell 1 rfl
      have g2 := hI.res.cell 2 rfl
      have d0 := hI.res.frozen 0
      have d1 := hI.res.frozen 1
      have d2 := hI.res.frozen 2
      generalize numP (a, b - 1) pre = nn at *
      clear hsp hc1 hn0
      gi_wp2_with fail
      go_wp2_with fail
      have hR := ((hI.res.set 0 (.string s1)).set 1 (.string s2)).set 2 (.int .i64 nn)
      have hK3 := (KeepsOthers.setCell _ ⟨w.heap.size + 1 + 1, 2, none⟩ (.int .i64 nn)).same D _ ((KeepsOthers.setCell _ ⟨w.heap.size + 1 + 1, 1, none⟩ (.string s2)).same D _ ((KeepsOthers.setCell W' ⟨w.heap.size + 1 + 1, 0, none⟩ (.string s1)).same D _ hK rfl) rfl) rfl
      have hB3 := ((hI.bel.setCell (p := ⟨w.heap.size + 1 + 1, 0, none⟩) (by simp; omega) (.string s1)).setCell (p := ⟨w.heap.size + 1 + 1, 1, none⟩) (by simp; omega) (.string s2)).setCell (p := ⟨w.heap.size + 1 + 1, 2, none⟩) (by simp; omega) (.int .i64 nn)
      have hq0 := hR.cell 0 rfl
      have hq1 := hR.cell 1 rfl
      have hq2 := hR.cell 2 rfl
      clear hR
      generalize ((W'.setCell ⟨w.heap.size + 1 + 1, 0, none⟩ (.string s1)).setCell ⟨w.heap.size + 1 + 1, 1, none⟩ (.string s2)).setCell ⟨w.heap.size + 1 + 1, 2, none⟩ (.int .i64 nn) = V9 at *
      refine ⟨by simp, .inl ⟨_, _, rfl, run_takeDeferred hK3, ?_⟩⟩
      have hz0 := cell_kept hq0 (grownBy_putObj' _ D (.deferred none)) (fun r e => by cases e; exact ⟨_, hK3, rfl⟩)
      have hz1 := cell_kept hq1 (grownBy_putObj' _ D (.deferred none)) (fun r e => by cases e; exact ⟨_, hK3, rfl⟩)
      have hz2 := cell_kept hq2 (grownBy_putObj' _ D (.deferred none)) (fun r e => by cases e; exact ⟨_, hK3, rfl⟩)
      refine ⟨.tuple #[.agg #[.string s1, .string s2, .int .i64 nn], .int .i64 0], ?_, by rw [HON.out], hB3.grown (grownBy_putObj' _ D _) hB3.size (fun k e => by cases e; omega)⟩
      simp [results, Tryz.f80, go_sem, hz0, hz1, hz2]
end Go.Proofs.YtjhdeoniafahbaaGreatDoor
namespace Go.Proofs.YtjhdeoniafahbaaGreatDoor
theorem decFrom_snoc (b : UInt8) (d : Nat) (hd : Lib.digitVal b = some d) : ∀ (l : List UInt8) (acc n : Nat), Lib.decFrom acc l = some n → Lib.decFrom acc (l ++ [b]) = some (n * 10 + d)
  | [], acc, n, h => by
    have e : acc = n := by simpa [Lib.decFrom] using h
    subst e
    simp [Lib.decFrom, hd]
  | c :: r, acc, n, h => by
    rw [List.cons_append]
    unfold Lib.decFrom at h ⊢
    cases hc : Lib.digitVal c with
    | none => rw [hc] at h; simp at h
    | some x =>
      rw [hc] at h
      simp only at h ⊢
      exact decFrom_snoc b d hd r _ n h
theorem digit_val (u : Nat) (h : u < 10) : Lib.digitVal (UInt8.ofNat (48 + u)) = some u := by
  unfold Lib.digitVal
  have e : (UInt8.ofNat (48 + u)).toNat = 48 + u := by
    rw [UInt8.toNat_ofNat']; omega
  rw [e, if_pos (by omega)]
  simp
theorem digits_ok (u : Nat) : Lib.decFrom 0 (Lib.decDigits u) = some u ∧ Lib.decDigits u ≠ [] ∧ ∀ c ∈ Lib.decDigits u, 48 ≤ c.toNat ∧ c.toNat ≤ 57 := by
  induction u using Nat.strongRecOn with
  | ind u ih =>
    rw [Lib.decDigits]
    split
    · rename_i h
      refine ⟨?_, by simp, fun c hc => ?_⟩
      · show Lib.decFrom 0 [UInt8.ofNat (48 + u)] = some u
        unfold Lib.decFrom
        rw [digit_val u h]
        simp [Lib.decFrom]
      · have e : c = UInt8.ofNat (48 + u) := by simpa using hc
        rw [e, UInt8.toNat_ofNat']; omega
    · rename_i h
      obtain ⟨h1, h2, h3⟩ := ih (u / 10) (by omega)
      refine ⟨?_, by simp, fun c hc => ?_⟩
      · rw [decFrom_snoc _ (u % 10) (digit_val _ (by omega)) _ _ _ h1]
        congr 1; omega
      · rw [List.mem_append] at hc
        rcases hc with hc | hc
        · exact h3 c hc
        · have e : c = UInt8.ofNat (48 + u % 10) := by simpa using hc
          rw [e, UInt8.toNat_ofNat']; omega
theorem pow_nDigits (u : Nat) : 1 ≤ u → 10 ^ (Lib.nDigits u - 1) ≤ u := by
  induction u using Nat.strongRecOn with
  | ind u ih =>
    intro h0
    by_cases hs : u < 10
    · rw [Lib.nDigits_small hs]; exact h0
    · rw [Lib.nDigits_big hs]
      have h1 := ih (u / 10) (by omega) (by omega)
      have hp := Lib.nDigits_pos (u / 10)
      obtain ⟨k, hk⟩ : ∃ k, Lib.nDigits (u / 10) = k + 1 := ⟨Lib.nDigits (u / 10) - 1, by omega⟩
      rw [hk] at h1 ⊢
      simp only [Nat.add_sub_cancel] at h1 ⊢
      rw [Nat.pow_succ]
      omega
theorem nDigits_9 (u : Nat) (h : u < 1000000000) : Lib.nDigits u ≤ 9 := by
  rcases Nat.eq_zero_or_pos u with h0 | h0
  · subst h0; rw [Lib.nDigits_small (by omega)]; omega
  · refine Classical.byContradiction fun hn => ?_
    have h2 := pow_nDigits u h0
    have h3 : 10 ^ 9 ≤ 10 ^ (Lib.nDigits u - 1) := Nat.pow_le_pow_right (by decide) (by omega)
    have e : (10 : Nat) ^ 9 = 1000000000 := by decide
    omega
theorem atoi_digits (u : Nat) (h : u < 1000000000) : Lib.atoiAll (Lib.decDigits u) = .ok (u : Int) := by
  obtain ⟨h1, h2, h3⟩ := digits_ok u
  have hl : (Lib.decDigits u).length ≤ 9 := by rw [Lib.decDigits_length]; exact nDigits_9 u h
  rw [Lib.atoiAll_short _ (by omega)]
  cases hd : Lib.decDigits u with
  | nil => exact absurd hd h2
  | cons b r =>
    rw [hd] at h1 h3
    have hb := h3 b (by simp)
    have e45 : (b == 45) = false := by
      rw [beq_eq_false_iff_ne]; rintro rfl; revert hb; decide
    have e43 : (b == 43) = false := by
      rw [beq_eq_false_iff_ne]; rintro rfl; revert hb; decide
    have e : Lib.atoi (b :: r) = (Lib.decNat (b :: r)).map fun (m : Nat) => (m : Int) := by
      show (if (b == 45) = true then _ else if (b == 43) = true then _ else _) = _
      rw [e45, e43]; rfl
    have e2 : Lib.decNat (b :: r) = some u := by
      unfold Lib.decNat
      rw [if_neg (by simp), h1]
    rw [e, e2]
    rfl
theorem itoaB_data {n : Int} (h : 0 ≤ n) : (itoaB n).data.toList = Lib.decDigits n.toNat := by
  show (Lib.itoa n).toArray.toList = _
  unfold Lib.itoa
  rw [if_neg (by omega)]
theorem dec_itoa {n : Int} (h1 : 1 ≤ n) (h2 : n < 1000000000) : decB (itoaB n) = true ∧ decV (itoaB n) = n := by
  have e : Lib.atoiAll (itoaB n).data.toList = .ok n := by
    rw [itoaB_data (by omega), atoi_digits _ (by omega)]
    congr 1; omega
  have hs : (itoaB n).size ≤ 9 := by
    show (itoaB n).data.size ≤ 9
    rw [← Array.length_toList, itoaB_data (by omega), Lib.decDigits_length]
    exact nDigits_9 _ (by omega)
  unfold decB decV
  rw [e]
  simp [h1, hs]
theorem dec_back {s : ByteArray} (h : decB s = true) : itoaB (decV s) = s ∧ 1 ≤ decV s ∧ s.size ≤ 9 := by
  unfold decB at h
  unfold decV
  split at h
  · rename_i v hv
    rw [hv]
    simp only [Bool.and_eq_true, decide_eq_true_eq] at h
    exact ⟨h.2, h.1.1, h.1.2⟩
  · cases h
theorem chk_kind : ∀ (l : List UInt8) (st : Bool), chkGo st l = true → ∀ c ∈ l, kindI c.toNat ≠ 0
  | [], _, _ => by simp
  | x :: r, st, h => by
    unfold chkGo at h
    intro c hc
    rw [List.mem_cons] at hc
    split at h
    · rename_i hm
      rcases hc with rfl | hc
      · have : mk c = true := by
          cases hk : mk c with
          | true => rfl
          | false => rw [hk] at hm; simp at hm
        unfold mk at this
        have := of_decide_eq_true this
        omega
      · exact chk_kind r true h c hc
    · rw [Bool.and_eq_true] at h
      rcases hc with rfl | hc
      · have := h.1
        unfold okc at this
        intro h0
        rw [h0] at this
        simp at this
      · exact chk_kind r _ h.2 c hc
theorem kind_no {c : UInt8} (h0 : kindI c.toNat ≠ 0) (h6 : kindI c.toNat ≠ 6) : c ≠ 32 ∧ c ≠ 35 :=
  ⟨by rintro rfl; exact h6 (by decide), by rintro rfl; exact h0 (by decide)⟩
theorem isWord_chars {s : ByteArray} (h : isWordB s = true) : ∀ c ∈ s.data.toList, kindI c.toNat ≠ 0 ∧ kindI c.toNat ≠ 5 ∧ kindI c.toNat ≠ 6 := by
  unfold isWordB at h
  simp only [Bool.and_eq_true] at h
  obtain ⟨⟨⟨⟨_, _⟩, h1⟩, _⟩, h2⟩ := h
  intro c hc
  refine ⟨chk_kind _ _ h1 c hc, ?_⟩
  have h3 : sepB (c.toNat : Int) = false := by
    cases hs : sepB (c.toNat : Int) with
    | false => rfl
    | true =>
      have : (bytesL s).any sepB = true := List.any_eq_true.2 ⟨(c.toNat : Int), by unfold bytesL; exact List.mem_map.2 ⟨c, hc, rfl⟩, hs⟩
      rw [this] at h2; cases h2
  unfold sepB at h3
  simpa using h3
theorem gap_data {s : ByteArray} (h : gapB s = true) : s.data.toList = 91 :: ((innB s).data.toList ++ [93]) ∧ decB (innB s) = true := by
  unfold gapB at h
  simp only [Bool.and_eq_true] at h
  obtain ⟨⟨⟨h1, h2⟩, h3⟩, _⟩ := h
  refine ⟨?_, h3⟩
  unfold innB cutXS
  rw [if_pos h2]
  unfold cutXB Lib.hasSuffix at h2
  obtain ⟨u, hu⟩ := List.isSuffixOf_iff_suffix.1 h2
  have e1 : (cutPS s ⟨#[91]⟩) = s.extract 1 s.size := by unfold cutPS; rw [if_pos h1]; rfl
  rw [e1] at hu ⊢
  unfold cutPB Lib.hasPrefix at h1
  obtain ⟨t, ht⟩ := List.isPrefixOf_iff_prefix.1 h1
  have ht' : s.data.toList = 91 :: t := by rw [← ht]; rfl
  have e2 : (s.extract 1 s.size).data.toList = t := by
    rw [ByteArray.data_extract, Array.toList_extract, ht']
    have hl : s.size = t.length + 1 := by
      show s.data.size = _
      rw [← Array.length_toList, ht']; simp
    simp [List.extract, hl]
  have hu' : t = u ++ [93] := by rw [← e2, ← hu]
  have e3 : ((s.extract 1 s.size).extract 0 ((s.extract 1 s.size).size - (⟨#[93]⟩ : ByteArray).size)).data.toList = u := by
    have hl : (s.extract 1 s.size).size = u.length + 1 := by
      show (s.extract 1 s.size).data.size = _
      rw [← Array.length_toList, e2, hu']; simp
    rw [hl, ByteArray.data_extract, Array.toList_extract, e2, hu']
    simp [List.extract, show (⟨#[93]⟩ : ByteArray).size = 1 from rfl]
  rw [e3, ht', hu']
theorem word_chars {s : ByteArray} (h : wordB s = true) : ∀ c ∈ s.data.toList, c ≠ 32 ∧ c ≠ 35 := by
  intro c hc
  unfold wordB at h
  rw [Bool.or_eq_true] at h
  rcases h with h | h
  · obtain ⟨h0, _, h6⟩ := isWord_chars h c hc
    exact kind_no h0 h6
  · split at h
    · rename_i hs
      have hl : s.data.toList.length = 1 := by rw [Array.length_toList]; exact hs
      obtain ⟨x, hx⟩ := List.length_eq_one_iff.1 hl
      rw [hx] at hc
      have e : c = x := by simpa using hc
      unfold firstK at h
      rw [hx] at h
      simp only [Bool.or_eq_true, decide_eq_true_eq] at h
      rw [e]
      exact kind_no (by omega) (by omega)
    · obtain ⟨h1, h2⟩ := gap_data h
      rw [h1] at hc
      obtain ⟨h3, h4, h5⟩ := dec_back h2
      have hd : ∀ c ∈ (innB s).data.toList, 48 ≤ c.toNat ∧ c.toNat ≤ 57 := by
        rw [← h3, itoaB_data (by omega)]
        exact (digits_ok _).2.2
      have : c = 91 ∨ c ∈ (innB s).data.toList ∨ c = 93 := by simpa [or_assoc] using hc
      rcases this with rfl | h | rfl
      · decide
      · have := hd c h
        constructor
        · rintro rfl; revert this; decide
        · rintro rfl; revert this; decide
      · decide
end Go.Proofs.YtjhdeoniafahbaaGreatDoor
