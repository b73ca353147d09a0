/-
  lemma.Check, lemma.Print; Great, fine, part, example of chapter 43.
-/
import Derived.Test.YtkmggnohheomeaaDoorOf
import Derived.Test.YtkmggnohheomeaaDoorLit
namespace Go.Proofs.YtkmggnohheomeaaDoor
open Go.RowKit

def lemCk (f l : ByteArray) (n : Int) : Int := if (!wordB f || (decide (l.size ≠ 0) && !wordB l)) = true then 11 else if n < 0 ∨ 65536 < n then 2 else 0

set_option maxRecDepth 100000 in
set_option maxHeartbeats 1000000 in
theorem lck_any (f l : ByteArray) (n : Int) (w : World) (he : Env w) (hf : f.size ≤ 65536) (hl : l.size ≤ 65536) :
    Calls Tryd.prog 20 #[.agg #[.string f, .string l, .int .i64 n]] w fun e w' => e = .returned (.int .i64 (lemCk f l n)) ∧ Below w.heap.size w w' := by
  have hb0 := below_al w (.cells #[.string f, .string l, .int .i64 n] 28)
  have hr0 := row_nw w #[.string f, .string l, .int .i64 n] 28 rfl
  have HI : Hid (lemCk f l n = if (!wordB f || (decide (l.size ≠ 0) && !wordB l)) = true then 11 else if n < 0 ∨ 65536 < n then 2 else 0) := rfl
  have HWf := hid (word_any f (w.alloc (.cells #[.string f, .string l, .int .i64 n] 28)) (he.below hb0) hf)
  have HWl := fun w' (h : Below w.heap.size w w') => hid (word_any l w' (he.below h) hl)
  have hE := ba_isE l
  cases hwf : wordB f with
  | false =>
    rw [hwf] at HWf
    have HI2 : Hid (lemCk f l n = 11) := by unfold Hid; rw [HI.out, hwf]; rfl
    clear hwf HI
    go_enter Tryd.func20, Tryd.ntmps20
    go_wp2_with fail
    refine HWf.out.mono ?_
    rintro e w1 ⟨rfl, hB1⟩
    go_wp2
    go_ret
    exact ⟨ret_int HI2.out.symm, below_tr hb0 hB1⟩
  | true =>
    rw [hwf] at HWf HI
    clear hwf
    by_cases hl0 : l.size = 0
    · rw [decide_eq_true hl0] at hE
      have HI2 : Hid (lemCk f l n = if n < 0 ∨ 65536 < n then 2 else 0) := by unfold Hid; rw [HI.out, if_neg (by simp [hl0])]
      clear HI hl0
      go_enter Tryd.func20, Tryd.ntmps20
      go_wp2_with fail
      refine HWf.out.mono ?_
      rintro e w1 ⟨rfl, hB1⟩
      have hr1 := hr0.below hB1
      have c1 := hr1.cell 1 rfl
      have c2 := hr1.cell 2 rfl
      by_cases hn0 : n < 0
      · have HI3 : Hid (lemCk f l n = 2) := by unfold Hid; rw [HI2.out, if_pos (.inl hn0)]
        go_wp2
        go_ret
        exact ⟨ret_int HI3.out.symm, below_tr hb0 hB1⟩
      · by_cases hn1 : 65536 < n
        · have HI3 : Hid (lemCk f l n = 2) := by unfold Hid; rw [HI2.out, if_pos (.inr hn1)]
          go_wp2
          go_ret
          exact ⟨ret_int HI3.out.symm, below_tr hb0 hB1⟩
        · have HI3 : Hid (lemCk f l n = 0) := by unfold Hid; rw [HI2.out, if_neg (by omega)]
          go_wp2
          go_ret
          exact ⟨ret_int HI3.out.symm, below_tr hb0 hB1⟩
    · rw [decide_eq_false hl0] at hE
      cases hwl : wordB l with
      | false =>
        have HI2 : Hid (lemCk f l n = 11) := by unfold Hid; rw [HI.out, if_pos (by simp [hl0, hwl])]
        rw [hwl] at HWl
        clear HI hl0 hwl
        go_enter Tryd.func20, Tryd.ntmps20
        go_wp2_with fail
        refine HWf.out.mono ?_
        rintro e w1 ⟨rfl, hB1⟩
        have hr1 := hr0.below hB1
        have c1 := hr1.cell 1 rfl
        go_wp2_with fail
        refine (HWl _ (below_tr hb0 hB1)).out.mono ?_
        rintro e w2 ⟨rfl, hB2⟩
        go_wp2
        go_ret
        exact ⟨ret_int HI2.out.symm, below_tr (below_tr hb0 hB1) hB2⟩
      | true =>
        have HI2 : Hid (lemCk f l n = if n < 0 ∨ 65536 < n then 2 else 0) := by unfold Hid; rw [HI.out, if_neg (by simp [hwl])]
        rw [hwl] at HWl
        clear HI hl0 hwl
        go_enter Tryd.func20, Tryd.ntmps20
        go_wp2_with fail
        refine HWf.out.mono ?_
        rintro e w1 ⟨rfl, hB1⟩
        have hr1 := hr0.below hB1
        have c1 := hr1.cell 1 rfl
        go_wp2_with fail
        refine (HWl _ (below_tr hb0 hB1)).out.mono ?_
        rintro e w2 ⟨rfl, hB2⟩
        have hr2 := hr1.below hB2
        have c2 := hr2.cell 2 rfl
        by_cases hn0 : n < 0
        · have HI3 : Hid (lemCk f l n = 2) := by unfold Hid; rw [HI2.out, if_pos (.inl hn0)]
          go_wp2
          go_ret
          exact ⟨ret_int HI3.out.symm, below_tr (below_tr hb0 hB1) hB2⟩
        · by_cases hn1 : 65536 < n
          · have HI3 : Hid (lemCk f l n = 2) := by unfold Hid; rw [HI2.out, if_pos (.inr hn1)]
            go_wp2
            go_ret
            exact ⟨ret_int HI3.out.symm, below_tr (below_tr hb0 hB1) hB2⟩
          · have HI3 : Hid (lemCk f l n = 0) := by unfold Hid; rw [HI2.out, if_neg (by omega)]
            go_wp2
            go_ret
            exact ⟨ret_int HI3.out.symm, below_tr (below_tr hb0 hB1) hB2⟩

def bigS (s : ByteArray) : Bool := (decide (12 < s.size) && decide (s.size ≤ 64)) || decide (66 < s.size)
def greatW (ws : List ByteArray) : Bool := ((decide (12 < ws.length) && decide (ws.length ≤ 4096)) || decide (4098 < ws.length)) || ws.any bigS
theorem any_snoc {α : Type} (p : α → Bool) (l : List α) (k : Nat) (x : α) (h : l[k]? = some x) : (l.take (k + 1)).any p = ((l.take k).any p || p x) := by
  rw [List.take_add_one, h, List.any_append]; simp
theorem any_take_true {α : Type} {p : α → Bool} {l : List α} {k : Nat} (h : (l.take k).any p = true) : l.any p = true := by
  obtain ⟨x, hx, hp⟩ := List.any_eq_true.1 h
  exact List.any_eq_true.2 ⟨x, List.mem_of_mem_take hx, hp⟩

set_option maxRecDepth 100000 in
set_option maxHeartbeats 1000000 in
theorem great43_any (v : Value) (ws : List ByteArray) (w : World) (hr : RdS w v ws) (hz : Szs ws) :
    Calls Tryd.prog 16 #[v] w fun e w' => e = .returned (.bool (greatW ws)) ∧ w = w' := by
  obtain ⟨a, cap, rfl, hlc, hcm, hcell⟩ := hr.open
  have HI : Hid (greatW ws = (((decide (12 < ws.length) && decide (ws.length ≤ 4096)) || decide (4098 < ws.length)) || ws.any bigS)) := rfl
  have HC := hid hcell
  have HZ := hid hz
  clear hcell hz
  by_cases h1 : 12 < ws.length ∧ ws.length ≤ 4096
  · have i1 : (12 : Int) < (ws.length : Int) := by omega
    have i2 : (ws.length : Int) ≤ 4096 := by omega
    have HI2 : Hid (greatW ws = true) := by unfold Hid; rw [HI.out, decide_eq_true h1.1, decide_eq_true h1.2]; rfl
    clear h1 HI
    go_enter Tryd.func16, Tryd.ntmps16
    go_wp2
    go_ret
    exact ⟨ret_bool HI2.out.symm, rfl⟩
  by_cases h2 : 4098 < ws.length
  · have i1 : (12 : Int) < (ws.length : Int) := by omega
    have i2 : ¬ (ws.length : Int) ≤ 4096 := by omega
    have i3 : (4098 : Int) < (ws.length : Int) := by omega
    have HI2 : Hid (greatW ws = true) := by unfold Hid; rw [HI.out, decide_eq_true h2]; simp
    clear h1 h2 HI
    go_enter Tryd.func16, Tryd.ntmps16
    go_wp2
    go_ret
    exact ⟨ret_bool HI2.out.symm, rfl⟩
  have i3 : ¬ (4098 : Int) < (ws.length : Int) := by omega
  have HI2 : Hid (greatW ws = ws.any bigS) := by
    unfold Hid
    rw [HI.out, decide_eq_false h2]
    have : (decide (12 < ws.length) && decide (ws.length ≤ 4096)) = false := by simp; omega
    rw [this]; rfl
  have HLN : Hid (ws.length ≤ 4098) := by unfold Hid; omega
  have hcase : (¬ (12 : Int) < (ws.length : Int)) ∨ ((12 : Int) < (ws.length : Int) ∧ ¬ (ws.length : Int) ≤ 4096) := by omega
  clear h1 h2 HI
  rcases hcase with i1 | ⟨i1, i2⟩
  all_goals
    go_enter Tryd.func16, Tryd.ntmps16
    go_wp2
    go_loop [3] (fun i => ∃ k : Nat, k ≤ ws.length ∧ i = .int .i64 k ∧ Hid ((ws.take k).any bigS = false)) (fun i => ws.length - (intOf i).toNat)
    case atStart => exact ⟨0, Nat.zero_le _, rfl, by simp [Hid]⟩
    case round =>
      obtain ⟨k, hk, rfl, HK⟩ := hrel
      have hlen := HLN.out
      by_cases hlt : k < ws.length
      · obtain ⟨s, b, off, hs, rfl, hc⟩ := HC.out k hlt
        have hki : (k : Int) < (ws.length : Int) := by omega
        have HS := hid (any_snoc bigS ws k s hs)
        have HAT : Hid (bigS s = true → ws.any bigS = true) := fun h => List.any_eq_true.2 ⟨s, List.mem_of_getElem? hs, h⟩
        have hzs := HZ.out s (List.mem_of_getElem? hs)
        unfold maxLen at hzs
        clear hs
        by_cases g1 : 12 < s.size ∧ s.size ≤ 64
        · have j1 : (12 : Int) < (s.size : Int) := by omega
          have j2 : (s.size : Int) ≤ 64 := by omega
          have HB : Hid (bigS s = true) := by unfold Hid bigS; rw [decide_eq_true g1.1, decide_eq_true g1.2]; rfl
          clear g1
          go_wp2
          go_ret
          exact ⟨ret_bool (by rw [HI2.out, HAT.out HB.out]), rfl⟩
        by_cases g2 : 66 < s.size
        · have j1 : (12 : Int) < (s.size : Int) := by omega
          have j2 : ¬ (s.size : Int) ≤ 64 := by omega
          have j3 : (66 : Int) < (s.size : Int) := by omega
          have HB : Hid (bigS s = true) := by unfold Hid bigS; rw [decide_eq_true g2]; simp
          clear g1 g2
          go_wp2
          go_ret
          exact ⟨ret_bool (by rw [HI2.out, HAT.out HB.out]), rfl⟩
        have HB : Hid (bigS s = false) := by unfold Hid bigS; rw [decide_eq_false g2]; simp; omega
        have j3 : ¬ (66 : Int) < (s.size : Int) := by omega
        have hcs : (¬ (12 : Int) < (s.size : Int)) ∨ ((12 : Int) < (s.size : Int) ∧ ¬ (s.size : Int) ≤ 64) := by omega
        clear g1 g2
        rcases hcs with j1 | ⟨j1, j2⟩
        all_goals
          go_wp2
          go_round
          case rel => exact ⟨k + 1, by omega, by go_num, by rw [HS.out, HK.out, HB.out]; rfl⟩
          case measure => simp [intOf]; omega
      · have hki : ¬ (k : Int) < (ws.length : Int) := by omega
        go_wp2
        go_ret
        have h := HK.out
        rw [List.take_of_length_le (by omega)] at h
        exact ⟨ret_bool (by rw [HI2.out, h]), rfl⟩

set_option maxHeartbeats 1000000 in
theorem part_any (v : Value) (ws : List ByteArray) (u1 u2 : Nat) (w : World) (hr : RdS w v ws) (h1 : u1 < 256) (h2 : u2 < 256) (hn : 0 < ws.length) (hl : ws.length ≤ 12) :
    Calls Tryd.prog 12 #[v, .int .u8 u1, .int .u8 u2] w fun e w' => e = .returned (.tuple #[.int .i64 ((u1 % ws.length : Nat) : Int), .int .i64 ((u1 % ws.length + 1 + u2 % (ws.length - u1 % ws.length) : Nat) : Int)]) ∧ Below w.heap.size w w' := by
  obtain ⟨a, cap, rfl, hlc, hcm, _⟩ := hr.open
  have hm1 := Nat.mod_lt u1 hn
  have q0 : ¬ (ws.length : Int) = 0 := by omega
  have q1 : (u1 : Int).tmod (ws.length : Int) = ((u1 % ws.length : Nat) : Int) := by rw [Int.tmod_eq_emod_of_nonneg (by omega)]; exact (Int.natCast_emod _ _).symm
  generalize hk : u1 % ws.length = k at *
  have hd : 0 < ws.length - k := by omega
  have hm2 := Nat.mod_lt u2 hd
  have q2 : (u2 : Int).tmod ((ws.length : Int) - (k : Int)) = ((u2 % (ws.length - k) : Nat) : Int) := by
    rw [Int.tmod_eq_emod_of_nonneg (by omega), show (ws.length : Int) - (k : Int) = ((ws.length - k : Nat) : Int) by omega]; exact (Int.natCast_emod _ _).symm
  have q3 : ¬ (ws.length : Int) - (k : Int) = 0 := by omega
  generalize hj : u2 % (ws.length - k) = j at *
  clear hk hj
  go_enter Tryd.func12, Tryd.ntmps12
  go_wp2_with fail
  go_quiet (fail)
  go_wp2
  go_ret2
  exact ⟨by rw [show ((k + 1 + j : Nat) : Int) = (k : Int) + 1 + (j : Int) by omega]; rfl, below_drewN (Below.refl _ _) _⟩

def fineB (ws : List ByteArray) : Bool := decide (ws.length ≤ 12) && !greatW ws && !(ws.any fun s => !wordB s)
theorem fine_all {ws : List ByteArray} (h : fineB ws = true) : ws.length ≤ 12 ∧ (∀ s ∈ ws, wordB s = true) ∧ (∀ s ∈ ws, s.size ≤ 66) := by
  unfold fineB greatW at h
  simp only [Bool.and_eq_true, decide_eq_true_eq, Bool.not_eq_true', Bool.or_eq_false_iff] at h
  obtain ⟨⟨h1, _, h2⟩, h3⟩ := h
  refine ⟨h1, fun s hs => ?_, fun s hs => ?_⟩
  · have := List.any_eq_false.1 h3 s hs
    simpa using this
  · have := List.any_eq_false.1 h2 s hs
    unfold bigS at this
    simp at this
    omega
theorem fine_check {ws : List ByteArray} (h : fineB ws = true) : lcheckI ws = 0 := by
  obtain ⟨h1, h2, _⟩ := fine_all h
  unfold lcheckI
  rw [if_neg (by omega), if_neg]
  rw [Bool.not_eq_true]
  exact List.any_eq_false.2 fun s hs => by rw [h2 s hs]; simp

set_option maxRecDepth 100000 in
set_option maxHeartbeats 1000000 in
theorem fine1_any (s : ByteArray) (w : World) (he : Env w) (hs : s.size ≤ 65536) :
    Calls Tryd.prog 26 #[.string s] w fun e w' => e = .returned (.bool (!wordB s)) ∧ Below w.heap.size w w' := by
  have HC := hid (lck_any s ⟨#[]⟩ 0 w he hs (by show (0 : Nat) ≤ 65536; omega))
  have HX : Hid (lemCk s ⟨#[]⟩ 0 = if wordB s = true then 0 else 11) := by
    unfold Hid lemCk
    cases wordB s <;> rfl
  rw [HX.out] at HC
  cases hw : wordB s with
  | true =>
    rw [hw] at HC
    clear hw HX
    go_enter Tryd.func26, Tryd.ntmps26
    go_wp2_with fail
    refine HC.out.mono ?_
    rintro e w1 ⟨rfl, hB⟩
    go_wp2
    go_ret
    exact ⟨rfl, hB⟩
  | false =>
    rw [hw] at HC
    clear hw HX
    go_enter Tryd.func26, Tryd.ntmps26
    go_wp2_with fail
    refine HC.out.mono ?_
    rintro e w1 ⟨rfl, hB⟩
    go_wp2
    go_ret
    exact ⟨rfl, hB⟩

set_option maxRecDepth 100000 in
set_option maxHeartbeats 1000000 in
theorem fine_any (v : Value) (ws : List ByteArray) (w : World) (he : Env w) (hr : RdS w v ws) (hz : Szs ws) :
    Calls Tryd.prog 10 #[v] w fun e w' => e = .returned (.bool (fineB ws)) ∧ Below w.heap.size w w' := by
  have HI : Hid (fineB ws = (decide (ws.length ≤ 12) && !greatW ws && !(ws.any fun s => !wordB s))) := rfl
  have HG := hid (great43_any v ws w hr hz)
  by_cases h12 : ws.length ≤ 12
  · cases hg : greatW ws with
    | true =>
      rw [hg] at HG
      have HI2 : Hid (fineB ws = false) := by unfold Hid; rw [HI.out, hg]; simp
      obtain ⟨a, cap, rfl, hlc, hcm, _⟩ := hr.open
      have i1 : (ws.length : Int) ≤ 12 := by omega
      clear hg HI
      go_enter Tryd.func10, Tryd.ntmps10
      go_wp2_with fail
      refine HG.out.mono ?_
      rintro e w1 ⟨rfl, rfl⟩
      go_wp2
      go_ret
      exact ⟨ret_bool HI2.out.symm, Below.refl _ _⟩
    | false =>
      rw [hg] at HG
      have HI2 : Hid (fineB ws = !(ws.any fun s => !wordB s)) := by unfold Hid; rw [HI.out, hg, decide_eq_true h12]; rfl
      have hsz : ∀ s ∈ ws, s.size ≤ 65536 := by
        intro s hs
        unfold greatW at hg
        simp only [Bool.or_eq_false_iff] at hg
        have := List.any_eq_false.1 hg.2 s hs
        unfold bigS at this
        simp at this
        omega
      have HC := hid (containsFnS_any 26 (enters_of Tryd.func26 (by kernel_rfl) rfl) (fun s => !wordB s) v ws w hr
        (fun x W' hx hW => fine1_any x W' (he.below hW) (hsz x hx)))
      obtain ⟨a, cap, rfl, hlc, hcm, _⟩ := hr.open
      have i1 : (ws.length : Int) ≤ 12 := by omega
      clear hg HI
      generalize (ws.any fun s => !wordB s) = ab at *
      go_enter Tryd.func10, Tryd.ntmps10
      go_wp2_with fail
      refine HG.out.mono ?_
      rintro e w1 ⟨rfl, rfl⟩
      go_wp2_with fail
      refine HC.out.mono ?_
      rintro e w1 ⟨rfl, hB⟩
      go_wp2
      go_ret
      exact ⟨ret_bool HI2.out.symm, hB⟩
  · have HI2 : Hid (fineB ws = false) := by unfold Hid; rw [HI.out, decide_eq_false h12]; rfl
    obtain ⟨a, cap, rfl, hlc, hcm, _⟩ := hr.open
    have i1 : ¬ (ws.length : Int) ≤ 12 := by omega
    go_enter Tryd.func10, Tryd.ntmps10
    go_wp2
    go_ret
    exact ⟨ret_bool HI2.out.symm, Below.refl _ _⟩
end Go.Proofs.YtkmggnohheomeaaDoor
