/-
  lemma.Check, lemma.Print; Great, fine, part, example of chapter 43.
-/
import Derived.Test.YtmbehkanhefcpaaGreatDoorOf
import Derived.Test.YtmbehkanhefcpaaGreatDoorLit
namespace Go.Proofs.YtmbehkanhefcpaaGreatDoor
open Go.RowKit

def lemCk (f l : ByteArray) (n : Int) : Int := if (!wordB f || (decide (l.size ≠ 0) && !wordB l)) = true then 11 else if n < 0 ∨ 65536 < n then 2 else 0

set_option maxRecDepth 100000 in
set_option maxHeartbeats 1000000 in
theorem lck_any (f l : ByteArray) (n : Int) (w : World) (he : Env w) (hf : f.size ≤ 65536) (hl : l.size ≤ 65536) :
    Calls Tryz.prog 12 #[.agg #[.string f, .string l, .int .i64 n]] w fun e w' => e = .returned (.int .i64 (lemCk f l n)) ∧ Below w.heap.size w w' := by
  have hb0 := below_al w (.cells #[.string f, .string l, .int .i64 n] 23)
  have hr0 := row_nw w #[.string f, .string l, .int .i64 n] 23 rfl
  have HI : Hid (lemCk f l n = if (!wordB f || (decide (l.size ≠ 0) && !wordB l)) = true then 11 else if n < 0 ∨ 65536 < n then 2 else 0) := rfl
  have HWf := hid (word_any f (w.alloc (.cells #[.string f, .string l, .int .i64 n] 23)) (he.below hb0) hf)
  have HWl := fun w' (h : Below w.heap.size w w') => hid (word_any l w' (he.below h) hl)
  have hE := ba_isE l
  cases hwf : wordB f with
  | false =>
    rw [hwf] at HWf
    have HI2 : Hid (lemCk f l n = 11) := by unfold Hid; rw [HI.out, hwf]; rfl
    clear hwf HI
    go_enter Tryz.func12, Tryz.ntmps12
    go_wp2_with fail
    refine HWf.out.mono ?_
    rintro e w1 ⟨rfl, hB1⟩
    go_wp2
    go_ret
    exact ⟨ret_int HI2.out.symm, below_tr hb0 hB1⟩
  | true =>
    rw [hwf] at HWf HI
    clear hwf
    by_cases hl0 : l.size = 0
    · rw [decide_eq_true hl0] at hE
      have HI2 : Hid (lemCk f l n = if n < 0 ∨ 65536 < n then 2 else 0) := by unfold Hid; rw [HI.out, if_neg (by simp [hl0])]
      clear HI hl0
      go_enter Tryz.func12, Tryz.ntmps12
      go_wp2_with fail
      refine HWf.out.mono ?_
      rintro e w1 ⟨rfl, hB1⟩
      have hr1 := hr0.below hB1
      have c1 := hr1.cell 1 rfl
      have c2 := hr1.cell 2 rfl
      by_cases hn0 : n < 0
      · have HI3 : Hid (lemCk f l n = 2) := by unfold Hid; rw [HI2.out, if_pos (.inl hn0)]
        go_wp2
        go_ret
        exact ⟨ret_int HI3.out.symm, below_tr hb0 hB1⟩
      · by_cases hn1 : 65536 < n
        · have HI3 : Hid (lemCk f l n = 2) := by unfold Hid; rw [HI2.out, if_pos (.inr hn1)]
          go_wp2
          go_ret
          exact ⟨ret_int HI3.out.symm, below_tr hb0 hB1⟩
        · have HI3 : Hid (lemCk f l n = 0) := by unfold Hid; rw [HI2.out, if_neg (by omega)]
          go_wp2
          go_ret
          exact ⟨ret_int HI3.out.symm, below_tr hb0 hB1⟩
    · rw [decide_eq_false hl0] at hE
      cases hwl : wordB l with
      | false =>
        have HI2 : Hid (lemCk f l n = 11) := by unfold Hid; rw [HI.out, if_pos (by simp [hl0, hwl])]
        rw [hwl] at HWl
        clear HI hl0 hwl
        go_enter Tryz.func12, Tryz.ntmps12
        go_wp2_with fail
        refine HWf.out.mono ?_
        rintro e w1 ⟨rfl, hB1⟩
        have hr1 := hr0.below hB1
        have c1 := hr1.cell 1 rfl
        go_wp2_with fail
        refine (HWl _ (below_tr hb0 hB1)).out.mono ?_
        rintro e w2 ⟨rfl, hB2⟩
        go_wp2
        go_ret
        exact ⟨ret_int HI2.out.symm, below_tr (below_tr hb0 hB1) hB2⟩
      | true =>
        have HI2 : Hid (lemCk f l n = if n < 0 ∨ 65536 < n then 2 else 0) := by unfold Hid; rw [HI.out, if_neg (by simp [hwl])]
        rw [hwl] at HWl
        clear HI hl0 hwl
        go_enter Tryz.func12, Tryz.ntmps12
        go_wp2_with fail
        refine HWf.out.mono ?_
        rintro e w1 ⟨rfl, hB1⟩
        have hr1 := hr0.below hB1
        have c1 := hr1.cell 1 rfl
        go_wp2_with fail
        refine (HWl _ (below_tr hb0 hB1)).out.mono ?_
        rintro e w2 ⟨rfl, hB2⟩
        have hr2 := hr1.below hB2
        have c2 := hr2.cell 2 rfl
        by_cases hn0 : n < 0
        · have HI3 : Hid (lemCk f l n = 2) := by unfold Hid; rw [HI2.out, if_pos (.inl hn0)]
          go_wp2
          go_ret
          exact ⟨ret_int HI3.out.symm, below_tr (below_tr hb0 hB1) hB2⟩
        · by_cases hn1 : 65536 < n
          · have HI3 : Hid (lemCk f l n = 2) := by unfold Hid; rw [HI2.out, if_pos (.inr hn1)]
            go_wp2
            go_ret
            exact ⟨ret_int HI3.out.symm, below_tr (below_tr hb0 hB1) hB2⟩
          · have HI3 : Hid (lemCk f l n = 0) := by unfold Hid; rw [HI2.out, if_neg (by omega)]
            go_wp2
            go_ret
            exact ⟨ret_int HI3.out.symm, below_tr (below_tr hb0 hB1) hB2⟩

def bigS (s : ByteArray) : Bool := (decide (12 < s.size) && decide (s.size ≤ 64)) || decide (66 < s.size)
def greatW (ws : List ByteArray) : Bool := ((decide (12 < ws.length) && decide (ws.length ≤ 4096)) || decide (4098 < ws.length)) || ws.any bigS
theorem any_snoc {α : Type} (p : α → Bool) (l : List α) (k : Nat) (x : α) (h : l[k]? = some x) : (l.take (k + 1)).any p = ((l.take k).any p || p x) := by
  rw [List.take_add_one, h, List.any_append]; simp
theorem any_take_true {α : Type} {p : α → Bool} {l : List α} {k : Nat} (h : (l.take k).any p = true) : l.any p = true := by
  obtain ⟨x, hx, hp⟩ := List.any_eq_true.1 h
  exact List.any_eq_true.2 ⟨x, List.mem_of_mem_take hx, hp⟩

set_option maxRecDepth 100000 in
set_option maxHeartbeats 1000000 in
theorem great43_any (v : Value) (ws : List ByteArray) (w : World) (hr : RdS w v ws) (hz : Szs ws) :
    Calls Tryz.prog 4 #[v] w fun e w' => e = .returned (.bool (greatW ws)) ∧ w = w' := by
  obtain ⟨a, cap, rfl, hlc, hcm, hcell⟩ := hr.open
  have HI : Hid (greatW ws = (((decide (12 < ws.length) && decide (ws.length ≤ 4096)) || decide (4098 < ws.length)) || ws.any bigS)) := rfl
  have HC := hid hcell
  have HZ := hid hz
  clear hcell hz
  by_cases h1 : 12 < ws.length ∧ ws.length ≤ 4096
  · have i1 : (12 : Int) < (ws.length : Int) := by omega
    have i2 : (ws.length : Int) ≤ 4096 := by omega
    have HI2 : Hid (greatW ws = true) := by unfold Hid; rw [HI.out, decide_eq_true h1.1, decide_eq_true h1.2]; rfl
    clear h1 HI
    go_enter Tryz.func4, Tryz.ntmps4
    go_wp2
    go_ret
    exact ⟨ret_bool HI2.out.symm, rfl⟩
  by_cases h2 : 4098 < ws.length
  · have i1 : (12 : Int) < (ws.length : Int) := by omega
    have i2 : ¬ (ws.length : Int) ≤ 4096 := by omega
    have i3 : (4098 : Int) < (ws.length : Int) := by omega
    have HI2 : Hid (greatW ws = true) := by unfold Hid; rw [HI.out, decide_eq_true h2]; simp
    clear h1 h2 HI
    go_enter Tryz.func4, Tryz.ntmps4
    go_wp2
    go_ret
    exact ⟨ret_bool HI2.out.symm, rfl⟩
  have i3 : ¬ (4098 : Int) < (ws.length : Int) := by omega
  have HI2 : Hid (greatW ws = ws.any bigS) := by
    unfold Hid
    rw [HI.out, decide_eq_false h2]
    have : (decide (12 < ws.length) && decide (ws.length ≤ 4096)) = false := by simp; omega
    rw [this]; rfl
  have HLN : Hid (ws.length ≤ 4098) := by unfold Hid; omega
  have hcase : (¬ (12 : Int) < (ws.length : Int)) ∨ ((12 : Int) < (ws.length : Int) ∧ ¬ (ws.length : Int) ≤ 4096) := by omega
  clear h1 h2 HI
  rcases hcase with i1 | ⟨i1, i2⟩
  all_goals
    go_enter Tryz.func4, Tryz.ntmps4
    go_wp2
    go_loop [3] (fun i => ∃ k : Nat, k ≤ ws.length ∧ i = .int .i64 k ∧ Hid ((ws.take k).any bigS = false)) (fun i => ws.length - (intOf i).toNat)
    case atStart => exact ⟨0, Nat.zero_le _, rfl, by simp [Hid]⟩
    case round =>
      obtain ⟨k, hk, rfl, HK⟩ := hrel
      have hlen := HLN.out
      by_cases hlt : k < ws.length
      · obtain ⟨s, b, off, hs, rfl, hc⟩ := HC.out k hlt
        have hki : (k : Int) < (ws.length : Int) := by omega
        have HS := hid (any_snoc bigS ws k s hs)
        have HAT : Hid (bigS s = true → ws.any bigS = true) := fun h => List.any_eq_true.2 ⟨s, List.mem_of_getElem? hs, h⟩
        have hzs := HZ.out s (List.mem_of_getElem? hs)
        unfold maxLen at hzs
        clear hs
        by_cases g1 : 12 < s.size ∧ s.size ≤ 64
        · have j1 : (12 : Int) < (s.size : Int) := by omega
          have j2 : (s.size : Int) ≤ 64 := by omega
          have HB : Hid (bigS s = true) := by unfold Hid bigS; rw [decide_eq_true g1.1, decide_eq_true g1.2]; rfl
          clear g1
          go_wp2
          go_ret
          exact ⟨ret_bool (by rw [HI2.out, HAT.out HB.out]), rfl⟩
        by_cases g2 : 66 < s.size
        · have j1 : (12 : Int) < (s.size : Int) := by omega
          have j2 : ¬ (s.size : Int) ≤ 64 := by omega
          have j3 : (66 : Int) < (s.size : Int) := by omega
          have HB : Hid (bigS s = true) := by unfold Hid bigS; rw [decide_eq_true g2]; simp
          clear g1 g2
          go_wp2
          go_ret
          exact ⟨ret_bool (by rw [HI2.out, HAT.out HB.out]), rfl⟩
        have HB : Hid (bigS s = false) := by unfold Hid bigS; rw [decide_eq_false g2]; simp; omega
        have j3 : ¬ (66 : Int) < (s.size : Int) := by omega
        have hcs : (¬ (12 : Int) < (s.size : Int)) ∨ ((12 : Int) < (s.size : Int) ∧ ¬ (s.size : Int) ≤ 64) := by omega
        clear g1 g2
        rcases hcs with j1 | ⟨j1, j2⟩
        all_goals
          go_wp2
          go_round
          case rel => exact ⟨k + 1, by omega, by go_num, by rw [HS.out, HK.out, HB.out]; rfl⟩
          case measure => simp [intOf]; omega
      · have hki : ¬ (k : Int) < (ws.length : Int) := by omega
        go_wp2
        go_ret
        have h := HK.out
        rw [List.take_of_length_le (by omega)] at h
        exact ⟨ret_bool (by rw [HI2.out, h]), rfl⟩

def fineB (ws : List ByteArray) : Bool := decide (ws.length ≤ 12) && !greatW ws && !(ws.any fun s => !wordB s)
theorem fine_all {ws : List ByteArray} (h : fineB ws = true) : ws.length ≤ 12 ∧ (∀ s ∈ ws, wordB s = true) ∧ (∀ s ∈ ws, s.size ≤ 66) := by
  unfold fineB greatW at h
  simp only [Bool.and_eq_true, decide_eq_true_eq, Bool.not_eq_true', Bool.or_eq_false_iff] at h
  obtain ⟨⟨h1, _, h2⟩, h3⟩ := h
  refine ⟨h1, fun s hs => ?_, fun s hs => ?_⟩
  · have := List.any_eq_false.1 h3 s hs
    simpa using this
  · have := List.any_eq_false.1 h2 s hs
    unfold bigS at this
    simp at this
    omega
theorem fine_check {ws : List ByteArray} (h : fineB ws = true) : lcheckI ws = 0 := by
  obtain ⟨h1, h2, _⟩ := fine_all h
  unfold lcheckI
  rw [if_neg (by omega), if_neg]
  rw [Bool.not_eq_true]
  exact List.any_eq_false.2 fun s hs => by rw [h2 s hs]; simp

end Go.Proofs.YtmbehkanhefcpaaGreatDoor
