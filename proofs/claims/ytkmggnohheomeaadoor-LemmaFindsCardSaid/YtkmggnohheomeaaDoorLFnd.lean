/-
  P43.1: the walk of LemmaFinds.
-/
import Derived.Test.YtkmggnohheomeaaDoorRFnd
namespace Go.Proofs.YtkmggnohheomeaaDoor
open Go.RowKit

theorem great_not {ws : List ByteArray} (h : greatW ws = false) : (lcheckI ws = 0 → ws.length ≤ 13) ∧ (∀ s ∈ ws, s.size ≤ 65536) ∧ ws.length ≤ 65536 := by
  unfold greatW at h
  simp only [Bool.or_eq_false_iff, Bool.and_eq_false_iff, decide_eq_false_iff_not] at h
  obtain ⟨⟨h1, h2⟩, h3⟩ := h
  refine ⟨fun hc => ?_, fun s hs => ?_, by omega⟩
  · unfold lcheckI at hc
    split at hc
    · cases hc
    · omega
  · have := List.any_eq_false.1 h3 s hs
    unfold bigS at this
    simp only [Bool.or_eq_true, Bool.and_eq_true, decide_eq_true_eq] at this
    omega

set_option maxRecDepth 100000 in
set_option maxHeartbeats 4000000 in
theorem lfnd_any (v : Value) (ws : List ByteArray) (x y : Int) (f l : ByteArray) (n : Int) (w : World) (he : Env w) (hr : RdS w v ws) (hz : Szs ws) (hfm : f.size ≤ maxLen) (hlm : l.size ≤ maxLen) :
    Calls Tryd.prog 5 #[v, .int .i64 x, .int .i64 y, .agg #[.string f, .string l, .int .i64 n]] w fun e w' => e = .returned (.bool true) ∧ Below w.heap.size w w' := by
  unfold maxLen at hfm hlm
  have HB0 := hid (below_al w (.cells #[.string f, .string l, .int .i64 n] 28))
  have HR0 := hid (row_nw w #[.string f, .string l, .int .i64 n] 28 rfl)
  have HE := fun w' (h : Below w.heap.size w w') => hid (he.below h)
  have HRD := hid hr
  have HG := hid (great43_any v ws (w.alloc (.cells #[.string f, .string l, .int .i64 n] 28)) (hr.below HB0.out) hz)
  have HGN := hid (fun h => great_not (ws := ws) h)
  obtain ⟨ad, cap, rfl, hlc, hcm, _⟩ := hr.open
  cases hg : greatW ws with
  | true =>
    rw [hg] at HG
    clear hg hr hz he HGN
    go_enter Tryd.func5, Tryd.ntmps5
    go_wp2_with fail
    generalize w.alloc (.cells #[.string f, .string l, .int .i64 n] 28) = w0 at *
    refine HG.out.mono ?_
    rintro e w1 ⟨rfl, rfl⟩
    have c0 := HR0.out.cell 0 rfl
    have c1 := HR0.out.cell 1 rfl
    have c2 := HR0.out.cell 2 rfl
    clear HG
    go_wp2_with fail
    refine (awake43_any _ (HE _ HB0.out).out).mono ?_
    rintro e w9 ⟨rfl, hB9⟩
    go_wp2
    go_ret
    exact ⟨rfl, below_tr HB0.out hB9⟩
  | false =>
    rw [hg] at HG
    obtain ⟨h13, hsz, h64⟩ := HGN.out hg
    clear hg hz HGN
    by_cases g1 : 70 < f.size
    · have g1i : (70 : Int) < (f.size : Int) := by omega
      clear hr he h13 hsz h64
      go_enter Tryd.func5, Tryd.ntmps5
      go_wp2_with fail
      generalize w.alloc (.cells #[.string f, .string l, .int .i64 n] 28) = w0 at *
      refine HG.out.mono ?_
      rintro e w1 ⟨rfl, rfl⟩
      have c0 := HR0.out.cell 0 rfl
      have c1 := HR0.out.cell 1 rfl
      have c2 := HR0.out.cell 2 rfl
      clear HG
      go_wp2_with fail
      refine (awake43_any _ (HE _ HB0.out).out).mono ?_
      rintro e w9 ⟨rfl, hB9⟩
      go_wp2
      go_ret
      exact ⟨rfl, below_tr HB0.out hB9⟩
    by_cases g2 : 70 < l.size
    · have g1i : ¬ (70 : Int) < (f.size : Int) := by omega
      have g1j : (f.size : Int) ≤ 70 := by omega
      have g2i : (70 : Int) < (l.size : Int) := by omega
      clear hr he h13 hsz h64
      go_enter Tryd.func5, Tryd.ntmps5
      go_wp2_with fail
      generalize w.alloc (.cells #[.string f, .string l, .int .i64 n] 28) = w0 at *
      refine HG.out.mono ?_
      rintro e w1 ⟨rfl, rfl⟩
      have c0 := HR0.out.cell 0 rfl
      have c1 := HR0.out.cell 1 rfl
      have c2 := HR0.out.cell 2 rfl
      clear HG
      go_wp2_with fail
      refine (awake43_any _ (HE _ HB0.out).out).mono ?_
      rintro e w9 ⟨rfl, hB9⟩
      go_wp2
      go_ret
      exact ⟨rfl, below_tr HB0.out hB9⟩
    have g1i : ¬ (70 : Int) < (f.size : Int) := by omega
    have g1j : (f.size : Int) ≤ 70 := by omega
    have g2i : ¬ (70 : Int) < (l.size : Int) := by omega
    have g2j : (l.size : Int) ≤ 70 := by omega
    have HO1 := fun w' (h : Below w.heap.size w w') => hid (ofAll_any ws x y _ w' (he.below h) (hr.below h) hsz h13 h64)
    have HO2 := fun w' (h : Below w.heap.size w w') => hid (rof_any ws x y _ w' (he.below h) (hr.below h) hsz h13)
    have HF1 := fun w' (h : Below w.heap.size w w') => hid (findAll_any ws f l n _ w' (he.below h) (hr.below h) hsz (by omega) (by omega) h13)
    have HF2 := fun w' (h : Below w.heap.size w w') => hid (rfind_any ws f l n _ w' (he.below h) (hr.below h) hsz (by omega) (by omega) h13)
    clear hr he h13 hsz h64 g1 g2
    unfold ofVal at HO1 HO2
    unfold findVal at HF1 HF2
    generalize ofRes ws x y = r at *
    generalize findRes ws f l n = q at *
    obtain ⟨r1, r2, r3, r4⟩ := r
    obtain ⟨q1, q2, q3⟩ := q
    simp only at HO1 HO2 HF1 HF2
    go_enter Tryd.func5, Tryd.ntmps5
    go_wp2_with fail
    generalize w.alloc (.cells #[.string f, .string l, .int .i64 n] 28) = w0 at *
    refine HG.out.mono ?_
    rintro e w1 ⟨rfl, rfl⟩
    have c0 := HR0.out.cell 0 rfl
    have c1 := HR0.out.cell 1 rfl
    have c2 := HR0.out.cell 2 rfl
    clear HG
    go_wp2_with fail
    refine (HO1 _ HB0.out).out.mono ?_
    rintro e w2 ⟨rfl, hB2⟩
    have hb3 := below_tr (below_tr HB0.out hB2) (below_al w2 (.cells #[.string r1, .string r2, .int .i64 r3] 28))
    have hr3 := (HR0.out.below hB2).al (.cells #[.string r1, .string r2, .int .i64 r3] 28)
    have hs3 := row_nw w2 #[.string r1, .string r2, .int .i64 r3] 28 rfl
    clear hB2 HO1 HR0 HB0 c0 c1 c2
    go_wp2_with fail
    generalize w2.alloc (.cells #[.string r1, .string r2, .int .i64 r3] 28) = w3 at *
    generalize w2.heap.size = B2 at *
    refine (HO2 _ hb3).out.mono ?_
    rintro e w4 ⟨rfl, hB4⟩
    have hb5 := below_tr (below_tr hb3 hB4) (below_al w4 (.cells #[.string r1, .string r2, .int .i64 r3] 28))
    have hr5 := (hr3.below hB4).al (.cells #[.string r1, .string r2, .int .i64 r3] 28)
    have hs5 := (hs3.below hB4).al (.cells #[.string r1, .string r2, .int .i64 r3] 28)
    have ht5 := row_nw w4 #[.string r1, .string r2, .int .i64 r3] 28 rfl
    clear hb3 hB4 hr3 hs3 HO2
    have c0 := hr5.cell 0 rfl
    have c1 := hr5.cell 1 rfl
    have c2 := hr5.cell 2 rfl
    go_wp2_with fail
    generalize w4.alloc (.cells #[.string r1, .string r2, .int .i64 r3] 28) = w5 at *
    generalize w4.heap.size = B4 at *
    refine (HF1 _ hb5).out.mono ?_
    rintro e w6 ⟨rfl, hB6⟩
    have hb6 := below_tr hb5 hB6
    have hr6 := hr5.below hB6
    have hs6 := hs5.below hB6
    have ht6 := ht5.below hB6
    clear hb5 hB6 hr5 hs5 ht5 c0 c1 c2 HF1
    have c0 := hr6.cell 0 rfl
    have c1 := hr6.cell 1 rfl
    have c2 := hr6.cell 2 rfl
    go_wp2_with fail
    refine (HF2 _ hb6).out.mono ?_
    rintro e w7 ⟨rfl, hB7⟩
    have hb7 := below_tr hb6 hB7
    have hs7 := hs6.below hB7
    have ht7 := ht6.below hB7
    clear hb6 hB7 hr6 hs6 ht6 c0 c1 c2 HF2
    have d0 := hs7.cell 0 rfl
    have d1 := hs7.cell 1 rfl
    have d2 := hs7.cell 2 rfl
    have e0 := ht7.cell 0 rfl
    have e1 := ht7.cell 1 rfl
    have e2 := ht7.cell 2 rfl
    clear hs7 ht7
    go_wp2_with fail
    refine (awake43_any _ (HE _ hb7).out).mono ?_
    rintro e w9 ⟨rfl, hB9⟩
    go_wp2
    go_ret
    exact ⟨rfl, below_tr hb7 hB9⟩
end Go.Proofs.YtkmggnohheomeaaDoor
