/-
  P43.4: the walk of LemmaTexts.
-/
import Derived.Test.YtkmggnohheomeaaDoorLParse
namespace Go.Proofs.YtkmggnohheomeaaDoor
open Go.RowKit

theorem printT_len (f l : ByteArray) (n : Int) : (printT f l n).size = f.size + ((if l.size = 0 then 0 else 3 + l.size) + (if n = 0 then 0 else 1 + (itoaB n).size)) := by
  have h := congrArg List.length (printT_data f l n)
  rw [ba_len, List.length_append, List.length_append, ba_len] at h
  rw [h]
  congr 2
  · split
    · rfl
    · rw [List.length_append, ba_len]; rfl
  · split
    · rfl
    · rw [List.length_cons, ba_len]; omega
theorem itoaB_small {n : Int} (h0 : 0 ≤ n) (h1 : n ≤ 65536) : (itoaB n).size ≤ 9 := by
  rw [← ba_len, itoaB_data h0, Lib.decDigits_length]
  exact nDigits_9 _ (by omega)

set_option maxRecDepth 100000 in
set_option maxHeartbeats 1000000 in
theorem printE_any (f l : ByteArray) (n : Int) (w : World) (he : Env w) (hf : f.size ≤ 65536) (hl : l.size ≤ 65536) (hck : lemCk f l n ≠ 0) :
    Calls Tryd.prog 23 #[.agg #[.string f, .string l, .int .i64 n]] w fun e w' => e = .returned (.tuple #[.string ⟨#[]⟩, .int .i64 (lemCk f l n)]) ∧ Below w.heap.size w w' := by
  have hb0 := below_al w (.cells #[.string f, .string l, .int .i64 n] 28)
  have HC := hid (lck_any f l n (w.alloc (.cells #[.string f, .string l, .int .i64 n] 28)) (he.below hb0) hf hl)
  have hcb : (lemCk f l n == 0) = false := beq_eq_false_iff_ne.2 hck
  generalize lemCk f l n = ck at *
  go_enter Tryd.func23, Tryd.ntmps23
  go_wp2_with fail
  refine HC.out.mono ?_
  rintro e w1 ⟨rfl, hB1⟩
  go_wp2
  go_ret2
  exact ⟨rfl, below_tr hb0 hB1⟩

set_option maxRecDepth 100000 in
set_option maxHeartbeats 4000000 in
theorem ltxt_any (f l : ByteArray) (n : Int) (s : ByteArray) (m : Int) (w : World) (he : Env w) (hfm : f.size ≤ maxLen) (hlm : l.size ≤ maxLen) (hsm : s.size ≤ maxLen) (hm : w.cell? ⟨0, 0, none⟩ = some (.int .i64 m)) :
    Calls Tryd.prog 9 #[.agg #[.string f, .string l, .int .i64 n], .string s] w fun e w' => e = .returned (.bool true) ∧ Below w.heap.size w w' := by
  unfold maxLen at hfm hlm hsm
  have HB0 := hid (below_al w (.cells #[.string f, .string l, .int .i64 n] 28))
  have hr0 := row_nw w #[.string f, .string l, .int .i64 n] 28 rfl
  have c0 := hr0.cell 0 rfl
  have c1 := hr0.cell 1 rfl
  have c2 := hr0.cell 2 rfl
  have HR0 := hid hr0
  have HE := fun w' (h : Below w.heap.size w w') => hid (he.below h)
  have HM := fun w' (h : Below w.heap.size w w') => hid (Below.keeps h _ _ hm)
  clear hr0 hm he
  by_cases g1 : 20 < f.size
  · have g1i : (20 : Int) < (f.size : Int) := by omega
    go_enter Tryd.func9, Tryd.ntmps9
    go_wp2_with fail
    refine (awake43_any _ (HE _ HB0.out).out).mono ?_
    rintro e w1 ⟨rfl, hB1⟩
    go_wp2
    go_ret
    exact ⟨rfl, below_tr HB0.out hB1⟩
  have g1i : ¬ (20 : Int) < (f.size : Int) := by omega
  have g1j : (f.size : Int) ≤ 20 := by omega
  by_cases g2 : 20 < l.size
  · have g2i : (20 : Int) < (l.size : Int) := by omega
    go_enter Tryd.func9, Tryd.ntmps9
    go_wp2_with fail
    refine (awake43_any _ (HE _ HB0.out).out).mono ?_
    rintro e w1 ⟨rfl, hB1⟩
    go_wp2
    go_ret
    exact ⟨rfl, below_tr HB0.out hB1⟩
  have g2i : ¬ (20 : Int) < (l.size : Int) := by omega
  have g2j : (l.size : Int) ≤ 20 := by omega
  by_cases g3 : 60 < s.size
  · have g3i : (60 : Int) < (s.size : Int) := by omega
    go_enter Tryd.func9, Tryd.ntmps9
    go_wp2_with fail
    refine (awake43_any _ (HE _ HB0.out).out).mono ?_
    rintro e w1 ⟨rfl, hB1⟩
    go_wp2
    go_ret
    exact ⟨rfl, below_tr HB0.out hB1⟩
  have g3i : ¬ (60 : Int) < (s.size : Int) := by omega
  have g3j : (s.size : Int) ≤ 60 := by omega
  have HPS := fun w' (h : Below w.heap.size w w') => hid (parse43_any s m w' (HE w' h).out (by omega) (HM w' h).out)
  have HOR := hid (lm_ok_or s)
  have HPP := hid (fun f' l' n' (h : parseLm s = ⟨f', l', n', 0⟩) => print_parse43 h)
  obtain ⟨r, hr⟩ : ∃ r, r = parseLm s := ⟨_, rfl⟩
  rw [← hr] at HPS HOR HPP
  clear hr
  by_cases hck : lemCk f l n = 0
  · have HPR := hid (print_any f l n _ (HE _ HB0.out).out (by omega) (by omega) hck)
    have hnb := lck_bounds hck
    have hil := itoaB_small hnb.1 hnb.2
    have hpl := printT_len f l n
    have hpz : (printT f l n).size ≤ 65536 := by
      rw [hpl]; split <;> split <;> omega
    have HPA := fun w' (h : Below w.heap.size w w') => hid (parse43_any (printT f l n) m w' (HE w' h).out hpz (HM w' h).out)
    rw [parse_print43 hck hpz] at HPA
    unfold lmV at HPA
    generalize printT f l n = t at *
    clear hck hnb hil hpl hpz
    go_enter Tryd.func9, Tryd.ntmps9
    go_wp2_with fail
    refine HPR.out.mono ?_
    rintro e w1 ⟨rfl, hB1⟩
    have hb1 := below_tr HB0.out hB1
    have hr1 := HR0.out.below hB1
    have HA := HPA _ hb1
    clear hB1 HPR HPA c0 c1 c2 HB0 HR0
    go_wp2_with fail
    refine HA.out.mono ?_
    rintro e w2 ⟨rfl, hB2⟩
    have hb3 := below_tr (below_tr hb1 hB2) (below_al w2 (.cells #[.string f, .string l, .int .i64 n] 28))
    have hr3 := (hr1.below hB2).al (.cells #[.string f, .string l, .int .i64 n] 28)
    have hs3 := row_nw w2 #[.string f, .string l, .int .i64 n] 28 rfl
    have u0 := hr3.cell 0 rfl
    have u1 := hr3.cell 1 rfl
    have u2 := hr3.cell 2 rfl
    have v0 := hs3.cell 0 rfl
    have v1 := hs3.cell 1 rfl
    have v2 := hs3.cell 2 rfl
    clear hr3 hs3 hr1 hb1 hB2 HA
    rcases HOR.out with h0 | ⟨h0, h00⟩
    · obtain ⟨f2, l2, n2, e2⟩ := r
      obtain rfl : e2 = 0 := h0
      obtain ⟨q1, q2⟩ := HPP.out f2 l2 n2 rfl
      have q3 := printT_len f2 l2 n2
      have q4 : f2.size ≤ 65536 := by rw [q2] at q3; omega
      have q5 : l2.size ≤ 65536 := by
        rw [q2] at q3
        by_cases h : l2.size = 0
        · omega
        · rw [if_neg h] at q3; omega
      have HPR2 := fun w' (h : Below w.heap.size w w') => hid (print_any f2 l2 n2 w' (HE w' h).out q4 q5 q1)
      rw [q2] at HPR2
      clear q1 q2 q3 q4 q5 HOR HPP
      have HS := hid (HPS _ hb3)
      unfold lmV at HS
      go_wp2_with fail
      refine HS.out.out.mono ?_
      rintro e w6 ⟨rfl, hB6⟩
      have hb6 := below_tr hb3 hB6
      have hb7 := below_tr hb6 (below_al w6 (.cells #[.string f2, .string l2, .int .i64 n2] 28))
      have ha7 := row_nw w6 #[.string f2, .string l2, .int .i64 n2] 28 rfl
      have p0 := ha7.cell 0 rfl
      have p1 := ha7.cell 1 rfl
      have p2 := ha7.cell 2 rfl
      clear HS HPS hB6 hb6 ha7
      go_wp2_with fail
      refine (HPR2 _ hb7).out.mono ?_
      rintro e w8 ⟨rfl, hB8⟩
      have hb8 := below_tr hb7 hB8
      clear hb7 hB8 HPR2 p0 p1 p2
      go_wp2_with fail
      refine (awake43_any _ (HE _ hb8).out).mono ?_
      rintro e w9 ⟨rfl, hB9⟩
      go_wp2
      go_ret
      exact ⟨rfl, below_tr hb8 hB9⟩
    · obtain ⟨f2, l2, n2, e2⟩ := r
      have h1 : ¬ e2 = 0 := h0
      have h1b : (e2 == 0) = false := beq_eq_false_iff_ne.2 h1
      unfold lm0 at h00
      simp only [LmR.mk.injEq, and_true] at h00
      obtain ⟨rfl, rfl, rfl⟩ := h00
      have HS := hid (HPS _ hb3)
      unfold lmV at HS
      clear HOR HPP h0
      go_wp2_with fail
      refine HS.out.out.mono ?_
      rintro e w6 ⟨rfl, hB6⟩
      have hb6 := below_tr hb3 hB6
      have hb7 := below_tr hb6 (below_al w6 (.cells #[.string ⟨#[]⟩, .string ⟨#[]⟩, .int .i64 0] 28))
      have ha7 := row_nw w6 #[.string ⟨#[]⟩, .string ⟨#[]⟩, .int .i64 0] 28 rfl
      have p0 := ha7.cell 0 rfl
      have p1 := ha7.cell 1 rfl
      have p2 := ha7.cell 2 rfl
      clear HS HPS hB6 hb6 ha7
      go_wp2_with fail
      refine (awake43_any _ (HE _ hb7).out).mono ?_
      rintro e w9 ⟨rfl, hB9⟩
      go_wp2
      go_ret
      exact ⟨rfl, below_tr hb7 hB9⟩
  · have HPR := hid (printE_any f l n _ (HE _ HB0.out).out (by omega) (by omega) hck)
    have HCK := fun w' (h : Below w.heap.size w w') => hid (lck_any f l n w' (HE w' h).out (by omega) (by omega))
    have hcb : (lemCk f l n == 0) = false := beq_eq_false_iff_ne.2 hck
    generalize lemCk f l n = ck at *
    go_enter Tryd.func9, Tryd.ntmps9
    go_wp2_with fail
    refine HPR.out.mono ?_
    rintro e w1 ⟨rfl, hB1⟩
    have hb1 := below_tr HB0.out hB1
    have hr1 := HR0.out.below hB1
    have u0 := hr1.cell 0 rfl
    have u1 := hr1.cell 1 rfl
    have u2 := hr1.cell 2 rfl
    clear hB1 HPR c0 c1 c2 HB0 HR0 hr1
    go_wp2_with fail
    refine (HCK _ hb1).out.mono ?_
    rintro e w2 ⟨rfl, hB2⟩
    have hb3 := below_tr hb1 hB2
    clear hb1 hB2 HCK u0 u1 u2
    rcases HOR.out with h0 | ⟨h0, h00⟩
    · obtain ⟨f2, l2, n2, e2⟩ := r
      obtain rfl : e2 = 0 := h0
      obtain ⟨q1, q2⟩ := HPP.out f2 l2 n2 rfl
      have q3 := printT_len f2 l2 n2
      have q4 : f2.size ≤ 65536 := by rw [q2] at q3; omega
      have q5 : l2.size ≤ 65536 := by
        rw [q2] at q3
        by_cases h : l2.size = 0
        · omega
        · rw [if_neg h] at q3; omega
      have HPR2 := fun w' (h : Below w.heap.size w w') => hid (print_any f2 l2 n2 w' (HE w' h).out q4 q5 q1)
      rw [q2] at HPR2
      clear q1 q2 q3 q4 q5 HOR HPP
      have HS := hid (HPS _ hb3)
      unfold lmV at HS
      go_wp2_with fail
      refine HS.out.out.mono ?_
      rintro e w6 ⟨rfl, hB6⟩
      have hb6 := below_tr hb3 hB6
      have hb7 := below_tr hb6 (below_al w6 (.cells #[.string f2, .string l2, .int .i64 n2] 28))
      have ha7 := row_nw w6 #[.string f2, .string l2, .int .i64 n2] 28 rfl
      have p0 := ha7.cell 0 rfl
      have p1 := ha7.cell 1 rfl
      have p2 := ha7.cell 2 rfl
      clear HS HPS hB6 hb6 ha7
      go_wp2_with fail
      refine (HPR2 _ hb7).out.mono ?_
      rintro e w8 ⟨rfl, hB8⟩
      have hb8 := below_tr hb7 hB8
      clear hb7 hB8 HPR2 p0 p1 p2
      go_wp2_with fail
      refine (awake43_any _ (HE _ hb8).out).mono ?_
      rintro e w9 ⟨rfl, hB9⟩
      go_wp2
      go_ret
      exact ⟨rfl, below_tr hb8 hB9⟩
    · obtain ⟨f2, l2, n2, e2⟩ := r
      have h1 : ¬ e2 = 0 := h0
      have h1b : (e2 == 0) = false := beq_eq_false_iff_ne.2 h1
      unfold lm0 at h00
      simp only [LmR.mk.injEq, and_true] at h00
      obtain ⟨rfl, rfl, rfl⟩ := h00
      have HS := hid (HPS _ hb3)
      unfold lmV at HS
      clear HOR HPP h0
      go_wp2_with fail
      refine HS.out.out.mono ?_
      rintro e w6 ⟨rfl, hB6⟩
      have hb6 := below_tr hb3 hB6
      have hb7 := below_tr hb6 (below_al w6 (.cells #[.string ⟨#[]⟩, .string ⟨#[]⟩, .int .i64 0] 28))
      have ha7 := row_nw w6 #[.string ⟨#[]⟩, .string ⟨#[]⟩, .int .i64 0] 28 rfl
      have p0 := ha7.cell 0 rfl
      have p1 := ha7.cell 1 rfl
      have p2 := ha7.cell 2 rfl
      clear HS HPS hB6 hb6 ha7
      go_wp2_with fail
      refine (awake43_any _ (HE _ hb7).out).mono ?_
      rintro e w9 ⟨rfl, hB9⟩
      go_wp2
      go_ret
      exact ⟨rfl, below_tr hb7 hB9⟩
end Go.Proofs.YtkmggnohheomeaaDoor
