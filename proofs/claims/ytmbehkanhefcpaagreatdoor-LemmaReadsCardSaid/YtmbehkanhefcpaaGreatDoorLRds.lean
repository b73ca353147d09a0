/-
  P43.1: the walk of LemmaReads. Printed by genlrds.py.
-/
import Derived.Test.YtmbehkanhefcpaaGreatDoorRPs
import Derived.Test.YtmbehkanhefcpaaGreatDoorLFnd
import Derived.Test.YtmbehkanhefcpaaGreatDoorSame43
import Derived.Deep.RegionHeld3
namespace Go.Proofs.YtmbehkanhefcpaaGreatDoor
open Go.RowKit

/-- What Print answers. -/
def prT (f l : ByteArray) (n : Int) : ByteArray := if lemCk f l n = 0 then printT f l n else ⟨#[]⟩
theorem print43V_any (f l : ByteArray) (n : Int) (w : World) (he : Env w) (hf : f.size ≤ 65536) (hl : l.size ≤ 65536) :
    Calls Tryz.prog 6 #[.agg #[.string f, .string l, .int .i64 n]] w fun e w' => e = .returned (.tuple #[.string (prT f l n), .int .i64 (lemCk f l n)]) ∧ Below w.heap.size w w' := by
  unfold prT
  by_cases h : lemCk f l n = 0
  · rw [if_pos h, h]; exact print_any f l n w he hf hl h
  · rw [if_neg h]; exact printE_any f l n w he hf hl h
theorem rprint43V_any (f l : ByteArray) (n : Int) (w : World) (he : Env w) (hf : f.size ≤ 65536) (hl : l.size ≤ 65536) :
    Calls Tryz.prog 7 #[.agg #[.string f, .string l, .int .i64 n]] w fun e w' => e = .returned (.tuple #[.string (prT f l n), .int .i64 (lemCk f l n)]) ∧ Below w.heap.size w w' := by
  unfold prT
  by_cases h : lemCk f l n = 0
  · rw [if_pos h, h]; exact rprint_any f l n w he hf hl h
  · rw [if_neg h]; exact rprintE_any f l n w he hf hl h
structure RdsS (w : World) (b0 b1 b2 : Nat) (f l : ByteArray) (n : Int) (f2 l2 : ByteArray) (n2 : Int) (u1 u2 : Value) (M : List (Nat × Nat)) (W : World) : Prop where
  bel : Below w.heap.size w W
  r0 : Row W b0 #[.string f, .string l, .int .i64 n] 23
  r1 : Row W b1 #[.string f2, .string l2, .int .i64 n2] 23
  r2 : Row W b2 #[.string f2, .string l2, .int .i64 n2] 23
  p1 : RdP W u1 M
  p2 : RdP W u2 M
theorem RdsS.below {w W W' : World} {b0 b1 b2 : Nat} {f l : ByteArray} {n : Int} {f2 l2 : ByteArray} {n2 : Int} {u1 u2 : Value} {M : List (Nat × Nat)} (h : RdsS w b0 b1 b2 f l n f2 l2 n2 u1 u2 M W) (hb : Below W.heap.size W W') : RdsS w b0 b1 b2 f l n f2 l2 n2 u1 u2 M W' :=
  ⟨below_tr h.bel hb, h.r0.below hb, h.r1.below hb, h.r2.below hb, h.p1.below hb, h.p2.below hb⟩
theorem RdsS.drew {w W : World} {b0 b1 b2 : Nat} {f l : ByteArray} {n : Int} {f2 l2 : ByteArray} {n2 : Int} {u1 u2 : Value} {M : List (Nat × Nat)} (h : RdsS w b0 b1 b2 f l n f2 l2 n2 u1 u2 M W) : RdsS w b0 b1 b2 f l n f2 l2 n2 u1 u2 M W.drew := h.below (Below.refl _ _).drew

set_option maxRecDepth 100000 in
set_option maxHeartbeats 4000000 in
theorem lrds_any (f l : ByteArray) (n : Int) (s : ByteArray) (v : Value) (ws : List ByteArray) (m : Int) (w : World) (he : Env w) (hm : w.cell? ⟨0, 0, none⟩ = some (.int .i64 m)) (hr : RdS w v ws) (hz : Szs ws) (hfm : f.size ≤ maxLen) (hlm : l.size ≤ maxLen) (hsm : s.size ≤ maxLen) :
    Calls Tryz.prog 3 #[.agg #[.string f, .string l, .int .i64 n], .string s, v] w fun e w' => e = .returned (.bool true) ∧ Below w.heap.size w w' := by
  unfold maxLen at hfm hlm hsm
  have HB0 := hid (below_al w (.cells #[.string f, .string l, .int .i64 n] 23))
  have HR0 := hid (row_nw w #[.string f, .string l, .int .i64 n] 23 rfl)
  have HE := fun w' (h : Below w.heap.size w w') => hid (he.below h)
  have HM := fun w' (h : Below w.heap.size w w') => hid (Below.keeps h _ _ hm)
  have HRD := hid hr
  have HG := hid (great43_any v ws (w.alloc (.cells #[.string f, .string l, .int .i64 n] 23)) (hr.below HB0.out) hz)
  have HGN := hid (fun h => great_not (ws := ws) h)
  obtain ⟨ad, cap, rfl, hlc, hcm, _⟩ := hr.open
  clear hm
  cases hg : greatW ws with
  | true =>
    rw [hg] at HG
    clear hg hz HGN
    clear hr he
    go_enter Tryz.func3, Tryz.ntmps3
    go_wp2_with fail
    generalize w.alloc (.cells #[.string f, .string l, .int .i64 n] 23) = w0 at *
    refine HG.out.mono ?_
    rintro e w1 ⟨rfl, rfl⟩
    have c0 := HR0.out.cell 0 rfl
    have c1 := HR0.out.cell 1 rfl
    have c2 := HR0.out.cell 2 rfl
    clear HG
    go_wp2_with fail
    (with_reducible refine (awake43_any _ (HE _ HB0.out).out).mono ?_)
    rintro e w9 ⟨rfl, hB9⟩
    go_wp2
    go_ret
    exact ⟨rfl, below_tr HB0.out hB9⟩
  | false =>
    rw [hg] at HG
    obtain ⟨h13, hsz, h64⟩ := HGN.out hg
    clear hg hz HGN
    by_cases g1 : 70 < f.size
    · have g1i : (70 : Int) < (f.size : Int) := by omega
      clear hr he h13 hsz h64
      go_enter Tryz.func3, Tryz.ntmps3
      go_wp2_with fail
      generalize w.alloc (.cells #[.string f, .string l, .int .i64 n] 23) = w0 at *
      refine HG.out.mono ?_
      rintro e w1 ⟨rfl, rfl⟩
      have c0 := HR0.out.cell 0 rfl
      have c1 := HR0.out.cell 1 rfl
      have c2 := HR0.out.cell 2 rfl
      clear HG
      go_wp2_with fail
      (with_reducible refine (awake43_any _ (HE _ HB0.out).out).mono ?_)
      rintro e w9 ⟨rfl, hB9⟩
      go_wp2
      go_ret
      exact ⟨rfl, below_tr HB0.out hB9⟩
    by_cases g2 : 70 < l.size
    · have g1i : ¬ (70 : Int) < (f.size : Int) := by omega
      have g1j : (f.size : Int) ≤ 70 := by omega
      have g2i : (70 : Int) < (l.size : Int) := by omega
      clear hr he h13 hsz h64
      go_enter Tryz.func3, Tryz.ntmps3
      go_wp2_with fail
      generalize w.alloc (.cells #[.string f, .string l, .int .i64 n] 23) = w0 at *
      refine HG.out.mono ?_
      rintro e w1 ⟨rfl, rfl⟩
      have c0 := HR0.out.cell 0 rfl
      have c1 := HR0.out.cell 1 rfl
      have c2 := HR0.out.cell 2 rfl
      clear HG
      go_wp2_with fail
      (with_reducible refine (awake43_any _ (HE _ HB0.out).out).mono ?_)
      rintro e w9 ⟨rfl, hB9⟩
      go_wp2
      go_ret
      exact ⟨rfl, below_tr HB0.out hB9⟩
    by_cases g3 : 60 < s.size
    · have g1i : ¬ (70 : Int) < (f.size : Int) := by omega
      have g1j : (f.size : Int) ≤ 70 := by omega
      have g2i : ¬ (70 : Int) < (l.size : Int) := by omega
      have g2j : (l.size : Int) ≤ 70 := by omega
      have g3i : (60 : Int) < (s.size : Int) := by omega
      clear hr he h13 hsz h64
      go_enter Tryz.func3, Tryz.ntmps3
      go_wp2_with fail
      generalize w.alloc (.cells #[.string f, .string l, .int .i64 n] 23) = w0 at *
      refine HG.out.mono ?_
      rintro e w1 ⟨rfl, rfl⟩
      have c0 := HR0.out.cell 0 rfl
      have c1 := HR0.out.cell 1 rfl
      have c2 := HR0.out.cell 2 rfl
      clear HG
      go_wp2_with fail
      (with_reducible refine (awake43_any _ (HE _ HB0.out).out).mono ?_)
      rintro e w9 ⟨rfl, hB9⟩
      go_wp2
      go_ret
      exact ⟨rfl, below_tr HB0.out hB9⟩
    have g1i : ¬ (70 : Int) < (f.size : Int) := by omega
    have g1j : (f.size : Int) ≤ 70 := by omega
    have g2i : ¬ (70 : Int) < (l.size : Int) := by omega
    have g2j : (l.size : Int) ≤ 70 := by omega
    have g3i : ¬ (60 : Int) < (s.size : Int) := by omega
    have g3j : (s.size : Int) ≤ 60 := by omega
    have HP1 := fun w' (h : Below w.heap.size w w') => hid (print43V_any f l n w' (he.below h) (by omega) (by omega))
    have HP2 := fun w' (h : Below w.heap.size w w') => hid (rprint43V_any f l n w' (he.below h) (by omega) (by omega))
    have HC1 := fun w' (h : Below w.heap.size w w') => hid (lck_any f l n w' (he.below h) (by omega) (by omega))
    have HC2 := fun w' (h : Below w.heap.size w w') => hid (rlck_any f l n w' (he.below h) (by omega) (by omega))
    have HS1 := fun w' (h : Below w.heap.size w w') => hid (parse43_any s m w' (he.below h) (by omega) (HM w' h).out)
    have HS2 := fun w' (h : Below w.heap.size w w') => hid (rparse43_any s w' (he.below h) (by omega))
    have HO1 := fun w' (h : Below w.heap.size w w') => hid (occR_any ws f l _ w' (he.below h) (hr.below h) hsz (by omega) (by omega) h13)
    have HO2 := fun w' (h : Below w.heap.size w w') => hid (roccR_any ws f l _ w' (he.below h) (hr.below h) hsz (by omega) (by omega) h13)
    unfold OccR at HO1 HO2
    unfold lmV at HS1 HS2
    generalize lemCk f l n = ck at *
    generalize prT f l n = T at *
    generalize parseLm s = r at *
    generalize (if occE ws f l = 0 then occ ws f l else []) = M at *
    generalize occE ws f l = oe at *
    obtain ⟨f2, l2, n2, e2⟩ := r
    simp only at HS1 HS2
    clear hr he h13 hsz h64 g1 g2 g3 HM HRD
    go_enter Tryz.func3, Tryz.ntmps3
    go_wp2_with fail
    generalize w.alloc (.cells #[.string f, .string l, .int .i64 n] 23) = w0 at *
    generalize w.heap.size = B0 at HR0
    (with_reducible refine HG.out.mono ?_)
    rintro e w1 ⟨rfl, rfl⟩
    have c0 := HR0.out.cell 0 rfl
    have c1 := HR0.out.cell 1 rfl
    have c2 := HR0.out.cell 2 rfl
    clear HG
    go_wp2_with fail
    (with_reducible refine (HP1 _ HB0.out).out.mono ?_)
    rintro e w2 ⟨rfl, hB2⟩
    have HB2 := hid (below_tr HB0.out hB2)
    have HR2 := hid (HR0.out.below hB2)
    clear hB2 HP1 HR0 HB0 c0 c1 c2
    have c0 := HR2.out.cell 0 rfl
    have c1 := HR2.out.cell 1 rfl
    have c2 := HR2.out.cell 2 rfl
    go_wp2_with fail
    (with_reducible refine (HP2 _ HB2.out).out.mono ?_)
    rintro e w3 ⟨rfl, hB3⟩
    have HB3 := hid (below_tr HB2.out hB3)
    have HR3 := hid (HR2.out.below hB3)
    clear hB3 HP2 HR2 HB2 c0 c1 c2
    go_wp2_with fail
    (with_reducible refine (HS1 _ HB3.out).out.mono ?_)
    rintro e w4 ⟨rfl, hB4⟩
    have HB5 := hid (below_tr (below_tr HB3.out hB4) (below_al w4 (.cells #[.string f2, .string l2, .int .i64 n2] 23)))
    have HR5 := hid ((HR3.out.below hB4).al (.cells #[.string f2, .string l2, .int .i64 n2] 23))
    have HX5 := hid (row_nw w4 #[.string f2, .string l2, .int .i64 n2] 23 rfl)
    clear hB4 HS1 HR3 HB3
    go_wp2_with fail
    generalize w4.alloc (.cells #[.string f2, .string l2, .int .i64 n2] 23) = w5 at *
    generalize w4.heap.size = B1 at *
    (with_reducible refine (HS2 _ HB5.out).out.mono ?_)
    rintro e w6 ⟨rfl, hB6⟩
    have HB7 := hid (below_tr (below_tr HB5.out hB6) (below_al w6 (.cells #[.string f2, .string l2, .int .i64 n2] 23)))
    have HR7 := hid ((HR5.out.below hB6).al (.cells #[.string f2, .string l2, .int .i64 n2] 23))
    have HX7 := hid ((HX5.out.below hB6).al (.cells #[.string f2, .string l2, .int .i64 n2] 23))
    have HY7 := hid (row_nw w6 #[.string f2, .string l2, .int .i64 n2] 23 rfl)
    clear hB6 HS2 HR5 HB5 HX5
    have c0 := HR7.out.cell 0 rfl
    have c1 := HR7.out.cell 1 rfl
    have c2 := HR7.out.cell 2 rfl
    go_wp2_with fail
    generalize w6.alloc (.cells #[.string f2, .string l2, .int .i64 n2] 23) = w7 at *
    generalize w6.heap.size = B2 at *
    (with_reducible refine (HO1 _ HB7.out).out.mono ?_)
    rintro e w8 ⟨u1, rfl, hu1, hB8⟩
    have HB8 := hid (below_tr HB7.out hB8)
    have HR8 := hid (HR7.out.below hB8)
    have HX8 := hid (HX7.out.below hB8)
    have HY8 := hid (HY7.out.below hB8)
    have HU8 := hid hu1
    clear hB8 hu1 HO1 HR7 HB7 HX7 HY7 c0 c1 c2
    have c0 := HR8.out.cell 0 rfl
    have c1 := HR8.out.cell 1 rfl
    have c2 := HR8.out.cell 2 rfl
    go_wp2_with fail
    (with_reducible refine (HO2 _ HB8.out).out.mono ?_)
    rintro e w9 ⟨u2, rfl, hu2, hB9⟩
    have hst : RdsS w B0 B1 B2 f l n f2 l2 n2 u1 u2 M w9 := ⟨below_tr HB8.out hB9, HR8.out.below hB9, HX8.out.below hB9, HY8.out.below hB9, HU8.out.below hB9, hu2⟩
    clear hB9 hu2 HO2 HR8 HB8 HX8 HY8 HU8 c0 c1 c2
    have c0 := hst.r0.cell 0 rfl
    have c1 := hst.r0.cell 1 rfl
    have c2 := hst.r0.cell 2 rfl
    have d0 := hst.r1.cell 0 rfl
    have d1 := hst.r1.cell 1 rfl
    have d2 := hst.r1.cell 2 rfl
    have e0 := hst.r2.cell 0 rfl
    have e1 := hst.r2.cell 1 rfl
    have e2' := hst.r2.cell 2 rfl
    go_wp2_with fail
    go_region_held3 (fun w' => w'.cell? ⟨B0, 0, none⟩ = some (.string f) ∧ w'.cell? ⟨B0, 1, none⟩ = some (.string l) ∧ w'.cell? ⟨B0, 2, none⟩ = some (.int .i64 n) ∧ w'.cell? ⟨B1, 0, none⟩ = some (.string f2) ∧ w'.cell? ⟨B1, 1, none⟩ = some (.string l2) ∧ w'.cell? ⟨B1, 2, none⟩ = some (.int .i64 n2) ∧ w'.cell? ⟨B2, 0, none⟩ = some (.string f2) ∧ w'.cell? ⟨B2, 1, none⟩ = some (.string l2) ∧ w'.cell? ⟨B2, 2, none⟩ = some (.int .i64 n2) ∧ RdsS w B0 B1 B2 f l n f2 l2 n2 u1 u2 M w')
      ((refine ⟨?_, ?_, ?_, ?_, ?_, ?_, ?_, ?_, ?_, ?_⟩ <;> first | assumption | (exact hst.drew) | (exact RdsS.drew (by assumption)) | go_keep))
      (first
        | (go_at_call 12; go_split_ands; refine (HC1 _ (RdsS.bel (by assumption))).out.mono ?_; rintro e wz ⟨rfl, hBz⟩; have zs := RdsS.below (by assumption) hBz; have z00 := zs.r0.cell 0 rfl; have z01 := zs.r0.cell 1 rfl; have z02 := zs.r0.cell 2 rfl; have z10 := zs.r1.cell 0 rfl; have z11 := zs.r1.cell 1 rfl; have z12 := zs.r1.cell 2 rfl; have z20 := zs.r2.cell 0 rfl; have z21 := zs.r2.cell 1 rfl; have z22 := zs.r2.cell 2 rfl)
        | (go_at_call 13; go_split_ands; refine (HC2 _ (RdsS.bel (by assumption))).out.mono ?_; rintro e wz ⟨rfl, hBz⟩; have zs := RdsS.below (by assumption) hBz; have z00 := zs.r0.cell 0 rfl; have z01 := zs.r0.cell 1 rfl; have z02 := zs.r0.cell 2 rfl; have z10 := zs.r1.cell 0 rfl; have z11 := zs.r1.cell 1 rfl; have z12 := zs.r1.cell 2 rfl; have z20 := zs.r2.cell 0 rfl; have z21 := zs.r2.cell 1 rfl; have z22 := zs.r2.cell 2 rfl)
        | (go_at_call 14; go_split_ands; refine (sameT_any _ _ M _ (RdsS.p1 (by assumption)) (RdsS.p2 (by assumption))).mono ?_; rintro e wz ⟨rfl, hBz⟩; have zs := RdsS.below (by assumption) hBz; have z00 := zs.r0.cell 0 rfl; have z01 := zs.r0.cell 1 rfl; have z02 := zs.r0.cell 2 rfl; have z10 := zs.r1.cell 0 rfl; have z11 := zs.r1.cell 1 rfl; have z12 := zs.r1.cell 2 rfl; have z20 := zs.r2.cell 0 rfl; have z21 := zs.r2.cell 1 rfl; have z22 := zs.r2.cell 2 rfl)
        | (go_at_call 5; go_split_ands; refine (awake43_any _ (HE _ (RdsS.bel (by assumption))).out).mono ?_; rintro e wz ⟨rfl, hBz⟩; have zs := RdsS.below (by assumption) hBz; have z00 := zs.r0.cell 0 rfl; have z01 := zs.r0.cell 1 rfl; have z02 := zs.r0.cell 2 rfl; have z10 := zs.r1.cell 0 rfl; have z11 := zs.r1.cell 1 rfl; have z12 := zs.r1.cell 2 rfl; have z20 := zs.r2.cell 0 rfl; have z21 := zs.r2.cell 1 rfl; have z22 := zs.r2.cell 2 rfl))
    all_goals go_split_ands
    all_goals go_wp2
    all_goals go_ret
    all_goals exact ⟨rfl, RdsS.bel (by assumption)⟩
end Go.Proofs.YtmbehkanhefcpaaGreatDoor
