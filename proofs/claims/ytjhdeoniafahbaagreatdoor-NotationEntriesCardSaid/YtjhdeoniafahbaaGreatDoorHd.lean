/-
  notation.head: why a note without its variants is not valid.
-/
import Derived.Test.YtjhdeoniafahbaaGreatDoorJ04
import Derived.Test.YtjhdeoniafahbaaGreatDoorJ02
namespace Go.Proofs.YtjhdeoniafahbaaGreatDoor
open Go.RowKit

/-- Strings that are no longer than may be read. -/
def Sz16 (l : List ByteArray) : Prop := ∀ s ∈ l, s.size ≤ 65536
structure SzN (x : Nt) : Prop where
  lf : x.lf.size ≤ 65536
  ll : x.ll.size ≤ 65536
  sup : Sz16 x.sup
  vs : ∀ v ∈ x.vs, Sz16 v.ws ∧ Sz16 v.sg
/-- The cells of a note. -/
structure RdN (W : World) (u s : Value) (x : Nt) : Prop where
  rs : RdS W u x.sup
  rv : RdV W s x.vs
theorem RdN.below {W W' : World} {u s : Value} {x : Nt} (h : RdN W u s x) (hb : Below W.heap.size W W') : RdN W' u s x := ⟨h.rs.below hb, h.rv.below hb⟩

theorem ba_nil0 {s : ByteArray} (h : s.size = 0) : s = ⟨#[]⟩ := ba_ext (List.eq_nil_of_length_eq_zero (by rw [Array.length_toList]; exact h))
/-- A lemma that is not empty differs from the empty one. -/
theorem toL_ne {s : ByteArray} (h : ¬ s.size = 0) : ¬ s.toList = [] := fun e => by have := mt_ne h; rw [e] at this; cases this
theorem lem_ne {lf ll : ByteArray} {ln : Int} (h : (decide (lf.size = 0) && decide (ll.size = 0) && decide (ln = 0)) = false) : (¬ lf.toList = []) ∨ (lf.size = 0 ∧ ¬ ll.toList = []) ∨ (lf.size = 0 ∧ ll.size = 0 ∧ ¬ ln = 0) := by
  by_cases h1 : lf.size = 0
  · by_cases h2 : ll.size = 0
    · refine .inr (.inr ⟨h1, h2, fun h3 => ?_⟩)
      rw [h1, h2, h3] at h; simp at h
    · exact .inr (.inl ⟨h1, toL_ne h2⟩)
  · exact .inl (toL_ne h1)

set_option maxRecDepth 100000 in
set_option maxHeartbeats 4000000 in
theorem head_any (x : Nt) (u s : Value) (w : World) (he : Env w) (hr : RdN w u s x) (hz : SzN x) :
    Calls Tryz.prog 54 #[.agg (x.cells u s)] w fun e w' => e = .returned (.int .i64 (headI x)) ∧ Below w.heap.size w w' := by
  obtain ⟨fr, to_, pl, lf, ll, ln, pos, sup, vs⟩ := x
  obtain ⟨hu, hs⟩ := hr
  simp only at hu hs
  obtain ⟨au, cu, rfl, hlu, hmu, _⟩ := hu.open
  obtain ⟨av, cv, rfl, hlv, hmv, _⟩ := hs.open
  unfold Nt.cells
  simp only
  have HB0 := hid (below_al w (.cells #[.int .i64 fr, .int .i64 to_, .int .i64 pl, .string lf, .string ll, .int .i64 ln, .bool pos, .slice au sup.length cu, .slice av vs.length cv] 30))
  have HR0 := hid (row_nw w #[.int .i64 fr, .int .i64 to_, .int .i64 pl, .string lf, .string ll, .int .i64 ln, .bool pos, .slice au sup.length cu, .slice av vs.length cv] 30 rfl)
  have HO := fun w' (h : Below w.heap.size w w') => hid (podd_any (.slice au sup.length cu) sup w' (hu.below h) hz.sup)
  have HL := fun w' (h : Below w.heap.size w w') => hid (lck_any lf ll ln w' (he.below h) hz.lf hz.ll)
  have HD : Hid (headI ⟨fr, to_, pl, lf, ll, ln, pos, sup, vs⟩ = if fr < 1 ∨ to_ < fr ∨ 4096 < to_ then 2 else if pl < 1 ∨ 4 < pl then 8
    else if pl = 4 ∧ (decide (lf.size = 0) && decide (ll.size = 0) && decide (ln = 0)) = false then 9
    else if pl ≠ 4 ∧ lemCk lf ll ln ≠ 0 then lemCk lf ll ln
    else if pl ≠ 4 ∧ pl ≠ 1 ∧ ll.size ≠ 0 then 9
    else if 0 < sup.length ∧ pos = false then 9 else if 4096 < sup.length then 4 else if (sup.any fun s => !sigB s) = true then 14
    else if vs.length = 0 then 5 else if 4096 < vs.length then 4 else 0) := rfl
  clear hu hs hz he
  generalize headI ⟨fr, to_, pl, lf, ll, ln, pos, sup, vs⟩ = r at *
  generalize lemCk lf ll ln = lc at *
  generalize (sup.any fun s => !sigB s) = od at *

  by_cases k1 : fr < 1
  · have HV : Hid (r = 2) := by show _ = _; rw [HD.out, if_pos (.inl k1)]
    clear HD HO HL
    go_enter Tryz.func54, Tryz.ntmps54
    go_wp2
    go_ret
    exact ⟨ret_int HV.out.symm, HB0.out⟩
  by_cases k2 : to_ < fr
  · have HV : Hid (r = 2) := by show _ = _; rw [HD.out, if_pos (.inr (.inl k2))]
    clear HD HO HL
    go_enter Tryz.func54, Tryz.ntmps54
    go_wp2
    go_ret
    exact ⟨ret_int HV.out.symm, HB0.out⟩
  by_cases k3 : 4096 < to_
  · have HV : Hid (r = 2) := by show _ = _; rw [HD.out, if_pos (.inr (.inr k3))]
    clear HD HO HL
    go_enter Tryz.func54, Tryz.ntmps54
    go_wp2
    go_ret
    exact ⟨ret_int HV.out.symm, HB0.out⟩
  by_cases k4 : pl < 1
  · have HV : Hid (r = 8) := by show _ = _; rw [HD.out, if_neg (by omega), if_pos (.inl k4)]
    clear HD HO HL
    go_enter Tryz.func54, Tryz.ntmps54
    go_wp2
    go_ret
    exact ⟨ret_int HV.out.symm, HB0.out⟩
  by_cases k5 : 4 < pl
  · have HV : Hid (r = 8) := by show _ = _; rw [HD.out, if_neg (by omega), if_pos (.inr k5)]
    clear HD HO HL
    go_enter Tryz.func54, Tryz.ntmps54
    go_wp2
    go_ret
    exact ⟨ret_int HV.out.symm, HB0.out⟩
  replace HD := hid ((HD.out).trans (by rw [if_neg (show ¬ (fr < 1 ∨ to_ < fr ∨ 4096 < to_) by omega), if_neg (show ¬ (pl < 1 ∨ 4 < pl) by omega)]))

  by_cases k6 : pl = 4
  · subst k6
    have HT0 : Hid (r = if (decide (lf.size = 0) && decide (ll.size = 0) && decide (ln = 0)) = false then 9 else if 0 < sup.length ∧ pos = false then 9 else if 4096 < sup.length then 4 else if od = true then 14 else if vs.length = 0 then 5 else if 4096 < vs.length then 4 else 0) := by
      show _ = _
      rw [HD.out]
      simp
    clear HD HL
    cases hl0 : (decide (lf.size = 0) && decide (ll.size = 0) && decide (ln = 0)) with
    | false =>
      have HV : Hid (r = 9) := by show _ = _; rw [HT0.out, if_pos hl0]
      clear HT0 HO
      rcases lem_ne hl0 with hne | ⟨z1, hne⟩ | ⟨z1, z2, hne⟩
      · go_enter Tryz.func54, Tryz.ntmps54
        go_wp2
        go_ret
        exact ⟨ret_int HV.out.symm, HB0.out⟩
      · obtain rfl := ba_nil0 z1
        go_enter Tryz.func54, Tryz.ntmps54
        go_wp2
        go_ret
        exact ⟨ret_int HV.out.symm, HB0.out⟩
      · obtain rfl := ba_nil0 z1
        obtain rfl := ba_nil0 z2
        go_enter Tryz.func54, Tryz.ntmps54
        go_wp2
        go_ret
        exact ⟨ret_int HV.out.symm, HB0.out⟩
    | true =>
      have HT : Hid (r = if 0 < sup.length ∧ pos = false then 9 else if 4096 < sup.length then 4 else if od = true then 14 else if vs.length = 0 then 5 else if 4096 < vs.length then 4 else 0) := by show _ = _; rw [HT0.out, if_neg (by rw [hl0]; simp)]
      simp only [Bool.and_eq_true, decide_eq_true_eq] at hl0
      obtain ⟨⟨z1, z2⟩, rfl⟩ := hl0
      obtain rfl := ba_nil0 z1
      obtain rfl := ba_nil0 z2
      clear HT0 z1 z2

      by_cases s1 : 0 < sup.length ∧ pos = false
      · have HV : Hid (r = 9) := by show _ = _; rw [HT.out, if_pos s1]
        obtain ⟨s1a, rfl⟩ := s1
        have s1i : (0 : Int) < (sup.length : Int) := by omega
        clear HT HO
        go_enter Tryz.func54, Tryz.ntmps54
        go_wp2
        go_ret
        exact ⟨ret_int HV.out.symm, HB0.out⟩
      have HT2 : Hid (r = if 4096 < sup.length then 4 else if od = true then 14 else if vs.length = 0 then 5 else if 4096 < vs.length then 4 else 0) := by show _ = _; rw [HT.out, if_neg s1]
      clear HT
      have s1c : sup.length = 0 ∨ (0 < sup.length ∧ pos = true) := by
        rcases Nat.eq_zero_or_pos sup.length with h | h
        · exact .inl h
        · refine .inr ⟨h, ?_⟩
          cases hp : pos with
          | true => rfl
          | false => exact absurd ⟨h, hp⟩ s1
      clear s1
      by_cases s2 : 4096 < sup.length
      · have HV : Hid (r = 4) := by show _ = _; rw [HT2.out, if_pos s2]
        obtain ⟨s1a, rfl⟩ : 0 < sup.length ∧ pos = true := by
          rcases s1c with h | h
          · omega
          · exact h
        have s1i : (0 : Int) < (sup.length : Int) := by omega
        have s2i : (4096 : Int) < (sup.length : Int) := by omega
        clear HT2 HO s1c
        go_enter Tryz.func54, Tryz.ntmps54
        go_wp2
        go_ret
        exact ⟨ret_int HV.out.symm, HB0.out⟩
      have s2i : ¬ (4096 : Int) < (sup.length : Int) := by omega
      have HT3 : Hid (r = if od = true then 14 else if vs.length = 0 then 5 else if 4096 < vs.length then 4 else 0) := by show _ = _; rw [HT2.out, if_neg s2]
      clear HT2
      have HTv : (vs.length = 0 ∨ (0 < vs.length ∧ 4096 < vs.length) ∨ (0 < vs.length ∧ ¬ 4096 < vs.length)) := by omega
      rcases s1c with s1c | ⟨s1c, rfl⟩
      · have s1i : ¬ (0 : Int) < (sup.length : Int) := by omega
        clear s1c
        go_enter Tryz.func54, Tryz.ntmps54
        go_wp2_with fail
        (with_reducible refine (HO _ HB0.out).out.mono ?_)
        rintro e w5 ⟨rfl, hB5⟩
        have HB5 := hid (below_tr HB0.out hB5)
        have c8 := (HR0.out.below hB5).cell 8 rfl
        clear hB5 HO
        cases od with
        | true =>
          have HV : Hid (r = 14) := by show _ = _; rw [HT3.out, if_pos rfl]
          clear HT3 HTv
          go_wp2
          go_ret
          exact ⟨ret_int HV.out.symm, HB5.out⟩
        | false =>
          rcases HTv with v1 | ⟨v1, v2⟩ | ⟨v1, v2⟩
          · have HV : Hid (r = 5) := by show _ = _; rw [HT3.out, if_neg (by simp), if_pos v1]
            have v1i : ((vs.length : Int) == 0) = true := by rw [v1]; rfl
            clear HT3 v1
            go_wp2
            go_ret
            exact ⟨ret_int HV.out.symm, HB5.out⟩
          · have HV : Hid (r = 4) := by show _ = _; rw [HT3.out, if_neg (by simp), if_neg (by omega), if_pos v2]
            have v1i : ((vs.length : Int) == 0) = false := beq_eq_false_iff_ne.2 (by omega)
            have v2i : (4096 : Int) < (vs.length : Int) := by omega
            clear HT3 v1 v2
            go_wp2
            go_ret
            exact ⟨ret_int HV.out.symm, HB5.out⟩
          · have HV : Hid (r = 0) := by show _ = _; rw [HT3.out, if_neg (by simp), if_neg (by omega), if_neg v2]
            have v1i : ((vs.length : Int) == 0) = false := beq_eq_false_iff_ne.2 (by omega)
            have v2i : ¬ (4096 : Int) < (vs.length : Int) := by omega
            clear HT3 v1 v2
            go_wp2
            go_ret
            exact ⟨ret_int HV.out.symm, HB5.out⟩
      · have s1i : (0 : Int) < (sup.length : Int) := by omega
        clear s1c
        go_enter Tryz.func54, Tryz.ntmps54
        go_wp2_with fail
        (with_reducible refine (HO _ HB0.out).out.mono ?_)
        rintro e w5 ⟨rfl, hB5⟩
        have HB5 := hid (below_tr HB0.out hB5)
        have c8 := (HR0.out.below hB5).cell 8 rfl
        clear hB5 HO
        cases od with
        | true =>
          have HV : Hid (r = 14) := by show _ = _; rw [HT3.out, if_pos rfl]
          clear HT3 HTv
          go_wp2
          go_ret
          exact ⟨ret_int HV.out.symm, HB5.out⟩
        | false =>
          rcases HTv with v1 | ⟨v1, v2⟩ | ⟨v1, v2⟩
          · have HV : Hid (r = 5) := by show _ = _; rw [HT3.out, if_neg (by simp), if_pos v1]
            have v1i : ((vs.length : Int) == 0) = true := by rw [v1]; rfl
            clear HT3 v1
            go_wp2
            go_ret
            exact ⟨ret_int HV.out.symm, HB5.out⟩
          · have HV : Hid (r = 4) := by show _ = _; rw [HT3.out, if_neg (by simp), if_neg (by omega), if_pos v2]
            have v1i : ((vs.length : Int) == 0) = false := beq_eq_false_iff_ne.2 (by omega)
            have v2i : (4096 : Int) < (vs.length : Int) := by omega
            clear HT3 v1 v2
            go_wp2
            go_ret
            exact ⟨ret_int HV.out.symm, HB5.out⟩
          · have HV : Hid (r = 0) := by show _ = _; rw [HT3.out, if_neg (by simp), if_neg (by omega), if_neg v2]
            have v1i : ((vs.length : Int) == 0) = false := beq_eq_false_iff_ne.2 (by omega)
            have v2i : ¬ (4096 : Int) < (vs.length : Int) := by omega
            clear HT3 v1 v2
            go_wp2
            go_ret
            exact ⟨ret_int HV.out.symm, HB5.out⟩
  have k6b : (pl == 4) = false := beq_eq_false_iff_ne.2 k6
  by_cases k7 : lc = 0
  · subst k7
    by_cases k8 : pl = 1
    · subst k8
      have HT : Hid (r = if 0 < sup.length ∧ pos = false then 9 else if 4096 < sup.length then 4 else if od = true then 14 else if vs.length = 0 then 5 else if 4096 < vs.length then 4 else 0) := by show _ = _; rw [HD.out]; simp
      clear HD
      by_cases k9 : ll.size = 0
      · obtain rfl := ba_nil0 k9
        clear k9

        by_cases s1 : 0 < sup.length ∧ pos = false
        · have HV : Hid (r = 9) := by show _ = _; rw [HT.out, if_pos s1]
          obtain ⟨s1a, rfl⟩ := s1
          have s1i : (0 : Int) < (sup.length : Int) := by omega
          clear HT HO
          go_enter Tryz.func54, Tryz.ntmps54
          go_wp2_with fail
          (with_reducible refine (HL _ HB0.out).out.mono ?_)
          rintro e w4 ⟨rfl, hB4⟩
          have HR4 := hid (HR0.out.below hB4)
          have c2 := HR4.out.cell 2 rfl
          have c4 := HR4.out.cell 4 rfl
          have c6 := HR4.out.cell 6 rfl
          have c7 := HR4.out.cell 7 rfl
          have c8 := HR4.out.cell 8 rfl
          have HB4 := hid (below_tr HB0.out hB4)
          clear hB4 HL
          go_wp2
          go_ret
          exact ⟨ret_int HV.out.symm, HB4.out⟩
        have HT2 : Hid (r = if 4096 < sup.length then 4 else if od = true then 14 else if vs.length = 0 then 5 else if 4096 < vs.length then 4 else 0) := by show _ = _; rw [HT.out, if_neg s1]
        clear HT
        have s1c : sup.length = 0 ∨ (0 < sup.length ∧ pos = true) := by
          rcases Nat.eq_zero_or_pos sup.length with h | h
          · exact .inl h
          · refine .inr ⟨h, ?_⟩
            cases hp : pos with
            | true => rfl
            | false => exact absurd ⟨h, hp⟩ s1
        clear s1
        by_cases s2 : 4096 < sup.length
        · have HV : Hid (r = 4) := by show _ = _; rw [HT2.out, if_pos s2]
          obtain ⟨s1a, rfl⟩ : 0 < sup.length ∧ pos = true := by
            rcases s1c with h | h
            · omega
            · exact h
          have s1i : (0 : Int) < (sup.length : Int) := by omega
          have s2i : (4096 : Int) < (sup.length : Int) := by omega
          clear HT2 HO s1c
          go_enter Tryz.func54, Tryz.ntmps54
          go_wp2_with fail
          (with_reducible refine (HL _ HB0.out).out.mono ?_)
          rintro e w4 ⟨rfl, hB4⟩
          have HR4 := hid (HR0.out.below hB4)
          have c2 := HR4.out.cell 2 rfl
          have c4 := HR4.out.cell 4 rfl
          have c6 := HR4.out.cell 6 rfl
          have c7 := HR4.out.cell 7 rfl
          have c8 := HR4.out.cell 8 rfl
          have HB4 := hid (below_tr HB0.out hB4)
          clear hB4 HL
          go_wp2
          go_ret
          exact ⟨ret_int HV.out.symm, HB4.out⟩
        have s2i : ¬ (4096 : Int) < (sup.length : Int) := by omega
        have HT3 : Hid (r = if od = true then 14 else if vs.length = 0 then 5 else if 4096 < vs.length then 4 else 0) := by show _ = _; rw [HT2.out, if_neg s2]
        clear HT2
        have HTv : (vs.length = 0 ∨ (0 < vs.length ∧ 4096 < vs.length) ∨ (0 < vs.length ∧ ¬ 4096 < vs.length)) := by omega
        rcases s1c with s1c | ⟨s1c, rfl⟩
        · have s1i : ¬ (0 : Int) < (sup.length : Int) := by omega
          clear s1c
          go_enter Tryz.func54, Tryz.ntmps54
          go_wp2_with fail
          (with_reducible refine (HL _ HB0.out).out.mono ?_)
          rintro e w4 ⟨rfl, hB4⟩
          have HR4 := hid (HR0.out.below hB4)
          have c2 := HR4.out.cell 2 rfl
          have c4 := HR4.out.cell 4 rfl
          have c6 := HR4.out.cell 6 rfl
          have c7 := HR4.out.cell 7 rfl
          have c8 := HR4.out.cell 8 rfl
          have HB4 := hid (below_tr HB0.out hB4)
          clear hB4 HL
          go_wp2_with fail
          (with_reducible refine (HO _ HB4.out).out.mono ?_)
          rintro e w5 ⟨rfl, hB5⟩
          have HB5 := hid (below_tr HB4.out hB5)
          have c8 := (HR4.out.below hB5).cell 8 rfl
          clear hB5 HO
          cases od with
          | true =>
            have HV : Hid (r = 14) := by show _ = _; rw [HT3.out, if_pos rfl]
            clear HT3 HTv
            go_wp2
            go_ret
            exact ⟨ret_int HV.out.symm, HB5.out⟩
          | false =>
            rcases HTv with v1 | ⟨v1, v2⟩ | ⟨v1, v2⟩
            · have HV : Hid (r = 5) := by show _ = _; rw [HT3.out, if_neg (by simp), if_pos v1]
              have v1i : ((vs.length : Int) == 0) = true := by rw [v1]; rfl
              clear HT3 v1
              go_wp2
              go_ret
              exact ⟨ret_int HV.out.symm, HB5.out⟩
            · have HV : Hid (r = 4) := by show _ = _; rw [HT3.out, if_neg (by simp), if_neg (by omega), if_pos v2]
              have v1i : ((vs.length : Int) == 0) = false := beq_eq_false_iff_ne.2 (by omega)
              have v2i : (4096 : Int) < (vs.length : Int) := by omega
              clear HT3 v1 v2
              go_wp2
              go_ret
              exact ⟨ret_int HV.out.symm, HB5.out⟩
            · have HV : Hid (r = 0) := by show _ = _; rw [HT3.out, if_neg (by simp), if_neg (by omega), if_neg v2]
              have v1i : ((vs.length : Int) == 0) = false := beq_eq_false_iff_ne.2 (by omega)
              have v2i : ¬ (4096 : Int) < (vs.length : Int) := by omega
              clear HT3 v1 v2
              go_wp2
              go_ret
              exact ⟨ret_int HV.out.symm, HB5.out⟩
        · have s1i : (0 : Int) < (sup.length : Int) := by omega
          clear s1c
          go_enter Tryz.func54, Tryz.ntmps54
          go_wp2_with fail
          (with_reducible refine (HL _ HB0.out).out.mono ?_)
          rintro e w4 ⟨rfl, hB4⟩
          have HR4 := hid (HR0.out.below hB4)
          have c2 := HR4.out.cell 2 rfl
          have c4 := HR4.out.cell 4 rfl
          have c6 := HR4.out.cell 6 rfl
          have c7 := HR4.out.cell 7 rfl
          have c8 := HR4.out.cell 8 rfl
          have HB4 := hid (below_tr HB0.out hB4)
          clear hB4 HL
          go_wp2_with fail
          (with_reducible refine (HO _ HB4.out).out.mono ?_)
          rintro e w5 ⟨rfl, hB5⟩
          have HB5 := hid (below_tr HB4.out hB5)
          have c8 := (HR4.out.below hB5).cell 8 rfl
          clear hB5 HO
          cases od with
          | true =>
            have HV : Hid (r = 14) := by show _ = _; rw [HT3.out, if_pos rfl]
            clear HT3 HTv
            go_wp2
            go_ret
            exact ⟨ret_int HV.out.symm, HB5.out⟩
          | false =>
            rcases HTv with v1 | ⟨v1, v2⟩ | ⟨v1, v2⟩
            · have HV : Hid (r = 5) := by show _ = _; rw [HT3.out, if_neg (by simp), if_pos v1]
              have v1i : ((vs.length : Int) == 0) = true := by rw [v1]; rfl
              clear HT3 v1
              go_wp2
              go_ret
              exact ⟨ret_int HV.out.symm, HB5.out⟩
            · have HV : Hid (r = 4) := by show _ = _; rw [HT3.out, if_neg (by simp), if_neg (by omega), if_pos v2]
              have v1i : ((vs.length : Int) == 0) = false := beq_eq_false_iff_ne.2 (by omega)
              have v2i : (4096 : Int) < (vs.length : Int) := by omega
              clear HT3 v1 v2
              go_wp2
              go_ret
              exact ⟨ret_int HV.out.symm, HB5.out⟩
            · have HV : Hid (r = 0) := by show _ = _; rw [HT3.out, if_neg (by simp), if_neg (by omega), if_neg v2]
              have v1i : ((vs.length : Int) == 0) = false := beq_eq_false_iff_ne.2 (by omega)
              have v2i : ¬ (4096 : Int) < (vs.length : Int) := by omega
              clear HT3 v1 v2
              go_wp2
              go_ret
              exact ⟨ret_int HV.out.symm, HB5.out⟩
      · have k9b : ¬ ll.toList = [] := toL_ne k9
        clear k9

        by_cases s1 : 0 < sup.length ∧ pos = false
        · have HV : Hid (r = 9) := by show _ = _; rw [HT.out, if_pos s1]
          obtain ⟨s1a, rfl⟩ := s1
          have s1i : (0 : Int) < (sup.length : Int) := by omega
          clear HT HO
          go_enter Tryz.func54, Tryz.ntmps54
          go_wp2_with fail
          (with_reducible refine (HL _ HB0.out).out.mono ?_)
          rintro e w4 ⟨rfl, hB4⟩
          have HR4 := hid (HR0.out.below hB4)
          have c2 := HR4.out.cell 2 rfl
          have c4 := HR4.out.cell 4 rfl
          have c6 := HR4.out.cell 6 rfl
          have c7 := HR4.out.cell 7 rfl
          have c8 := HR4.out.cell 8 rfl
          have HB4 := hid (below_tr HB0.out hB4)
          clear hB4 HL
          go_wp2
          go_ret
          exact ⟨ret_int HV.out.symm, HB4.out⟩
        have HT2 : Hid (r = if 4096 < sup.length then 4 else if od = true then 14 else if vs.length = 0 then 5 else if 4096 < vs.length then 4 else 0) := by show _ = _; rw [HT.out, if_neg s1]
        clear HT
        have s1c : sup.length = 0 ∨ (0 < sup.length ∧ pos = true) := by
          rcases Nat.eq_zero_or_pos sup.length with h | h
          · exact .inl h
          · refine .inr ⟨h, ?_⟩
            cases hp : pos with
            | true => rfl
            | false => exact absurd ⟨h, hp⟩ s1
        clear s1
        by_cases s2 : 4096 < sup.length
        · have HV : Hid (r = 4) := by show _ = _; rw [HT2.out, if_pos s2]
          obtain ⟨s1a, rfl⟩ : 0 < sup.length ∧ pos = true := by
            rcases s1c with h | h
            · omega
            · exact h
          have s1i : (0 : Int) < (sup.length : Int) := by omega
          have s2i : (4096 : Int) < (sup.length : Int) := by omega
          clear HT2 HO s1c
          go_enter Tryz.func54, Tryz.ntmps54
          go_wp2_with fail
          (with_reducible refine (HL _ HB0.out).out.mono ?_)
          rintro e w4 ⟨rfl, hB4⟩
          have HR4 := hid (HR0.out.below hB4)
          have c2 := HR4.out.cell 2 rfl
          have c4 := HR4.out.cell 4 rfl
          have c6 := HR4.out.cell 6 rfl
          have c7 := HR4.out.cell 7 rfl
          have c8 := HR4.out.cell 8 rfl
          have HB4 := hid (below_tr HB0.out hB4)
          clear hB4 HL
          go_wp2
          go_ret
          exact ⟨ret_int HV.out.symm, HB4.out⟩
        have s2i : ¬ (4096 : Int) < (sup.length : Int) := by omega
        have HT3 : Hid (r = if od = true then 14 else if vs.length = 0 then 5 else if 4096 < vs.length then 4 else 0) := by show _ = _; rw [HT2.out, if_neg s2]
        clear HT2
        have HTv : (vs.length = 0 ∨ (0 < vs.length ∧ 4096 < vs.length) ∨ (0 < vs.length ∧ ¬ 4096 < vs.length)) := by omega
        rcases s1c with s1c | ⟨s1c, rfl⟩
        · have s1i : ¬ (0 : Int) < (sup.length : Int) := by omega
          clear s1c
          go_enter Tryz.func54, Tryz.ntmps54
          go_wp2_with fail
          (with_reducible refine (HL _ HB0.out).out.mono ?_)
          rintro e w4 ⟨rfl, hB4⟩
          have HR4 := hid (HR0.out.below hB4)
          have c2 := HR4.out.cell 2 rfl
          have c4 := HR4.out.cell 4 rfl
          have c6 := HR4.out.cell 6 rfl
          have c7 := HR4.out.cell 7 rfl
          have c8 := HR4.out.cell 8 rfl
          have HB4 := hid (below_tr HB0.out hB4)
          clear hB4 HL
          go_wp2_with fail
          (with_reducible refine (HO _ HB4.out).out.mono ?_)
          rintro e w5 ⟨rfl, hB5⟩
          have HB5 := hid (below_tr HB4.out hB5)
          have c8 := (HR4.out.below hB5).cell 8 rfl
          clear hB5 HO
          cases od with
          | true =>
            have HV : Hid (r = 14) := by show _ = _; rw [HT3.out, if_pos rfl]
            clear HT3 HTv
            go_wp2
            go_ret
            exact ⟨ret_int HV.out.symm, HB5.out⟩
          | false =>
            rcases HTv with v1 | ⟨v1, v2⟩ | ⟨v1, v2⟩
            · have HV : Hid (r = 5) := by show _ = _; rw [HT3.out, if_neg (by simp), if_pos v1]
              have v1i : ((vs.length : Int) == 0) = true := by rw [v1]; rfl
              clear HT3 v1
              go_wp2
              go_ret
              exact ⟨ret_int HV.out.symm, HB5.out⟩
            · have HV : Hid (r = 4) := by show _ = _; rw [HT3.out, if_neg (by simp), if_neg (by omega), if_pos v2]
              have v1i : ((vs.length : Int) == 0) = false := beq_eq_false_iff_ne.2 (by omega)
              have v2i : (4096 : Int) < (vs.length : Int) := by omega
              clear HT3 v1 v2
              go_wp2
              go_ret
              exact ⟨ret_int HV.out.symm, HB5.out⟩
            · have HV : Hid (r = 0) := by show _ = _; rw [HT3.out, if_neg (by simp), if_neg (by omega), if_neg v2]
              have v1i : ((vs.length : Int) == 0) = false := beq_eq_false_iff_ne.2 (by omega)
              have v2i : ¬ (4096 : Int) < (vs.length : Int) := by omega
              clear HT3 v1 v2
              go_wp2
              go_ret
              exact ⟨ret_int HV.out.symm, HB5.out⟩
        · have s1i : (0 : Int) < (sup.length : Int) := by omega
          clear s1c
          go_enter Tryz.func54, Tryz.ntmps54
          go_wp2_with fail
          (with_reducible refine (HL _ HB0.out).out.mono ?_)
          rintro e w4 ⟨rfl, hB4⟩
          have HR4 := hid (HR0.out.below hB4)
          have c2 := HR4.out.cell 2 rfl
          have c4 := HR4.out.cell 4 rfl
          have c6 := HR4.out.cell 6 rfl
          have c7 := HR4.out.cell 7 rfl
          have c8 := HR4.out.cell 8 rfl
          have HB4 := hid (below_tr HB0.out hB4)
          clear hB4 HL
          go_wp2_with fail
          (with_reducible refine (HO _ HB4.out).out.mono ?_)
          rintro e w5 ⟨rfl, hB5⟩
          have HB5 := hid (below_tr HB4.out hB5)
          have c8 := (HR4.out.below hB5).cell 8 rfl
          clear hB5 HO
          cases od with
          | true =>
            have HV : Hid (r = 14) := by show _ = _; rw [HT3.out, if_pos rfl]
            clear HT3 HTv
            go_wp2
            go_ret
            exact ⟨ret_int HV.out.symm, HB5.out⟩
          | false =>
            rcases HTv with v1 | ⟨v1, v2⟩ | ⟨v1, v2⟩
            · have HV : Hid (r = 5) := by show _ = _; rw [HT3.out, if_neg (by simp), if_pos v1]
              have v1i : ((vs.length : Int) == 0) = true := by rw [v1]; rfl
              clear HT3 v1
              go_wp2
              go_ret
              exact ⟨ret_int HV.out.symm, HB5.out⟩
            · have HV : Hid (r = 4) := by show _ = _; rw [HT3.out, if_neg (by simp), if_neg (by omega), if_pos v2]
              have v1i : ((vs.length : Int) == 0) = false := beq_eq_false_iff_ne.2 (by omega)
              have v2i : (4096 : Int) < (vs.length : Int) := by omega
              clear HT3 v1 v2
              go_wp2
              go_ret
              exact ⟨ret_int HV.out.symm, HB5.out⟩
            · have HV : Hid (r = 0) := by show _ = _; rw [HT3.out, if_neg (by simp), if_neg (by omega), if_neg v2]
              have v1i : ((vs.length : Int) == 0) = false := beq_eq_false_iff_ne.2 (by omega)
              have v2i : ¬ (4096 : Int) < (vs.length : Int) := by omega
              clear HT3 v1 v2
              go_wp2
              go_ret
              exact ⟨ret_int HV.out.symm, HB5.out⟩
    · have k8b : (pl == 1) = false := beq_eq_false_iff_ne.2 k8
      have k8c : (pl != 1) = true := bne_iff_ne.2 k8
      by_cases k9 : ll.size = 0
      · obtain rfl := ba_nil0 k9
        have HT : Hid (r = if 0 < sup.length ∧ pos = false then 9 else if 4096 < sup.length then 4 else if od = true then 14 else if vs.length = 0 then 5 else if 4096 < vs.length then 4 else 0) := by show _ = _; rw [HD.out, if_neg (fun h => k6 h.1), if_neg (fun h => h.2 rfl), if_neg (fun h => h.2.2 rfl)]
        clear HD k9

        by_cases s1 : 0 < sup.length ∧ pos = false
        · have HV : Hid (r = 9) := by show _ = _; rw [HT.out, if_pos s1]
          obtain ⟨s1a, rfl⟩ := s1
          have s1i : (0 : Int) < (sup.length : Int) := by omega
          clear HT HO
          go_enter Tryz.func54, Tryz.ntmps54
          go_wp2_with fail
          (with_reducible refine (HL _ HB0.out).out.mono ?_)
          rintro e w4 ⟨rfl, hB4⟩
          have HR4 := hid (HR0.out.below hB4)
          have c2 := HR4.out.cell 2 rfl
          have c4 := HR4.out.cell 4 rfl
          have c6 := HR4.out.cell 6 rfl
          have c7 := HR4.out.cell 7 rfl
          have c8 := HR4.out.cell 8 rfl
          have HB4 := hid (below_tr HB0.out hB4)
          clear hB4 HL
          go_wp2
          go_ret
          exact ⟨ret_int HV.out.symm, HB4.out⟩
        have HT2 : Hid (r = if 4096 < sup.length then 4 else if od = true then 14 else if vs.length = 0 then 5 else if 4096 < vs.length then 4 else 0) := by show _ = _; rw [HT.out, if_neg s1]
        clear HT
        have s1c : sup.length = 0 ∨ (0 < sup.length ∧ pos = true) := by
          rcases Nat.eq_zero_or_pos sup.length with h | h
          · exact .inl h
          · refine .inr ⟨h, ?_⟩
            cases hp : pos with
            | true => rfl
            | false => exact absurd ⟨h, hp⟩ s1
        clear s1
        by_cases s2 : 4096 < sup.length
        · have HV : Hid (r = 4) := by show _ = _; rw [HT2.out, if_pos s2]
          obtain ⟨s1a, rfl⟩ : 0 < sup.length ∧ pos = true := by
            rcases s1c with h | h
            · omega
            · exact h
          have s1i : (0 : Int) < (sup.length : Int) := by omega
          have s2i : (4096 : Int) < (sup.length : Int) := by omega
          clear HT2 HO s1c
          go_enter Tryz.func54, Tryz.ntmps54
          go_wp2_with fail
          (with_reducible refine (HL _ HB0.out).out.mono ?_)
          rintro e w4 ⟨rfl, hB4⟩
          have HR4 := hid (HR0.out.below hB4)
          have c2 := HR4.out.cell 2 rfl
          have c4 := HR4.out.cell 4 rfl
          have c6 := HR4.out.cell 6 rfl
          have c7 := HR4.out.cell 7 rfl
          have c8 := HR4.out.cell 8 rfl
          have HB4 := hid (below_tr HB0.out hB4)
          clear hB4 HL
          go_wp2
          go_ret
          exact ⟨ret_int HV.out.symm, HB4.out⟩
        have s2i : ¬ (4096 : Int) < (sup.length : Int) := by omega
        have HT3 : Hid (r = if od = true then 14 else if vs.length = 0 then 5 else if 4096 < vs.length then 4 else 0) := by show _ = _; rw [HT2.out, if_neg s2]
        clear HT2
        have HTv : (vs.length = 0 ∨ (0 < vs.length ∧ 4096 < vs.length) ∨ (0 < vs.length ∧ ¬ 4096 < vs.length)) := by omega
        rcases s1c with s1c | ⟨s1c, rfl⟩
        · have s1i : ¬ (0 : Int) < (sup.length : Int) := by omega
          clear s1c
          go_enter Tryz.func54, Tryz.ntmps54
          go_wp2_with fail
          (with_reducible refine (HL _ HB0.out).out.mono ?_)
          rintro e w4 ⟨rfl, hB4⟩
          have HR4 := hid (HR0.out.below hB4)
          have c2 := HR4.out.cell 2 rfl
          have c4 := HR4.out.cell 4 rfl
          have c6 := HR4.out.cell 6 rfl
          have c7 := HR4.out.cell 7 rfl
          have c8 := HR4.out.cell 8 rfl
          have HB4 := hid (below_tr HB0.out hB4)
          clear hB4 HL
          go_wp2_with fail
          (with_reducible refine (HO _ HB4.out).out.mono ?_)
          rintro e w5 ⟨rfl, hB5⟩
          have HB5 := hid (below_tr HB4.out hB5)
          have c8 := (HR4.out.below hB5).cell 8 rfl
          clear hB5 HO
          cases od with
          | true =>
            have HV : Hid (r = 14) := by show _ = _; rw [HT3.out, if_pos rfl]
            clear HT3 HTv
            go_wp2
            go_ret
            exact ⟨ret_int HV.out.symm, HB5.out⟩
          | false =>
            rcases HTv with v1 | ⟨v1, v2⟩ | ⟨v1, v2⟩
            · have HV : Hid (r = 5) := by show _ = _; rw [HT3.out, if_neg (by simp), if_pos v1]
              have v1i : ((vs.length : Int) == 0) = true := by rw [v1]; rfl
              clear HT3 v1
              go_wp2
              go_ret
              exact ⟨ret_int HV.out.symm, HB5.out⟩
            · have HV : Hid (r = 4) := by show _ = _; rw [HT3.out, if_neg (by simp), if_neg (by omega), if_pos v2]
              have v1i : ((vs.length : Int) == 0) = false := beq_eq_false_iff_ne.2 (by omega)
              have v2i : (4096 : Int) < (vs.length : Int) := by omega
              clear HT3 v1 v2
              go_wp2
              go_ret
              exact ⟨ret_int HV.out.symm, HB5.out⟩
            · have HV : Hid (r = 0) := by show _ = _; rw [HT3.out, if_neg (by simp), if_neg (by omega), if_neg v2]
              have v1i : ((vs.length : Int) == 0) = false := beq_eq_false_iff_ne.2 (by omega)
              have v2i : ¬ (4096 : Int) < (vs.length : Int) := by omega
              clear HT3 v1 v2
              go_wp2
              go_ret
              exact ⟨ret_int HV.out.symm, HB5.out⟩
        · have s1i : (0 : Int) < (sup.length : Int) := by omega
          clear s1c
          go_enter Tryz.func54, Tryz.ntmps54
          go_wp2_with fail
          (with_reducible refine (HL _ HB0.out).out.mono ?_)
          rintro e w4 ⟨rfl, hB4⟩
          have HR4 := hid (HR0.out.below hB4)
          have c2 := HR4.out.cell 2 rfl
          have c4 := HR4.out.cell 4 rfl
          have c6 := HR4.out.cell 6 rfl
          have c7 := HR4.out.cell 7 rfl
          have c8 := HR4.out.cell 8 rfl
          have HB4 := hid (below_tr HB0.out hB4)
          clear hB4 HL
          go_wp2_with fail
          (with_reducible refine (HO _ HB4.out).out.mono ?_)
          rintro e w5 ⟨rfl, hB5⟩
          have HB5 := hid (below_tr HB4.out hB5)
          have c8 := (HR4.out.below hB5).cell 8 rfl
          clear hB5 HO
          cases od with
          | true =>
            have HV : Hid (r = 14) := by show _ = _; rw [HT3.out, if_pos rfl]
            clear HT3 HTv
            go_wp2
            go_ret
            exact ⟨ret_int HV.out.symm, HB5.out⟩
          | false =>
            rcases HTv with v1 | ⟨v1, v2⟩ | ⟨v1, v2⟩
            · have HV : Hid (r = 5) := by show _ = _; rw [HT3.out, if_neg (by simp), if_pos v1]
              have v1i : ((vs.length : Int) == 0) = true := by rw [v1]; rfl
              clear HT3 v1
              go_wp2
              go_ret
              exact ⟨ret_int HV.out.symm, HB5.out⟩
            · have HV : Hid (r = 4) := by show _ = _; rw [HT3.out, if_neg (by simp), if_neg (by omega), if_pos v2]
              have v1i : ((vs.length : Int) == 0) = false := beq_eq_false_iff_ne.2 (by omega)
              have v2i : (4096 : Int) < (vs.length : Int) := by omega
              clear HT3 v1 v2
              go_wp2
              go_ret
              exact ⟨ret_int HV.out.symm, HB5.out⟩
            · have HV : Hid (r = 0) := by show _ = _; rw [HT3.out, if_neg (by simp), if_neg (by omega), if_neg v2]
              have v1i : ((vs.length : Int) == 0) = false := beq_eq_false_iff_ne.2 (by omega)
              have v2i : ¬ (4096 : Int) < (vs.length : Int) := by omega
              clear HT3 v1 v2
              go_wp2
              go_ret
              exact ⟨ret_int HV.out.symm, HB5.out⟩
      · have k9b : ¬ ll.toList = [] := toL_ne k9
        have k9c : ll.toList.isEmpty = false := mt_ne k9
        have HV : Hid (r = 9) := by show _ = _; rw [HD.out]; simp [k6, k8, k9]
        clear HD HO k9
        go_enter Tryz.func54, Tryz.ntmps54
        go_wp2_with fail
        (with_reducible refine (HL _ HB0.out).out.mono ?_)
        rintro e w4 ⟨rfl, hB4⟩
        have HR4 := hid (HR0.out.below hB4)
        have c2 := HR4.out.cell 2 rfl
        have c4 := HR4.out.cell 4 rfl
        have c6 := HR4.out.cell 6 rfl
        have c7 := HR4.out.cell 7 rfl
        have c8 := HR4.out.cell 8 rfl
        have HB4 := hid (below_tr HB0.out hB4)
        go_wp2
        go_ret
        exact ⟨ret_int HV.out.symm, HB4.out⟩
  · have k7b : (lc == 0) = false := beq_eq_false_iff_ne.2 k7
    have HV : Hid (r = lc) := by show _ = _; rw [HD.out, if_neg (by simp [k6]), if_pos ⟨k6, k7⟩]
    clear HD HO
    go_enter Tryz.func54, Tryz.ntmps54
    go_wp2_with fail
    (with_reducible refine (HL _ HB0.out).out.mono ?_)
    rintro e w4 ⟨rfl, hB4⟩
    have HR4 := hid (HR0.out.below hB4)
    have c2 := HR4.out.cell 2 rfl
    have c4 := HR4.out.cell 4 rfl
    have c6 := HR4.out.cell 6 rfl
    have c7 := HR4.out.cell 7 rfl
    have c8 := HR4.out.cell 8 rfl
    have HB4 := hid (below_tr HB0.out hB4)
    go_wp2
    go_ret
    exact ⟨ret_int HV.out.symm, HB4.out⟩
end Go.Proofs.YtjhdeoniafahbaaGreatDoor
