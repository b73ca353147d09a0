/-
  P42.4: the walk of SiglaTexts.
-/
import Derived.Test.YtigaflmhdbgmdaaDoorPlT
import Derived.Test.YtigaflmhdbgmdaaDoorAwake
namespace Go.Proofs.YtigaflmhdbgmdaaDoor
open Go.RowKit

/-- strings.Join with a space, of a list as it is read. -/
theorem join_any (v : Value) (l : List ByteArray) (w : World) (hr : RdS w v l) (hlen : l.length ≤ 100) (hj : (Lib.join (l.map (·.data.toList)) [32]).length ≤ 140737488355328) :
    Calls Tryd.prog 9 #[v, .string ⟨#[32]⟩] w fun e w' => e = .returned (.string (joinB l)) ∧ Below w.heap.size w w' := by
  obtain ⟨a, cap, rfl, hlc, hcm, hcell⟩ := hr.open
  by_cases h0 : l = []
  · subst h0
    refine (Tryd.strings_Join_none a cap (ByteArray.mk #[32]) w).mono ?_
    rintro e w' ⟨rfl, rfl⟩
    exact ⟨rfl, Below.refl _ _⟩
  · obtain ⟨x, b, off, hx, rfl, hc0⟩ := hcell 0 (by cases l with | nil => exact absurd rfl h0 | cons _ _ => simp)
    refine (Tryd.strings_Join b off cap l (ByteArray.mk #[32]) w (fun j y hy => by
          obtain ⟨x, b', off', hx', e, hc⟩ := hcell j (List.getElem?_eq_some_iff.1 hy).1
          cases e
          rw [hy] at hx'; cases hx'
          exact hc) (World.block_lt_of_cell? _ _ hc0) (by omega) hlc hj).mono ?_
    rintro e w' ⟨rfl, hB⟩
    exact ⟨rfl, hB⟩

set_option maxHeartbeats 4000000 in
set_option maxRecDepth 100000 in
theorem texts_any (v : Value) (l : List ByteArray) (s : ByteArray) (m : Int) (w : World) (hr : RdS w v l) (hz : Szs l) (hs : s.size ≤ maxLen) (hm : w.cell? ⟨0, 0, none⟩ = some (.int .i64 m)) :
    Calls Tryd.prog 3 #[v, .string s] w fun e w' => e = .returned (.bool true) ∧ Below w.heap.size w w' := by
  obtain ⟨a, cap, rfl, hlc, hcm, _⟩ := hr.open
  by_cases h10 : 10 < l.length
  · have h1 : (10 : Int) < (l.length : Int) := by omega
    go_enter Tryd.func3, Tryd.ntmps3
    go_wp2_with fail
    refine (awake_any _).mono ?_
    rintro e w2 ⟨rfl, hB⟩
    go_wp2
    go_ret
    exact ⟨rfl, hB⟩
  by_cases h60 : 60 < s.size
  · have h1 : ¬ (10 : Int) < (l.length : Int) := by omega
    have h2 : (60 : Int) < (s.size : Int) := by omega
    go_enter Tryd.func3, Tryd.ntmps3
    go_wp2_with fail
    refine (awake_any _).mono ?_
    rintro e w2 ⟨rfl, hB⟩
    go_wp2
    go_ret
    exact ⟨rfl, hB⟩
  have h1 : ¬ (10 : Int) < (l.length : Int) := by omega
  have h2 : ¬ (60 : Int) < (s.size : Int) := by omega
  have HP := fun w' h => hid (print_any2 (.slice a l.length cap) l w' h hz (fun h => by have := join_len h; omega))
  have HJ := fun w' (h0 : printI l = 0) h => hid (join_any (.slice a l.length cap) l w' h (by omega) (by have := join_len h0; omega))
  have HQ := hid (fun h => parse_print (l := l) h)
  have HA := hid (printI_cases (l := l) (by omega))
  have HPC := hid (parse_cases s (by omega))
  have HC := hid (fun h => print_parse (s := s) h)
  have HM := hid hm; clear hm
  have HJL := hid (fun h => show (joinB l).size ≤ maxLen from Nat.le_trans (join_len (l := l) h) (by unfold maxLen; omega))
  have HS := fun w' hm => hid (parse_any s m w' hs hm)
  have HSJ := fun w' h hm => hid (parse_any (joinB l) m w' h hm)
  have HE := fun w' v u h k => hid (equalS_any v u l l w' h k)
  have HSP := fun v w' h hj => hid (print_any2 v (parseL s) w' h (fun x hx => by
      unfold parseL at hx
      split at hx
      · cases hx
      · split at hx
        · exact splitS_szs s hs x hx
        · cases hx) hj)
  have HZ := hid hz; clear hz
  have HSJL := hid (fun h => show (Lib.join ((parseL s).map (·.data.toList)) [32]).length ≤ 140737488355328 by
      have e : printS (parseL s) = s := (print_parse h).2
      have e2 : (joinB (parseL s)).size = s.size := by
        unfold printS at e; rw [if_pos (print_parse h).1] at e; rw [e]
      have e3 : (joinB (parseL s)).size = (Lib.join ((parseL s).map (·.data.toList)) [32]).length := rfl
      omega)
  go_enter Tryd.func3, Tryd.ntmps3
  go_wp2_with fail
  refine (HP _ hr).out.mono ?_
  rintro e w1 ⟨rfl, hB1⟩
  clear HP
  have hr1 := hr.below hB1
  have HM1 : Hid (w1.cell? ⟨0, 0, none⟩ = some (.int .i64 m)) := Below.keeps hB1 _ _ HM.out
  have HB1 := hid hB1
  clear hr hB1 HM
  rcases HA.out with hp | ⟨hp, hq⟩
  · have hS : printS l = joinB l := by unfold printS; rw [if_pos hp]
    obtain ⟨hi, hl⟩ := HQ.out hp
    have HJ1 := fun w' h => HJ w' hp h
    have HSJ1 := fun w' hm => HSJ w' (HJL.out hp) hm
    rw [hi, hl] at HSJ1
    rw [hp, hS]
    clear HA HQ HJ HSJ HJL hp hS hi hl
    generalize joinB l = t at *
    go_wp2_with fail
    refine (HSJ1 _ HM1.out).out.mono ?_
    rintro e w2 ⟨v2, rfl, hr2, hB2⟩
    obtain ⟨a2, cap2, rfl, hlc2, hcm2, _⟩ := hr2.open
    have hr1' := hr1.below hB2
    have HM2 : Hid (w2.cell? ⟨0, 0, none⟩ = some (.int .i64 m)) := Below.keeps hB2 _ _ HM1.out
    have HB2 := hid (below_tr HB1.out hB2)
    clear hB2 HB1 HM1 hr1 HSJ1
    go_wp2_with fail
    refine (HE _ _ _ hr2 hr1').out.mono ?_
    rintro e w3 ⟨rfl, hB3⟩
    have hr3 := hr1'.below hB3
    have HM3 : Hid (w3.cell? ⟨0, 0, none⟩ = some (.int .i64 m)) := Below.keeps hB3 _ _ HM2.out
    have HB3 := hid (below_tr HB2.out hB3)
    clear hB3 HB2 HM2 hr1' hr2 HE
    go_wp2_with fail
    refine (HJ1 _ hr3).out.mono ?_
    rintro e w4 ⟨rfl, hB4⟩
    have HM4 : Hid (w4.cell? ⟨0, 0, none⟩ = some (.int .i64 m)) := Below.keeps hB4 _ _ HM3.out
    have HB4 := hid (below_tr HB3.out hB4)
    clear hB4 HB3 HM3 hr3 HJ1
    go_wp2_with fail
    refine (HS _ HM4.out).out.mono ?_
    rintro e w5 ⟨v5, rfl, hr5, hB5⟩
    obtain ⟨a5, cap5, rfl, hlc5, hcm5, _⟩ := hr5.open
    have HB5 := hid (below_tr HB4.out hB5)
    clear HS hB5 HB4 HM4
    rcases HPC.out with hp5 | ⟨hp5, hl5⟩
    · obtain ⟨ho, ht⟩ := HC.out hp5
      have HSP1 := HSP _ _ hr5 (fun _ => HSJL.out hp5)
      rw [ho, ht] at HSP1
      rw [hp5]
      clear HPC HC HSP HSJL ho ht hp5 hr5
      go_wp2_with fail
      refine HSP1.out.mono ?_
      rintro e w6 ⟨rfl, hB6⟩
      have HB6 := hid (below_tr HB5.out hB6)
      clear hB6 HSP1 HB5
      go_wp2_with fail
      refine (awake_any _).mono ?_
      rintro e w7 ⟨rfl, hB7⟩
      have hBe := below_tr HB6.out hB7
      go_wp2
      go_ret
      exact ⟨rfl, hBe⟩
    · rw [hl5] at *
      clear HPC HC HSP HSJL
      rcases hp5 with hp5 | hp5
      all_goals
        rw [hp5]
        go_wp2_with fail
        refine (awake_any _).mono ?_
        rintro e w7 ⟨rfl, hB7⟩
        have hBe := below_tr HB5.out hB7
        go_wp2
        go_ret
        exact ⟨rfl, hBe⟩
  · rw [hp, hq]
    clear HA HQ HJ HSJ HJL hp hq HE
    have HM4 := HM1; have HB4 := HB1
    clear HM1 HB1 hr1
    go_wp2_with fail
    refine (HS _ HM4.out).out.mono ?_
    rintro e w5 ⟨v5, rfl, hr5, hB5⟩
    obtain ⟨a5, cap5, rfl, hlc5, hcm5, _⟩ := hr5.open
    have HB5 := hid (below_tr HB4.out hB5)
    clear HS hB5 HB4 HM4
    rcases HPC.out with hp5 | ⟨hp5, hl5⟩
    · obtain ⟨ho, ht⟩ := HC.out hp5
      have HSP1 := HSP _ _ hr5 (fun _ => HSJL.out hp5)
      rw [ho, ht] at HSP1
      rw [hp5]
      clear HPC HC HSP HSJL ho ht hp5 hr5
      go_wp2_with fail
      refine HSP1.out.mono ?_
      rintro e w6 ⟨rfl, hB6⟩
      have HB6 := hid (below_tr HB5.out hB6)
      clear hB6 HSP1 HB5
      go_wp2_with fail
      refine (awake_any _).mono ?_
      rintro e w7 ⟨rfl, hB7⟩
      have hBe := below_tr HB6.out hB7
      go_wp2
      go_ret
      exact ⟨rfl, hBe⟩
    · rw [hl5] at *
      clear HPC HC HSP HSJL
      rcases hp5 with hp5 | hp5
      all_goals
        rw [hp5]
        go_wp2_with fail
        refine (awake_any _).mono ?_
        rintro e w7 ⟨rfl, hB7⟩
        have hBe := below_tr HB5.out hB7
        go_wp2
        go_ret
        exact ⟨rfl, hBe⟩
end Go.Proofs.YtigaflmhdbgmdaaDoor
