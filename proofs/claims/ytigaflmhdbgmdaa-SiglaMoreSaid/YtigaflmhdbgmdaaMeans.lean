/-
  P42.2: the walk of SiglaMeans.
-/
import Derived.Test.YtigaflmhdbgmdaaPlB
import Derived.Test.YtigaflmhdbgmdaaAwake
namespace Go.Proofs.Ytigaflmhdbgmdaa
open Go.RowKit

theorem fine_facts {names : List ByteArray} {gs : List Grp} (h : fineB names gs = true) : checkI names gs = 0 ∧ names.length ≤ 8 ∧ gs.length ≤ 5 := by
  unfold fineB at h
  rw [Bool.and_eq_true, decide_eq_true_eq] at h
  obtain ⟨h1, h2⟩ := h
  have G := good_of h2
  have hn := G.nl
  have hg := G.gl
  unfold greatB at h1
  simp only [Bool.not_eq_true', Bool.or_eq_false_iff, Bool.and_eq_false_iff, decide_eq_false_iff_not] at h1
  omega
theorem fine_set {names : List ByteArray} {gs : List Grp} (h : fineB names gs = true) (b : Nat) : startI names gs (bitsTo b names.length) = 0 := by
  unfold startI
  rw [if_neg (by have := (fine_facts h).1; omega)]
  exact ckSet_sorted _ _ _ (bitsTo_sorted _ _) (fun x hx => ⟨((bitsTo_mem _ _ _).1 hx).1, ((bitsTo_mem _ _ _).1 hx).2.1⟩) (fun q e => by cases e)

set_option maxHeartbeats 2000000 in
set_option maxRecDepth 100000 in
theorem means_any (v u : Value) (names : List ByteArray) (gs : List Grp) (b : Nat) (w : World) (hr : RdS w v names) (hg : RdG w u gs) (hz : Szs names) (hzg : SzG gs) (hb : b < 256) :
    Calls Try.prog 3 #[v, u, .int .u8 b] w fun e w' => e = .returned (.bool true) ∧ Below w.heap.size w w' := by
  have HF := hid (fine_any v u names gs w hr hg hz hzg)
  by_cases hf : fineB names gs = true
  · obtain ⟨hc0, hn8, hg5⟩ := fine_facts hf
    have hs0 := fine_set hf b
    rw [hf] at HF
    obtain ⟨m1, m2, m3⟩ := short_means hs0
    have HC := fun w' => hid (chosen_any names.length b w' hn8 hb)
    have HS := fun s w' h1 h2 h3 => hid (short_any v u s names gs (bitsTo b names.length) w' h1 h2 h3 hz hzg (fun _ => ⟨hn8, by omega⟩))
    rw [hs0] at HS
    have HX := fun s w' h1 h2 h3 => hid (expand_any v u s names gs (shortL names gs (bitsTo b names.length)) w' h1 h2 h3 hz hzg)
    rw [m1, m2] at HX
    generalize shortL names gs (bitsTo b names.length) = L at *
    have HE := fun s s' w' h1 h2 => hid (equalI_any s s' (bitsTo b names.length) (bitsTo b names.length) w' h1 h2)
    rw [decide_eq_true rfl] at HE
    clear m1 m2 hs0 hf hc0 hz hzg
    generalize bitsTo b names.length = S at *
    obtain ⟨a0, cap0, rfl, hlc0, hcm0, _⟩ := hr.open
    go_enter Try.func3, Try.ntmps3
    go_wp2_with fail
    refine HF.out.mono ?_
    rintro e w1 ⟨rfl, hB1⟩
    go_wp2_with fail
    refine (HC _).out.mono ?_
    rintro e w2 ⟨vs, rfl, hs2, hB2⟩
    have hB := below_tr hB1 hB2
    have hr2 := hr.below hB
    have hg2 := hg.below hB
    obtain ⟨a1, cap1, rfl, hlc1, hcm1, _⟩ := hs2.open
    clear hB1 hB2
    go_wp2_with fail
    refine (HS _ _ hr2 hg2 hs2).out.mono ?_
    rintro e w3 ⟨vl, rfl, hl3, hB3⟩
    have hr3 := hr2.below hB3
    have hg3 := hg2.below hB3
    have hs3 := hs2.below hB3
    have hBB := below_tr hB hB3
    obtain ⟨a2, cap2, rfl, hlc2, hcm2, _⟩ := hl3.open
    clear hr2 hg2 hs2 hB hB3
    go_wp2_with fail
    refine (HX _ _ hr3 hg3 hl3).out.mono ?_
    rintro e w4 ⟨ve, rfl, he4, hB4⟩
    have hs4 := hs3.below hB4
    have hB := below_tr hBB hB4
    obtain ⟨a3, cap3, rfl, hlc3, hcm3, _⟩ := he4.open
    clear hr3 hg3 hs3 hBB hB4
    go_wp2_with fail
    refine (HE _ _ _ he4 hs4).out.mono ?_
    rintro e w5 ⟨rfl, hB5⟩
    have hBB := below_tr hB hB5
    clear hB hB5
    go_wp2_with fail
    refine (awake_any _).mono ?_
    rintro e w6 ⟨rfl, hB6⟩
    have hB := below_tr hBB hB6
    clear hBB hB6
    go_wp2
    go_ret
    exact ⟨rfl, hB⟩
  · have hf' : fineB names gs = false := by simpa using hf
    rw [hf'] at HF
    clear hf hf'
    go_enter Try.func3, Try.ntmps3
    go_wp2_with fail
    refine HF.out.mono ?_
    rintro e w1 ⟨rfl, hB1⟩
    go_wp2_with fail
    refine (awake_any _).mono ?_
    rintro e w2 ⟨rfl, hB2⟩
    have hB := below_tr hB1 hB2
    go_wp2
    go_ret
    exact ⟨rfl, hB⟩
end Go.Proofs.Ytigaflmhdbgmdaa
