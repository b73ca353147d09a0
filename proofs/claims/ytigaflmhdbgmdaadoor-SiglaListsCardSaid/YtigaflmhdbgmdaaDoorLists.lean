/-
  P42.1 (second half): the walk of SiglaLists.
-/
import Derived.Test.YtigaflmhdbgmdaaDoorRefE
import Derived.Test.YtigaflmhdbgmdaaDoorRefF
import Derived.Test.YtigaflmhdbgmdaaDoorRefK
import Derived.Test.YtigaflmhdbgmdaaDoorTexts
namespace Go.Proofs.YtigaflmhdbgmdaaDoor
open Go.RowKit

set_option maxHeartbeats 400000 in
theorem lists1_any (x : ByteArray) (w : World) : Calls Tryd.prog 12 #[.string x] w fun e w' => e = .returned (.bool (decide (20 < x.size))) ∧ w = w' := by
  by_cases h : 20 < x.size
  · have h1 : (20 : Int) < (x.size : Int) := by omega
    rw [decide_eq_true h]
    go_enter Tryd.func12, Tryd.ntmps12
    go_wp2
    go_ret
    exact ⟨rfl, rfl⟩
  · have h1 : ¬ (20 : Int) < (x.size : Int) := by omega
    rw [decide_eq_false h]
    go_enter Tryd.func12, Tryd.ntmps12
    go_wp2
    go_ret
    exact ⟨rfl, rfl⟩

theorem great_no {names : List ByteArray} {gs : List Grp} (h : greatB names gs = false) : ∀ g ∈ gs, g.mem.length ≤ 40 := by
  intro g hg
  unfold greatB at h
  simp only [Bool.or_eq_false_iff] at h
  have hb := List.any_eq_false.1 h.1.1.1.1.2 g hg
  unfold bigG at hb
  simp only [Bool.or_eq_true, decide_eq_true_eq, not_or] at hb
  omega

set_option maxHeartbeats 8000000 in
set_option maxRecDepth 100000 in
theorem lists_any (v u t o : Value) (names : List ByteArray) (gs : List Grp) (l : List ByteArray) (s : ByteArray) (old : List Int) (m : Int) (w : World) (hr : RdS w v names) (hg : RdG w u gs) (ht : RdS w t l) (ho : RdI w o old)
    (hz : Szs names) (hzg : SzG gs) (hzl : Szs l) (hs : s.size ≤ maxLen) (hm : w.cell? ⟨0, 0, none⟩ = some (.int .i64 m)) :
    Calls Tryd.prog 4 #[v, u, t, .string s, o] w fun e w' => e = .returned (.bool true) ∧ Below w.heap.size w w' := by
  obtain ⟨a0, cap0, rfl, hlc0, hcm0, _⟩ := hr.open
  obtain ⟨a1, cap1, rfl, hlc1, hcm1, _⟩ := hg.open
  obtain ⟨a2, cap2, rfl, hlc2, hcm2, _⟩ := ht.open
  obtain ⟨a3, cap3, rfl, hlc3, hcm3, _⟩ := ho.open
  have HG := hid (great_any (.slice a0 names.length cap0) (.slice a1 gs.length cap1) names gs w hr hg hz hzg)
  have HCF := hid (containsFuncS_any 12 (enters_of Tryd.func12 (by kernel_rfl) rfl) (fun x => decide (20 < x.size)) (.slice a2 l.length cap2) l w ht (fun x W' _ => lists1_any x W'))
  cases hgb : greatB names gs with
  | true =>
    rw [hgb] at HG
    clear HCF
    go_enter Tryd.func4, Tryd.ntmps4
    go_wp2_with fail
    refine HG.out.mono ?_
    rintro e w1 ⟨rfl, rfl⟩
    go_wp2_with fail
    refine (awake_any _).mono ?_
    rintro e w9 ⟨rfl, hB9⟩
    go_wp2
    go_ret
    exact ⟨rfl, hB9⟩
  | false =>
  rw [hgb] at HG
  by_cases c1 : 10 < l.length ∧ l.length ≤ 64
  · have h1 : (10 : Int) < (l.length : Int) := by omega
    have h2 : (l.length : Int) ≤ 64 := by omega
    clear HCF
    go_enter Tryd.func4, Tryd.ntmps4
    go_wp2_with fail
    refine HG.out.mono ?_
    rintro e w1 ⟨rfl, rfl⟩
    go_wp2_with fail
    refine (awake_any _).mono ?_
    rintro e w9 ⟨rfl, hB9⟩
    go_wp2
    go_ret
    exact ⟨rfl, hB9⟩
  by_cases c2 : 66 < l.length
  · have h1 : (10 : Int) < (l.length : Int) := by omega
    have h2 : ¬ (l.length : Int) ≤ 64 := by omega
    have h3 : (66 : Int) < (l.length : Int) := by omega
    clear HCF
    go_enter Tryd.func4, Tryd.ntmps4
    go_wp2_with fail
    refine HG.out.mono ?_
    rintro e w1 ⟨rfl, rfl⟩
    go_wp2_with fail
    refine (awake_any _).mono ?_
    rintro e w9 ⟨rfl, hB9⟩
    go_wp2
    go_ret
    exact ⟨rfl, hB9⟩
  have hcase : (¬ (10 : Int) < (l.length : Int)) ∨ ((10 : Int) < (l.length : Int) ∧ ¬ (l.length : Int) ≤ 64) := by omega
  have h66 : ¬ (66 : Int) < (l.length : Int) := by omega
  cases hcf : (l.any fun x => decide (20 < x.size)) with
  | true =>
    rw [hcf] at HCF
    rcases hcase with h1 | ⟨h1, h2⟩
    all_goals
      go_enter Tryd.func4, Tryd.ntmps4
      go_wp2_with fail
      refine HG.out.mono ?_
      rintro e w1 ⟨rfl, rfl⟩
      go_wp2_with fail
      refine HCF.out.mono ?_
      rintro e w1 ⟨rfl, rfl⟩
      go_wp2_with fail
      refine (awake_any _).mono ?_
      rintro e w9 ⟨rfl, hB9⟩
      go_wp2
      go_ret
      exact ⟨rfl, hB9⟩
  | false =>
  rw [hcf] at HCF
  by_cases c3 : 200 < s.size ∧ s.size ≤ 65536
  · have h3 : (200 : Int) < (s.size : Int) := by omega
    have h4 : (s.size : Int) ≤ 65536 := by omega
    rcases hcase with h1 | ⟨h1, h2⟩
    all_goals
      go_enter Tryd.func4, Tryd.ntmps4
      go_wp2_with fail
      refine HG.out.mono ?_
      rintro e w1 ⟨rfl, rfl⟩
      go_wp2_with fail
      refine HCF.out.mono ?_
      rintro e w1 ⟨rfl, rfl⟩
      go_wp2_with fail
      refine (awake_any _).mono ?_
      rintro e w9 ⟨rfl, hB9⟩
      go_wp2
      go_ret
      exact ⟨rfl, hB9⟩
  by_cases c4 : 65540 < s.size
  · have h3 : (200 : Int) < (s.size : Int) := by omega
    have h4 : ¬ (s.size : Int) ≤ 65536 := by omega
    have h5 : (65540 : Int) < (s.size : Int) := by omega
    rcases hcase with h1 | ⟨h1, h2⟩
    all_goals
      go_enter Tryd.func4, Tryd.ntmps4
      go_wp2_with fail
      refine HG.out.mono ?_
      rintro e w1 ⟨rfl, rfl⟩
      go_wp2_with fail
      refine HCF.out.mono ?_
      rintro e w1 ⟨rfl, rfl⟩
      go_wp2_with fail
      refine (awake_any _).mono ?_
      rintro e w9 ⟨rfl, hB9⟩
      go_wp2
      go_ret
      exact ⟨rfl, hB9⟩
  have hcaseS : (¬ (200 : Int) < (s.size : Int)) ∨ ((200 : Int) < (s.size : Int) ∧ ¬ (s.size : Int) ≤ 65536) := by omega
  have h65 : ¬ (65540 : Int) < (s.size : Int) := by omega
  by_cases c5 : 10 < old.length
  · have h6 : (10 : Int) < (old.length : Int) := by omega
    rcases hcase with h1 | ⟨h1, h2⟩
    all_goals rcases hcaseS with h3 | ⟨h3, h4⟩
    all_goals
      go_enter Tryd.func4, Tryd.ntmps4
      go_wp2_with fail
      refine HG.out.mono ?_
      rintro e w1 ⟨rfl, rfl⟩
      go_wp2_with fail
      refine HCF.out.mono ?_
      rintro e w1 ⟨rfl, rfl⟩
      go_wp2_with fail
      refine (awake_any _).mono ?_
      rintro e w9 ⟨rfl, hB9⟩
      go_wp2
      go_ret
      exact ⟨rfl, hB9⟩
  have h6 : ¬ (10 : Int) < (old.length : Int) := by omega
  have hl20 : ∀ x ∈ l, x.size ≤ 20 := fun x hx => by simpa using List.any_eq_false.1 hcf x hx
  have HE := fun w' h1 h2 h3 => hid (expand_any (.slice a0 names.length cap0) (.slice a1 gs.length cap1) (.slice a2 l.length cap2) names gs l w' h1 h2 h3 hz hzg)
  have HF := fun w' h1 h2 h3 => hid (rexpand_any (.slice a0 names.length cap0) (.slice a1 gs.length cap1) (.slice a2 l.length cap2) names gs l w' h1 h2 h3 hz hzg (great_no hgb) (by omega))
  have HP := fun w' h => hid (print_any2 (.slice a2 l.length cap2) l w' h hzl (fun h => by have := join_len h; omega))
  have HQ := fun w' h => hid (rprint_any (.slice a2 l.length cap2) l w' h hl20)
  have HX := fun w' hm => hid (parse_any s m w' hs hm)
  have HY := fun w' => hid (rparse_any s w' hs)
  have HK := fun w' h1 h2 => hid (keep_any (.slice a1 gs.length cap1) (.slice a3 old.length cap3) gs old w' h1 h2 (by omega))
  have HR := fun w' h1 h2 => hid (rkeep_any (.slice a1 gs.length cap1) (.slice a3 old.length cap3) gs old w' h1 h2 (by omega))
  clear hz hzg hzl hs hgb hcf hl20 c1 c2 c3 c4 c5
  generalize expandI names gs l = xe at *
  generalize expandL names gs l = xl at *
  generalize printI l = pe at *
  generalize printS l = ps at *
  generalize parseI s = ye at *
  generalize parseL s = yl at *
  generalize keepI gs old = ke at *
  generalize keepL gs old = kl at *
  rcases hcase with h1 | ⟨h1, h2⟩
  all_goals rcases hcaseS with h3 | ⟨h3, h4⟩
  all_goals
    go_enter Tryd.func4, Tryd.ntmps4
    go_wp2_with fail
    refine HG.out.mono ?_
    rintro e w1 ⟨rfl, rfl⟩
    go_wp2_with fail
    refine HCF.out.mono ?_
    rintro e w1 ⟨rfl, rfl⟩
    clear HG HCF
    go_wp2_with fail
    refine (HE _ hr hg ht).out.mono ?_
    rintro e w1 ⟨r1, rfl, hx1, hB1⟩
    clear HE
    go_wp2_with fail
    refine (HF _ (hr.below hB1) (hg.below hB1) (ht.below hB1)).out.mono ?_
    rintro e w2 ⟨r2, rfl, hx2, hB⟩
    have hx1 := hx1.below hB
    have hB2 := below_tr hB1 hB
    clear hB1 hB HF
    go_wp2_with fail
    refine (HP _ (ht.below hB2)).out.mono ?_
    rintro e w3 ⟨rfl, hB⟩
    have hx1 := hx1.below hB
    have hx2 := hx2.below hB
    have hB3 := below_tr hB2 hB
    clear hB2 hB HP
    go_wp2_with fail
    refine (HQ _ (ht.below hB3)).out.mono ?_
    rintro e w4 ⟨rfl, hB⟩
    have hx1 := hx1.below hB
    have hx2 := hx2.below hB
    have hB4 := below_tr hB3 hB
    clear hB3 hB HQ
    go_wp2_with fail
    refine (HX _ (Below.keeps hB4 _ _ hm)).out.mono ?_
    rintro e w5 ⟨r3, rfl, hy1, hB⟩
    have hx1 := hx1.below hB
    have hx2 := hx2.below hB
    have hB5 := below_tr hB4 hB
    clear hB4 hB HX
    go_wp2_with fail
    refine (HY _).out.mono ?_
    rintro e w6 ⟨r4, rfl, hy2, hB⟩
    have hx1 := hx1.below hB
    have hx2 := hx2.below hB
    have hy1 := hy1.below hB
    have hB6 := below_tr hB5 hB
    clear hB5 hB HY
    go_wp2_with fail
    refine (HK _ (hg.below hB6) (ho.below hB6)).out.mono ?_
    rintro e w7 ⟨r5, rfl, hk1, hB⟩
    have hx1 := hx1.below hB
    have hx2 := hx2.below hB
    have hy1 := hy1.below hB
    have hy2 := hy2.below hB
    have hB7 := below_tr hB6 hB
    clear hB6 hB HK
    go_wp2_with fail
    refine (HR _ (hg.below hB7) (ho.below hB7)).out.mono ?_
    rintro e w8 ⟨r6, rfl, hk2, hB⟩
    have hx1 := hx1.below hB
    have hx2 := hx2.below hB
    have hy1 := hy1.below hB
    have hy2 := hy2.below hB
    have hk1 := hk1.below hB
    have HB8 := hid (below_tr hB7 hB)
    clear hB7 hB HR hr hg ht ho hm
    go_wp2_with fail
    refine (equalI_any _ _ xl xl _ hx1 hx2).mono ?_
    rintro e w9 ⟨rfl, hB⟩
    have hy1 := hy1.below hB
    have hy2 := hy2.below hB
    have hk1 := hk1.below hB
    have hk2 := hk2.below hB
    have HB9 := hid (below_tr HB8.out hB)
    clear HB8 hB hx1 hx2
    go_wp2_with fail
    refine (equalS_any _ _ yl yl _ hy1 hy2).mono ?_
    rintro e w10 ⟨rfl, hB⟩
    have hk1 := hk1.below hB
    have hk2 := hk2.below hB
    have HB10 := hid (below_tr HB9.out hB)
    clear HB9 hB hy1 hy2
    go_wp2_with fail
    refine (same_any _ _ kl _ hk1 hk2).mono ?_
    rintro e w11 ⟨rfl, hB⟩
    have HB11 := hid (below_tr HB10.out hB)
    clear HB10 hB hk1 hk2
    go_wp2_with fail
    refine (awake_any _).mono ?_
    rintro e w12 ⟨rfl, hB⟩
    have hBe := below_tr HB11.out hB
    go_wp2
    go_ret
    exact ⟨rfl, hBe⟩
end Go.Proofs.YtigaflmhdbgmdaaDoor
