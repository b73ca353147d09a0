/-
  The law PagedescLossless: the walk. Printed by genlos.py.
-/
import Derived.Test.YtkjapeafhcdnkaaDoorAwk53
import Derived.Test.YtkjapeafhcdnkaaDoorGrt53
import Derived.Test.YtkjapeafhcdnkaaDoorPl53
import Derived.Test.YtkjapeafhcdnkaaDoorCfPg
namespace Go.Proofs.YtkjapeafhcdnkaaDoor
open Go.RowKit

theorem sz_first {l : List Pg} (h : firstP l = 0) : SzPg l := by
  intro p hp b hb
  obtain ⟨_, _, _, h4⟩ := pg_good (firstP_all l h p hp)
  obtain ⟨_, _, _, _, _, _, _, _, _, _, _, ht, _⟩ := bx_good (h4 b hb)
  unfold maxLen; omega
theorem ito_len {n : Int} (h0 : 0 ≤ n) (h1 : n ≤ 1073741824) : (itoL n).length ≤ 10 := by
  unfold itoL
  rw [itoaB_data h0, Lib.decDigits_length]
  exact nDigits_10 _ (by omega)
theorem kw_len (k : Nat) (h1 : 1 ≤ k) (h2 : k ≤ 6) : (kwB k).data.toList.length ≤ 6 := by
  have : k = 1 ∨ k = 2 ∨ k = 3 ∨ k = 4 ∨ k = 5 ∨ k = 6 := by omega
  rcases this with rfl | rfl | rfl | rfl | rfl | rfl <;> decide +kernel
theorem box_small {b : Bx} (h : boxI b = 0) (ht : b.text.size ≤ 60) : (boxL b).length ≤ 120 := by
  obtain ⟨k, hk, k1, k2⟩ := kind_nat h
  obtain ⟨_, _, x1, x2, y1, y2, d1, d2, b1, b2, _⟩ := bx_good h
  have e1 := kw_len k k1 k2
  have e2 := ito_len x1 x2
  have e3 := ito_len y1 y2
  have e4 := ito_len d1 d2
  have e5 := ito_len b1 (by omega)
  have e6 := data_size b.text
  unfold boxL numL
  rw [hk]
  simp only [List.length_append, List.length_cons, List.length_nil]
  omega
theorem print_small {l : List Pg} (h : SmPg l) (hf : firstP l = 0) : (printL l).length ≤ 10000 := by
  have hb : ∀ (bs : List Bx), (∀ b ∈ bs, boxI b = 0 ∧ b.text.size ≤ 60) → (bxsL bs).length ≤ bs.length * 120 := by
    intro bs
    induction bs with
    | nil => intro _; simp [bxsL]
    | cons b r ih =>
      intro hh
      have h1 := ih (fun x hx => hh x (by simp [hx]))
      have h2 := box_small (hh b (by simp)).1 (hh b (by simp)).2
      have e : bxsL (b :: r) = boxL b ++ bxsL r := rfl
      rw [e, List.length_append, List.length_cons]; omega
  have hall := firstP_all l hf
  have key : ∀ (l : List Pg), (∀ p ∈ l, pgI p = 0 ∧ SmB p.bx) → (printL l).length ≤ l.length * 1300 := by
    intro l
    induction l with
    | nil => intro _; simp [printL]
    | cons p r ih =>
      intro hh
      have h1 := ih (fun x hx => hh x (by simp [hx]))
      obtain ⟨g1, g2, _, g4⟩ := pg_good (hh p (by simp)).1
      obtain ⟨s1, s2⟩ := (hh p (by simp)).2
      have h2 := hb p.bx (fun b hb => ⟨g4 b hb, s2 b hb⟩)
      have h3 := ito_len (n := p.num) (by omega) (by omega)
      have e : printL (p :: r) = pageL p ++ printL r := rfl
      rw [e, List.length_append, List.length_cons]
      unfold pageL headL
      simp only [List.length_append, List.length_cons, List.length_nil]
      omega
  have := key l (fun p hp => ⟨hall p hp, h.2 p hp⟩)
  have := h.1
  omega
theorem mt_isE : (⟨#[]⟩ : ByteArray).toList.isEmpty = true := by decide +kernel

set_option maxRecDepth 100000 in
set_option maxHeartbeats 4000000 in
theorem plossless_any (v : Value) (l : List Pg) (s : ByteArray) (m : Int) (w : World) (he : Env w) (hm : w.cell? ⟨0, 0, none⟩ = some (.int .i64 m)) (hr : RdPg w v l) (hz : SzPg l) (hsz : s.size ≤ 9223372036854775807) :
    Calls Tryd.prog 3 #[v, .string s] w fun e w' => e = .returned (.bool true) ∧ Below w.heap.size w w' := by
  have AW := fun w' (h : Below w.heap.size w w') => hid (awake53_any m w' (he.below h) (Below.keeps h _ _ hm))
  have HE := fun w' (h : Below w.heap.size w w') => hid (he.below h)
  have HM := fun w' (h : Below w.heap.size w w') => hid (Below.keeps h _ _ hm)
  have HG1 := hid (great53_any v l w hr hz)
  have HR := hid hr
  obtain ⟨a1, k1, rfl, hlc1, hcm1, _⟩ := hr.open
  have HE0 := hid mt_isE
  clear he hm hr
  go_enter Tryd.func3, Tryd.ntmps3
  go_wp2_with fail
  refine HG1.out.mono ?_
  clear HG1
  rintro e w2 ⟨⟨b, rfl, hb⟩, rfl⟩
  cases b with
  | true =>
    go_wp2_with fail
    refine (AW _ (Below.refl _ _)).out.mono ?_
    rintro e w3 ⟨rfl, hB3⟩
    go_wp2
    go_ret
    exact ⟨rfl, hB3⟩
  | false =>
    have HSM := hid (hb rfl)
    clear hb
    by_cases h300 : 300 < s.size
    · have h300i : (300 : Int) < (s.size : Int) := by omega
      go_wp2_with fail
      refine (AW _ (Below.refl _ _)).out.mono ?_
      rintro e w3 ⟨rfl, hB3⟩
      go_wp2
      go_ret
      exact ⟨rfl, hB3⟩
    · have h300i : ¬ (300 : Int) < (s.size : Int) := by omega
      have HPR := hid (pprint_any l _ w (HE _ (Below.refl _ _)).out HR.out hz (by have := HSM.out.1; omega) (fun hf => by have := print_small HSM.out hf; omega))
      unfold pprV at HPR
      by_cases hf : firstP l = 0
      · rw [if_pos hf] at HPR
        have HPL := hid (par_print hf (by have := HSM.out.1; omega))
        have HTS : Hid ((⟨(printL l).toArray⟩ : ByteArray).size ≤ 1000000) := by
          have := print_small HSM.out hf
          show (List.toArray _).size ≤ _
          rw [List.size_toArray]; omega
        generalize (⟨(printL l).toArray⟩ : ByteArray) = T at *
        clear hf
        go_wp2_with fail
        refine HPR.out.mono ?_
        rintro e w3 ⟨rfl, hB3⟩
        have HPS3 := hid (pparse_any T m w3 (HE _ hB3).out (HM _ hB3).out HTS.out)
        clear HPR
        go_wp2_with fail
        refine HPS3.out.mono ?_
        rintro e w4 ⟨v4, x4, rfl, hcase, hB4⟩
        rw [HPL.out] at hcase
        obtain ⟨hrd, rfl⟩ : RdPg w4 v4 l ∧ x4 = 0 := by
          rcases hcase with ⟨ps, h1, h2, h3⟩ | ⟨h1, _⟩
          · cases h1; exact ⟨h2, h3⟩
          · cases h1
        have HSA := hid (samePg_any _ _ l w4 (HR.out.below (below_tr hB3 hB4)) hrd)
        have HB4 := hid (below_tr hB3 hB4)
        clear hcase hrd hB3 hB4 HPS3 HPL HTS
        go_wp2_with fail
        refine HSA.out.mono ?_
        rintro e w5 ⟨rfl, hB5⟩
        have HBX := hid (below_tr HB4.out hB5)
        clear HSA HB4 hB5
        have HPS := hid (pparse_any s m _ (HE _ HBX.out).out (HM _ HBX.out).out (by omega))
        clear HE0
        go_wp2_with fail
        refine HPS.out.mono ?_
        rintro e w8 ⟨v8, x8, rfl, hcase, hB8⟩
        have HB8 := hid (below_tr HBX.out hB8)
        clear HPS hB8
        rcases hcase with ⟨ps, hps, hrd, rfl⟩ | ⟨_, rfl, rfl⟩
        · obtain ⟨b1, b2, b3, b4⟩ := par_back hps
          have HSZ8 := hid (sz_first b2)
          have HPR8 := hid (pprint_any ps v8 w8 (HE _ HB8.out).out hrd HSZ8.out b3 (fun _ => by rw [b4]; omega))
          unfold pprV at HPR8
          rw [if_pos b2, b1] at HPR8
          have HR8 := hid hrd
          have HF8 := hid b2
          obtain ⟨a8, k8, rfl, hl8, hm8, _⟩ := hrd.open
          clear b1 b2 b3 b4 hps hrd
          go_wp2_with fail
          refine HPR8.out.mono ?_
          rintro e w9 ⟨rfl, hB9⟩
          have HB9 := hid (below_tr HB8.out hB9)
          have HC9 := hid (containsLos2_any _ ps w9 (HR8.out.below hB9) HSZ8.out)
          rw [decide_eq_false (fun h => h HF8.out)] at HC9
          clear HPR8 hB9 HR8 HB8
          go_wp2_with fail
          refine HC9.out.mono ?_
          rintro e wA ⟨rfl, hBA⟩
          have HBA := hid (below_tr HB9.out hBA)
          have HA := AW _ HBA.out
          clear HC9 hBA HB9
          go_wp2_with fail
          refine HA.out.mono ?_
          rintro e wB ⟨rfl, hBB⟩
          go_wp2
          go_ret
          exact ⟨rfl, below_tr HBA.out hBB⟩
        · have HA := AW _ HB8.out
          go_wp2_with fail
          refine HA.out.mono ?_
          rintro e wB ⟨rfl, hBB⟩
          go_wp2
          go_ret
          exact ⟨rfl, below_tr HB8.out hBB⟩
      · rw [if_neg hf] at HPR
        have hq : (firstP l == 0) = false := beq_eq_false_iff_ne.2 hf
        have hd : decide (firstP l ≠ 0) = true := decide_eq_true hf
        have HD := hid hd
        have he0 := HE0.out
        clear hf hd
        go_wp2_with fail
        refine HPR.out.mono ?_
        rintro e w3 ⟨rfl, hB3⟩
        have HC3 := hid (containsLos1_any _ l w3 (HR.out.below hB3) hz)
        rw [HD.out] at HC3
        have HB3 := hid hB3
        clear HPR hB3
        go_wp2_with fail
        refine HC3.out.mono ?_
        rintro e w5 ⟨rfl, hB5⟩
        have HBX := hid (below_tr HB3.out hB5)
        clear HC3 HB3 hB5 hq he0
        have HPS := hid (pparse_any s m _ (HE _ HBX.out).out (HM _ HBX.out).out (by omega))
        clear HE0
        go_wp2_with fail
        refine HPS.out.mono ?_
        rintro e w8 ⟨v8, x8, rfl, hcase, hB8⟩
        have HB8 := hid (below_tr HBX.out hB8)
        clear HPS hB8
        rcases hcase with ⟨ps, hps, hrd, rfl⟩ | ⟨_, rfl, rfl⟩
        · obtain ⟨b1, b2, b3, b4⟩ := par_back hps
          have HSZ8 := hid (sz_first b2)
          have HPR8 := hid (pprint_any ps v8 w8 (HE _ HB8.out).out hrd HSZ8.out b3 (fun _ => by rw [b4]; omega))
          unfold pprV at HPR8
          rw [if_pos b2, b1] at HPR8
          have HR8 := hid hrd
          have HF8 := hid b2
          obtain ⟨a8, k8, rfl, hl8, hm8, _⟩ := hrd.open
          clear b1 b2 b3 b4 hps hrd
          go_wp2_with fail
          refine HPR8.out.mono ?_
          rintro e w9 ⟨rfl, hB9⟩
          have HB9 := hid (below_tr HB8.out hB9)
          have HC9 := hid (containsLos2_any _ ps w9 (HR8.out.below hB9) HSZ8.out)
          rw [decide_eq_false (fun h => h HF8.out)] at HC9
          clear HPR8 hB9 HR8 HB8
          go_wp2_with fail
          refine HC9.out.mono ?_
          rintro e wA ⟨rfl, hBA⟩
          have HBA := hid (below_tr HB9.out hBA)
          have HA := AW _ HBA.out
          clear HC9 hBA HB9
          go_wp2_with fail
          refine HA.out.mono ?_
          rintro e wB ⟨rfl, hBB⟩
          go_wp2
          go_ret
          exact ⟨rfl, below_tr HBA.out hBB⟩
        · have HA := AW _ HB8.out
          go_wp2_with fail
          refine HA.out.mono ?_
          rintro e wB ⟨rfl, hBB⟩
          go_wp2
          go_ret
          exact ⟨rfl, below_tr HB8.out hBB⟩
end Go.Proofs.YtkjapeafhcdnkaaDoor
