/-
  The law PagedescLines: the walk.
-/
import Derived.Test.YtkjapeafhcdnkaaDoorPLos
import Derived.Test.YtkjapeafhcdnkaaDoorCc
import Derived.Test.YtkjapeafhcdnkaaDoorSm53
import Derived.Lib.SplitLaws
namespace Go.Proofs.YtkjapeafhcdnkaaDoor
open Go.RowKit

theorem count_not {l : List UInt8} (h : (10 : UInt8) ∉ l) : l.count 10 = 0 := List.count_eq_zero.2 h
theorem lines_head {n : Int} (h : 0 ≤ n) : (headL n).count 10 = 1 := by
  unfold headL
  rw [List.count_append, List.count_append, count_not (ito_not h (by decide))]
  decide
theorem lines_box {b : Bx} (h : boxI b = 0) : (boxL b).count 10 = 1 := by
  obtain ⟨k, hk, k1, k2⟩ := kind_nat h
  obtain ⟨_, w2, _⟩ := kw_not k k1 k2
  obtain ⟨_, _, x1, _, y1, _, d1, _, b1, _, _⟩ := bx_good h
  have ht := text_not h
  have hn : ∀ {n : Int}, 0 ≤ n → (numL n).count 10 = 0 := fun {n} h => by
    unfold numL
    rw [List.count_cons, count_not (ito_not h (by decide))]
    decide
  unfold boxL
  rw [hk, List.count_append, List.count_append, List.count_append, List.count_append, List.count_append, count_not w2, hn x1, hn y1, hn d1, hn b1, List.count_cons, List.count_append, count_not ht]
  decide
theorem lines_pages : ∀ (l : List Pg), firstP l = 0 → (printL l).count 10 = l.length + (l.flatMap Pg.bx).length
  | [], _ => rfl
  | p :: r, h => by
    have hall := firstP_all _ h
    obtain ⟨g1, _, _, g4⟩ := pg_good (hall p (by simp))
    have hb : ∀ (bs : List Bx), (∀ b ∈ bs, boxI b = 0) → (bxsL bs).count 10 = bs.length := by
      intro bs
      induction bs with
      | nil => intro _; rfl
      | cons b q ih =>
        intro hh
        have e : bxsL (b :: q) = boxL b ++ bxsL q := rfl
        rw [e, List.count_append, lines_box (hh b (by simp)), ih (fun x hx => hh x (by simp [hx])), List.length_cons]; omega
    have e : printL (p :: r) = pageL p ++ printL r := rfl
    have e2 : pageL p = headL p.num ++ bxsL p.bx := rfl
    rw [e, e2, List.count_append, List.count_append, lines_head (by omega), hb p.bx g4, lines_pages r (firstP_none r (fun y hy => hall y (by simp [hy]))), List.flatMap_cons, List.length_append, List.length_cons]
    omega
theorem first_app {l m : List Pg} (h1 : firstP l = 0) (h2 : firstP m = 0) : firstP (l ++ m) = 0 :=
  firstP_none _ (fun y hy => (List.mem_append.1 hy).elim (firstP_all l h1 y) (firstP_all m h2 y))
theorem ba_app (a b : List UInt8) : (⟨a.toArray⟩ : ByteArray) ++ ⟨b.toArray⟩ = ⟨(a ++ b).toArray⟩ := by
  apply ba_ext; simp
theorem len_flat2 (l : List Pg) (k : Nat) (p : Pg) (h : l[k]? = some p) : ((l.take (k + 1)).flatMap Pg.bx).length = ((l.take k).flatMap Pg.bx).length + p.bx.length := by
  rw [List.take_add_one, h]; simp
theorem flat_le2 (l : List Pg) (k : Nat) : ((l.take k).flatMap Pg.bx).length ≤ (l.flatMap Pg.bx).length := by
  have h3 : (l.flatMap Pg.bx).length = ((l.take k).flatMap Pg.bx).length + ((l.drop k).flatMap Pg.bx).length := by
    rw [← List.length_append, ← List.flatMap_append, List.take_append_drop]
  omega
theorem flat_sm {l : List Pg} (h : SmPg l) : (l.flatMap Pg.bx).length ≤ 50 := by
  obtain ⟨h1, h2⟩ := h
  have key : ∀ (l : List Pg), (∀ p ∈ l, SmB p.bx) → (l.flatMap Pg.bx).length ≤ l.length * 10 := by
    intro l
    induction l with
    | nil => intro _; simp
    | cons p r ih =>
      intro h
      have h3 := ih (fun q hq => h q (by simp [hq]))
      have h4 := (h p (by simp)).1
      rw [List.flatMap_cons, List.length_append, List.length_cons]; omega
  have := key l h2
  omega

set_option maxRecDepth 100000 in
set_option maxHeartbeats 4000000 in
theorem plines_any (v u : Value) (l m : List Pg) (mm : Int) (w : World) (he : Env w) (hm : w.cell? ⟨0, 0, none⟩ = some (.int .i64 mm)) (hr : RdPg w v l) (hs : RdPg w u m) (hz : SzPg l) (hzm : SzPg m) :
    Calls Tryd.prog 6 #[v, u] w fun e w' => e = .returned (.bool true) ∧ Below w.heap.size w w' := by
  have AW := fun w' (h : Below w.heap.size w w') => hid (awake53_any mm w' (he.below h) (Below.keeps h _ _ hm))
  have HE := fun w' (h : Below w.heap.size w w') => hid (he.below h)
  have HM := fun w' (h : Below w.heap.size w w') => hid (Below.keeps h _ _ hm)
  have HG1 := hid (great53_any v l w hr hz)
  have HG2 := hid (great53_any u m w hs hzm)
  have HR := hid hr
  have HS := hid hs
  obtain ⟨a1, k1, rfl, hlc1, hcm1, hcell⟩ := hr.open
  have HCC := hid hcell
  obtain ⟨a2, k2, rfl, hlc2, hcm2, _⟩ := hs.open
  clear he hm hr hs hcell
  go_enter Tryd.func6, Tryd.ntmps6
  go_wp2_with fail
  refine HG1.out.mono ?_
  clear HG1
  rintro e w2 ⟨⟨b, rfl, hb⟩, rfl⟩
  cases b with
  | true =>
    go_wp2_with fail
    refine (AW _ (Below.refl _ _)).out.mono ?_
    rintro e w3 ⟨rfl, hB3⟩
    go_wp2
    go_ret
    exact ⟨rfl, hB3⟩
  | false =>
    have HSM1 := hid (hb rfl)
    clear hb
    go_wp2_with fail
    refine HG2.out.mono ?_
    clear HG2
    rintro e w2 ⟨⟨b, rfl, hb⟩, rfl⟩
    cases b with
    | true =>
      go_wp2_with fail
      refine (AW _ (Below.refl _ _)).out.mono ?_
      rintro e w3 ⟨rfl, hB3⟩
      go_wp2
      go_ret
      exact ⟨rfl, hB3⟩
    | false =>
      have HSM2 := hid (hb rfl)
      clear hb
      have HPR := hid (pprint_any l _ w (HE _ (Below.refl _ _)).out HR.out hz (by have := HSM1.out.1; omega) (fun hf => by have := print_small HSM1.out hf; omega))
      have HPM := fun w' (h : Below w.heap.size w w') => hid (pprint_any m _ w' (HE _ h).out (HS.out.below h) hzm (by have := HSM2.out.1; omega) (fun hf => by have := print_small HSM2.out hf; omega))
      unfold pprV at HPR HPM
      by_cases hf1 : firstP l = 0
      · by_cases hf2 : firstP m = 0
        · have HF1 := hid hf1
          have HF2 := hid hf2
          simp only [if_pos hf1] at HPR
          simp only [if_pos hf2] at HPM
          clear hf1 hf2
          go_wp2_with fail
          refine HPR.out.mono ?_
          rintro e w3 ⟨rfl, hB3⟩
          have HPM3 := HPM _ hB3
          have HB3 := hid hB3
          clear HPR HPM hB3
          go_wp2_with fail
          refine HPM3.out.mono ?_
          rintro e w4 ⟨rfl, hB4⟩
          have HB4 := hid (below_tr HB3.out hB4)
          clear HPM3 hB4 HB3
          have hl5 := HSM1.out.1
          go_wp2_with fail
          go_loopw [9, 44] (fun nv i wr => ∃ (k N : Nat), k ≤ l.length ∧ i = .int .i64 k ∧ nv = .int .i64 N ∧ Hid (N = l.length + ((l.take k).flatMap Pg.bx).length) ∧ Hid (Below w.heap.size w wr)) (fun _ i _ => l.length - (intOf i).toNat)
          case atStart => exact ⟨0, l.length, by omega, rfl, rfl, by simp [Hid], HB4.out⟩
          case round =>
            obtain ⟨k, N, hk, rfl, rfl, HN, HB⟩ := hrel
            have hN : N ≤ 60 := by
              have h1 := HN.out
              have h2 := flat_le2 l k
              have h3 := flat_sm HSM1.out
              omega
            by_cases hlt : k < l.length
            · obtain ⟨p, b, off, q, hp, rfl, c0', c1', hq⟩ := HCC.out k hlt
              have hji : (k : Int) < (l.length : Int) := by omega
              have c0 := Below.keeps HB.out _ _ c0'
              have c1 := Below.keeps HB.out _ _ c1'
              obtain ⟨aq, kq, rfl, hlq, hmq, _⟩ := hq.open
              have HBA := hid (below_tr HB.out (below_al wr (.cells #[.int .i64 p.num, .slice aq p.bx.length kq] 34)))
              have HRC := hid (row_nw wr #[.int .i64 p.num, .slice aq p.bx.length kq] 34 rfl)
              have HN2 : Hid (N + p.bx.length = l.length + ((l.take (k + 1)).flatMap Pg.bx).length) := by
                have h1 := HN.out
                have h2 := len_flat2 l k p hp
                show _ = _
                omega
              have hpl : p.bx.length ≤ 10 := (HSM1.out.2 p (List.mem_of_getElem? hp)).1
              have pc1 := HRC.out.cell 1 rfl
              clear hp c0' c1' hq HN HB
              go_wp2_with fail
              go_roundw
              case rel => exact ⟨k + 1, N + p.bx.length, by omega, by go_num, by go_num, HN2.out, HBA.out⟩
              case measure => simp [intOf]; omega
            · have hji : ¬ (k : Int) < (l.length : Int) := by omega
              have HNN : Hid (N = (printL l).count 10) := by
                have h := HN.out
                rw [List.take_of_length_le (by omega)] at h
                show _ = _
                rw [lines_pages l HF1.out]; exact h
              have HBo := hid (below_tr HB.out (below_al wr (.cells #[.slice a1 l.length k1, .slice a2 m.length k2] 98)))
              have hrb := row_nw wr #[.slice a1 l.length k1, .slice a2 m.length k2] 22 rfl
              have HB1 := hid (below_tr HB.out (below_al wr (.cells #[.slice a1 l.length k1, .slice a2 m.length k2] 22)))
              have HCN := hid (concat2P wr.heap.size (.slice a1 l.length k1) (.slice a2 m.length k2) l m _ (hrb.cell 0 rfl) (hrb.cell 1 rfl) (HR.out.below HB1.out) (HS.out.below HB1.out) (by omega) (by have := HSM2.out.1; omega))
              clear HN hrb HBo
              go_wp2_with fail
              refine HCN.out.mono ?_
              rintro e w5 ⟨r5, rfl, hr5, hB5⟩
              have HB5 := hid (below_tr HB1.out hB5)
              have HLM := hid (first_app HF1.out HF2.out)
              have HSZ := hid (sz_first HLM.out)
              have HPB := hid (pprint_any (l ++ m) r5 w5 (HE _ HB5.out).out hr5 HSZ.out (by have h1 := HSM1.out.1; have h2 := HSM2.out.1; rw [List.length_append]; omega) (fun _ => by
                have h1 := print_small HSM1.out HF1.out
                have h2 := print_small HSM2.out HF2.out
                rw [print_app, List.length_append]; omega))
              unfold pprV at HPB
              rw [if_pos HLM.out, print_app, ← ba_app] at HPB
              have HPAR := hid (par_print HLM.out (by have h1 := HSM1.out.1; have h2 := HSM2.out.1; rw [List.length_append]; omega))
              rw [print_app, ← ba_app] at HPAR
              have HLS : Hid ((⟨(printL l).toArray⟩ : ByteArray).size ≤ 10000 ∧ (⟨(printL m).toArray⟩ : ByteArray).size ≤ 10000) := by
                have h1 := print_small HSM1.out HF1.out
                have h2 := print_small HSM2.out HF2.out
                exact ⟨by show (List.toArray _).size ≤ _; rw [List.size_toArray]; omega, by show (List.toArray _).size ≤ _; rw [List.size_toArray]; omega⟩
              have HCO := fun w' => hid (Tryd.strings_Count_one ⟨(printL l).toArray⟩ 10 w')
              have HCB : Hid (((Lib.countByte (⟨(printL l).toArray⟩ : ByteArray).data.toList 10 : Nat) : Int) = (N : Int)) := by
                show (((⟨(printL l).toArray⟩ : ByteArray).data.toList.count 10 : Nat) : Int) = (N : Int)
                rw [ba_list, ← HNN.out]
              rw [HCB.out] at HCO
              clear HNN HCB
              have hs1 := HLS.out.1
              have hs2 := HLS.out.2
              generalize (⟨(printL l).toArray⟩ : ByteArray) = S1 at *
              generalize (⟨(printL m).toArray⟩ : ByteArray) = S2 at *
              clear HCN hr5 hB5 HB1 HB HLS
              go_wp2_with fail
              refine HPB.out.mono ?_
              rintro e w6 ⟨rfl, hB6⟩
              have HB6 := hid (below_tr HB5.out hB6)
              have hsz : (S1 ++ S2).size ≤ 1000000 := by rw [ByteArray.size_append]; omega
              have HPS := hid (pparse_any (S1 ++ S2) mm w6 (HE _ HB6.out).out (HM _ HB6.out).out hsz)
              clear HPB hB6 HB5
              go_wp2_with fail
              refine HPS.out.mono ?_
              rintro e w7 ⟨v7, x7, rfl, hcase, hB7⟩
              rw [HPAR.out] at hcase
              obtain ⟨hrd, rfl⟩ : RdPg w7 v7 (l ++ m) ∧ x7 = 0 := by
                rcases hcase with ⟨ps, h1, h2, h3⟩ | ⟨h1, _⟩
                · cases h1; exact ⟨h2, h3⟩
                · cases h1
              have HB7 := hid (below_tr HB6.out hB7)
              have HRD := hid hrd
              obtain ⟨a7, k7, rfl, hl7, hm7, _⟩ := hrd.open
              have HRD2 : Hid (RdPg w7 (.slice a7 (l.length + m.length) k7) (l ++ m)) := by
                have h := HRD.out
                rw [List.length_append] at h; exact h
              have hbc := below_al w7 (.cells #[.slice a1 l.length k1, .slice a2 m.length k2] 22)
              have hrb := row_nw w7 #[.slice a1 l.length k1, .slice a2 m.length k2] 22 rfl
              have HB8 := hid (below_tr HB7.out hbc)
              have HCN := hid (concat2P w7.heap.size (.slice a1 l.length k1) (.slice a2 m.length k2) l m _ (hrb.cell 0 rfl) (hrb.cell 1 rfl) (HR.out.below HB8.out) (HS.out.below HB8.out) (by omega) (by have := HSM2.out.1; omega))
              have HRD8 := hid (HRD2.out.below hbc)
              clear hcase hrd hB7 HPS HB6 HPAR HRD HRD2 hrb hbc HB7
              go_wp2_with fail
              refine (HCO _).out.mono ?_
              rintro e w' ⟨rfl, rfl⟩
              clear HCO
              go_wp2_with fail
              refine HCN.out.mono ?_
              rintro e w9 ⟨r9, rfl, hr9, hB9⟩
              have HSA := hid (samePg_any _ _ (l ++ m) w9 (HRD8.out.below hB9) hr9)
              have HB9 := hid (below_tr HB8.out hB9)
              clear HCN hr9 hB9 HRD8 HB8
              go_wp2_with fail
              refine HSA.out.mono ?_
              rintro e wA ⟨rfl, hBA⟩
              have HBA := hid (below_tr HB9.out hBA)
              have HA := AW _ HBA.out
              clear HSA hBA HB9
              go_wp2_with fail
              refine HA.out.mono ?_
              rintro e wB ⟨rfl, hBB⟩
              go_wp2
              go_ret
              exact ⟨rfl, below_tr HBA.out hBB⟩
        · have hq : (firstP m == 0) = false := beq_eq_false_iff_ne.2 hf2
          simp only [if_pos hf1] at HPR
          simp only [if_neg hf2] at HPM
          clear hf1 hf2
          go_wp2_with fail
          refine HPR.out.mono ?_
          rintro e w3 ⟨rfl, hB3⟩
          have HPM3 := HPM _ hB3
          have HB3 := hid hB3
          clear HPR HPM hB3
          go_wp2_with fail
          refine HPM3.out.mono ?_
          rintro e w4 ⟨rfl, hB4⟩
          have HB4 := hid (below_tr HB3.out hB4)
          have HA := AW _ HB4.out
          clear HPM3 hB4 HB3
          go_wp2_with fail
          refine HA.out.mono ?_
          rintro e wB ⟨rfl, hBB⟩
          go_wp2
          go_ret
          exact ⟨rfl, below_tr HB4.out hBB⟩
      · have hq : (firstP l == 0) = false := beq_eq_false_iff_ne.2 hf1
        simp only [if_neg hf1] at HPR
        have HPM2 : Hid (∀ w', Below w.heap.size w w' → ∃ V x, Calls Tryd.prog 13 #[.slice a2 m.length k2] w' fun e w'' => e = .returned (.tuple #[.string V, .int .i64 x]) ∧ Below w'.heap.size w' w'') := fun w' h => by
          have h2 := (HPM w' h).out
          by_cases hf2 : firstP m = 0
          · rw [if_pos hf2] at h2; exact ⟨_, _, h2⟩
          · rw [if_neg hf2] at h2; exact ⟨_, _, h2⟩
        clear hf1 HPM
        go_wp2_with fail
        refine HPR.out.mono ?_
        rintro e w3 ⟨rfl, hB3⟩
        obtain ⟨V, x, hPM3⟩ := HPM2.out _ hB3
        have HPM3 := hid hPM3
        have HB3 := hid hB3
        clear HPR HPM2 hB3 hPM3
        go_wp2_with fail
        refine HPM3.out.mono ?_
        rintro e w4 ⟨rfl, hB4⟩
        have HB4 := hid (below_tr HB3.out hB4)
        have HA := AW _ HB4.out
        clear HPM3 hB4 HB3
        go_wp2_with fail
        refine HA.out.mono ?_
        rintro e wB ⟨rfl, hBB⟩
        go_wp2
        go_ret
        exact ⟨rfl, below_tr HB4.out hBB⟩
end Go.Proofs.YtkjapeafhcdnkaaDoor
