/-
  The law PagedescOverlaps: the walk.
-/
import Derived.Test.YtkjapeafhcdnkaaDoorAwk53
import Derived.Test.YtkjapeafhcdnkaaDoorGrt53
import Derived.Test.YtkjapeafhcdnkaaDoorRck53
import Derived.Test.YtkjapeafhcdnkaaDoorOvl
import Derived.Test.YtkjapeafhcdnkaaDoorEqI
import Derived.Test.YtkjapeafhcdnkaaDoorSame53
namespace Go.Proofs.YtkjapeafhcdnkaaDoor
open Go.RowKit

theorem meetB_iff (h : Int) (a b : Bx) : meetB h a b = true ↔ (max a.x b.x < a.x + a.wd ∧ max a.x b.x < b.x + b.wd ∧ max a.y b.y < a.y + h ∧ max a.y b.y < b.y + h) := by
  unfold meetB
  rw [Bool.and_eq_true, decide_eq_true_eq, decide_eq_true_eq]
  constructor <;> intro h <;> omega
theorem meetB_more {h g : Int} {a b : Bx} (hg : h ≤ g) (hm : meetB h a b = true) : meetB g a b = true := by
  rw [meetB_iff] at hm ⊢
  omega
theorem meetAt_more {h g : Int} {l : List Bx} {i j : Nat} (hg : h ≤ g) (hm : meetAt h l i j = true) : meetAt g l i j = true := by
  unfold meetAt at *
  cases h1 : l[i]? with
  | none => rw [h1] at hm; cases hm
  | some a =>
    cases h2 : l[j]? with
    | none => rw [h1, h2] at hm; cases hm
    | some b => rw [h1, h2] at hm; exact meetB_more hg hm
theorem ovRow_more {h g : Int} {l : List Bx} {i : Nat} (hg : h ≤ g) (q : Nat × Nat) : ∀ m, q ∈ ovRow h l i m → q ∈ ovRow g l i m
  | 0, hq => by cases hq
  | m + 1, hq => by
    rw [ovRow, List.mem_append] at hq ⊢
    rcases hq with hq | hq
    · exact .inl (ovRow_more hg q m hq)
    · right
      by_cases hm : meetAt h l i (i + 1 + m) = true
      · rw [if_pos hm] at hq
        rw [if_pos (meetAt_more hg hm)]; exact hq
      · rw [if_neg hm] at hq; cases hq
theorem ovAll_more {h g : Int} {l : List Bx} (hg : h ≤ g) (q : Nat × Nat) : ∀ k, q ∈ ovAll h l k → q ∈ ovAll g l k
  | 0, hq => by cases hq
  | k + 1, hq => by
    rw [ovAll, List.mem_append] at hq ⊢
    exact hq.imp (ovAll_more hg q k) (ovRow_more hg q _)
theorem rdP_row {W : World} {v : Value} {l : List (Nat × Nat)} (h : RdP W v l) : ∃ a cap, v = .slice a l.length cap := by
  obtain ⟨a, cap, e, _⟩ := h
  exact ⟨a, cap, e⟩

set_option maxRecDepth 100000 in
set_option maxHeartbeats 4000000 in
theorem poverlaps_any (p : Pg) (v : Value) (ht more m : Int) (w : World) (he : Env w) (hm : w.cell? ⟨0, 0, none⟩ = some (.int .i64 m)) (hr : RdB w v p.bx) (hz : SzB p.bx) (hh1 : 0 ≤ ht) (hh2 : ht ≤ 65535) (hm1 : 0 ≤ more) (hm2 : more ≤ 255) :
    Calls Tryd.prog 7 #[.agg #[.int .i64 p.num, v], .int .u16 ht, .int .u8 more] w fun e w' => e = .returned (.bool true) ∧ Below w.heap.size w w' := by
  have AW := fun w' (h : Below w.heap.size w w') => hid (awake53_any m w' (he.below h) (Below.keeps h _ _ hm))
  have hb1 := below_al w (.cells #[.int .i64 p.num, v] 34)
  have hro := hid (row_nw w #[.int .i64 p.num, v] 34 rfl)
  obtain ⟨ad, cap, rfl, hlc, hcm, hcell⟩ := hr.open
  have HCE := hid hcell
  have hb2 := below_tr hb1 (below_al (w.alloc (.cells #[.int .i64 p.num, .slice ad p.bx.length cap] 34)) (.cells #[.int .i64 p.num, .slice ad p.bx.length cap] 34))
  have hrg : Row _ (w.heap.size + 1) #[.int .i64 p.num, .slice ad p.bx.length cap] 34 := row_nw (w.alloc (.cells #[.int .i64 p.num, .slice ad p.bx.length cap] 34)) #[.int .i64 p.num, .slice ad p.bx.length cap] 34 (by simp)
  have HRG := hid hrg
  have HCK := fun w' (h : Below w.heap.size w w') => hid (rpcheck_any p _ w' (hr.below h) hz)
  have hro2 := hid (hro.out.al (.cells #[.int .i64 p.num, .slice ad p.bx.length cap] 34))
  have HR := hid hr
  clear hrg he hm hcell hro hr
  go_enter Tryd.func7, Tryd.ntmps7
  go_wp2_with fail
  generalize (w.alloc (.cells #[.int .i64 p.num, .slice ad p.bx.length cap] 34)).alloc (.cells #[.int .i64 p.num, .slice ad p.bx.length cap] 34) = w1 at *
  have hpg : RdPg w1 (.slice (some ⟨w.heap.size + 1, 0, none⟩) 1 1) [p] := rdPg_one (HRG.out.cell 0 rfl) (HRG.out.cell 1 rfl) (HR.out.below hb2)
  have HGR := great53_any _ [p] w1 hpg (fun q hq => by
    have : q = p := by simpa using hq
    rw [this]; exact hz)
  refine HGR.mono ?_
  clear HGR
  rintro e w2 ⟨⟨b, rfl, _⟩, rfl⟩
  have p0 := hro2.out.cell 0 rfl
  have p1 := hro2.out.cell 1 rfl
  cases b with
  | true =>
    go_wp2_with fail
    refine (AW _ hb2).out.mono ?_
    rintro e w3 ⟨rfl, hB3⟩
    go_wp2
    go_ret
    exact ⟨rfl, below_tr hb2 hB3⟩
  | false =>
    have HC := HCK _ hb2
    go_wp2_with fail
    refine HC.out.mono ?_
    rintro e w3 ⟨rfl, hB3⟩
    have hb3 := below_tr hb2 hB3
    have hro3 := hid (hro2.out.below hB3)
    clear HC HCK p0 p1 hro2 hb1 hb2 hB3 HRG hpg
    have p0 := hro3.out.cell 0 rfl
    have p1 := hro3.out.cell 1 rfl
    by_cases hg : pgI p = 0
    · have hq : (pgI p != 0) = false := by simp [hg]
      have hl4 := (pg_good hg).2.2.1
      have hc1 : IntKind.i64.wrap ht = ht := IntWalk.i64_in _ (by omega)
      have hc2 : IntKind.i64.wrap more = more := IntWalk.i64_in _ (by omega)
      have hc3 : IntKind.i64.wrap (ht + more) = ht + more := IntWalk.i64_in _ (by omega)
      have hh : lenB ht = true := by unfold lenB; simp; omega
      have hhm : lenB (ht + more) = true := by unfold lenB; simp; omega
      have HOV := hid (overlap_yes p _ ht w3 (HR.out.below hb3) hz hg hh)
      have HGP := hid (pg_good hg).2.2.2
      have HGG := hid hg
      clear hg hh
      go_wp2_with fail
      refine HOV.out.mono ?_
      rintro e w4 ⟨u4, rfl, hru4, hB4⟩
      have hb4 := below_tr hb3 hB4
      have hro4 := hid (hro3.out.below hB4)
      have HOV2 := hid (overlap_yes p _ (ht + more) w4 (HR.out.below hb4) hz HGG.out hhm)
      clear HOV p0 p1 hro3 hb3 hB4 hhm
      have p0 := hro4.out.cell 0 rfl
      have p1 := hro4.out.cell 1 rfl
      go_wp2_with fail
      refine HOV2.out.mono ?_
      rintro e w5 ⟨u5, rfl, hru5, hB5⟩
      have hb5 := hid (below_tr hb4 hB5)
      have hro5 := hid (hro4.out.below hB5)
      have HU4 := hid (hru4.below hB5)
      have HU5 := hid hru5
      clear HOV2 p0 p1 hro4 hb4 hru4 hru5 hB5
      have p1 := hro5.out.cell 1 rfl
      have hszw : w.heap.size < w5.heap.size := hro5.out.lt
      go_wp2_with fail
      go_loopw [12, 56] (fun va i wr => ∃ (k : Nat), k ≤ p.bx.length ∧ i = .int .i64 k ∧ Hid (PrI wr w5.heap.size va (ovAll ht p.bx k)) ∧ Hid (Below w5.heap.size w5 wr)) (fun _ i _ => p.bx.length - (intOf i).toNat)
      case atStart => exact ⟨0, Nat.zero_le _, rfl, PrI.nil _ _, Below.refl _ _⟩
      case round =>
        obtain ⟨k, hk, rfl, HP, HB⟩ := hrel
        by_cases hlt : k < p.bx.length
        · obtain ⟨x, bb, o, hx, rfl, d0, d1, d2, d3, d4, d5⟩ := HCE.out k hlt
          have hki : (k : Int) < (p.bx.length : Int) := by omega
          have hbw := below_tr hb5.out HB.out
          have e0 := Below.keeps hbw _ _ d0
          have e1 := Below.keeps hbw _ _ d1
          have e2 := Below.keeps hbw _ _ d2
          have e3 := Below.keeps hbw _ _ d3
          have e4 := Below.keeps hbw _ _ d4
          have e5 := Below.keeps hbw _ _ d5
          obtain ⟨_, _, i1, i2, i5, i6, i3, i4, _⟩ := bx_good (HGP.out x (List.mem_of_getElem? hx))
          have HX := hid hx
          have hb6 := hid (below_tr HB.out (below_al wr (.cells x.cells 42)))
          have q0 := hid (row_nw wr x.cells 42 rfl)
          have HP2 := hid (HP.out.below (below_al wr (.cells x.cells 42)))
          have hro6 := hid (hro5.out.below hb6.out)
          have pg2 := hro6.out.cell 1 rfl
          have pg1 := (hro5.out.below HB.out).cell 1 rfl
          unfold Bx.cells at q0 hb6 HP2 hro6 pg2
          clear d0 d1 d2 d3 d4 d5 hx HP HB hbw p1
          go_wp2_with fail
          generalize wr.alloc (.cells #[.int .i64 x.kind, .int .i64 x.x, .int .i64 x.y, .int .i64 x.wd, .int .i64 x.blk, .string x.text] 42) = w6 at *
          generalize wr.heap.size = A at *
          clear e0 e1 e2 e3 e4 e5 pg2 pg1
          go_loopw [12, 64] (fun va i wi => ∃ (j : Nat), j ≤ p.bx.length ∧ i = .int .i64 j ∧ Hid (PrI wi w5.heap.size va (ovTo ht p.bx k (j - (k + 1)))) ∧ Hid (Row wi A #[.int .i64 x.kind, .int .i64 x.x, .int .i64 x.y, .int .i64 x.wd, .int .i64 x.blk, .string x.text] 42) ∧ Hid (Below w5.heap.size w5 wi)) (fun _ i _ => p.bx.length - (intOf i).toNat)
          case atStart => exact ⟨0, Nat.zero_le _, rfl, by rw [Nat.zero_sub, ovTo_zero]; exact HP2.out, q0.out, hb6.out⟩
          case round =>
            obtain ⟨j, hj, rfl, HP3, HQ3, HB3⟩ := hrel
            by_cases hjt : j < p.bx.length
            · obtain ⟨y, b', o', hy, he, d0, d1, d2, d3, d4, d5⟩ := HCE.out j hjt
              cases he
              have hji : (j : Int) < (p.bx.length : Int) := by omega
              have hbw := below_tr hb5.out HB3.out
              have e0 := Below.keeps hbw _ _ d0
              have e1 := Below.keeps hbw _ _ d1
              have e2 := Below.keeps hbw _ _ d2
              have e3 := Below.keeps hbw _ _ d3
              have e4 := Below.keeps hbw _ _ d4
              have e5 := Below.keeps hbw _ _ d5
              obtain ⟨_, _, y1, y2, y5, y6, y3, y4, _⟩ := bx_good (HGP.out y (List.mem_of_getElem? hy))
              have HYES : Hid (k < j → meetB ht x y = true → ovTo ht p.bx k (j + 1 - (k + 1)) = ovTo ht p.bx k (j - (k + 1)) ++ [(k, j)]) := fun hkj hm => by
                have h := ovTo_yes (h := ht) (k := k) (m := j - (k + 1)) HX.out (by rw [show k + 1 + (j - (k + 1)) = j by omega]; exact hy) hm
                rw [show k + 1 + (j - (k + 1)) = j by omega] at h
                rw [show j + 1 - (k + 1) = j - (k + 1) + 1 by omega]; exact h
              have HNO : Hid ((¬ k < j ∨ meetB ht x y = false) → ovTo ht p.bx k (j + 1 - (k + 1)) = ovTo ht p.bx k (j - (k + 1))) := fun hor => by
                by_cases hkj : k < j
                · have hm := hor.resolve_left (fun h => h hkj)
                  have h := ovTo_no (h := ht) (k := k) (m := j - (k + 1)) HX.out (by rw [show k + 1 + (j - (k + 1)) = j by omega]; exact hy) hm
                  rw [show j + 1 - (k + 1) = j - (k + 1) + 1 by omega]; exact h
                · rw [show j + 1 - (k + 1) = j - (k + 1) by omega]
              have HLEN := hid (ovTo_len ht p.bx k (j - (k + 1)) hl4 hk (by omega))
              have HM := hid (meetB_iff ht x y)
              have hb7 := hid (below_tr HB3.out (below_al wr (.cells y.cells 42)))
              have q7 := hid (row_nw wr y.cells 42 rfl)
              have HP7 := hid (HP3.out.below (below_al wr (.cells y.cells 42)))
              have HQ7 := hid (HQ3.out.al (.cells y.cells 42))
              unfold Bx.cells at q7 hb7 HP7 HQ7
              clear d0 d1 d2 d3 d4 d5 hy HP3 HQ3 HB3 hbw
              go_wp2_with fail
              generalize wr.alloc (.cells #[.int .i64 y.kind, .int .i64 y.x, .int .i64 y.y, .int .i64 y.wd, .int .i64 y.blk, .string y.text] 42) = w7 at *
              generalize wr.heap.size = Q at *
              have x1 := HQ7.out.cell 1 rfl
              have x2 := HQ7.out.cell 2 rfl
              have z1 := q7.out.cell 1 rfl
              have z2 := q7.out.cell 2 rfl
              clear e0 e1 e2 e3 e4 e5
              go_quiet (fail)
              have hb8 := hid (below_drewN hb7.out nq)
              have q8 := hid (q7.out.below (below_drewN (Below.refl _ _) nq))
              have HP8 := hid (HP7.out.below (below_drewN (Below.refl _ _) nq))
              have HQ8 := hid (HQ7.out.below (below_drewN (Below.refl _ _) nq))
              clear x1 x2 z1 z2 hb7 q7 HP7 HQ7 q0 hb6 HP2 hro6
              generalize w7.drewN nq = w8 at *
              have x1 := HQ8.out.cell 1 rfl
              have x2 := HQ8.out.cell 2 rfl
              have x3 := HQ8.out.cell 3 rfl
              have z1 := q8.out.cell 1 rfl
              have z2 := q8.out.cell 2 rfl
              have z3 := q8.out.cell 3 rfl
              by_cases g0 : k < j
              · have g0i : (k : Int) < (j : Int) := by omega
                by_cases g1 : max x.x y.x < x.x + x.wd
                · by_cases g2 : max x.x y.x < y.x + y.wd
                  · by_cases g3 : max x.y y.y < x.y + ht
                    · by_cases g4 : max x.y y.y < y.y + ht
                      · have HY := hid (HYES.out g0 (HM.out.2 ⟨g1, g2, g3, g4⟩))
                        clear HYES HNO HM
                        obtain ⟨vs, hown, htw⟩ := HP8.out.ex
                        have hbs : w5.heap.size ≤ w8.heap.size := hb8.out.size
                        have HPU := fun v' w9 a b => hid (PrI.push (x := (k, j)) (y := (k : Int)) (z := (j : Int)) (v' := v') (w1 := w9) rfl rfl hbs hown htw a b)
                        have HO1 := hid (own_belowT hown (below_al w8 (.cells #[.int .i64 (k : Int), .int .i64 (j : Int)] 3)))
                        have hlen := HLEN.out
                        clear hown htw
                        go_wp2_with (at_builtin; refine wpList_ap rfl _ _ 50 rfl w5.heap.size 53 Tryd.underlying50 infoSlT rfl (by decide) (by decide) _ _ vs rfl HO1.out [.slice (some ⟨w8.heap.size, 0, none⟩) 2 2] rfl (by simp [Value.oneCell']) rfl (by simp) (by omega) (by simp; omega) ?_; intro v' w9 hown2 hb2 hg2)
                        have HP9 := hid (HPU _ _ hown2 hg2).out
                        rw [← HY.out] at HP9
                        have HQ9 : Hid (Row w9 A #[.int .i64 x.kind, .int .i64 x.x, .int .i64 x.y, .int .i64 x.wd, .int .i64 x.blk, .string x.text] 42) := by
                          refine (hg2.block A (by have := HQ8.out.lt; simp; omega) (fun e => ?_)).trans (HQ8.out.al _)
                          obtain ⟨c1, f1, a1⟩ := Lib.ownsRow_kind HO1.out A e.symm
                          have h9 : (w8.alloc _).heap[A]? = _ := HQ8.out.al (.cells #[.int .i64 (k : Int), .int .i64 (j : Int)] 3)
                          rw [a1] at h9; cases h9
                        have HB9 := hid (hb8.out.trans ((below_al w8 (.cells #[.int .i64 (k : Int), .int .i64 (j : Int)] 3)).mono hbs |>.trans hb2))
                        clear HPU HO1 HY hown2 hg2 hb2 HP8 HQ8 hb8
                        go_wp2_with fail
                        go_roundw
                        case rel => exact ⟨j + 1, by omega, by go_num, HP9.out, HQ9.out, HB9.out⟩
                        case measure => simp [intOf]; omega
                      · have HN := hid (HNO.out (.inr (by cases hmm : meetB ht x y with | false => rfl | true => exact absurd (HM.out.1 hmm).2.2.2 g4)))
                        clear HYES HNO HM
                        rw [← HN.out] at HP8
                        clear HN
                        go_wp2_with fail
                        go_roundw
                        case rel => exact ⟨j + 1, by omega, by go_num, HP8.out, HQ8.out, hb8.out⟩
                        case measure => simp [intOf]; omega
                    · have HN := hid (HNO.out (.inr (by cases hmm : meetB ht x y with | false => rfl | true => exact absurd (HM.out.1 hmm).2.2.1 g3)))
                      clear HYES HNO HM
                      rw [← HN.out] at HP8
                      clear HN
                      go_wp2_with fail
                      go_roundw
                      case rel => exact ⟨j + 1, by omega, by go_num, HP8.out, HQ8.out, hb8.out⟩
                      case measure => simp [intOf]; omega
                  · have HN := hid (HNO.out (.inr (by cases hmm : meetB ht x y with | false => rfl | true => exact absurd (HM.out.1 hmm).2.1 g2)))
                    clear HYES HNO HM
                    rw [← HN.out] at HP8
                    clear HN
                    go_wp2_with fail
                    go_roundw
                    case rel => exact ⟨j + 1, by omega, by go_num, HP8.out, HQ8.out, hb8.out⟩
                    case measure => simp [intOf]; omega
                · have HN := hid (HNO.out (.inr (by cases hmm : meetB ht x y with | false => rfl | true => exact absurd (HM.out.1 hmm).1 g1)))
                  clear HYES HNO HM
                  rw [← HN.out] at HP8
                  clear HN
                  go_wp2_with fail
                  go_roundw
                  case rel => exact ⟨j + 1, by omega, by go_num, HP8.out, HQ8.out, hb8.out⟩
                  case measure => simp [intOf]; omega
              · have g0i : ¬ (k : Int) < (j : Int) := by omega
                have HN := hid (HNO.out (.inl g0))
                clear HYES HNO HM
                rw [← HN.out] at HP8
                clear HN
                go_wp2_with fail
                go_roundw
                case rel => exact ⟨j + 1, by omega, by go_num, HP8.out, HQ8.out, hb8.out⟩
                case measure => simp [intOf]; omega
            · have hji : ¬ (j : Int) < (p.bx.length : Int) := by omega
              have hje : j = p.bx.length := by omega
              rw [hje, ovTo_end] at HP3
              clear hje
              go_wp2_with fail
              go_roundw
              case rel => exact ⟨k + 1, by omega, by go_num, HP3.out, HB3.out⟩
              case measure => simp [intOf]; omega
        · have hki : ¬ (k : Int) < (p.bx.length : Int) := by omega
          have hkl : k = p.bx.length := by omega
          have HRD := hid HP.out.rd
          rw [hkl] at HRD
          clear hkl
          have HTT := hid (sameT_any _ _ _ wr (HU4.out.below HB.out) HRD.out)
          have hbr := hid (below_tr hb5.out HB.out)
          have HW4 := hid (HU4.out.below HB.out)
          have HW5 := hid (HU5.out.below HB.out)
          clear HP HB HU4 HU5 HRD p1 hro5
          go_wp2_with fail
          refine HTT.out.mono ?_
          rintro e w6 ⟨rfl, hB6⟩
          have hb6 := hid (below_tr hbr.out hB6)
          have HX4 := hid (HW4.out.below hB6)
          have HX5 := hid (HW5.out.below hB6)
          clear HTT HW4 HW5 hB6 hbr
          have HMO : Hid (∀ q : Nat × Nat, q ∈ ovAll ht p.bx p.bx.length → (ovAll (ht + more) p.bx p.bx.length).any (fun x => decide (x = q)) = true) := fun q hq =>
            List.any_eq_true.2 ⟨q, ovAll_more (by omega) q _ hq, by simp⟩
          have HLL : Hid ((ovAll ht p.bx p.bx.length).length ≤ 20000000) := by
            have h := ovTo_len ht p.bx p.bx.length 0 hl4 (Nat.le_refl _) (Nat.zero_le _)
            rw [ovTo_zero] at h; exact h
          generalize ovAll ht p.bx p.bx.length = L at *
          generalize ovAll (ht + more) p.bx p.bx.length = L2 at *
          obtain ⟨a4, k4, rfl, hlc4, hcm4, hcell4⟩ := HX4.out.open
          have HC4 := hid hcell4
          clear hcell4
          have hLL := HLL.out
          go_wp2_with fail
          obtain ⟨wo, rfl⟩ : ∃ wo : World, wo = wr := ⟨_, rfl⟩
          go_loopw [130] (fun i wi => ∃ (j : Nat), j ≤ L.length ∧ i = .int .i64 j ∧ Hid (Below w6.heap.size w6 wi)) (fun i _ => L.length - (intOf i).toNat)
          case atStart => exact ⟨0, Nat.zero_le _, rfl, Below.refl _ _⟩
          case round =>
            obtain ⟨j, hj, rfl, HB7⟩ := hrel
            by_cases hjt : j < L.length
            · obtain ⟨q, b4, o4, r4, hq4, rfl, d0, d1, d2⟩ := HC4.out j hjt
              have hji : (j : Int) < (L.length : Int) := by omega
              have e0 := Below.keeps HB7.out _ _ d0
              have hb8 := below_tr HB7.out (below_al wr (.cells #[.slice (some ⟨r4, 0, none⟩) 2 2] 53))
              have hrC := row_nw wr #[.slice (some ⟨r4, 0, none⟩) 2 2] 53 rfl
              have HCT := hid (containsOv_any _ _ q r4 wr.heap.size _ (HX5.out.below hb8) (Below.keeps hb8 _ _ d1) (Below.keeps hb8 _ _ d2) (hrC.cell 0 rfl))
              rw [HMO.out q (List.mem_of_getElem? hq4)] at HCT
              have HB8 := hid hb8
              clear hq4 d0 d1 d2 hb8 hrC HB7
              go_wp2_with fail
              refine HCT.out.mono ?_
              rintro e w9 ⟨rfl, hB9⟩
              have HB9 := hid (below_tr HB8.out hB9)
              clear HCT HB8 hB9 e0
              go_wp2_with fail
              go_roundw
              case rel => exact ⟨j + 1, by omega, by go_num, HB9.out⟩
              case measure => simp [intOf]; omega
            · have hji : ¬ (j : Int) < (L.length : Int) := by omega
              have HA := AW _ (below_tr hb6.out HB7.out)
              have HBA := hid (below_tr hb6.out HB7.out)
              go_wp2_with fail
              refine HA.out.mono ?_
              rintro e w9 ⟨rfl, hB9⟩
              go_wp2
              go_ret
              exact ⟨rfl, below_tr HBA.out hB9⟩
    · have hq : (pgI p != 0) = true := by simpa using hg
      go_wp2_with fail
      refine (AW _ hb3).out.mono ?_
      rintro e w4 ⟨rfl, hB4⟩
      go_wp2
      go_ret
      exact ⟨rfl, below_tr hb3 hB4⟩
end Go.Proofs.YtkjapeafhcdnkaaDoor
