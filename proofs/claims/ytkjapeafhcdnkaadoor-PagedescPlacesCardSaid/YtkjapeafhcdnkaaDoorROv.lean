/-
  The reference's meet and Overlap.
-/
import Derived.Test.YtkjapeafhcdnkaaDoorTwo
import Derived.Test.YtkjapeafhcdnkaaDoorBnd53
import Derived.Test.YtkjapeafhcdnkaaDoorRck53
import Derived.Deep.QuietTactic
import Derived.Deep.RegionHeld3
import Derived.BigQuiet
import Derived.IntWalk
namespace Go.Proofs.YtkjapeafhcdnkaaDoor
open Go.RowKit

theorem rmeet_any (a n b m : Int) (w : World) (ha : 0 ≤ a) (ha2 : a ≤ 1073741824) (hn : 0 ≤ n) (hn2 : n ≤ 1073741824) (hb : 0 ≤ b) (hb2 : b ≤ 1073741824) (hm : 0 ≤ m) (hm2 : m ≤ 1073741824) :
    Calls Tryd.prog 67 #[.int .i64 a, .int .i64 n, .int .i64 b, .int .i64 m] w fun e w' => e = .returned (.bool (decide (max a b < min (a + n) (b + m)))) ∧ w = w' := by
  go_enter Tryd.func67, Tryd.ntmps67
  go_wp2
  go_ret
  exact ⟨rfl, rfl⟩
theorem meetB_ref (h : Int) (a b : Bx) : meetB h a b = (decide (max a.x b.x < min (a.x + a.wd) (b.x + b.wd)) && decide (max a.y b.y < min (a.y + h) (b.y + h))) := by
  unfold meetB
  congr 1
  exact decide_eq_decide.2 (by omega)
theorem PrI.made (w : World) {base : Nat} (hb : base ≤ w.heap.size) : PrI (w.alloc (.cells #[] 53)) base (.slice (some ⟨w.heap.size, 0, none⟩) 0 0) [] :=
  ⟨⟨[], World.ownsRow_made w #[] 0 hb (Nat.zero_le _) rfl, fun i p h => by simp at h⟩⟩

set_option maxRecDepth 100000 in
set_option maxHeartbeats 4000000 in
theorem roverlap_yes (p : Pg) (v : Value) (h : Int) (w : World) (hr : RdB w v p.bx) (hz : SzB p.bx) (hg : pgI p = 0) (hh : lenB h = true) :
    Calls Tryd.prog 38 #[.agg #[.int .i64 p.num, v], .int .i64 h] w fun e w' => ∃ u, e = .returned (.tuple #[u, .int .i64 0]) ∧ RdP w' u (ovAll h p.bx p.bx.length) ∧ Below w.heap.size w w' := by
  have HG := hid (pg_good hg).2.2.2
  have hl4 := (pg_good hg).2.2.1
  have hh1 : 0 ≤ h ∧ h ≤ 1073741824 := by unfold lenB at hh; simpa using hh
  have HLN := fun w' => hid (rlength_any h w')
  rw [hh] at HLN
  obtain ⟨num, l⟩ := p
  simp only at hr hz HG hl4 ⊢
  have hb0 := below_al w (.cells #[.int .i64 num, v] 34)
  have hro := row_nw w #[.int .i64 num, v] 34 rfl
  have HCK := hid (rpcheck_any ⟨num, l⟩ v _ (hr.below hb0) hz)
  rw [hg] at HCK
  obtain ⟨ad, cap, rfl, hlc, hcm, hcell⟩ := (hr.below hb0).open
  have HC := hid hcell
  have HRO := hid hro
  obtain ⟨hh2, hh3⟩ := hh1
  clear hcell hr hro hg hh
  go_enter Tryd.func38, Tryd.ntmps38
  go_wp2_with fail
  generalize w.alloc (.cells #[.int .i64 num, .slice ad l.length cap] 34) = w0 at *
  refine HCK.out.mono ?_
  rintro e w1 ⟨rfl, hB1⟩
  have HB1 := hid (below_tr hB1 (below_al w1 (.cells #[] 53)))
  have HP1 := hid (PrI.made w1 hB1.size)
  clear HCK hB1
  go_wp2_with (go_at_call 53; refine (HLN _).out.mono ?_; rintro e w' ⟨rfl, rfl⟩)
  generalize w1.alloc (.cells #[] 53) = w2 at *
  go_loopw [6, 7] (fun va i wr => ∃ (k : Nat), k ≤ l.length ∧ i = .int .i64 k ∧ Hid (PrI wr w0.heap.size va (ovAll h l k)) ∧ Hid (Below w0.heap.size w0 wr)) (fun _ i _ => l.length - (intOf i).toNat)
  case atStart => exact ⟨0, Nat.zero_le _, rfl, HP1.out, HB1.out⟩
  case round =>
    obtain ⟨k, hk, rfl, HP, HB⟩ := hrel
    have pg1 := (HRO.out.below HB.out).cell 1 rfl
    by_cases hlt : k < l.length
    · obtain ⟨x, b, o, hx, rfl, d0, d1, d2, d3, d4, d5⟩ := HC.out k hlt
      have hki : (k : Int) < (l.length : Int) := by omega
      obtain ⟨_, _, i1, i2, i5, i6, i3, i4, _⟩ := bx_good (HG.out x (List.mem_of_getElem? hx))
      have HX := hid hx
      have HD := hid (And.intro d0 (And.intro d1 (And.intro d2 (And.intro d3 (And.intro d4 d5)))))
      clear d0 d1 d2 d3 d4 d5 hx
      go_wp2_with fail
      clear pg1
      go_loopw [6, 8] (fun va i wi => ∃ (j : Nat), j ≤ l.length ∧ k + 1 ≤ j ∧ i = .int .i64 j ∧ Hid (PrI wi w0.heap.size va (ovTo h l k (j - (k + 1)))) ∧ Hid (Below w0.heap.size w0 wi)) (fun _ i _ => l.length - (intOf i).toNat)
      case atStart => exact ⟨k + 1, by omega, Nat.le_refl _, by go_num, by rw [Nat.sub_self, ovTo_zero]; exact HP.out, HB.out⟩
      case round =>
        obtain ⟨j, hj, hkj, rfl, HP3, HB3⟩ := hrel
        have pg1 := (HRO.out.below HB3.out).cell 1 rfl
        by_cases hjt : j < l.length
        · obtain ⟨y, b', o', hy, he, d0, d1, d2, d3, d4, d5⟩ := HC.out j hjt
          cases he
          have hji : (j : Int) < (l.length : Int) := by omega
          have hj0 : (0 : Int) ≤ (j : Int) := by omega
          have hk0 : (0 : Int) ≤ (k : Int) := by omega
          have e0 := Below.keeps HB3.out _ _ d0
          have e1 := Below.keeps HB3.out _ _ d1
          have e2 := Below.keeps HB3.out _ _ d2
          have e3 := Below.keeps HB3.out _ _ d3
          have e4 := Below.keeps HB3.out _ _ d4
          have e5 := Below.keeps HB3.out _ _ d5
          have a0 := Below.keeps HB3.out _ _ HD.out.1
          have a1 := Below.keeps HB3.out _ _ HD.out.2.1
          have a2 := Below.keeps HB3.out _ _ HD.out.2.2.1
          have a3 := Below.keeps HB3.out _ _ HD.out.2.2.2.1
          have a4 := Below.keeps HB3.out _ _ HD.out.2.2.2.2.1
          have a5 := Below.keeps HB3.out _ _ HD.out.2.2.2.2.2
          obtain ⟨_, _, y1, y2, y5, y6, y3, y4, _⟩ := bx_good (HG.out y (List.mem_of_getElem? hy))
          have HY := hid hy
          clear d0 d1 d2 d3 d4 d5 hy HP HB
          go_wp2_with fail
          go_region_held3 (fun w' => w'.cell? ⟨w.heap.size, 1, none⟩ = some (.slice (some ⟨b, o, none⟩) l.length cap) ∧ w'.cell? ⟨b, o + k * 6, none⟩ = some (.int .i64 x.kind) ∧ w'.cell? ⟨b, o + k * 6 + 1, none⟩ = some (.int .i64 x.x) ∧ w'.cell? ⟨b, o + k * 6 + 2, none⟩ = some (.int .i64 x.y) ∧ w'.cell? ⟨b, o + k * 6 + 3, none⟩ = some (.int .i64 x.wd) ∧ w'.cell? ⟨b, o + k * 6 + 4, none⟩ = some (.int .i64 x.blk) ∧ w'.cell? ⟨b, o + k * 6 + 5, none⟩ = some (.string x.text)
            ∧ w'.cell? ⟨b, o + j * 6, none⟩ = some (.int .i64 y.kind) ∧ w'.cell? ⟨b, o + j * 6 + 1, none⟩ = some (.int .i64 y.x) ∧ w'.cell? ⟨b, o + j * 6 + 2, none⟩ = some (.int .i64 y.y) ∧ w'.cell? ⟨b, o + j * 6 + 3, none⟩ = some (.int .i64 y.wd) ∧ w'.cell? ⟨b, o + j * 6 + 4, none⟩ = some (.int .i64 y.blk) ∧ w'.cell? ⟨b, o + j * 6 + 5, none⟩ = some (.string y.text)) (go_keep) (fail)
          all_goals go_split_ands
          · have HW6 : Hid (Below wr.heap.size wr (((wr.alloc (.cells #[.int .i64 x.kind, .int .i64 x.x, .int .i64 x.y, .int .i64 x.wd, .int .i64 x.blk, .string x.text] 42)).alloc (.cells #[.int .i64 y.kind, .int .i64 y.x, .int .i64 y.y, .int .i64 y.wd, .int .i64 y.blk, .string y.text] 42)).drew)) := (below_tr (below_al wr (.cells #[.int .i64 x.kind, .int .i64 x.x, .int .i64 x.y, .int .i64 x.wd, .int .i64 x.blk, .string x.text] 42)) (below_al _ (.cells #[.int .i64 y.kind, .int .i64 y.x, .int .i64 y.y, .int .i64 y.wd, .int .i64 y.blk, .string y.text] 42))).drew
            have HRP : Hid (Row (((wr.alloc (.cells #[.int .i64 x.kind, .int .i64 x.x, .int .i64 x.y, .int .i64 x.wd, .int .i64 x.blk, .string x.text] 42)).alloc (.cells #[.int .i64 y.kind, .int .i64 y.x, .int .i64 y.y, .int .i64 y.wd, .int .i64 y.blk, .string y.text] 42)).drew) wr.heap.size #[.int .i64 x.kind, .int .i64 x.x, .int .i64 x.y, .int .i64 x.wd, .int .i64 x.blk, .string x.text] 42) := (row_nw wr #[.int .i64 x.kind, .int .i64 x.x, .int .i64 x.y, .int .i64 x.wd, .int .i64 x.blk, .string x.text] 42 rfl).al (.cells #[.int .i64 y.kind, .int .i64 y.x, .int .i64 y.y, .int .i64 y.wd, .int .i64 y.blk, .string y.text] 42)
            have HRQ : Hid (Row (((wr.alloc (.cells #[.int .i64 x.kind, .int .i64 x.x, .int .i64 x.y, .int .i64 x.wd, .int .i64 x.blk, .string x.text] 42)).alloc (.cells #[.int .i64 y.kind, .int .i64 y.x, .int .i64 y.y, .int .i64 y.wd, .int .i64 y.blk, .string y.text] 42)).drew) (wr.heap.size + 1) #[.int .i64 y.kind, .int .i64 y.x, .int .i64 y.y, .int .i64 y.wd, .int .i64 y.blk, .string y.text] 42) := row_nw (wr.alloc (.cells #[.int .i64 x.kind, .int .i64 x.x, .int .i64 x.y, .int .i64 x.wd, .int .i64 x.blk, .string x.text] 42)) #[.int .i64 y.kind, .int .i64 y.x, .int .i64 y.y, .int .i64 y.wd, .int .i64 y.blk, .string y.text] 42 (by simp)
            have HP6 := hid (HP3.out.below HW6.out)
            have HB6 := hid (below_tr HB3.out HW6.out)
            clear HW6 HP3 HB3 e0 e1 e2 e3 e4 e5 a0 a1 a2 a3 a4 a5 pg1
            generalize (((wr.alloc (.cells #[.int .i64 x.kind, .int .i64 x.x, .int .i64 x.y, .int .i64 x.wd, .int .i64 x.blk, .string x.text] 42)).alloc (.cells #[.int .i64 y.kind, .int .i64 y.x, .int .i64 y.y, .int .i64 y.wd, .int .i64 y.blk, .string y.text] 42)).drew) = w6 at *
            generalize wr.heap.size + 1 = B at *
            generalize wr.heap.size = A at *
            have HRA := HRP
            have HRB := HRQ
            clear HRP HRQ
            have x1 := HRA.out.cell 1 rfl
            have x2 := HRA.out.cell 2 rfl
            have x3 := HRA.out.cell 3 rfl
            have z1 := HRB.out.cell 1 rfl
            have z2 := HRB.out.cell 2 rfl
            have z3 := HRB.out.cell 3 rfl
            have HM1 := hid (rmeet_any x.x x.wd y.x y.wd w6 (by omega) (by omega) (by omega) (by omega) (by omega) (by omega) (by omega) (by omega))
            have HM2 := hid (rmeet_any x.y h y.y h w6 (by omega) (by omega) (by omega) (by omega) (by omega) (by omega) (by omega) (by omega))
            have HYES : Hid (meetB h x y = true → ovTo h l k (j + 1 - (k + 1)) = ovTo h l k (j - (k + 1)) ++ [(k, j)]) := fun hm => by
              have h5 := ovTo_yes (h := h) (k := k) (m := j - (k + 1)) HX.out (by rw [show k + 1 + (j - (k + 1)) = j by omega]; exact HY.out) hm
              rw [show k + 1 + (j - (k + 1)) = j by omega] at h5
              rw [show j + 1 - (k + 1) = j - (k + 1) + 1 by omega]; exact h5
            have HNO : Hid (meetB h x y = false → ovTo h l k (j + 1 - (k + 1)) = ovTo h l k (j - (k + 1))) := fun hm => by
              have h5 := ovTo_no (h := h) (k := k) (m := j - (k + 1)) HX.out (by rw [show k + 1 + (j - (k + 1)) = j by omega]; exact HY.out) hm
              rw [show j + 1 - (k + 1) = j - (k + 1) + 1 by omega]; exact h5
            have HM := hid (meetB_ref h x y)
            have HLEN := hid (ovTo_len h l k (j - (k + 1)) hl4 hk (by omega))
            cases c1 : decide (max x.x y.x < min (x.x + x.wd) (y.x + y.wd)) with
            | false =>
              have HN := hid (HNO.out (by rw [HM.out, c1, Bool.false_and]))
              rw [c1] at HM1
              rw [← HN.out] at HP6
              clear HN HYES HNO HM HM2 c1
              go_wp2_with (go_at_call 67; refine HM1.out.mono ?_; rintro e w' ⟨rfl, rfl⟩)
              go_roundw
              case rel => exact ⟨j + 1, by omega, by omega, by go_num, HP6.out, HB6.out⟩
              case measure => simp [intOf]; omega
            | true =>
              cases c2 : decide (max x.y y.y < min (x.y + h) (y.y + h)) with
              | false =>
                have HN := hid (HNO.out (by rw [HM.out, c2, Bool.and_false]))
                rw [c1] at HM1
                rw [c2] at HM2
                rw [← HN.out] at HP6
                clear HN HYES HNO HM c1 c2
                go_wp2_with (go_at_call 67; first | (refine HM1.out.mono ?_; clear HM1; rintro e w' ⟨rfl, rfl⟩) | (refine HM2.out.mono ?_; rintro e w' ⟨rfl, rfl⟩))
                go_roundw
                case rel => exact ⟨j + 1, by omega, by omega, by go_num, HP6.out, HB6.out⟩
                case measure => simp [intOf]; omega
              | true =>
                have HYY := hid (HYES.out (by rw [HM.out, c1, c2]; rfl))
                rw [c1] at HM1
                rw [c2] at HM2
                clear HYES HNO HM c1 c2
                obtain ⟨vs, hown, htw⟩ := HP6.out.ex
                have hbs : w0.heap.size ≤ w6.heap.size := HB6.out.size
                have HPU := fun v' w9 a b => hid (PrI.push (x := (k, j)) (y := (k : Int)) (z := (j : Int)) (v' := v') (w1 := w9) rfl rfl hbs hown htw a b)
                have HO1 := hid (own_belowT hown (below_al w6 (.cells #[.int .i64 (k : Int), .int .i64 (j : Int)] 3)))
                have hlen := HLEN.out
                clear hown htw
                go_wp2_with (first | (go_at_call 67; first | (refine HM1.out.mono ?_; clear HM1; rintro e w' ⟨rfl, rfl⟩) | (refine HM2.out.mono ?_; rintro e w' ⟨rfl, rfl⟩)) | (at_builtin; refine wpList_ap rfl _ _ 50 rfl w0.heap.size 53 Tryd.underlying50 infoSlT rfl (by decide) (by decide) _ _ vs rfl HO1.out [.slice (some ⟨w6.heap.size, 0, none⟩) 2 2] rfl (by simp [Value.oneCell']) rfl (by simp) (by omega) (by simp; omega) ?_; intro v' w9 hown2 hb2 hg2))
                have HP9 := hid (HPU _ _ hown2 hg2).out
                rw [← HYY.out] at HP9
                have HB9 := hid (HB6.out.trans ((below_al w6 (.cells #[.int .i64 (k : Int), .int .i64 (j : Int)] 3)).mono hbs |>.trans hb2))
                clear HPU HO1 HYY hown2 hg2 hb2 HP6 HB6
                go_wp2_with fail
                go_roundw
                case rel => exact ⟨j + 1, by omega, by omega, by go_num, HP9.out, HB9.out⟩
                case measure => simp [intOf]; omega
          · have HW6 : Hid (Below wr.heap.size wr (((wr.alloc (.cells #[.int .i64 y.kind, .int .i64 y.x, .int .i64 y.y, .int .i64 y.wd, .int .i64 y.blk, .string y.text] 42)).alloc (.cells #[.int .i64 x.kind, .int .i64 x.x, .int .i64 x.y, .int .i64 x.wd, .int .i64 x.blk, .string x.text] 42)).drew)) := (below_tr (below_al wr (.cells #[.int .i64 y.kind, .int .i64 y.x, .int .i64 y.y, .int .i64 y.wd, .int .i64 y.blk, .string y.text] 42)) (below_al _ (.cells #[.int .i64 x.kind, .int .i64 x.x, .int .i64 x.y, .int .i64 x.wd, .int .i64 x.blk, .string x.text] 42))).drew
            have HRP : Hid (Row (((wr.alloc (.cells #[.int .i64 y.kind, .int .i64 y.x, .int .i64 y.y, .int .i64 y.wd, .int .i64 y.blk, .string y.text] 42)).alloc (.cells #[.int .i64 x.kind, .int .i64 x.x, .int .i64 x.y, .int .i64 x.wd, .int .i64 x.blk, .string x.text] 42)).drew) wr.heap.size #[.int .i64 y.kind, .int .i64 y.x, .int .i64 y.y, .int .i64 y.wd, .int .i64 y.blk, .string y.text] 42) := (row_nw wr #[.int .i64 y.kind, .int .i64 y.x, .int .i64 y.y, .int .i64 y.wd, .int .i64 y.blk, .string y.text] 42 rfl).al (.cells #[.int .i64 x.kind, .int .i64 x.x, .int .i64 x.y, .int .i64 x.wd, .int .i64 x.blk, .string x.text] 42)
            have HRQ : Hid (Row (((wr.alloc (.cells #[.int .i64 y.kind, .int .i64 y.x, .int .i64 y.y, .int .i64 y.wd, .int .i64 y.blk, .string y.text] 42)).alloc (.cells #[.int .i64 x.kind, .int .i64 x.x, .int .i64 x.y, .int .i64 x.wd, .int .i64 x.blk, .string x.text] 42)).drew) (wr.heap.size + 1) #[.int .i64 x.kind, .int .i64 x.x, .int .i64 x.y, .int .i64 x.wd, .int .i64 x.blk, .string x.text] 42) := row_nw (wr.alloc (.cells #[.int .i64 y.kind, .int .i64 y.x, .int .i64 y.y, .int .i64 y.wd, .int .i64 y.blk, .string y.text] 42)) #[.int .i64 x.kind, .int .i64 x.x, .int .i64 x.y, .int .i64 x.wd, .int .i64 x.blk, .string x.text] 42 (by simp)
            have HP6 := hid (HP3.out.below HW6.out)
            have HB6 := hid (below_tr HB3.out HW6.out)
            clear HW6 HP3 HB3 e0 e1 e2 e3 e4 e5 a0 a1 a2 a3 a4 a5 pg1
            generalize (((wr.alloc (.cells #[.int .i64 y.kind, .int .i64 y.x, .int .i64 y.y, .int .i64 y.wd, .int .i64 y.blk, .string y.text] 42)).alloc (.cells #[.int .i64 x.kind, .int .i64 x.x, .int .i64 x.y, .int .i64 x.wd, .int .i64 x.blk, .string x.text] 42)).drew) = w6 at *
            generalize wr.heap.size + 1 = A at *
            generalize wr.heap.size = B at *
            have HRA := HRQ
            have HRB := HRP
            clear HRP HRQ
            have x1 := HRA.out.cell 1 rfl
            have x2 := HRA.out.cell 2 rfl
            have x3 := HRA.out.cell 3 rfl
            have z1 := HRB.out.cell 1 rfl
            have z2 := HRB.out.cell 2 rfl
            have z3 := HRB.out.cell 3 rfl
            have HM1 := hid (rmeet_any x.x x.wd y.x y.wd w6 (by omega) (by omega) (by omega) (by omega) (by omega) (by omega) (by omega) (by omega))
            have HM2 := hid (rmeet_any x.y h y.y h w6 (by omega) (by omega) (by omega) (by omega) (by omega) (by omega) (by omega) (by omega))
            have HYES : Hid (meetB h x y = true → ovTo h l k (j + 1 - (k + 1)) = ovTo h l k (j - (k + 1)) ++ [(k, j)]) := fun hm => by
              have h5 := ovTo_yes (h := h) (k := k) (m := j - (k + 1)) HX.out (by rw [show k + 1 + (j - (k + 1)) = j by omega]; exact HY.out) hm
              rw [show k + 1 + (j - (k + 1)) = j by omega] at h5
              rw [show j + 1 - (k + 1) = j - (k + 1) + 1 by omega]; exact h5
            have HNO : Hid (meetB h x y = false → ovTo h l k (j + 1 - (k + 1)) = ovTo h l k (j - (k + 1))) := fun hm => by
              have h5 := ovTo_no (h := h) (k := k) (m := j - (k + 1)) HX.out (by rw [show k + 1 + (j - (k + 1)) = j by omega]; exact HY.out) hm
              rw [show j + 1 - (k + 1) = j - (k + 1) + 1 by omega]; exact h5
            have HM := hid (meetB_ref h x y)
            have HLEN := hid (ovTo_len h l k (j - (k + 1)) hl4 hk (by omega))
            cases c1 : decide (max x.x y.x < min (x.x + x.wd) (y.x + y.wd)) with
            | false =>
              have HN := hid (HNO.out (by rw [HM.out, c1, Bool.false_and]))
              rw [c1] at HM1
              rw [← HN.out] at HP6
              clear HN HYES HNO HM HM2 c1
              go_wp2_with (go_at_call 67; refine HM1.out.mono ?_; rintro e w' ⟨rfl, rfl⟩)
              go_roundw
              case rel => exact ⟨j + 1, by omega, by omega, by go_num, HP6.out, HB6.out⟩
              case measure => simp [intOf]; omega
            | true =>
              cases c2 : decide (max x.y y.y < min (x.y + h) (y.y + h)) with
              | false =>
                have HN := hid (HNO.out (by rw [HM.out, c2, Bool.and_false]))
                rw [c1] at HM1
                rw [c2] at HM2
                rw [← HN.out] at HP6
                clear HN HYES HNO HM c1 c2
                go_wp2_with (go_at_call 67; first | (refine HM1.out.mono ?_; clear HM1; rintro e w' ⟨rfl, rfl⟩) | (refine HM2.out.mono ?_; rintro e w' ⟨rfl, rfl⟩))
                go_roundw
                case rel => exact ⟨j + 1, by omega, by omega, by go_num, HP6.out, HB6.out⟩
                case measure => simp [intOf]; omega
              | true =>
                have HYY := hid (HYES.out (by rw [HM.out, c1, c2]; rfl))
                rw [c1] at HM1
                rw [c2] at HM2
                clear HYES HNO HM c1 c2
                obtain ⟨vs, hown, htw⟩ := HP6.out.ex
                have hbs : w0.heap.size ≤ w6.heap.size := HB6.out.size
                have HPU := fun v' w9 a b => hid (PrI.push (x := (k, j)) (y := (k : Int)) (z := (j : Int)) (v' := v') (w1 := w9) rfl rfl hbs hown htw a b)
                have HO1 := hid (own_belowT hown (below_al w6 (.cells #[.int .i64 (k : Int), .int .i64 (j : Int)] 3)))
                have hlen := HLEN.out
                clear hown htw
                go_wp2_with (first | (go_at_call 67; first | (refine HM1.out.mono ?_; clear HM1; rintro e w' ⟨rfl, rfl⟩) | (refine HM2.out.mono ?_; rintro e w' ⟨rfl, rfl⟩)) | (at_builtin; refine wpList_ap rfl _ _ 50 rfl w0.heap.size 53 Tryd.underlying50 infoSlT rfl (by decide) (by decide) _ _ vs rfl HO1.out [.slice (some ⟨w6.heap.size, 0, none⟩) 2 2] rfl (by simp [Value.oneCell']) rfl (by simp) (by omega) (by simp; omega) ?_; intro v' w9 hown2 hb2 hg2))
                have HP9 := hid (HPU _ _ hown2 hg2).out
                rw [← HYY.out] at HP9
                have HB9 := hid (HB6.out.trans ((below_al w6 (.cells #[.int .i64 (k : Int), .int .i64 (j : Int)] 3)).mono hbs |>.trans hb2))
                clear HPU HO1 HYY hown2 hg2 hb2 HP6 HB6
                go_wp2_with fail
                go_roundw
                case rel => exact ⟨j + 1, by omega, by omega, by go_num, HP9.out, HB9.out⟩
                case measure => simp [intOf]; omega
        · have hji : ¬ (j : Int) < (l.length : Int) := by omega
          have hje : j = l.length := by omega
          rw [hje, ovTo_end] at HP3
          clear hje
          go_wp2_with fail
          go_roundw
          case rel => exact ⟨k + 1, by omega, by go_num, HP3.out, HB3.out⟩
          case measure => simp [intOf]; omega
    · have hki : ¬ (k : Int) < (l.length : Int) := by omega
      have hkl : k = l.length := by omega
      have HRD := hid HP.out.rd
      rw [hkl] at HRD
      clear hkl
      go_wp2_with fail
      go_ret2
      exact ⟨_, rfl, HRD.out, below_tr hb0 HB.out⟩

set_option maxRecDepth 100000 in
set_option maxHeartbeats 1000000 in
theorem roverlap_bad (p : Pg) (v : Value) (h : Int) (w : World) (hr : RdB w v p.bx) (hz : SzB p.bx) (hg : pgI p ≠ 0) :
    Calls Tryd.prog 38 #[.agg #[.int .i64 p.num, v], .int .i64 h] w fun e w' => ∃ u, e = .returned (.tuple #[u, .int .i64 1]) ∧ RdP w' u [] ∧ Below w.heap.size w w' := by
  have hb0 := below_al w (.cells #[.int .i64 p.num, v] 34)
  have HCK := hid (rpcheck_any p v _ (hr.below hb0) hz)
  obtain ⟨ad, cap, rfl, hlc, hcm, hcell⟩ := (hr.below hb0).open
  have HLN := fun w' => hid (rlength_any h w')
  have hq : (pgI p != 0) = true := by simpa using hg
  clear hcell hr hg
  go_enter Tryd.func38, Tryd.ntmps38
  go_wp2_with fail
  generalize w.alloc (.cells #[.int .i64 p.num, .slice ad p.bx.length cap] 34) = w0 at *
  refine HCK.out.mono ?_
  rintro e w1 ⟨rfl, hB1⟩
  have HB1 := hid (below_tr (below_tr hb0 hB1) (below_al w1 (.cells #[] 53)))
  have HP1 := hid (PrI.made w1 (Nat.le_refl _)).rd
  go_wp2_with (go_at_call 53; refine (HLN _).out.mono ?_; rintro e w' ⟨rfl, rfl⟩)
  go_ret2
  exact ⟨_, rfl, HP1.out, HB1.out⟩

set_option maxRecDepth 100000 in
set_option maxHeartbeats 1000000 in
theorem roverlap_far (p : Pg) (v : Value) (h : Int) (w : World) (hr : RdB w v p.bx) (hz : SzB p.bx) (hg : pgI p = 0) (hh : lenB h = false) :
    Calls Tryd.prog 38 #[.agg #[.int .i64 p.num, v], .int .i64 h] w fun e w' => ∃ u, e = .returned (.tuple #[u, .int .i64 2]) ∧ RdP w' u [] ∧ Below w.heap.size w w' := by
  have hb0 := below_al w (.cells #[.int .i64 p.num, v] 34)
  have HCK := hid (rpcheck_any p v _ (hr.below hb0) hz)
  obtain ⟨ad, cap, rfl, hlc, hcm, hcell⟩ := (hr.below hb0).open
  have HLN := fun w' => hid (rlength_any h w')
  rw [hh] at HLN
  rw [hg] at HCK
  clear hcell hr hg
  go_enter Tryd.func38, Tryd.ntmps38
  go_wp2_with fail
  generalize w.alloc (.cells #[.int .i64 p.num, .slice ad p.bx.length cap] 34) = w0 at *
  refine HCK.out.mono ?_
  rintro e w1 ⟨rfl, hB1⟩
  have HB1 := hid (below_tr (below_tr hb0 hB1) (below_al w1 (.cells #[] 53)))
  have HP1 := hid (PrI.made w1 (Nat.le_refl _)).rd
  go_wp2_with (go_at_call 53; refine (HLN _).out.mono ?_; rintro e w' ⟨rfl, rfl⟩)
  go_ret2
  exact ⟨_, rfl, HP1.out, HB1.out⟩
end Go.Proofs.YtkjapeafhcdnkaaDoor
