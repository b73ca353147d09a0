/-
  The reference's Of and Find.
-/
import Derived.Test.YtjhdeoniafahbaaGreatDoorJ05
import Derived.Test.YtjhdeoniafahbaaGreatDoorRWrd
import Derived.Test.YtjhdeoniafahbaaGreatDoorROcc
namespace Go.Proofs.YtjhdeoniafahbaaGreatDoor
open Go.RowKit

/-- The result's cells, the lemma's cells while Of runs. -/
structure RoI (w : World) (B : Nat) (f l : ByteArray) (n : Int) (W : World) : Prop where
  res : Row W w.heap.size #[.string ⟨#[]⟩, .string ⟨#[]⟩, .int .i64 0] 28
  lem : Row W B #[.string f, .string l, .int .i64 n] 28
  bel : Below w.heap.size w W
  lo : w.heap.size + 1 ≤ B
theorem RoI.below {w W W' : World} {B : Nat} {f l : ByteArray} {n : Int} (h : RoI w B f l n W) (hb : Below W.heap.size W W') : RoI w B f l n W' :=
  ⟨h.res.below hb, h.lem.below hb, below_tr h.bel hb, h.lo⟩
theorem RoI.num {w W : World} {B : Nat} {f l : ByteArray} {n : Int} (h : RoI w B f l n W) (c : Int) : RoI w B f l c (W.setCell ⟨B, 2, none⟩ (.int .i64 c)) :=
  have hl := h.lo
  ⟨h.res.other _ _ (by simp; omega), h.lem.set 2 _, h.bel.setCell (p := ⟨B, 2, none⟩) (by simp; omega) _, hl⟩
theorem RoI.lst {w W : World} {B : Nat} {f l : ByteArray} {n : Int} (h : RoI w B f l n W) (c : ByteArray) : RoI w B f c n (W.setCell ⟨B, 1, none⟩ (.string c)) :=
  have hl := h.lo
  ⟨h.res.other _ _ (by simp; omega), h.lem.set 1 _, h.bel.setCell (p := ⟨B, 1, none⟩) (by simp; omega) _, hl⟩

set_option maxRecDepth 100000 in
set_option maxHeartbeats 4000000 in
theorem rof_any (ws : List ByteArray) (x y : Int) (v : Value) (w : World) (he : Env w) (hr : RdS w v ws) (hz : ∀ s ∈ ws, s.size ≤ 65536) (hlen : lcheckI ws = 0 → ws.length ≤ 13) :
    Calls Tryz.prog 41 #[v, .int .i64 x, .int .i64 y] w fun e w' => e = .returned (ofVal (ofRes ws x y)) ∧ Below w.heap.size w w' := by
  have HD : Hid (ofRes ws x y = if lcheckI ws ≠ 0 then (⟨#[]⟩, ⟨#[]⟩, 0, lcheckI ws) else if x < 0 ∨ y ≤ x ∨ (ws.length : Int) < y then (⟨#[]⟩, ⟨#[]⟩, 0, 2)
    else (ws.getD x.toNat ⟨#[]⟩, lastW ws x.toNat y.toNat, ((ofNum (occ ws (ws.getD x.toNat ⟨#[]⟩) (lastW ws x.toNat y.toNat)) (x.toNat, y.toNat - 1) : Nat) : Int), 0)) := rfl
  have HCK := fun w' (h : Below w.heap.size w w') => hid (rcheckW_any v ws w' (he.below h) (hr.below h) hz)
  have hb0 := below_al w (.cells #[.string ⟨#[]⟩, .string ⟨#[]⟩, .int .i64 0] 28)
  have hrr := row_nw w #[.string ⟨#[]⟩, .string ⟨#[]⟩, .int .i64 0] 28 rfl
  by_cases hck : lcheckI ws = 0
  · rw [hck] at HCK
    by_cases hb : x < 0 ∨ y ≤ x ∨ (ws.length : Int) < y
    · have HR : Hid (ofRes ws x y = (⟨#[]⟩, ⟨#[]⟩, 0, 2)) := by unfold Hid; rw [HD.out, if_neg (by omega), if_pos hb]
      obtain ⟨ad, cap, rfl, hlc, hcm, _⟩ := hr.open
      clear HD hck hr hz he hlen
      by_cases q1 : x < 0
      · clear hb
        go_enter Tryz.func41, Tryz.ntmps41
        go_wp2_with fail
        generalize w.alloc (.cells #[.string ⟨#[]⟩, .string ⟨#[]⟩, .int .i64 0] 28) = W1 at *
        refine (HCK _ hb0).out.mono ?_
        rintro e w2 ⟨rfl, hB1⟩
        have HB2 := hid (below_tr hb0 hB1)
        have HR2 := hid (hrr.below hB1)
        clear hrr hb0 hB1 HCK
        have r0 := HR2.out.cell 0 rfl
        have r1 := HR2.out.cell 1 rfl
        have r2 := HR2.out.cell 2 rfl
        have r3 := HR2.out.frozen 0
        have r4 := HR2.out.frozen 1
        have r5 := HR2.out.frozen 2
        have hR := ((HR2.out.set 0 (.string ⟨#[]⟩)).set 1 (.string ⟨#[]⟩)).set 2 (.int .i64 (0))
        have z0 := hR.cell 0 rfl
        have z1 := hR.cell 1 rfl
        have z2 := hR.cell 2 rfl
        have HBE := hid (((HB2.out.setCell (p := ⟨w.heap.size, 0, none⟩) (by simp) (.string ⟨#[]⟩)).setCell (p := ⟨w.heap.size, 1, none⟩) (by simp) (.string ⟨#[]⟩)).setCell (p := ⟨w.heap.size, 2, none⟩) (by simp) (.int .i64 (0)))
        clear hR
        clear HR2 HB2
        go_wp2_with fail
        exact bodyPost_ret (v := .tuple #[.agg #[.string ⟨#[]⟩, .string ⟨#[]⟩, .int .i64 0], .int .i64 2]) (by simp [results, Tryz.f41, go_sem, z0, z1, z2]) rfl ⟨by rw [HR.out]; rfl, HBE.out⟩
      · by_cases q2 : y ≤ x
        · clear hb
          go_enter Tryz.func41, Tryz.ntmps41
          go_wp2_with fail
          generalize w.alloc (.cells #[.string ⟨#[]⟩, .string ⟨#[]⟩, .int .i64 0] 28) = W1 at *
          refine (HCK _ hb0).out.mono ?_
          rintro e w2 ⟨rfl, hB1⟩
          have HB2 := hid (below_tr hb0 hB1)
          have HR2 := hid (hrr.below hB1)
          clear hrr hb0 hB1 HCK
          have r0 := HR2.out.cell 0 rfl
          have r1 := HR2.out.cell 1 rfl
          have r2 := HR2.out.cell 2 rfl
          have r3 := HR2.out.frozen 0
          have r4 := HR2.out.frozen 1
          have r5 := HR2.out.frozen 2
          have hR := ((HR2.out.set 0 (.string ⟨#[]⟩)).set 1 (.string ⟨#[]⟩)).set 2 (.int .i64 (0))
          have z0 := hR.cell 0 rfl
          have z1 := hR.cell 1 rfl
          have z2 := hR.cell 2 rfl
          have HBE := hid (((HB2.out.setCell (p := ⟨w.heap.size, 0, none⟩) (by simp) (.string ⟨#[]⟩)).setCell (p := ⟨w.heap.size, 1, none⟩) (by simp) (.string ⟨#[]⟩)).setCell (p := ⟨w.heap.size, 2, none⟩) (by simp) (.int .i64 (0)))
          clear hR
          clear HR2 HB2
          go_wp2_with fail
          exact bodyPost_ret (v := .tuple #[.agg #[.string ⟨#[]⟩, .string ⟨#[]⟩, .int .i64 0], .int .i64 2]) (by simp [results, Tryz.f41, go_sem, z0, z1, z2]) rfl ⟨by rw [HR.out]; rfl, HBE.out⟩
        · have q3 : (ws.length : Int) < y := by omega
          clear hb
          go_enter Tryz.func41, Tryz.ntmps41
          go_wp2_with fail
          generalize w.alloc (.cells #[.string ⟨#[]⟩, .string ⟨#[]⟩, .int .i64 0] 28) = W1 at *
          refine (HCK _ hb0).out.mono ?_
          rintro e w2 ⟨rfl, hB1⟩
          have HB2 := hid (below_tr hb0 hB1)
          have HR2 := hid (hrr.below hB1)
          clear hrr hb0 hB1 HCK
          have r0 := HR2.out.cell 0 rfl
          have r1 := HR2.out.cell 1 rfl
          have r2 := HR2.out.cell 2 rfl
          have r3 := HR2.out.frozen 0
          have r4 := HR2.out.frozen 1
          have r5 := HR2.out.frozen 2
          have hR := ((HR2.out.set 0 (.string ⟨#[]⟩)).set 1 (.string ⟨#[]⟩)).set 2 (.int .i64 (0))
          have z0 := hR.cell 0 rfl
          have z1 := hR.cell 1 rfl
          have z2 := hR.cell 2 rfl
          have HBE := hid (((HB2.out.setCell (p := ⟨w.heap.size, 0, none⟩) (by simp) (.string ⟨#[]⟩)).setCell (p := ⟨w.heap.size, 1, none⟩) (by simp) (.string ⟨#[]⟩)).setCell (p := ⟨w.heap.size, 2, none⟩) (by simp) (.int .i64 (0)))
          clear hR
          clear HR2 HB2
          go_wp2_with fail
          exact bodyPost_ret (v := .tuple #[.agg #[.string ⟨#[]⟩, .string ⟨#[]⟩, .int .i64 0], .int .i64 2]) (by simp [results, Tryz.f41, go_sem, z0, z1, z2]) rfl ⟨by rw [HR.out]; rfl, HBE.out⟩
    · obtain ⟨a, rfl⟩ := Int.eq_ofNat_of_zero_le (show 0 ≤ x by omega)
      obtain ⟨b, rfl⟩ := Int.eq_ofNat_of_zero_le (show 0 ≤ y by omega)
      have hab : a < b := by omega
      have hbl : b ≤ ws.length := by omega
      have hl13 := hlen hck
      have hne : ∀ s ∈ ws, s.size ≠ 0 := fun s hs => wordB_ne (lcheck_words hck s hs)
      have HRS : Hid (ofRes ws (a : Int) (b : Int) = (ws.getD a ⟨#[]⟩, lastW ws a b, ((ofNum (occ ws (ws.getD a ⟨#[]⟩) (lastW ws a b)) (a, b - 1) : Nat) : Int), 0)) := by unfold Hid; rw [HD.out, if_neg (by omega), if_neg hb]; rfl
      have HOC := fun w' (h : Below w.heap.size w w') => hid (rocc_any ws (ws.getD a ⟨#[]⟩) (lastW ws a b) v w' (hr.below h) hl13)
      have HMEM := hid (part_mem hne hab hbl)
      have HSO := hid (occ_sorted ws (ws.getD a ⟨#[]⟩) (lastW ws a b))
      have hol := occ_len hl13 (ws.getD a ⟨#[]⟩) (lastW ws a b)
      have hnle := numP_le2 (a, b - 1) (occ ws (ws.getD a ⟨#[]⟩) (lastW ws a b))
      have HN1 : Hid (∀ oc : List (Nat × Nat), oc.length = 1 → ofNum oc (a, b - 1) = 0) := fun oc h => by unfold ofNum; rw [if_pos h]
      have HN2 : Hid (∀ oc : List (Nat × Nat), oc.length ≠ 1 → ofNum oc (a, b - 1) = numP (a, b - 1) oc) := fun oc h => by unfold ofNum; rw [if_neg h]
      obtain ⟨ad, cap, rfl, hlc, hcm, hcell⟩ := hr.open
      obtain ⟨s1, b1, o1, hs1, rfl, hc1⟩ := hcell a (by omega)
      obtain ⟨s2, b2, o2, hs2, he2, hc2⟩ := hcell (b - 1) (by omega)
      cases he2
      have g1 : ws.getD a ⟨#[]⟩ = s1 := by rw [List.getD_eq_getElem?_getD, hs1]; rfl
      have g2 : ws.getD (b - 1) ⟨#[]⟩ = s2 := by rw [List.getD_eq_getElem?_getD, hs2]; rfl
      have HLW : Hid ((b - a = 1 ∧ lastW ws a b = ⟨#[]⟩) ∨ (b - a ≠ 1 ∧ lastW ws a b = s2)) := by
        by_cases h : b - a = 1
        · exact .inl ⟨h, by unfold lastW; rw [if_pos h]⟩
        · exact .inr ⟨h, by unfold lastW; rw [if_neg h, g2]⟩
      rw [g1] at HRS HOC HMEM HSO hol hnle
      have hq1 : ¬ (a : Int) < 0 := by omega
      have hq2 : ¬ (b : Int) ≤ (a : Int) := by omega
      have hq3 : ¬ (ws.length : Int) < (b : Int) := by omega
      have hq4 : (a : Int) < (ws.length : Int) := by omega
      have hbi : IntKind.i64.wrap ((b : Int) - 1) = (b : Int) - 1 := IntWalk.i64_in _ (by omega)
      have hbj : (b : Int) - 1 < (ws.length : Int) := by omega
      have hbk : ((b : Int) - 1).toNat = b - 1 := by omega
      have hbm : (0 : Int) ≤ (b : Int) - 1 := by omega
      clear hcell hs1 hs2 g1 g2 HD hck hr hz he hlen hb hne hl13
      rcases HLW.out with ⟨hd, hL⟩ | ⟨hd, hL⟩
      · rw [hL] at HRS HOC HMEM HSO hol hnle
        have hd2 : ¬ (1 : Int) < (b : Int) - (a : Int) := by omega
        clear hL HLW hd
        generalize occ ws s1 ⟨#[]⟩ = oc at *
        go_enter Tryz.func41, Tryz.ntmps41
        go_wp2_with fail
        generalize w.alloc (.cells #[.string ⟨#[]⟩, .string ⟨#[]⟩, .int .i64 0] 28) = W1 at *
        refine (HCK _ hb0).out.mono ?_
        rintro e w2 ⟨rfl, hB1⟩
        have HB2 := hid (below_tr hb0 hB1)
        have HR2 := hid (hrr.below hB1)
        clear hrr hb0 hB1 HCK
        have k1 := Below.keeps HB2.out _ _ hc1
        have k2 := Below.keeps HB2.out _ _ hc2
        have hls := HB2.out.size
        have hsl : w.heap.size + 1 ≤ w2.heap.size := HR2.out.lt
        have HI := hid (show RoI w w2.heap.size s1 ⟨#[]⟩ 0 (w2.alloc (.cells #[.string s1, .string ⟨#[]⟩, .int .i64 0] 28)) from ⟨HR2.out.al _, row_nw _ _ _ rfl, below_tr HB2.out (below_al _ _), hsl⟩)
        have j0 := HI.out.lem.cell 0 rfl
        have j1 := HI.out.lem.cell 1 rfl
        clear HB2 HR2 hls hc1 hc2
        go_wp2_with fail
        refine (HOC _ HI.out.bel).out.mono ?_
        rintro e w5 ⟨u, rfl, hru, hB5⟩
        have HI5 := hid (HI.out.below hB5)
        generalize w2.heap.size = B at *
        obtain ⟨au, cu, rfl, huc, hum, hucell⟩ := hru.open
        have HUC := hid hucell
        clear HI HOC hucell hru hB5 j0 j1 k1 k2 hsl
        by_cases hn1 : oc.length = 1
        · have hn1i : (oc.length : Int) = 1 := by omega
          have HV := hid (HN1.out oc hn1)
          have e0 := HI5.out.lem.cell 0 rfl
          have e1 := HI5.out.lem.cell 1 rfl
          have e2 := HI5.out.lem.cell 2 rfl
          have r0 := HI5.out.res.cell 0 rfl
          have r1 := HI5.out.res.cell 1 rfl
          have r2 := HI5.out.res.cell 2 rfl
          have r3 := HI5.out.res.frozen 0
          have r4 := HI5.out.res.frozen 1
          have r5 := HI5.out.res.frozen 2
          have hR := ((HI5.out.res.set 0 (.string s1)).set 1 (.string ⟨#[]⟩)).set 2 (.int .i64 (0))
          have z0 := hR.cell 0 rfl
          have z1 := hR.cell 1 rfl
          have z2 := hR.cell 2 rfl
          have HBE := hid (((HI5.out.bel.setCell (p := ⟨w.heap.size, 0, none⟩) (by simp) (.string s1)).setCell (p := ⟨w.heap.size, 1, none⟩) (by simp) (.string ⟨#[]⟩)).setCell (p := ⟨w.heap.size, 2, none⟩) (by simp) (.int .i64 (0)))
          clear hR
          clear hn1 HN1 HN2 HUC HMEM HSO
          go_wp2_with fail
          exact bodyPost_ret (v := .tuple #[.agg #[.string s1, .string ⟨#[]⟩, .int .i64 0], .int .i64 0]) (by simp [results, Tryz.f41, go_sem, z0, z1, z2]) rfl ⟨by rw [HRS.out, HV.out]; rfl, HBE.out⟩
        · have hn1i : ¬ (oc.length : Int) = 1 := by omega
          have HV := hid (HN2.out oc hn1)
          clear hn1 HN1 HN2
          go_wp2_with fail
          go_loop [11] (fun i => ∃ k : Nat, k ≤ oc.length ∧ i = .int .i64 k ∧ Hid ((a, b - 1) ∉ oc.take k)) (fun i => oc.length - (intOf i).toNat)
          case atStart => exact ⟨0, Nat.zero_le _, rfl, by simp [Hid]⟩
          case round =>
            obtain ⟨k, hk, rfl, HNO⟩ := hrel
            by_cases hlt : k < oc.length
            · obtain ⟨p, bu, ou, r, hp, rfl, hcu, hx1, hx2⟩ := HUC.out k hlt
              have hki : (k : Int) < (oc.length : Int) := by omega
              have hk6 : (k : Int) < 65536 := by omega
              by_cases hpe : p = (a, b - 1)
              · subst hpe
                have HNM := hid (numP_at HSO.out hp)
                have hb5 : ((b - 1 : Nat) : Int) = (b : Int) - 1 := by omega
                have y1 : w5.cell? ⟨r, 0, none⟩ = some (.int .i64 (a : Int)) := hx1
                have y2 : w5.cell? ⟨r, 1, none⟩ = some (.int .i64 ((b : Int) - 1)) := by rw [hx2]; show some (Value.int .i64 ((b - 1 : Nat) : Int)) = _; rw [hb5]
                have n0 := HI5.out.lem.cell 2 rfl
                have n1 := HI5.out.lem.frozen 2
                have HJ := hid (HI5.out.num ((k : Int) + 1))
                have e0 := HJ.out.lem.cell 0 rfl
                have e1 := HJ.out.lem.cell 1 rfl
                have e2 := HJ.out.lem.cell 2 rfl
                have r0 := HJ.out.res.cell 0 rfl
                have r1 := HJ.out.res.cell 1 rfl
                have r2 := HJ.out.res.cell 2 rfl
                have r3 := HJ.out.res.frozen 0
                have r4 := HJ.out.res.frozen 1
                have r5 := HJ.out.res.frozen 2
                have hR := ((HJ.out.res.set 0 (.string s1)).set 1 (.string ⟨#[]⟩)).set 2 (.int .i64 ((k : Int) + 1))
                have z0 := hR.cell 0 rfl
                have z1 := hR.cell 1 rfl
                have z2 := hR.cell 2 rfl
                have HBE := hid (((HJ.out.bel.setCell (p := ⟨w.heap.size, 0, none⟩) (by simp) (.string s1)).setCell (p := ⟨w.heap.size, 1, none⟩) (by simp) (.string ⟨#[]⟩)).setCell (p := ⟨w.heap.size, 2, none⟩) (by simp) (.int .i64 ((k : Int) + 1)))
                clear hR
                clear hx1 hx2 hp hb5 HNO HUC
                go_wp2_with fail
                exact bodyPost_ret (v := .tuple #[.agg #[.string s1, .string ⟨#[]⟩, .int .i64 ((k : Int) + 1)], .int .i64 0]) (by simp [results, Tryz.f41, go_sem, z0, z1, z2]) rfl ⟨by rw [HRS.out, HV.out, HNM.out]; rfl, HBE.out⟩
              · have HNO2 : Hid ((a, b - 1) ∉ oc.take (k + 1)) := by
                  unfold Hid; rw [List.take_add_one, hp, List.mem_append]
                  rintro (h | h)
                  · exact HNO.out h
                  · have h2 : (a, b - 1) = p := by simpa using h
                    exact hpe h2.symm
                clear HNO hp
                by_cases h1 : p.1 = a
                · have h2 : ¬ (p.2 : Int) = (b : Int) - 1 := fun h => hpe (Prod.ext_iff.2 ⟨h1, by show p.2 = b - 1; omega⟩)
                  have y1 : w5.cell? ⟨r, 0, none⟩ = some (.int .i64 (a : Int)) := by rw [hx1, h1]
                  have t2 : ((p.2 : Int) == (b : Int) - 1) = false := beq_eq_false_iff_ne.2 h2
                  clear hx1 h1 hpe
                  go_wp2_with fail
                  go_round
                  case rel => exact ⟨k + 1, by omega, by go_num, HNO2.out⟩
                  case measure => simp [intOf]; omega
                · have t1 : ((p.1 : Int) == (a : Int)) = false := by rw [beq_eq_false_iff_ne]; omega
                  have t3 : ¬ (p.1 : Int) = (a : Int) := by omega
                  clear h1 hpe
                  go_wp2_with fail
                  go_round
                  case rel => exact ⟨k + 1, by omega, by go_num, HNO2.out⟩
                  case measure => simp [intOf]; omega
            · exfalso
              have h := HNO.out
              rw [List.take_of_length_le (by omega)] at h
              exact h HMEM.out
      · rw [hL] at HRS HOC HMEM HSO hol hnle
        have hd2 : (1 : Int) < (b : Int) - (a : Int) := by omega
        clear hL HLW hd
        generalize occ ws s1 s2 = oc at *
        go_enter Tryz.func41, Tryz.ntmps41
        go_wp2_with fail
        generalize w.alloc (.cells #[.string ⟨#[]⟩, .string ⟨#[]⟩, .int .i64 0] 28) = W1 at *
        refine (HCK _ hb0).out.mono ?_
        rintro e w2 ⟨rfl, hB1⟩
        have HB2 := hid (below_tr hb0 hB1)
        have HR2 := hid (hrr.below hB1)
        clear hrr hb0 hB1 HCK
        have k1 := Below.keeps HB2.out _ _ hc1
        have k2 := Below.keeps HB2.out _ _ hc2
        have k3 := cell_al k2 (.cells #[.string s1, .string ⟨#[]⟩, .int .i64 0] 28)
        have hls := HB2.out.size
        have hsl : w.heap.size + 1 ≤ w2.heap.size := HR2.out.lt
        have HI := hid (show RoI w w2.heap.size s1 s2 0 (w2.alloc (.cells #[.string s1, .string s2, .int .i64 0] 28)) from ⟨HR2.out.al _, row_nw _ _ _ rfl, below_tr HB2.out (below_al _ _), hsl⟩)
        have j0 := HI.out.lem.cell 0 rfl
        have j1 := HI.out.lem.cell 1 rfl
        clear HB2 HR2 hls hc1 hc2
        go_wp2_with fail
        refine (HOC _ HI.out.bel).out.mono ?_
        rintro e w5 ⟨u, rfl, hru, hB5⟩
        have HI5 := hid (HI.out.below hB5)
        generalize w2.heap.size = B at *
        obtain ⟨au, cu, rfl, huc, hum, hucell⟩ := hru.open
        have HUC := hid hucell
        clear HI HOC hucell hru hB5 j0 j1 k1 k2 hsl k3
        by_cases hn1 : oc.length = 1
        · have hn1i : (oc.length : Int) = 1 := by omega
          have HV := hid (HN1.out oc hn1)
          have e0 := HI5.out.lem.cell 0 rfl
          have e1 := HI5.out.lem.cell 1 rfl
          have e2 := HI5.out.lem.cell 2 rfl
          have r0 := HI5.out.res.cell 0 rfl
          have r1 := HI5.out.res.cell 1 rfl
          have r2 := HI5.out.res.cell 2 rfl
          have r3 := HI5.out.res.frozen 0
          have r4 := HI5.out.res.frozen 1
          have r5 := HI5.out.res.frozen 2
          have hR := ((HI5.out.res.set 0 (.string s1)).set 1 (.string s2)).set 2 (.int .i64 (0))
          have z0 := hR.cell 0 rfl
          have z1 := hR.cell 1 rfl
          have z2 := hR.cell 2 rfl
          have HBE := hid (((HI5.out.bel.setCell (p := ⟨w.heap.size, 0, none⟩) (by simp) (.string s1)).setCell (p := ⟨w.heap.size, 1, none⟩) (by simp) (.string s2)).setCell (p := ⟨w.heap.size, 2, none⟩) (by simp) (.int .i64 (0)))
          clear hR
          clear hn1 HN1 HN2 HUC HMEM HSO
          go_wp2_with fail
          exact bodyPost_ret (v := .tuple #[.agg #[.string s1, .string s2, .int .i64 0], .int .i64 0]) (by simp [results, Tryz.f41, go_sem, z0, z1, z2]) rfl ⟨by rw [HRS.out, HV.out]; rfl, HBE.out⟩
        · have hn1i : ¬ (oc.length : Int) = 1 := by omega
          have HV := hid (HN2.out oc hn1)
          clear hn1 HN1 HN2
          go_wp2_with fail
          go_loop [11] (fun i => ∃ k : Nat, k ≤ oc.length ∧ i = .int .i64 k ∧ Hid ((a, b - 1) ∉ oc.take k)) (fun i => oc.length - (intOf i).toNat)
          case atStart => exact ⟨0, Nat.zero_le _, rfl, by simp [Hid]⟩
          case round =>
            obtain ⟨k, hk, rfl, HNO⟩ := hrel
            by_cases hlt : k < oc.length
            · obtain ⟨p, bu, ou, r, hp, rfl, hcu, hx1, hx2⟩ := HUC.out k hlt
              have hki : (k : Int) < (oc.length : Int) := by omega
              have hk6 : (k : Int) < 65536 := by omega
              by_cases hpe : p = (a, b - 1)
              · subst hpe
                have HNM := hid (numP_at HSO.out hp)
                have hb5 : ((b - 1 : Nat) : Int) = (b : Int) - 1 := by omega
                have y1 : w5.cell? ⟨r, 0, none⟩ = some (.int .i64 (a : Int)) := hx1
                have y2 : w5.cell? ⟨r, 1, none⟩ = some (.int .i64 ((b : Int) - 1)) := by rw [hx2]; show some (Value.int .i64 ((b - 1 : Nat) : Int)) = _; rw [hb5]
                have n0 := HI5.out.lem.cell 2 rfl
                have n1 := HI5.out.lem.frozen 2
                have HJ := hid (HI5.out.num ((k : Int) + 1))
                have e0 := HJ.out.lem.cell 0 rfl
                have e1 := HJ.out.lem.cell 1 rfl
                have e2 := HJ.out.lem.cell 2 rfl
                have r0 := HJ.out.res.cell 0 rfl
                have r1 := HJ.out.res.cell 1 rfl
                have r2 := HJ.out.res.cell 2 rfl
                have r3 := HJ.out.res.frozen 0
                have r4 := HJ.out.res.frozen 1
                have r5 := HJ.out.res.frozen 2
                have hR := ((HJ.out.res.set 0 (.string s1)).set 1 (.string s2)).set 2 (.int .i64 ((k : Int) + 1))
                have z0 := hR.cell 0 rfl
                have z1 := hR.cell 1 rfl
                have z2 := hR.cell 2 rfl
                have HBE := hid (((HJ.out.bel.setCell (p := ⟨w.heap.size, 0, none⟩) (by simp) (.string s1)).setCell (p := ⟨w.heap.size, 1, none⟩) (by simp) (.string s2)).setCell (p := ⟨w.heap.size, 2, none⟩) (by simp) (.int .i64 ((k : Int) + 1)))
                clear hR
                clear hx1 hx2 hp hb5 HNO HUC
                go_wp2_with fail
                exact bodyPost_ret (v := .tuple #[.agg #[.string s1, .string s2, .int .i64 ((k : Int) + 1)], .int .i64 0]) (by simp [results, Tryz.f41, go_sem, z0, z1, z2]) rfl ⟨by rw [HRS.out, HV.out, HNM.out]; rfl, HBE.out⟩
              · have HNO2 : Hid ((a, b - 1) ∉ oc.take (k + 1)) := by
                  unfold Hid; rw [List.take_add_one, hp, List.mem_append]
                  rintro (h | h)
                  · exact HNO.out h
                  · have h2 : (a, b - 1) = p := by simpa using h
                    exact hpe h2.symm
                clear HNO hp
                by_cases h1 : p.1 = a
                · have h2 : ¬ (p.2 : Int) = (b : Int) - 1 := fun h => hpe (Prod.ext_iff.2 ⟨h1, by show p.2 = b - 1; omega⟩)
                  have y1 : w5.cell? ⟨r, 0, none⟩ = some (.int .i64 (a : Int)) := by rw [hx1, h1]
                  have t2 : ((p.2 : Int) == (b : Int) - 1) = false := beq_eq_false_iff_ne.2 h2
                  clear hx1 h1 hpe
                  go_wp2_with fail
                  go_round
                  case rel => exact ⟨k + 1, by omega, by go_num, HNO2.out⟩
                  case measure => simp [intOf]; omega
                · have t1 : ((p.1 : Int) == (a : Int)) = false := by rw [beq_eq_false_iff_ne]; omega
                  have t3 : ¬ (p.1 : Int) = (a : Int) := by omega
                  clear h1 hpe
                  go_wp2_with fail
                  go_round
                  case rel => exact ⟨k + 1, by omega, by go_num, HNO2.out⟩
                  case measure => simp [intOf]; omega
            · exfalso
              have h := HNO.out
              rw [List.take_of_length_le (by omega)] at h
              exact h HMEM.out
  · have HR : Hid (ofRes ws x y = (⟨#[]⟩, ⟨#[]⟩, 0, lcheckI ws)) := by unfold Hid; rw [HD.out, if_pos hck]
    have hcb : (lcheckI ws == 0) = false := beq_eq_false_iff_ne.2 hck
    obtain ⟨ad, cap, rfl, hlc, hcm, _⟩ := hr.open
    clear HD hr hz he hlen
    generalize lcheckI ws = ck at *
    go_enter Tryz.func41, Tryz.ntmps41
    go_wp2_with fail
    generalize w.alloc (.cells #[.string ⟨#[]⟩, .string ⟨#[]⟩, .int .i64 0] 28) = W1 at *
    refine (HCK _ hb0).out.mono ?_
    rintro e w2 ⟨rfl, hB1⟩
    have HB2 := hid (below_tr hb0 hB1)
    have HR2 := hid (hrr.below hB1)
    clear hrr hb0 hB1 HCK
    have r0 := HR2.out.cell 0 rfl
    have r1 := HR2.out.cell 1 rfl
    have r2 := HR2.out.cell 2 rfl
    have r3 := HR2.out.frozen 0
    have r4 := HR2.out.frozen 1
    have r5 := HR2.out.frozen 2
    have hR := ((HR2.out.set 0 (.string ⟨#[]⟩)).set 1 (.string ⟨#[]⟩)).set 2 (.int .i64 (0))
    have z0 := hR.cell 0 rfl
    have z1 := hR.cell 1 rfl
    have z2 := hR.cell 2 rfl
    have HBE := hid (((HB2.out.setCell (p := ⟨w.heap.size, 0, none⟩) (by simp) (.string ⟨#[]⟩)).setCell (p := ⟨w.heap.size, 1, none⟩) (by simp) (.string ⟨#[]⟩)).setCell (p := ⟨w.heap.size, 2, none⟩) (by simp) (.int .i64 (0)))
    clear hR
    clear HR2 HB2
    go_wp2_with fail
    exact bodyPost_ret (v := .tuple #[.agg #[.string ⟨#[]⟩, .string ⟨#[]⟩, .int .i64 0], .int .i64 ck]) (by simp [results, Tryz.f41, go_sem, z0, z1, z2]) rfl ⟨by rw [HR.out]; rfl, HBE.out⟩
end Go.Proofs.YtjhdeoniafahbaaGreatDoor
