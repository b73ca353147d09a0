/-
  The reference's box.
-/
import Derived.Test.YtkjapeafhcdnkaaDoorRFl
import Derived.Test.YtkjapeafhcdnkaaDoorMvW
import Derived.Deep.DeepCutAuto
namespace Go.Proofs.YtkjapeafhcdnkaaDoor
open Go.RowKit

/-- What is told of the box that a line describes: it is the box whose line this is, if there is one. -/
def BoxRR (s : ByteArray) (e : Ending) : Prop := ∃ (b : Bx) (ok : Bool), e = .returned (.tuple #[.agg #[.int .i64 b.kind, .int .i64 b.x, .int .i64 b.y, .int .i64 b.wd, .int .i64 b.blk, .string b.text], .bool ok]) ∧ b.text.size ≤ s.size ∧
  (∀ b' : Bx, boxI b' = 0 → boxL b' = s.data.toList ++ [10] → b = b' ∧ ok = true)
theorem box_form {b : Bx} {s : List UInt8} (hb : boxI b = 0) (h : boxL b = s ++ [10]) : ∃ (k : Nat) (hd : List UInt8), b.kind = (k : Int) ∧ 1 ≤ k ∧ k ≤ 6 ∧ s = hd ++ 124 :: b.text.data.toList ∧ (124 : UInt8) ∉ hd ∧ hd.length ≤ 80 ∧
    cutL 32 hd = [(kwB k).data.toList, (itoaB b.x).data.toList, (itoaB b.y).data.toList, (itoaB b.wd).data.toList, (itoaB b.blk).data.toList] := by
  obtain ⟨k, hk, k1, k2⟩ := kind_nat hb
  obtain ⟨w1, _, _⟩ := kw_not k k1 k2
  obtain ⟨_, _, x1, x2, y1, y2, d1, d2, b1, b2, _⟩ := bx_good hb
  have kw124 : (124 : UInt8) ∉ (kwB k).data.toList := by
    have : k = 1 ∨ k = 2 ∨ k = 3 ∨ k = 4 ∨ k = 5 ∨ k = 6 := by omega
    rcases this with rfl | rfl | rfl | rfl | rfl | rfl <;> decide +kernel
  have kwl : (kwB k).data.toList.length ≤ 6 := by
    have : k = 1 ∨ k = 2 ∨ k = 3 ∨ k = 4 ∨ k = 5 ∨ k = 6 := by omega
    rcases this with rfl | rfl | rfl | rfl | rfl | rfl <;> decide +kernel
  have hil : ∀ {n : Int}, 0 ≤ n → n ≤ 1073741824 → (itoL n).length ≤ 10 := fun {n} h0 h1 => by
    unfold itoL
    rw [itoaB_data h0, Lib.decDigits_length]
    exact nDigits_10 _ (by omega)
  refine ⟨k, (kwB k).data.toList ++ 32 :: (itoL b.x ++ 32 :: (itoL b.y ++ 32 :: (itoL b.wd ++ 32 :: itoL b.blk))), hk, k1, k2, ?_, ?_, ?_, ?_⟩
  · have e : boxL b = ((kwB k).data.toList ++ 32 :: (itoL b.x ++ 32 :: (itoL b.y ++ 32 :: (itoL b.wd ++ 32 :: itoL b.blk))) ++ 124 :: b.text.data.toList) ++ [10] := by
      unfold boxL numL; rw [hk]; simp
    rw [e] at h
    exact (List.append_cancel_right h).symm
  · simp only [List.mem_append, List.mem_cons, not_or]
    exact ⟨kw124, by decide, ito_not x1 (by decide), by decide, ito_not y1 (by decide), by decide, ito_not d1 (by decide), by decide, ito_not b1 (by decide)⟩
  · have e2 := hil x1 x2
    have e3 := hil y1 y2
    have e4 := hil d1 d2
    have e5 := hil b1 (by omega)
    simp only [List.length_append, List.length_cons]
    omega
  · rw [cutL_app _ w1, cutL_app _ (ito_not x1 (by decide)), cutL_app _ (ito_not y1 (by decide)), cutL_app _ (ito_not d1 (by decide)), cutL_none (ito_not b1 (by decide))]
    rfl
theorem first_at {c : UInt8} {s a r : List UInt8} {k : Nat} (hs : s = a ++ c :: r) (ha : c ∉ a) (hk : k < s.length) (hn : c ∉ s.take k) (hc : s[k]? = some c) : k = a.length ∧ s.take k = a ∧ s.drop (k + 1) = r := by
  have h1 : s = s.take k ++ c :: s.drop (k + 1) := by
    obtain ⟨h2, h3⟩ := List.getElem?_eq_some_iff.1 hc
    rw [← h3, ← List.drop_eq_getElem_cons h2, List.take_append_drop]
  have i1 := index_app (s.drop (k + 1)) hn
  have i2 := index_app r ha
  rw [← h1] at i1
  rw [← hs] at i2
  have hl : (s.take k).length = k := by rw [List.length_take]; omega
  have e : k = a.length := by omega
  subst e
  refine ⟨rfl, ?_, ?_⟩
  · rw [hs, List.take_left' rfl]
  · rw [hs, ← List.drop_drop, List.drop_left' rfl]; rfl
theorem Bx.agg (b : Bx) : Value.agg b.cells = .agg #[.int .i64 b.kind, .int .i64 b.x, .int .i64 b.y, .int .i64 b.wd, .int .i64 b.blk, .string b.text] := rfl
def zB : Bx := ⟨0, 0, 0, 0, 0, ⟨#[]⟩⟩
theorem take_miss {c : UInt8} {s : ByteArray} {k : Nat} (h : k < s.size) (hn : c ∉ s.data.toList.take k) (hc : s[k] ≠ c) : c ∉ s.data.toList.take (k + 1) := by
  rw [List.take_add_one, rnum_byte s k h, List.mem_append, not_or]
  exact ⟨hn, by simpa using fun e => hc e.symm⟩

theorem row6_set {W : World} {B : Nat} {t : TypeId} {a0 a1 a2 a3 a4 a5 : Value} (h : Row W B #[a0, a1, a2, a3, a4, a5] t) (v0 v1 v2 v3 v4 v5 : Value) :
    Row ((((((W.setCell ⟨B, 0, none⟩ v0).setCell ⟨B, 1, none⟩ v1).setCell ⟨B, 2, none⟩ v2).setCell ⟨B, 3, none⟩ v3).setCell ⟨B, 4, none⟩ v4).setCell ⟨B, 5, none⟩ v5) B #[v0, v1, v2, v3, v4, v5] t :=
  (((((h.set 0 v0).set 1 v1).set 2 v2).set 3 v3).set 4 v4).set 5 v5
theorem row_dr {W : World} {B : Nat} {l : Array Value} {t : TypeId} (h : Row W B l t) : Row W.drew B l t := h
theorem below6_set {w W : World} {B : Nat} (h : Below w.heap.size w W) (hB : w.heap.size ≤ B) (v0 v1 v2 v3 v4 v5 : Value) :
    Below w.heap.size w ((((((W.setCell ⟨B, 0, none⟩ v0).setCell ⟨B, 1, none⟩ v1).setCell ⟨B, 2, none⟩ v2).setCell ⟨B, 3, none⟩ v3).setCell ⟨B, 4, none⟩ v4).setCell ⟨B, 5, none⟩ v5) :=
  (((((h.setCell (p := ⟨B, 0, none⟩) hB v0).setCell (p := ⟨B, 1, none⟩) hB v1).setCell (p := ⟨B, 2, none⟩) hB v2).setCell (p := ⟨B, 3, none⟩) hB v3).setCell (p := ⟨B, 4, none⟩) hB v4).setCell (p := ⟨B, 5, none⟩) hB v5
theorem boxRR_no {s : ByteArray} (h : ∀ b' : Bx, boxI b' = 0 → boxL b' = s.data.toList ++ [10] → False) : BoxRR s (.returned (.tuple #[.agg #[.int .i64 0, .int .i64 0, .int .i64 0, .int .i64 0, .int .i64 0, .string ⟨#[]⟩], .bool false])) :=
  ⟨zB, false, rfl, Nat.zero_le _, fun b' h1 h2 => (h b' h1 h2).elim⟩

set_option maxRecDepth 100000 in
set_option maxHeartbeats 4000000 in
theorem rbox_any (s : ByteArray) (w : World) (hs : s.size ≤ 1000000) :
    Calls Tryd.prog 56 #[.string s] w fun e w' => BoxRR s e ∧ Below w.heap.size w w' := by
  have hb0 := below_al w (.cells #[.int .i64 0, .int .i64 0, .int .i64 0, .int .i64 0, .int .i64 0, .string ⟨#[]⟩] 42)
  have hr0 := row_nw w #[.int .i64 0, .int .i64 0, .int .i64 0, .int .i64 0, .int .i64 0, .string ⟨#[]⟩] 42 rfl
  have HB0 := hid hb0
  have HR0 := hid hr0
  clear hb0 hr0
  go_enter Tryd.func56, Tryd.ntmps56
  go_wp2_with fail
  generalize w.alloc (.cells #[.int .i64 0, .int .i64 0, .int .i64 0, .int .i64 0, .int .i64 0, .string ⟨#[]⟩] 42) = w0 at *
  go_loop [4] (fun i => ∃ k : Nat, k ≤ s.size ∧ i = .int .i64 k ∧ Hid ((124 : UInt8) ∉ s.data.toList.take k)) (fun i => s.size - (intOf i).toNat)
  case atStart => exact ⟨0, by omega, rfl, by simp [Hid]⟩
  case round =>
    obtain ⟨k, hk, rfl, HN⟩ := hrel
    by_cases hlt : k < s.size
    · have hki : (k : Int) < (s.size : Int) := by omega
      have hkne : ((k : Int) == (s.size : Int)) = false := beq_eq_false_iff_ne.2 (by omega)
      by_cases h124 : s[k] = 124
      · have h124i : ((s[k].toNat : Int) != 124) = false := by rw [h124]; rfl
        by_cases h80 : 80 < k
        · have h80i : (80 : Int) < (k : Int) := by omega
          have HNO : Hid (∀ b' : Bx, boxI b' = 0 → boxL b' = s.data.toList ++ [10] → False) := fun b' h1 h2 => by
            obtain ⟨_, hd, _, _, _, hs1, hh, hl, _⟩ := box_form h1 h2
            have := (first_at hs1 hh (by rw [data_size]; exact hlt) HN.out (by rw [rnum_byte s k hlt, h124])).1
            omega
          have HRX := HR0
          have HBX := HB0
          have e0 := HRX.out.cell 0 rfl
          have e1 := HRX.out.cell 1 rfl
          have e2 := HRX.out.cell 2 rfl
          have e3 := HRX.out.cell 3 rfl
          have e4 := HRX.out.cell 4 rfl
          have e5 := HRX.out.cell 5 rfl
          have f0 := HRX.out.frozen 0
          have f1 := HRX.out.frozen 1
          have f2 := HRX.out.frozen 2
          have f3 := HRX.out.frozen 3
          have f4 := HRX.out.frozen 4
          have f5 := HRX.out.frozen 5
          have HRZ := row6_set HRX.out (.int .i64 0) (.int .i64 0) (.int .i64 0) (.int .i64 0) (.int .i64 0) (.string ⟨#[]⟩)
          have r0 := HRZ.cell 0 rfl
          have r1 := HRZ.cell 1 rfl
          have r2 := HRZ.cell 2 rfl
          have r3 := HRZ.cell 3 rfl
          have r4 := HRZ.cell 4 rfl
          have r5 := HRZ.cell 5 rfl
          have HBZ := hid (below6_set HBX.out (Nat.le_refl _) (.int .i64 0) (.int .i64 0) (.int .i64 0) (.int .i64 0) (.int .i64 0) (.string ⟨#[]⟩))
          clear HRZ
          go_wp2_with fail
          refine bodyPost_ret (v := .tuple #[.agg #[.int .i64 0, .int .i64 0, .int .i64 0, .int .i64 0, .int .i64 0, .string ⟨#[]⟩], .bool false]) ((results_ct rfl _ _ _).trans ?_) rfl ⟨boxRR_no HNO.out, HBZ.out⟩
          simp [go_sem, r0, r1, r2, r3, r4, r5]
        · have h80i : ¬ (80 : Int) < (k : Int) := by omega
          have HFL := hid (rfields_any (s.extract 0 k) w0 (by rw [ByteArray.size_extract]; omega))
          go_wp2_with fail
          refine HFL.out.mono ?_
          rintro e w1 ⟨v1, rfl, hrf, hB1⟩
          have HRX := hid (HR0.out.below hB1)
          have HBX := hid (below_tr HB0.out hB1)
          have HPC : Hid (∀ b' : Bx, boxI b' = 0 → boxL b' = s.data.toList ++ [10] → ∃ kk : Nat, b'.kind = (kk : Int) ∧ 1 ≤ kk ∧ kk ≤ 6 ∧ splitS (s.extract 0 k) = [kwB kk, itoaB b'.x, itoaB b'.y, itoaB b'.wd, itoaB b'.blk] ∧ s.extract (k + 1) s.size = b'.text) := fun b' h1 h2 => by
            obtain ⟨kk, hd, k0, k1, k2, hs1, hh, hl, hcut⟩ := box_form h1 h2
            obtain ⟨q1, q2, q3⟩ := first_at hs1 hh (by rw [data_size]; exact hlt) HN.out (by rw [rnum_byte s k hlt, h124])
            refine ⟨kk, k0, k1, k2, ?_, ?_⟩
            · apply map_data_inj
              rw [splitS_data]
              have e : (s.extract 0 k).data.toList = hd := by
                rw [take_drop_piece, List.drop_zero, Nat.sub_zero]; exact q2
              rw [e, hcut]; rfl
            · apply ba_ext
              rw [take_drop_piece, List.take_of_length_le (by rw [List.length_drop, data_size]; omega)]; exact q3
          have HSZ := hid (splitS_size (s.extract 0 k))
          have hex : (s.extract 0 k).size ≤ s.size := by rw [ByteArray.size_extract]; omega
          generalize splitS (s.extract 0 k) = ks at *
          obtain ⟨a1, c1, rfl, hlc1, hcm1, hcell1⟩ := hrf.open
          have HC1 := hid hcell1
          clear hrf hcell1 hB1 HFL h124 HN
          by_cases h5 : ks.length = 5
          · obtain ⟨p0, p1, p2, p3, p4, hks⟩ : ∃ p0 p1 p2 p3 p4, ks = [p0, p1, p2, p3, p4] := by
              match ks, h5 with
              | [p0, p1, p2, p3, p4], _ => exact ⟨_, _, _, _, _, rfl⟩
            have HKS := hid hks
            have h5i : ((ks.length : Int) != 5) = false := by
              simp only [bne_eq_false_iff_eq]; omega
            obtain ⟨x0, bl, ol, g0, rfl, e0⟩ := HC1.out 0 (by omega)
            obtain ⟨x1, _, _, g1, ee1, e1⟩ := HC1.out 1 (by omega)
            obtain ⟨x2, _, _, g2, ee2, e2⟩ := HC1.out 2 (by omega)
            obtain ⟨x3, _, _, g3, ee3, e3⟩ := HC1.out 3 (by omega)
            obtain ⟨x4, _, _, g4, ee4, e4⟩ := HC1.out 4 (by omega)
            cases ee1; cases ee2; cases ee3; cases ee4
            rw [hks] at g0 g1 g2 g3 g4
            cases g0; cases g1; cases g2; cases g3; cases g4
            have HBL : Hid (bl ≠ w1.heap.size) := by have := World.block_lt_of_cell? w1 _ e0; show _ ≠ _; simp only at this; omega
            have z1 : p1.size ≤ 1000000 := Nat.le_trans (HSZ.out p1 (by rw [hks]; simp)) (by omega)
            have z2 : p2.size ≤ 1000000 := Nat.le_trans (HSZ.out p2 (by rw [hks]; simp)) (by omega)
            have z3 : p3.size ≤ 1000000 := Nat.le_trans (HSZ.out p3 (by rw [hks]; simp)) (by omega)
            have z4 : p4.size ≤ 1000000 := Nat.le_trans (HSZ.out p4 (by rw [hks]; simp)) (by omega)
            have i1 : (1 : Int) < (ks.length : Int) := by omega
            have i2 : (2 : Int) < (ks.length : Int) := by omega
            have i3 : (3 : Int) < (ks.length : Int) := by omega
            have i4 : (4 : Int) < (ks.length : Int) := by omega
            have i0 : (0 : Int) < (ks.length : Int) := by omega
            have hw3 : IntKind.i64.wrap ((k : Int) + 1) = (k : Int) + 1 := by rw [IntWalk.i64_in _ (by omega)]
            have hw6 : (0 : Int) ≤ (k : Int) + 1 := by omega
            have hw7 : ((k : Int) + 1).toNat = k + 1 := by omega
            have hw8 : (k : Int) + 1 ≤ (s.size : Int) := by omega
            have HN1 := fun w' => hid (rnum_any p1 w' z1)
            have HN2 := fun w' => hid (rnum_any p2 w' z2)
            have HN3 := fun w' => hid (rnum_any p3 w' z3)
            have HN4 := fun w' => hid (rnum_any p4 w' z4)
            obtain ⟨n1, n2, n3, n4, HNN⟩ : ∃ n1 n2 n3 n4 : Int, Hid (numR p1 = n1 ∧ numR p2 = n2 ∧ numR p3 = n3 ∧ numR p4 = n4) := ⟨_, _, _, _, hid ⟨rfl, rfl, rfl, rfl⟩⟩
            simp only [HNN.out.1] at HN1
            simp only [HNN.out.2.1] at HN2
            simp only [HNN.out.2.2.1] at HN3
            simp only [HNN.out.2.2.2] at HN4
            clear hks h5 z1 z2 z3 z4
            go_upto_region 9 with fail
            go_cut [6] from 37 to 57 (fun x wx => x = .pointer (some ⟨w1.heap.size, 0, none⟩) ∧ wx = (w1.alloc (.cells #[.int .i64 0, .int .i64 n1, .int .i64 n2, .int .i64 n3, .int .i64 n4, .string (s.extract (k + 1) s.size)] 42)).drew)
            case first => as_aux_lemma =>
              go_region_held3 (fun w' => w'.cell? ⟨bl, ol + 1, none⟩ = some (.string p1) ∧ w'.cell? ⟨bl, ol + 2, none⟩ = some (.string p2) ∧ w'.cell? ⟨bl, ol + 3, none⟩ = some (.string p3) ∧ w'.cell? ⟨bl, ol + 4, none⟩ = some (.string p4))
                (go_keep)
                (first
                  | (go_at_call 55; go_split_ands; refine (HN1 _).out.mono ?_; clear HN1; rintro e w' ⟨rfl, rfl⟩)
                  | (go_at_call 55; go_split_ands; refine (HN2 _).out.mono ?_; clear HN2; rintro e w' ⟨rfl, rfl⟩)
                  | (go_at_call 55; go_split_ands; refine (HN3 _).out.mono ?_; clear HN3; rintro e w' ⟨rfl, rfl⟩)
                  | (go_at_call 55; go_split_ands; refine (HN4 _).out.mono ?_; rintro e w' ⟨rfl, rfl⟩))
              all_goals go_split_ands
              all_goals (go_wp2_with fail; go_meet; exact ⟨rfl, rfl⟩)
            case rest =>
              obtain ⟨rfl, rfl⟩ := hcut
              have HBQ : Hid (Below w1.heap.size w1 (w1.alloc (.cells #[.int .i64 0, .int .i64 n1, .int .i64 n2, .int .i64 n3, .int .i64 n4, .string (s.extract (k + 1) s.size)] 42)).drew) := (below_al w1 _).drew
              have HRQ : Hid (Row (w1.alloc (.cells #[.int .i64 0, .int .i64 n1, .int .i64 n2, .int .i64 n3, .int .i64 n4, .string (s.extract (k + 1) s.size)] 42)).drew w1.heap.size #[.int .i64 0, .int .i64 n1, .int .i64 n2, .int .i64 n3, .int .i64 n4, .string (s.extract (k + 1) s.size)] 42) := row_nw w1 _ _ rfl
              have HRR := hid (HRX.out.below HBQ.out)
              have HBB := hid (below_tr HBX.out HBQ.out)
              have E0 := hid (Below.keeps HBQ.out _ _ e0)
              have hQR : w.heap.size < w1.heap.size := HRX.out.lt
              have hext : (s.extract (k + 1) s.size).size ≤ s.size := by rw [ByteArray.size_extract]; omega
              generalize s.extract (k + 1) s.size = T at *
              clear HRX HBX e0 e1 e2 e3 e4 HN1 HN2 HN3 HN4 HC1 HB0 HR0
              generalize (w1.alloc (.cells #[.int .i64 0, .int .i64 n1, .int .i64 n2, .int .i64 n3, .int .i64 n4, .string T] 42)).drew = w2 at *
              generalize w1.heap.size = Q at *
              go_wp2_with fail
              go_loopw [7] (fun jv wr => ∃ (j kd : Nat), 1 ≤ j ∧ j ≤ 7 ∧ jv = .int .i64 j ∧ kd ≤ 6 ∧ Hid (Row wr Q #[.int .i64 kd, .int .i64 n1, .int .i64 n2, .int .i64 n3, .int .i64 n4, .string T] 42) ∧ Hid (Row wr w.heap.size #[.int .i64 0, .int .i64 0, .int .i64 0, .int .i64 0, .int .i64 0, .string ⟨#[]⟩] 42) ∧
                  Hid (Below w.heap.size w wr) ∧ Hid (wr.cell? ⟨bl, ol, none⟩ = some (.string p0)) ∧ Hid (bl ≠ Q) ∧ Hid (∀ i : Nat, 1 ≤ i → i < j → p0 = kwB i → kd = i)) (fun jv _ => 7 - (intOf jv).toNat)
              case atStart => exact ⟨1, 0, by omega, by omega, rfl, by omega, HRQ.out, HRR.out, HBB.out, E0.out, HBL.out, fun i h1 h2 => absurd h2 (by omega)⟩
              case round =>
                obtain ⟨j, kd, hj1, hj7, rfl, hkd, HQ, HR, HB, HE, HBL2, HK⟩ := hrel
                clear HRQ HRR HBB E0 HBQ
                by_cases hj : j ≤ 6
                · have hji : (j : Int) ≤ 6 := by omega
                  by_cases hd : kwB j = p0
                  · have hb := ba_beq (kwB j) p0
                    rw [decide_eq_true hd] at hb
                    have HQa := hid (HQ.out.al (.cells kwA 9))
                    have HRa := hid (HR.out.al (.cells kwA 9))
                    have HBa := hid (below_tr HB.out (below_al wr (.cells kwA 9)))
                    have HEa := hid (cell_al HE.out (.cells kwA 9))
                    have he := HE.out
                    have hj0 : (0 : Int) ≤ (j : Int) := by omega
                    have hj7i : (j : Int) < 7 := by omega
                    have HKW := hid (cell_nw wr kwA 9 j (kw_at hj1 hj))
                    have HK2 : Hid (∀ i : Nat, 1 ≤ i → i < j + 1 → p0 = kwB i → j = i) := fun i h1 h2 h3 => kwB_inj hj1 hj h1 (by omega) (by rw [hd]; exact h3)
                    clear HQ HR HB HE hd
                    have z1 := HKW.out
                    have z2 := HEa.out
                    go_upto_region 13 with fail
                    go_cut [69] from 62 to 69 (fun x wx => x = .bool true ∧ wx = (wr.alloc (.cells kwA 9)).drew)
                    case first => as_aux_lemma =>
                      go_region_with ((go_at_call 79; refine (rwords_any _).mono ?_; rintro e w6 ⟨rfl, rfl⟩))
                      all_goals (go_wp2_with fail; go_meet; exact ⟨rfl, rfl⟩)
                    case rest => as_aux_lemma =>
                    obtain ⟨rfl, rfl⟩ := hcut
                    clear z1 z2
                    generalize wr.alloc (.cells kwA 9) = w7 at *
                    have q0 := HQa.out.cell 0 rfl
                    have qf := HQa.out.frozen 0
                    have HQ9 := HQa.out.set 0 (.int .i64 j)
                    have HR9 := HRa.out.other ⟨Q, 0, none⟩ (.int .i64 j) (by simp only; omega)
                    have HB9 := HBa.out.setCell (p := ⟨Q, 0, none⟩) (by simp only; omega) (.int .i64 j)
                    have HE9 : Hid ((w7.setCell ⟨Q, 0, none⟩ (.int .i64 j)).cell? ⟨bl, ol, none⟩ = some (.string p0)) := by
                      show _ = _
                      rw [World.cell?_setCell_far _ _ _ _ (fun e => HBL2.out e.symm)]; exact HEa.out
                    go_wp2_with fail
                    go_roundw
                    case rel => exact ⟨j + 1, j, by omega, by omega, by go_num, by omega, HQ9, HR9, HB9.drew, HE9.out, HBL2.out, HK2.out⟩
                    case measure => simp [intOf]; omega
                  · have hb := ba_beq (kwB j) p0
                    rw [decide_eq_false hd] at hb
                    have HQa := hid (HQ.out.al (.cells kwA 9))
                    have HRa := hid (HR.out.al (.cells kwA 9))
                    have HBa := hid (below_tr HB.out (below_al wr (.cells kwA 9)))
                    have HEa := hid (cell_al HE.out (.cells kwA 9))
                    have he := HE.out
                    have hj0 : (0 : Int) ≤ (j : Int) := by omega
                    have hj7i : (j : Int) < 7 := by omega
                    have HKW := hid (cell_nw wr kwA 9 j (kw_at hj1 hj))
                    have HK2 : Hid (∀ i : Nat, 1 ≤ i → i < j + 1 → p0 = kwB i → kd = i) := fun i h1 h2 h3 => by
                      rcases Nat.lt_or_ge i j with h | h
                      · exact HK.out i h1 h h3
                      · have : i = j := by omega
                        subst this
                        exact absurd h3.symm hd
                    clear HQ HR HB HE hd
                    have z1 := HKW.out
                    have z2 := HEa.out
                    go_upto_region 13 with fail
                    go_cut [69] from 62 to 69 (fun x wx => x = .bool false ∧ wx = (wr.alloc (.cells kwA 9)).drew)
                    case first => as_aux_lemma =>
                      go_region_with ((go_at_call 79; refine (rwords_any _).mono ?_; rintro e w6 ⟨rfl, rfl⟩))
                      all_goals (go_wp2_with fail; go_meet; exact ⟨rfl, rfl⟩)
                    case rest => as_aux_lemma =>
                    obtain ⟨rfl, rfl⟩ := hcut
                    clear z1 z2
                    generalize wr.alloc (.cells kwA 9) = w7 at *
                    go_wp2_with fail
                    go_roundw
                    case rel => exact ⟨j + 1, kd, by omega, by omega, by go_num, hkd, HQa.out, HRa.out, HBa.out.drew, HEa.out, HBL2.out, HK2.out⟩
                    case measure => simp [intOf]; omega
                · have hji : ¬ (j : Int) ≤ 6 := by omega
                  have HFIN : Hid (∀ b' : Bx, boxI b' = 0 → boxL b' = s.data.toList ++ [10] → (⟨(kd : Int), n1, n2, n3, n4, T⟩ : Bx) = b' ∧ decide (0 < kd) = true) := fun b' h1 h2 => by
                    obtain ⟨kk, k0, k1, k2, e1, e2⟩ := HPC.out b' h1 h2
                    rw [HKS.out] at e1
                    simp only [List.cons.injEq, and_true] at e1
                    obtain ⟨g0, g1, g2, g3, g4⟩ := e1
                    have hkk := HK.out kk k1 (by omega) g0
                    obtain ⟨_, _, x1, x2, y1, y2, d1, d2, b1, b2, _⟩ := bx_good h1
                    obtain ⟨m1, m2, m3, m4⟩ := HNN.out
                    rw [g1, numR_itoa x1 x2] at m1
                    rw [g2, numR_itoa y1 y2] at m2
                    rw [g3, numR_itoa d1 d2] at m3
                    rw [g4, numR_itoa b1 (by omega)] at m4
                    subst hkk
                    rw [← m1, ← m2, ← m3, ← m4, e2, ← k0]
                    exact ⟨rfl, decide_eq_true (by omega)⟩
                  have HRX := HR
                  have HBX := HB
                  have e0 := HRX.out.cell 0 rfl
                  have e1 := HRX.out.cell 1 rfl
                  have e2 := HRX.out.cell 2 rfl
                  have e3 := HRX.out.cell 3 rfl
                  have e4 := HRX.out.cell 4 rfl
                  have e5 := HRX.out.cell 5 rfl
                  have f0 := HRX.out.frozen 0
                  have f1 := HRX.out.frozen 1
                  have f2 := HRX.out.frozen 2
                  have f3 := HRX.out.frozen 3
                  have f4 := HRX.out.frozen 4
                  have f5 := HRX.out.frozen 5
                  have q0 := HQ.out.cell 0 rfl
                  have q1 := HQ.out.cell 1 rfl
                  have q2 := HQ.out.cell 2 rfl
                  have q3 := HQ.out.cell 3 rfl
                  have q4 := HQ.out.cell 4 rfl
                  have q5 := HQ.out.cell 5 rfl
                  have HRZ := hid (row_dr (row6_set HRX.out (.int .i64 kd) (.int .i64 n1) (.int .i64 n2) (.int .i64 n3) (.int .i64 n4) (.string T)))
                  have HBZ := hid (below6_set HBX.out (Nat.le_refl _) (.int .i64 kd) (.int .i64 n1) (.int .i64 n2) (.int .i64 n3) (.int .i64 n4) (.string T)).drew
                  have HQR : Hid (Q ≠ w.heap.size) := by show _ ≠ _; omega
                  clear HR HB HRX HBX HQ HK HPC HKS HNN
                  go_upto_region 15 with fail
                  have hqr := HQR.out
                  go_region
                  clear e0 e1 e2 e3 e4 e5 f0 f1 f2 f3 f4 f5 q0 q1 q2 q3 q4 q5
                  go_wp2_with fail
                  generalize ((((((wr.setCell ⟨w.heap.size, 0, none⟩ (.int .i64 kd)).setCell ⟨w.heap.size, 1, none⟩ (.int .i64 n1)).setCell ⟨w.heap.size, 2, none⟩ (.int .i64 n2)).setCell ⟨w.heap.size, 3, none⟩ (.int .i64 n3)).setCell ⟨w.heap.size, 4, none⟩ (.int .i64 n4)).setCell ⟨w.heap.size, 5, none⟩ (.string T)).drew = W9 at *
                  have r0 := HRZ.out.cell 0 rfl
                  have r1 := HRZ.out.cell 1 rfl
                  have r2 := HRZ.out.cell 2 rfl
                  have r3 := HRZ.out.cell 3 rfl
                  have r4 := HRZ.out.cell 4 rfl
                  have r5 := HRZ.out.cell 5 rfl
                  have hpost : BoxRR s (.returned (.tuple #[.agg #[.int .i64 kd, .int .i64 n1, .int .i64 n2, .int .i64 n3, .int .i64 n4, .string T], .bool (decide (0 < kd))])) ∧ Below w.heap.size w W9 := ⟨⟨⟨kd, n1, n2, n3, n4, T⟩, decide (0 < kd), rfl, hext, HFIN.out⟩, HBZ.out⟩
                  refine bodyPost_ret (v := .tuple #[.agg #[.int .i64 kd, .int .i64 n1, .int .i64 n2, .int .i64 n3, .int .i64 n4, .string T], .bool (decide (0 < kd))]) ((results_ct rfl _ _ _).trans ?_) rfl hpost
                  simp [go_sem, r0, r1, r2, r3, r4, r5]
          · have h5i : ((ks.length : Int) != 5) = true := by
              simp only [bne_iff_ne, ne_eq]; omega
            have HNO : Hid (∀ b' : Bx, boxI b' = 0 → boxL b' = s.data.toList ++ [10] → False) := fun b' h1 h2 => by
              obtain ⟨_, _, _, _, e, _⟩ := HPC.out b' h1 h2
              exact h5 (by rw [e]; rfl)
            clear HPC h5
            have e0 := HRX.out.cell 0 rfl
            have e1 := HRX.out.cell 1 rfl
            have e2 := HRX.out.cell 2 rfl
            have e3 := HRX.out.cell 3 rfl
            have e4 := HRX.out.cell 4 rfl
            have e5 := HRX.out.cell 5 rfl
            have f0 := HRX.out.frozen 0
            have f1 := HRX.out.frozen 1
            have f2 := HRX.out.frozen 2
            have f3 := HRX.out.frozen 3
            have f4 := HRX.out.frozen 4
            have f5 := HRX.out.frozen 5
            have HRZ := row6_set HRX.out (.int .i64 0) (.int .i64 0) (.int .i64 0) (.int .i64 0) (.int .i64 0) (.string ⟨#[]⟩)
            have r0 := HRZ.cell 0 rfl
            have r1 := HRZ.cell 1 rfl
            have r2 := HRZ.cell 2 rfl
            have r3 := HRZ.cell 3 rfl
            have r4 := HRZ.cell 4 rfl
            have r5 := HRZ.cell 5 rfl
            have HBZ := hid (below6_set HBX.out (Nat.le_refl _) (.int .i64 0) (.int .i64 0) (.int .i64 0) (.int .i64 0) (.int .i64 0) (.string ⟨#[]⟩))
            clear HRZ
            go_wp2_with fail
            refine bodyPost_ret (v := .tuple #[.agg #[.int .i64 0, .int .i64 0, .int .i64 0, .int .i64 0, .int .i64 0, .string ⟨#[]⟩], .bool false]) ((results_ct rfl _ _ _).trans ?_) rfl ⟨boxRR_no HNO.out, HBZ.out⟩
            simp [go_sem, r0, r1, r2, r3, r4, r5]
      · have h124i : ((s[k].toNat : Int) != 124) = true := by
          simp only [bne_iff_ne, ne_eq]
          exact fun e => h124 (UInt8.toNat_inj.1 (by have : (124 : UInt8).toNat = 124 := rfl; omega))
        have HN2 := hid (take_miss hlt HN.out h124)
        clear h124 HN
        go_wp2
        go_round
        case rel => exact ⟨k + 1, by omega, by go_num, HN2.out⟩
        case measure => simp [intOf]; omega
    · have hki : ¬ (k : Int) < (s.size : Int) := by omega
      have hkeq : ((k : Int) == (s.size : Int)) = true := beq_iff_eq.2 (by omega)
      have HNO : Hid (∀ b' : Bx, boxI b' = 0 → boxL b' = s.data.toList ++ [10] → False) := fun b' h1 h2 => by
        obtain ⟨_, hd, _, _, _, hs1, hh, hl, _⟩ := box_form h1 h2
        have hn := HN.out
        rw [List.take_of_length_le (by rw [data_size]; omega), hs1] at hn
        exact hn (by simp)
      have HRX := HR0
      have HBX := HB0
      have e0 := HRX.out.cell 0 rfl
      have e1 := HRX.out.cell 1 rfl
      have e2 := HRX.out.cell 2 rfl
      have e3 := HRX.out.cell 3 rfl
      have e4 := HRX.out.cell 4 rfl
      have e5 := HRX.out.cell 5 rfl
      have f0 := HRX.out.frozen 0
      have f1 := HRX.out.frozen 1
      have f2 := HRX.out.frozen 2
      have f3 := HRX.out.frozen 3
      have f4 := HRX.out.frozen 4
      have f5 := HRX.out.frozen 5
      have HRZ := row6_set HRX.out (.int .i64 0) (.int .i64 0) (.int .i64 0) (.int .i64 0) (.int .i64 0) (.string ⟨#[]⟩)
      have r0 := HRZ.cell 0 rfl
      have r1 := HRZ.cell 1 rfl
      have r2 := HRZ.cell 2 rfl
      have r3 := HRZ.cell 3 rfl
      have r4 := HRZ.cell 4 rfl
      have r5 := HRZ.cell 5 rfl
      have HBZ := hid (below6_set HBX.out (Nat.le_refl _) (.int .i64 0) (.int .i64 0) (.int .i64 0) (.int .i64 0) (.int .i64 0) (.string ⟨#[]⟩))
      clear HRZ
      go_wp2_with fail
      refine bodyPost_ret (v := .tuple #[.agg #[.int .i64 0, .int .i64 0, .int .i64 0, .int .i64 0, .int .i64 0, .string ⟨#[]⟩], .bool false]) ((results_ct rfl _ _ _).trans ?_) rfl ⟨boxRR_no HNO.out, HBZ.out⟩
      simp [go_sem, r0, r1, r2, r3, r4, r5]
end Go.Proofs.YtkjapeafhcdnkaaDoor
