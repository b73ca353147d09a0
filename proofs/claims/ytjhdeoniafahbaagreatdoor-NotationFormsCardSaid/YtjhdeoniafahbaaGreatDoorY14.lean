/-
  Joined, what is needed of: RPs.
-/
import Derived.Laws.OwnMore
import Derived.Test.YtjhdeoniafahbaaGreatDoorY08
import Derived.Test.YtjhdeoniafahbaaGreatDoorY13
import Derived.Test.YtjhdeoniafahbaaGreatDoorY07
namespace Go.Proofs.YtjhdeoniafahbaaGreatDoor
open Go.RowKit
theorem infoStrP : (Tryz.prog.info? 9).map (fun i => (i.zero, i.size, i.bytes)) = some (some (.string ⟨#[]⟩), 1, 16) := by kernel_rfl
theorem formS {W : World} {base : Nat} {e : TypeId} {size n : Nat} {v : Value} {xs : List Value} (h : W.ownsRow base e size v n xs) (hn : 0 < n) : ∃ g cap, v = .slice (some ⟨g, 0, none⟩) n cap := by
  rcases h.2 with ⟨_, h0⟩ | ⟨g, cap', cur, e, _⟩
  · omega
  · exact ⟨g, cap', e⟩
theorem three_of {α : Type} {l : List α} (h : l.length = 3) : ∃ a b c, l = [a, b, c] := by
  match l, h with
  | [a, b, c], _ => exact ⟨a, b, c, rfl⟩
theorem plus_list : (⟨#[43]⟩ : ByteArray).toList = [43] := by decide +kernel
/-- The result's cells, the parts, the lemma's cells while Parse runs. -/
structure PsJ (w : World) (g B : Nat) (ks : List ByteArray) (f l : ByteArray) (n : Int) (W : World) : Prop where
  res : Row W w.heap.size #[.string ⟨#[]⟩, .string ⟨#[]⟩, .int .i64 0] 28
  pts : ∀ i x, ks[i]? = some x → W.cell? ⟨g, i, none⟩ = some (.string x)
  glt : g < W.heap.size
  lem : Row W B #[.string f, .string l, .int .i64 n] 28
  bel : Below w.heap.size w W
  lo : w.heap.size < g
  hi : g < B
theorem PsJ.below {w W W' : World} {g B : Nat} {ks : List ByteArray} {f l : ByteArray} {n : Int} (h : PsJ w g B ks f l n W) (hb : Below W.heap.size W W') : PsJ w g B ks f l n W' :=
  ⟨h.res.below hb, fun i x hx => (hb.cell (p := ⟨g, i, none⟩) h.glt).trans (h.pts i x hx), Nat.lt_of_lt_of_le h.glt hb.size, h.lem.below hb, below_tr h.bel hb, h.lo, h.hi⟩
theorem PsJ.drew {w W : World} {g B : Nat} {ks : List ByteArray} {f l : ByteArray} {n : Int} (h : PsJ w g B ks f l n W) : PsJ w g B ks f l n W.drew := h.below (Below.refl _ _).drew
theorem PsJ.pts_set {w W : World} {g B : Nat} {ks : List ByteArray} {f l : ByteArray} {n : Int} (h : PsJ w g B ks f l n W) (k : Nat) (v : Value) : ∀ i x, ks[i]? = some x → (W.setCell ⟨B, k, none⟩ v).cell? ⟨g, i, none⟩ = some (.string x) :=
  fun i x hx => (((Below.refl B W).setCell (p := ⟨B, k, none⟩) (Nat.le_refl _) v).cell (p := ⟨g, i, none⟩) h.hi).trans (h.pts i x hx)
theorem PsJ.num {w W : World} {g B : Nat} {ks : List ByteArray} {f l : ByteArray} {n : Int} (h : PsJ w g B ks f l n W) (c : Int) : PsJ w g B ks f l c (W.setCell ⟨B, 2, none⟩ (.int .i64 c)) :=
  have hl := h.lo
  have hi := h.hi
  ⟨h.res.other _ _ (by simp; omega), h.pts_set 2 _, by simpa using h.glt, h.lem.set 2 _, h.bel.setCell (p := ⟨B, 2, none⟩) (by simp; omega) _, hl, hi⟩
theorem PsJ.fst {w W : World} {g B : Nat} {ks : List ByteArray} {f l : ByteArray} {n : Int} (h : PsJ w g B ks f l n W) (c : ByteArray) : PsJ w g B ks c l n (W.setCell ⟨B, 0, none⟩ (.string c)) :=
  have hl := h.lo
  have hi := h.hi
  ⟨h.res.other _ _ (by simp; omega), h.pts_set 0 _, by simpa using h.glt, h.lem.set 0 _, h.bel.setCell (p := ⟨B, 0, none⟩) (by simp; omega) _, hl, hi⟩
theorem PsJ.lst {w W : World} {g B : Nat} {ks : List ByteArray} {f l : ByteArray} {n : Int} (h : PsJ w g B ks f l n W) (c : ByteArray) : PsJ w g B ks f c n (W.setCell ⟨B, 1, none⟩ (.string c)) :=
  have hl := h.lo
  have hi := h.hi
  ⟨h.res.other _ _ (by simp; omega), h.pts_set 1 _, by simpa using h.glt, h.lem.set 1 _, h.bel.setCell (p := ⟨B, 1, none⟩) (by simp; omega) _, hl, hi⟩
set_option maxRecDepth 100000 in
set_option maxHeartbeats 4000000 in
theorem rparse43_any (s : ByteArray) (w : World) (he : Env w) (hs : s.size ≤ 65536) :
    Calls Tryz.prog 109 #[.string s] w fun e w' => e = .returned (lmV (parseLm s)) ∧ Below w.heap.size w w' := by
  have hsi : ¬ (65536 : Int) < (s.size : Int) := by omega
  have HK := fun (f l : ByteArray) (n : Int) w' (hf : f.size ≤ 65536) (hl : l.size ≤ 65536) (h : Below w.heap.size w w') => hid (rlck_any f l n w' (he.below h) hf hl)
  have HR0 := hid (row_nw w #[.string ⟨#[]⟩, .string ⟨#[]⟩, .int .i64 0] 28 rfl)
  have HB0 := hid (below_al w (.cells #[.string ⟨#[]⟩, .string ⟨#[]⟩, .int .i64 0] 28))
  have HS1 : Hid (w.heap.size + 1 ≤ (w.alloc (.cells #[.string ⟨#[]⟩, .string ⟨#[]⟩, .int .i64 0] 28)).heap.size) := by simp [Hid]
  clear he
  go_enter Tryz.func109, Tryz.ntmps109
  go_wp2_with fail
  generalize w.alloc (.cells #[.string ⟨#[]⟩, .string ⟨#[]⟩, .int .i64 0] 28) = w1 at *
  go_loopw [4, 5, 6] (fun o f i wr => ∃ (j k : Nat) (ks : List ByteArray), k ≤ s.size + 1 ∧ j ≤ s.size + 1 ∧ i = .int .i64 k ∧ f = .int .i64 j ∧ Hid (CutG s.data.toList ks j k) ∧ Hid (wr.ownsRow (w.heap.size + 1) 9 1 o ks.length (ks.map Value.string)) ∧ Hid (Row wr w.heap.size #[.string ⟨#[]⟩, .string ⟨#[]⟩, .int .i64 0] 28) ∧ Hid (Below w.heap.size w wr) ∧ Hid (w.heap.size + 1 ≤ wr.heap.size)) (fun _ _ i _ => s.size + 1 - (intOf i).toNat)
  case atStart => exact ⟨0, 0, [], by omega, by omega, rfl, rfl, CutG.start _, World.ownsRow_nil _ _ _ _, HR0.out, HB0.out, HS1.out⟩
  case round =>
    obtain ⟨j, k, ks, hk, hj, rfl, rfl, HC, HOW, HRS, HBW, HSZ⟩ := hrel
    clear HR0 HB0 HS1
    have hb := HC.out.bound
    have hdl : s.data.toList.length = s.size := rfl
    rw [hdl] at hb
    clear hdl
    by_cases hlt : k ≤ s.size
    · have hjk : j ≤ k := HC.out.le (by show k ≤ s.size; omega)
      have hki : (k : Int) ≤ (s.size : Int) := by omega
      have hjki : (j : Int) ≤ (k : Int) := by omega
      by_cases hlt2 : k < s.size
      · have hkl : (k : Int) < (s.size : Int) := by omega
        have hkne : ((k : Int) == (s.size : Int)) = false := beq_eq_false_iff_ne.2 (by omega)
        by_cases h32 : s[k] = 32
        · have HC2 := hid (HC.out.split hlt2 (by rw [getL s k hlt2, h32]))
          have q3 : ((s[k].toNat : Int) == 32) = true := by rw [h32]; rfl
          clear h32 HC
          go_wp2_with (at_builtin; refine wpList_ap rfl _ _ 23 rfl (w.heap.size + 1) 9 Tryz.underlying23 infoStrP rfl (by decide) (by decide) _ _ _ rfl HOW.out [.string (s.extract j k)] rfl (by simp [Value.oneCell']) rfl (by simp) (by omega) HSZ.out ?_; intro v' w9 hown9 hb9 _)
          go_roundw
          case rel => exact ⟨k + 1, k + 1, ks ++ [s.extract j k], by omega, by omega, by go_num, by go_num, HC2.out, by (rw [List.length_append, List.map_append]; exact hown9), (hb9.block w.heap.size (by omega)).trans HRS.out, HBW.out.trans (hb9.mono (by omega)), Nat.le_trans HSZ.out hb9.size⟩
          case measure => (simp [intOf]) <;> omega
        · have HC2 := hid (HC.out.skip (by show k < s.size; omega) s[k] (getL s k hlt2) h32)
          have q3 := byte_ne h32
          clear h32 HC
          go_wp2
          go_roundw
          case rel => exact ⟨j, k + 1, ks, by omega, by omega, by go_num, rfl, HC2.out, HOW.out, HRS.out, HBW.out, HSZ.out⟩
          case measure => simp [intOf]; omega
      · obtain rfl : k = s.size := by omega
        have hkne : ((s.size : Int) == (s.size : Int)) = true := by simp
        have HC2 := hid HC.out.last
        clear HC
        go_wp2_with (at_builtin; refine wpList_ap rfl _ _ 23 rfl (w.heap.size + 1) 9 Tryz.underlying23 infoStrP rfl (by decide) (by decide) _ _ _ rfl HOW.out [.string (s.extract j s.size)] rfl (by simp [Value.oneCell']) rfl (by simp) (by omega) HSZ.out ?_; intro v' w9 hown9 hb9 _)
        go_roundw
        case rel => exact ⟨s.size + 1, s.size + 1, ks ++ [s.extract j s.size], by omega, by omega, by go_num, by go_num, HC2.out, by (rw [List.length_append, List.map_append]; exact hown9), (hb9.block w.heap.size (by omega)).trans HRS.out, HBW.out.trans (hb9.mono (by omega)), Nat.le_trans HSZ.out hb9.size⟩
        case measure => (simp [intOf]) <;> omega
    · have hki : ¬ (k : Int) ≤ (s.size : Int) := by omega
      have HPS : Hid (splitS s = ks) := by
        have h := HC.out
        rw [show k = s.size + 1 by omega] at h
        exact h.done
      have HL : Hid (parseLm s = if ¬ (ks.length = 1 ∨ (ks.length = 3 ∧ ks.getD 1 ⟨#[]⟩ = ⟨#[43]⟩)) then lm0 3 else if (hashB (lmLast ks) && !decB (numB (lmLast ks))) = true then lm0 3 else if ks.length = 1 then lmEnd (ownB (lmLast ks)) ⟨#[]⟩ (lmNum (lmLast ks)) else if (ownB (lmLast ks)).size = 0 then lm0 11 else lmEnd (ks.getD 0 ⟨#[]⟩) (ownB (lmLast ks)) (lmNum (lmLast ks))) := by
        unfold Hid parseLm; rw [if_neg (by omega), HPS.out]
      have hp1 : 1 ≤ ks.length := by rw [← HPS.out, splitS_count]; omega
      have HPZ : Hid (∀ x ∈ ks, x.size ≤ 65536) := by
        intro x hx
        rw [← HPS.out] at hx
        have := splitS_size s x hx
        omega
      obtain ⟨nk, HNK⟩ : ∃ nk : Nat, Hid (ks.length = nk) := ⟨_, rfl⟩
      have hnk1 : 1 ≤ nk := by rw [← HNK.out]; exact hp1
      obtain ⟨g, cap, rfl⟩ := formS HOW.out hp1
      rw [HNK.out] at HOW
      rw [HNK.out] at hb
      have HG := hid (HOW.out.lt g rfl)
      have HPT : Hid (∀ i x, ks[i]? = some x → wr.cell? ⟨g, i, none⟩ = some (.string x)) := fun i x hx => (World.ownsRow.cellAt HOW.out i (by
        have h1 := (List.getElem?_eq_some_iff.1 hx).1
        have h2 := HNK.out
        omega)).trans (by rw [List.getElem?_map, hx]; rfl)
      rw [HNK.out]
      clear HC HPS HOW hp1 hk hj hlt
      have HBA := hid (below_al wr (.cells #[.string ⟨#[]⟩, .string ⟨#[]⟩, .int .i64 0] 28))
      have HPJ : Hid (PsJ w g wr.heap.size ks ⟨#[]⟩ ⟨#[]⟩ 0 (wr.alloc (.cells #[.string ⟨#[]⟩, .string ⟨#[]⟩, .int .i64 0] 28))) :=
        ⟨HRS.out.below HBA.out, fun i x hx => (HBA.out.cell (p := ⟨g, i, none⟩) HG.out.2).trans (HPT.out i x hx), Nat.lt_of_lt_of_le HG.out.2 HBA.out.size, row_nw wr _ _ rfl, below_tr HBW.out HBA.out, by have := HG.out.1; omega, HG.out.2⟩
      by_cases h1 : nk = 1
      · subst h1
        obtain ⟨x, rfl⟩ := List.length_eq_one_iff.1 HNK.out
        have cx := HPJ.out.pts 0 x rfl
        have hxz := HPZ.out x (by simp)
        have HL1 : Hid (parseLm s = if (hashB x && !decB (numB x)) = true then lm0 3 else lmEnd (ownB x) ⟨#[]⟩ (lmNum x)) := by
          unfold Hid
          rw [HL.out, if_neg (by simp)]
          show (if (hashB x && !decB (numB x)) = true then lm0 3 else if [x].length = 1 then lmEnd (ownB x) ⟨#[]⟩ (lmNum x) else _) = _
          rw [if_pos (show [x].length = 1 from rfl)]
        clear HL HNK HPZ HPT HG HBA HBW HRS HSZ hnk1 hb
        go_wp2_with fail
        generalize wr.alloc (.cells #[.string ⟨#[]⟩, .string ⟨#[]⟩, .int .i64 0] 28) = w3 at *
        generalize wr.heap.size = B at *
        go_loopw [8, 9] (fun o i wl => ∃ q : Nat, q ≤ x.size ∧ i = .int .i64 q ∧ o = .string x ∧ Hid ((35 : UInt8) ∉ x.data.toList.take q) ∧ Hid (PsJ w g B [x] ⟨#[]⟩ ⟨#[]⟩ 0 wl)) (fun _ i _ => x.size - (intOf i).toNat)
        case atStart => exact ⟨0, by omega, rfl, rfl, by simp [Hid], HPJ.out⟩
        case round =>
          obtain ⟨q, hq, rfl, rfl, HN, HP⟩ := hrel
          clear HPJ cx
          by_cases hql : q < x.size
          · have hqi : (q : Int) < (x.size : Int) := by omega
            by_cases h35 : x[q] = 35
            · have q35 : ((x[q].toNat : Int) == 35) = true := by rw [h35]; rfl
              obtain ⟨e1, e2, e3⟩ := hash_at hql HN.out h35
              have hon : (x.extract 0 q).size ≤ 65536 := by rw [ByteArray.size_extract]; omega
              have hdz : (x.extract (q + 1) x.size).size ≤ x.size := by rw [ByteArray.size_extract]; omega
              have HNO : Hid (∀ D, D = x.extract (q + 1) x.size → decB D = false → parseLm s = lm0 3) := fun D hD h => by rw [HL1.out, if_pos (by rw [e1, e3, ← hD, h]; rfl)]
              have HYES : Hid (∀ D, D = x.extract (q + 1) x.size → decB D = true → parseLm s = lmEnd (x.extract 0 q) ⟨#[]⟩ (decV D)) := fun D hD h => by
                have hn : lmNum x = decV D := by unfold lmNum; rw [if_pos e1, e3, ← hD]
                rw [HL1.out, if_neg (by rw [e1, e3, ← hD, h]; simp), e2, hn]
              have hq1 : (0 : Int) ≤ (q : Int) + 1 := by omega
              clear h35 e1 e2 e3 HN HL1
              go_upto_region 20 with fail
              generalize hD : x.extract (q + 1) x.size = D at *
              have HNO2 := hid (HNO.out D rfl)
              have HYES2 := hid (HYES.out D rfl)
              clear HNO HYES hD
              by_cases b0 : D.size = 0
              · have b0i : ((D.size : Int) == 0) = true := beq_iff_eq.2 (by omega)
                have HV := hid (HNO2.out (dec_no (.inl b0)))
                clear b0
                have r0 := HP.out.res.cell 0 rfl
                have r1 := HP.out.res.cell 1 rfl
                have r2 := HP.out.res.cell 2 rfl
                have r3 := HP.out.res.frozen 0
                have r4 := HP.out.res.frozen 1
                have r5 := HP.out.res.frozen 2
                have hR := ((HP.out.res.set 0 (.string ⟨#[]⟩)).set 1 (.string ⟨#[]⟩)).set 2 (.int .i64 0)
                have z0 := hR.cell 0 rfl
                have z1 := hR.cell 1 rfl
                have z2 := hR.cell 2 rfl
                have HBE := hid (((HP.out.bel.setCell (p := ⟨w.heap.size, 0, none⟩) (by simp) (.string ⟨#[]⟩)).setCell (p := ⟨w.heap.size, 1, none⟩) (by simp) (.string ⟨#[]⟩)).setCell (p := ⟨w.heap.size, 2, none⟩) (by simp) (.int .i64 0))
                clear hR
                go_wp2_with fail
                exact bodyPost_ret (v := .tuple #[.agg #[.string ⟨#[]⟩, .string ⟨#[]⟩, .int .i64 0], .int .i64 3]) (by simp [results, Tryz.f109, go_sem, z0, z1, z2]) rfl ⟨by rw [HV.out]; rfl, HBE.out⟩
              · have b0i : ((D.size : Int) == 0) = false := beq_eq_false_iff_ne.2 (by omega)
                by_cases b9 : 9 < D.size
                · have b9i : (9 : Int) < (D.size : Int) := by omega
                  have HV := hid (HNO2.out (dec_no (.inr (.inl b9))))
                  have r0 := HP.out.res.cell 0 rfl
                  have r1 := HP.out.res.cell 1 rfl
                  have r2 := HP.out.res.cell 2 rfl
                  have r3 := HP.out.res.frozen 0
                  have r4 := HP.out.res.frozen 1
                  have r5 := HP.out.res.frozen 2
                  have hR := ((HP.out.res.set 0 (.string ⟨#[]⟩)).set 1 (.string ⟨#[]⟩)).set 2 (.int .i64 0)
                  have z0 := hR.cell 0 rfl
                  have z1 := hR.cell 1 rfl
                  have z2 := hR.cell 2 rfl
                  have HBE := hid (((HP.out.bel.setCell (p := ⟨w.heap.size, 0, none⟩) (by simp) (.string ⟨#[]⟩)).setCell (p := ⟨w.heap.size, 1, none⟩) (by simp) (.string ⟨#[]⟩)).setCell (p := ⟨w.heap.size, 2, none⟩) (by simp) (.int .i64 0))
                  clear hR
                  go_wp2_with fail
                  exact bodyPost_ret (v := .tuple #[.agg #[.string ⟨#[]⟩, .string ⟨#[]⟩, .int .i64 0], .int .i64 3]) (by simp [results, Tryz.f109, go_sem, z0, z1, z2]) rfl ⟨by rw [HV.out]; rfl, HBE.out⟩
                · have b9i : ¬ (9 : Int) < (D.size : Int) := by omega
                  have hD0 : 0 < D.size := by omega
                  have HH : Hid (D.data.toList.head? = some D[0]) := by
                    have := getL D 0 hD0
                    rw [← this]
                    cases D.data.toList <;> rfl
                  have hi0 : (0 : Int) < (D.size : Int) := by omega
                  by_cases b48 : D[0] = 48
                  · have b48i : ((D[0].toNat : Int) == 48) = true := by rw [b48]; rfl
                    have HV := hid (HNO2.out (dec_no (.inr (.inr (.inl (by rw [HH.out, b48]))))))
                    clear b48 HH
                    have r0 := HP.out.res.cell 0 rfl
                    have r1 := HP.out.res.cell 1 rfl
                    have r2 := HP.out.res.cell 2 rfl
                    have r3 := HP.out.res.frozen 0
                    have r4 := HP.out.res.frozen 1
                    have r5 := HP.out.res.frozen 2
                    have hR := ((HP.out.res.set 0 (.string ⟨#[]⟩)).set 1 (.string ⟨#[]⟩)).set 2 (.int .i64 0)
                    have z0 := hR.cell 0 rfl
                    have z1 := hR.cell 1 rfl
                    have z2 := hR.cell 2 rfl
                    have HBE := hid (((HP.out.bel.setCell (p := ⟨w.heap.size, 0, none⟩) (by simp) (.string ⟨#[]⟩)).setCell (p := ⟨w.heap.size, 1, none⟩) (by simp) (.string ⟨#[]⟩)).setCell (p := ⟨w.heap.size, 2, none⟩) (by simp) (.int .i64 0))
                    clear hR
                    go_wp2_with fail
                    exact bodyPost_ret (v := .tuple #[.agg #[.string ⟨#[]⟩, .string ⟨#[]⟩, .int .i64 0], .int .i64 3]) (by simp [results, Tryz.f109, go_sem, z0, z1, z2]) rfl ⟨by rw [HV.out]; rfl, HBE.out⟩
                  · have b48i : ((D[0].toNat : Int) == 48) = false := beq_eq_false_iff_ne.2 (fun e => b48 (UInt8.toNat_inj.1 (by have h48 : (48 : UInt8).toNat = 48 := rfl; omega)))
                    have HHD : Hid (D.data.toList.head? ≠ some 48) := by
                      show _ ≠ _
                      rw [HH.out]
                      exact fun e => b48 (Option.some.inj e)
                    clear b48 HH
                    go_wp2_with fail
                    obtain ⟨wo, rfl⟩ : ∃ wo : World, wo = wr := ⟨_, rfl⟩
                    go_loopw [11] (fun i wm => ∃ (m N : Nat), m ≤ D.size ∧ i = .int .i64 m ∧ N < 1000000000 ∧ Hid (Lib.decFrom 0 (D.data.toList.take m) = some N) ∧ Hid (PsJ w g B [x] ⟨#[]⟩ ⟨#[]⟩ (N : Int) wm)) (fun i _ => D.size - (intOf i).toNat)
                    case atStart => exact ⟨0, 0, by omega, rfl, by omega, rfl, HP.out⟩
                    case round =>
                      obtain ⟨m, N, hm, rfl, hN, HF0, HP3⟩ := hrel
                      clear HP b48i
                      by_cases hml : m < D.size
                      · have hmi : (m : Int) < (D.size : Int) := by omega
                        have HMEM : Hid (D[m] ∈ D.data.toList) := List.mem_of_getElem? (getL D m hml)
                        by_cases b1 : (D[m].toNat : Int) < 48
                        · have HV := hid (HNO2.out (dec_no (.inr (.inr (.inr ⟨D[m], HMEM.out, .inl (by omega)⟩)))))
                          have r0 := HP3.out.res.cell 0 rfl
                          have r1 := HP3.out.res.cell 1 rfl
                          have r2 := HP3.out.res.cell 2 rfl
                          have r3 := HP3.out.res.frozen 0
                          have r4 := HP3.out.res.frozen 1
                          have r5 := HP3.out.res.frozen 2
                          have hR := ((HP3.out.res.set 0 (.string ⟨#[]⟩)).set 1 (.string ⟨#[]⟩)).set 2 (.int .i64 0)
                          have z0 := hR.cell 0 rfl
                          have z1 := hR.cell 1 rfl
                          have z2 := hR.cell 2 rfl
                          have HBE := hid (((HP3.out.bel.setCell (p := ⟨w.heap.size, 0, none⟩) (by simp) (.string ⟨#[]⟩)).setCell (p := ⟨w.heap.size, 1, none⟩) (by simp) (.string ⟨#[]⟩)).setCell (p := ⟨w.heap.size, 2, none⟩) (by simp) (.int .i64 0))
                          clear hR
                          go_wp2_with fail
                          exact bodyPost_ret (v := .tuple #[.agg #[.string ⟨#[]⟩, .string ⟨#[]⟩, .int .i64 0], .int .i64 3]) (by simp [results, Tryz.f109, go_sem, z0, z1, z2]) rfl ⟨by rw [HV.out]; rfl, HBE.out⟩
                        · by_cases b2 : (57 : Int) < (D[m].toNat : Int)
                          · have HV := hid (HNO2.out (dec_no (.inr (.inr (.inr ⟨D[m], HMEM.out, .inr (by omega)⟩)))))
                            have r0 := HP3.out.res.cell 0 rfl
                            have r1 := HP3.out.res.cell 1 rfl
                            have r2 := HP3.out.res.cell 2 rfl
                            have r3 := HP3.out.res.frozen 0
                            have r4 := HP3.out.res.frozen 1
                            have r5 := HP3.out.res.frozen 2
                            have hR := ((HP3.out.res.set 0 (.string ⟨#[]⟩)).set 1 (.string ⟨#[]⟩)).set 2 (.int .i64 0)
                            have z0 := hR.cell 0 rfl
                            have z1 := hR.cell 1 rfl
                            have z2 := hR.cell 2 rfl
                            have HBE := hid (((HP3.out.bel.setCell (p := ⟨w.heap.size, 0, none⟩) (by simp) (.string ⟨#[]⟩)).setCell (p := ⟨w.heap.size, 1, none⟩) (by simp) (.string ⟨#[]⟩)).setCell (p := ⟨w.heap.size, 2, none⟩) (by simp) (.int .i64 0))
                            clear hR
                            go_wp2_with fail
                            exact bodyPost_ret (v := .tuple #[.agg #[.string ⟨#[]⟩, .string ⟨#[]⟩, .int .i64 0], .int .i64 3]) (by simp [results, Tryz.f109, go_sem, z0, z1, z2]) rfl ⟨by rw [HV.out]; rfl, HBE.out⟩
                          · have hd := dig_of (c := D[m]) (by omega) (by omega)
                            have HF2 : Hid (Lib.decFrom 0 (D.data.toList.take (m + 1)) = some (N * 10 + (D[m].toNat - 48))) := by
                              show _ = _
                              rw [List.take_add_one, getL D m hml]
                              exact decFrom_snoc _ _ hd _ _ _ HF0.out
                            have hN2 : N * 10 + (D[m].toNat - 48) < 1000000000 := by
                              have h1 := from_lt _ _ _ HF2.out
                              have h2 : (D.data.toList.take (m + 1)).length ≤ 9 := by rw [List.length_take]; omega
                              have h3 : (10 : Nat) ^ (D.data.toList.take (m + 1)).length ≤ 10 ^ 9 := Nat.pow_le_pow_right (by decide) h2
                              have e : (10 : Nat) ^ 9 = 1000000000 := by decide
                              omega
                            have c2 := HP3.out.lem.cell 2 rfl
                            have f2 := HP3.out.lem.frozen 2
                            have HP4 := hid (HP3.out.drew.num ((N * 10 + (D[m].toNat - 48) : Nat) : Int))
                            have HP5 : Hid ((10 * (N : Int) + ((D[m].toNat : Int) - 48)) = ((N * 10 + (D[m].toNat - 48) : Nat) : Int)) := by show _ = _; omega
                            clear hd HF0 HMEM HNO2 HYES2 HHD
                            go_wp2_with fail
                            go_region
                            all_goals go_wp2_with fail
                            go_roundw
                            case rel => exact ⟨m + 1, N * 10 + (D[m].toNat - 48), by omega, by go_num, hN2, HF2.out, by
                              have h := HP4.out
                              rw [← HP5.out] at h ⊢
                              exact h⟩
                            case measure => simp [intOf]; omega
                      · have hmi : ¬ (m : Int) < (D.size : Int) := by omega
                        have HF2 : Hid (Lib.decFrom 0 D.data.toList = some N) := by
                          have h := HF0.out
                          rw [List.take_of_length_le (by rw [ba_len]; omega)] at h
                          exact h
                        obtain ⟨g1, g2, _⟩ := dec_good (n := N) (by omega) hD0 HHD.out HF2.out
                        have HQ := hid (HYES2.out g1)
                        rw [g2] at HQ
                        clear g1 g2 HF0 HF2 HNO2 HYES2 HHD
                        have d0 := HP3.out.pts 0 x rfl
                        have d1 := HP3.out.lem.cell 0 rfl
                        have d2 := HP3.out.lem.frozen 0
                        have d3 := HP3.out.lem.cell 1 rfl
                        have d5 := HP3.out.lem.cell 2 rfl
                        have HF := hid (HP3.out.fst (x.extract 0 q))

                        have HKK := HK (x.extract 0 q) ⟨#[]⟩ (N : Int) _ (by first | assumption | omega | exact Nat.zero_le _) (by first | assumption | omega | exact Nat.zero_le _) HF.out.bel
                        go_wp2_with fail
                        (with_reducible refine HKK.out.mono ?_)
                        rintro e w9 ⟨rfl, hB9⟩
                        have HR := hid (HF.out.below hB9)
                        clear HKK hB9 d0 d1 d2 d3 d5 HF
                        by_cases hc : lemCk (x.extract 0 q) ⟨#[]⟩ (N : Int) = 0
                        · have HV : Hid (parseLm s = ⟨(x.extract 0 q), ⟨#[]⟩, (N : Int), 0⟩) := hid (by rw [HQ.out]; unfold lmEnd; rw [if_pos hc])
                          have r0 := HR.out.res.cell 0 rfl
                          have r1 := HR.out.res.cell 1 rfl
                          have r2 := HR.out.res.cell 2 rfl
                          have r3 := HR.out.res.frozen 0
                          have r4 := HR.out.res.frozen 1
                          have r5 := HR.out.res.frozen 2
                          have e3 := HR.out.lem.cell 0 rfl
                          have e4 := HR.out.lem.cell 1 rfl
                          have e5 := HR.out.lem.cell 2 rfl
                          have hR := ((HR.out.res.set 0 (.string (x.extract 0 q))).set 1 (.string ⟨#[]⟩)).set 2 (.int .i64 (N : Int))
                          have z0 := hR.cell 0 rfl
                          have z1 := hR.cell 1 rfl
                          have z2 := hR.cell 2 rfl
                          have HBE := hid (((HR.out.bel.setCell (p := ⟨w.heap.size, 0, none⟩) (by simp) (.string (x.extract 0 q))).setCell (p := ⟨w.heap.size, 1, none⟩) (by simp) (.string ⟨#[]⟩)).setCell (p := ⟨w.heap.size, 2, none⟩) (by simp) (.int .i64 (N : Int)))
                          clear hR
                          go_wp2_with fail
                          exact bodyPost_ret (v := .tuple #[.agg #[.string (x.extract 0 q), .string ⟨#[]⟩, .int .i64 (N : Int)], .int .i64 0]) (by simp [results, Tryz.f109, go_sem, z0, z1, z2]) rfl ⟨by rw [HV.out]; rfl, HBE.out⟩
                        · have hcb : (lemCk (x.extract 0 q) ⟨#[]⟩ (N : Int) == 0) = false := by rw [beq_eq_false_iff_ne]; exact hc
                          have HV : Hid (parseLm s = lm0 (lemCk (x.extract 0 q) ⟨#[]⟩ (N : Int))) := hid (by rw [HQ.out]; unfold lmEnd; rw [if_neg hc])
                          have r0 := HR.out.res.cell 0 rfl
                          have r1 := HR.out.res.cell 1 rfl
                          have r2 := HR.out.res.cell 2 rfl
                          have r3 := HR.out.res.frozen 0
                          have r4 := HR.out.res.frozen 1
                          have r5 := HR.out.res.frozen 2
                          have hR := ((HR.out.res.set 0 (.string ⟨#[]⟩)).set 1 (.string ⟨#[]⟩)).set 2 (.int .i64 0)
                          have z0 := hR.cell 0 rfl
                          have z1 := hR.cell 1 rfl
                          have z2 := hR.cell 2 rfl
                          have HBE := hid (((HR.out.bel.setCell (p := ⟨w.heap.size, 0, none⟩) (by simp) (.string ⟨#[]⟩)).setCell (p := ⟨w.heap.size, 1, none⟩) (by simp) (.string ⟨#[]⟩)).setCell (p := ⟨w.heap.size, 2, none⟩) (by simp) (.int .i64 0))
                          clear hR
                          go_wp2_with fail
                          exact bodyPost_ret (v := .tuple #[.agg #[.string ⟨#[]⟩, .string ⟨#[]⟩, .int .i64 0], .int .i64 (lemCk (x.extract 0 q) ⟨#[]⟩ (N : Int))]) (by simp [results, Tryz.f109, go_sem, z0, z1, z2]) rfl ⟨by rw [HV.out]; rfl, HBE.out⟩
            · have q35 : ((x[q].toNat : Int) == 35) = false := beq_eq_false_iff_ne.2 (fun e => h35 (UInt8.toNat_inj.1 (by have h48 : (35 : UInt8).toNat = 35 := rfl; omega)))
              have HN2 : Hid ((35 : UInt8) ∉ x.data.toList.take (q + 1)) := by
                show _ ∉ _
                rw [List.take_add_one, getL x q hql, List.mem_append, not_or]
                exact ⟨HN.out, by simpa using fun e => h35 e.symm⟩
              clear h35 HN
              go_wp2_with fail
              go_roundw
              case rel => exact ⟨q + 1, by omega, by go_num, rfl, HN2.out, HP.out⟩
              case measure => simp [intOf]; omega
          · have hqi : ¬ (q : Int) < (x.size : Int) := by omega
            have HQ : Hid (parseLm s = lmEnd x ⟨#[]⟩ 0) := by
              have h := HN.out
              rw [List.take_of_length_le (by rw [ba_len]; omega)] at h
              obtain ⟨e1, e2, e3⟩ := hash_no h
              show _ = _
              rw [HL1.out, if_neg (by rw [e1]; simp), e2, e3]
            clear HN HL1
            have d0 := HP.out.pts 0 x rfl
            have d1 := HP.out.lem.cell 0 rfl
            have d2 := HP.out.lem.frozen 0
            have d3 := HP.out.lem.cell 1 rfl
            have d5 := HP.out.lem.cell 2 rfl
            have HF := hid (HP.out.fst x)

            have HKK := HK x ⟨#[]⟩ 0 _ (by first | assumption | omega | exact Nat.zero_le _) (by first | assumption | omega | exact Nat.zero_le _) HF.out.bel
            go_wp2_with fail
            (with_reducible refine HKK.out.mono ?_)
            rintro e w9 ⟨rfl, hB9⟩
            have HR := hid (HF.out.below hB9)
            clear HKK hB9 d0 d1 d2 d3 d5 HF
            by_cases hc : lemCk x ⟨#[]⟩ 0 = 0
            · have HV : Hid (parseLm s = ⟨x, ⟨#[]⟩, 0, 0⟩) := hid (by rw [HQ.out]; unfold lmEnd; rw [if_pos hc])
              have r0 := HR.out.res.cell 0 rfl
              have r1 := HR.out.res.cell 1 rfl
              have r2 := HR.out.res.cell 2 rfl
              have r3 := HR.out.res.frozen 0
              have r4 := HR.out.res.frozen 1
              have r5 := HR.out.res.frozen 2
              have e3 := HR.out.lem.cell 0 rfl
              have e4 := HR.out.lem.cell 1 rfl
              have e5 := HR.out.lem.cell 2 rfl
              have hR := ((HR.out.res.set 0 (.string x)).set 1 (.string ⟨#[]⟩)).set 2 (.int .i64 0)
              have z0 := hR.cell 0 rfl
              have z1 := hR.cell 1 rfl
              have z2 := hR.cell 2 rfl
              have HBE := hid (((HR.out.bel.setCell (p := ⟨w.heap.size, 0, none⟩) (by simp) (.string x)).setCell (p := ⟨w.heap.size, 1, none⟩) (by simp) (.string ⟨#[]⟩)).setCell (p := ⟨w.heap.size, 2, none⟩) (by simp) (.int .i64 0))
              clear hR
              go_wp2_with fail
              exact bodyPost_ret (v := .tuple #[.agg #[.string x, .string ⟨#[]⟩, .int .i64 0], .int .i64 0]) (by simp [results, Tryz.f109, go_sem, z0, z1, z2]) rfl ⟨by rw [HV.out]; rfl, HBE.out⟩
            · have hcb : (lemCk x ⟨#[]⟩ 0 == 0) = false := by rw [beq_eq_false_iff_ne]; exact hc
              have HV : Hid (parseLm s = lm0 (lemCk x ⟨#[]⟩ 0)) := hid (by rw [HQ.out]; unfold lmEnd; rw [if_neg hc])
              have r0 := HR.out.res.cell 0 rfl
              have r1 := HR.out.res.cell 1 rfl
              have r2 := HR.out.res.cell 2 rfl
              have r3 := HR.out.res.frozen 0
              have r4 := HR.out.res.frozen 1
              have r5 := HR.out.res.frozen 2
              have hR := ((HR.out.res.set 0 (.string ⟨#[]⟩)).set 1 (.string ⟨#[]⟩)).set 2 (.int .i64 0)
              have z0 := hR.cell 0 rfl
              have z1 := hR.cell 1 rfl
              have z2 := hR.cell 2 rfl
              have HBE := hid (((HR.out.bel.setCell (p := ⟨w.heap.size, 0, none⟩) (by simp) (.string ⟨#[]⟩)).setCell (p := ⟨w.heap.size, 1, none⟩) (by simp) (.string ⟨#[]⟩)).setCell (p := ⟨w.heap.size, 2, none⟩) (by simp) (.int .i64 0))
              clear hR
              go_wp2_with fail
              exact bodyPost_ret (v := .tuple #[.agg #[.string ⟨#[]⟩, .string ⟨#[]⟩, .int .i64 0], .int .i64 (lemCk x ⟨#[]⟩ 0)]) (by simp [results, Tryz.f109, go_sem, z0, z1, z2]) rfl ⟨by rw [HV.out]; rfl, HBE.out⟩
      · have h1i : ((nk : Int) != 1) = true := bne_iff_ne.2 (by omega)
        by_cases h3 : nk = 3
        · subst h3
          obtain ⟨a, y, x, rfl⟩ := three_of HNK.out
          have cx := HPJ.out.pts 2 x rfl
          have cy := HPT.out 1 y rfl
          have hxz := HPZ.out x (by simp)
          have haz := HPZ.out a (by simp)
          have hyb : (y.toList == [43]) = decide (y = ⟨#[43]⟩) := by rw [← ba_beq, plus_list]
          by_cases hy : y = ⟨#[43]⟩
          · have HL3 : Hid (parseLm s = if (hashB x && !decB (numB x)) = true then lm0 3 else if (ownB x).size = 0 then lm0 11 else lmEnd a (ownB x) (lmNum x)) := by
              unfold Hid
              rw [HL.out, if_neg (by simp [hy])]
              show (if (hashB x && !decB (numB x)) = true then lm0 3 else if [a, y, x].length = 1 then _ else if (ownB x).size = 0 then lm0 11 else lmEnd a (ownB x) (lmNum x)) = _
              rw [if_neg (show ¬ [a, y, x].length = 1 by simp)]
            rw [decide_eq_true hy] at hyb
            clear HL HNK HPZ HPT HG HBA HBW HRS HSZ hnk1 hb hy h1
            go_wp2_with fail
            generalize wr.alloc (.cells #[.string ⟨#[]⟩, .string ⟨#[]⟩, .int .i64 0] 28) = w3 at *
            generalize wr.heap.size = B at *
            go_loopw [8, 9] (fun o i wl => ∃ q : Nat, q ≤ x.size ∧ i = .int .i64 q ∧ o = .string x ∧ Hid ((35 : UInt8) ∉ x.data.toList.take q) ∧ Hid (PsJ w g B [a, y, x] ⟨#[]⟩ ⟨#[]⟩ 0 wl)) (fun _ i _ => x.size - (intOf i).toNat)
            case atStart => exact ⟨0, by omega, rfl, rfl, by simp [Hid], HPJ.out⟩
            case round =>
              obtain ⟨q, hq, rfl, rfl, HN, HP⟩ := hrel
              clear HPJ cx
              by_cases hql : q < x.size
              · have hqi : (q : Int) < (x.size : Int) := by omega
                by_cases h35 : x[q] = 35
                · have q35 : ((x[q].toNat : Int) == 35) = true := by rw [h35]; rfl
                  obtain ⟨e1, e2, e3⟩ := hash_at hql HN.out h35
                  have hon : (x.extract 0 q).size ≤ 65536 := by rw [ByteArray.size_extract]; omega
                  have hdz : (x.extract (q + 1) x.size).size ≤ x.size := by rw [ByteArray.size_extract]; omega
                  have HNO : Hid (∀ D, D = x.extract (q + 1) x.size → decB D = false → parseLm s = lm0 3) := fun D hD h => by rw [HL3.out, if_pos (by rw [e1, e3, ← hD, h]; rfl)]
                  have HYES : Hid (∀ D, D = x.extract (q + 1) x.size → decB D = true → parseLm s = if (x.extract 0 q).size = 0 then lm0 11 else lmEnd a (x.extract 0 q) (decV D)) := fun D hD h => by
                    have hn : lmNum x = decV D := by unfold lmNum; rw [if_pos e1, e3, ← hD]
                    rw [HL3.out, if_neg (by rw [e1, e3, ← hD, h]; simp), e2, hn]
                  have hq1 : (0 : Int) ≤ (q : Int) + 1 := by omega
                  clear h35 e1 e2 e3 HN HL3
                  go_upto_region 20 with fail
                  generalize hD : x.extract (q + 1) x.size = D at *
                  have HNO2 := hid (HNO.out D rfl)
                  have HYES2 := hid (HYES.out D rfl)
                  clear HNO HYES hD
                  by_cases b0 : D.size = 0
                  · have b0i : ((D.size : Int) == 0) = true := beq_iff_eq.2 (by omega)
                    have HV := hid (HNO2.out (dec_no (.inl b0)))
                    clear b0
                    have r0 := HP.out.res.cell 0 rfl
                    have r1 := HP.out.res.cell 1 rfl
                    have r2 := HP.out.res.cell 2 rfl
                    have r3 := HP.out.res.frozen 0
                    have r4 := HP.out.res.frozen 1
                    have r5 := HP.out.res.frozen 2
                    have hR := ((HP.out.res.set 0 (.string ⟨#[]⟩)).set 1 (.string ⟨#[]⟩)).set 2 (.int .i64 0)
                    have z0 := hR.cell 0 rfl
                    have z1 := hR.cell 1 rfl
                    have z2 := hR.cell 2 rfl
                    have HBE := hid (((HP.out.bel.setCell (p := ⟨w.heap.size, 0, none⟩) (by simp) (.string ⟨#[]⟩)).setCell (p := ⟨w.heap.size, 1, none⟩) (by simp) (.string ⟨#[]⟩)).setCell (p := ⟨w.heap.size, 2, none⟩) (by simp) (.int .i64 0))
                    clear hR
                    go_wp2_with fail
                    exact bodyPost_ret (v := .tuple #[.agg #[.string ⟨#[]⟩, .string ⟨#[]⟩, .int .i64 0], .int .i64 3]) (by simp [results, Tryz.f109, go_sem, z0, z1, z2]) rfl ⟨by rw [HV.out]; rfl, HBE.out⟩
                  · have b0i : ((D.size : Int) == 0) = false := beq_eq_false_iff_ne.2 (by omega)
                    by_cases b9 : 9 < D.size
                    · have b9i : (9 : Int) < (D.size : Int) := by omega
                      have HV := hid (HNO2.out (dec_no (.inr (.inl b9))))
                      have r0 := HP.out.res.cell 0 rfl
                      have r1 := HP.out.res.cell 1 rfl
                      have r2 := HP.out.res.cell 2 rfl
                      have r3 := HP.out.res.frozen 0
                      have r4 := HP.out.res.frozen 1
                      have r5 := HP.out.res.frozen 2
                      have hR := ((HP.out.res.set 0 (.string ⟨#[]⟩)).set 1 (.string ⟨#[]⟩)).set 2 (.int .i64 0)
                      have z0 := hR.cell 0 rfl
                      have z1 := hR.cell 1 rfl
                      have z2 := hR.cell 2 rfl
                      have HBE := hid (((HP.out.bel.setCell (p := ⟨w.heap.size, 0, none⟩) (by simp) (.string ⟨#[]⟩)).setCell (p := ⟨w.heap.size, 1, none⟩) (by simp) (.string ⟨#[]⟩)).setCell (p := ⟨w.heap.size, 2, none⟩) (by simp) (.int .i64 0))
                      clear hR
                      go_wp2_with fail
                      exact bodyPost_ret (v := .tuple #[.agg #[.string ⟨#[]⟩, .string ⟨#[]⟩, .int .i64 0], .int .i64 3]) (by simp [results, Tryz.f109, go_sem, z0, z1, z2]) rfl ⟨by rw [HV.out]; rfl, HBE.out⟩
                    · have b9i : ¬ (9 : Int) < (D.size : Int) := by omega
                      have hD0 : 0 < D.size := by omega
                      have HH : Hid (D.data.toList.head? = some D[0]) := by
                        have := getL D 0 hD0
                        rw [← this]
                        cases D.data.toList <;> rfl
                      have hi0 : (0 : Int) < (D.size : Int) := by omega
                      by_cases b48 : D[0] = 48
                      · have b48i : ((D[0].toNat : Int) == 48) = true := by rw [b48]; rfl
                        have HV := hid (HNO2.out (dec_no (.inr (.inr (.inl (by rw [HH.out, b48]))))))
                        clear b48 HH
                        have r0 := HP.out.res.cell 0 rfl
                        have r1 := HP.out.res.cell 1 rfl
                        have r2 := HP.out.res.cell 2 rfl
                        have r3 := HP.out.res.frozen 0
                        have r4 := HP.out.res.frozen 1
                        have r5 := HP.out.res.frozen 2
                        have hR := ((HP.out.res.set 0 (.string ⟨#[]⟩)).set 1 (.string ⟨#[]⟩)).set 2 (.int .i64 0)
                        have z0 := hR.cell 0 rfl
                        have z1 := hR.cell 1 rfl
                        have z2 := hR.cell 2 rfl
                        have HBE := hid (((HP.out.bel.setCell (p := ⟨w.heap.size, 0, none⟩) (by simp) (.string ⟨#[]⟩)).setCell (p := ⟨w.heap.size, 1, none⟩) (by simp) (.string ⟨#[]⟩)).setCell (p := ⟨w.heap.size, 2, none⟩) (by simp) (.int .i64 0))
                        clear hR
                        go_wp2_with fail
                        exact bodyPost_ret (v := .tuple #[.agg #[.string ⟨#[]⟩, .string ⟨#[]⟩, .int .i64 0], .int .i64 3]) (by simp [results, Tryz.f109, go_sem, z0, z1, z2]) rfl ⟨by rw [HV.out]; rfl, HBE.out⟩
                      · have b48i : ((D[0].toNat : Int) == 48) = false := beq_eq_false_iff_ne.2 (fun e => b48 (UInt8.toNat_inj.1 (by have h48 : (48 : UInt8).toNat = 48 := rfl; omega)))
                        have HHD : Hid (D.data.toList.head? ≠ some 48) := by
                          show _ ≠ _
                          rw [HH.out]
                          exact fun e => b48 (Option.some.inj e)
                        clear b48 HH
                        go_wp2_with fail
                        obtain ⟨wo, rfl⟩ : ∃ wo : World, wo = wr := ⟨_, rfl⟩
                        go_loopw [11] (fun i wm => ∃ (m N : Nat), m ≤ D.size ∧ i = .int .i64 m ∧ N < 1000000000 ∧ Hid (Lib.decFrom 0 (D.data.toList.take m) = some N) ∧ Hid (PsJ w g B [a, y, x] ⟨#[]⟩ ⟨#[]⟩ (N : Int) wm)) (fun i _ => D.size - (intOf i).toNat)
                        case atStart => exact ⟨0, 0, by omega, rfl, by omega, rfl, HP.out⟩
                        case round =>
                          obtain ⟨m, N, hm, rfl, hN, HF0, HP3⟩ := hrel
                          clear HP b48i
                          by_cases hml : m < D.size
                          · have hmi : (m : Int) < (D.size : Int) := by omega
                            have HMEM : Hid (D[m] ∈ D.data.toList) := List.mem_of_getElem? (getL D m hml)
                            by_cases b1 : (D[m].toNat : Int) < 48
                            · have HV := hid (HNO2.out (dec_no (.inr (.inr (.inr ⟨D[m], HMEM.out, .inl (by omega)⟩)))))
                              have r0 := HP3.out.res.cell 0 rfl
                              have r1 := HP3.out.res.cell 1 rfl
                              have r2 := HP3.out.res.cell 2 rfl
                              have r3 := HP3.out.res.frozen 0
                              have r4 := HP3.out.res.frozen 1
                              have r5 := HP3.out.res.frozen 2
                              have hR := ((HP3.out.res.set 0 (.string ⟨#[]⟩)).set 1 (.string ⟨#[]⟩)).set 2 (.int .i64 0)
                              have z0 := hR.cell 0 rfl
                              have z1 := hR.cell 1 rfl
                              have z2 := hR.cell 2 rfl
                              have HBE := hid (((HP3.out.bel.setCell (p := ⟨w.heap.size, 0, none⟩) (by simp) (.string ⟨#[]⟩)).setCell (p := ⟨w.heap.size, 1, none⟩) (by simp) (.string ⟨#[]⟩)).setCell (p := ⟨w.heap.size, 2, none⟩) (by simp) (.int .i64 0))
                              clear hR
                              go_wp2_with fail
                              exact bodyPost_ret (v := .tuple #[.agg #[.string ⟨#[]⟩, .string ⟨#[]⟩, .int .i64 0], .int .i64 3]) (by simp [results, Tryz.f109, go_sem, z0, z1, z2]) rfl ⟨by rw [HV.out]; rfl, HBE.out⟩
                            · by_cases b2 : (57 : Int) < (D[m].toNat : Int)
                              · have HV := hid (HNO2.out (dec_no (.inr (.inr (.inr ⟨D[m], HMEM.out, .inr (by omega)⟩)))))
                                have r0 := HP3.out.res.cell 0 rfl
                                have r1 := HP3.out.res.cell 1 rfl
                                have r2 := HP3.out.res.cell 2 rfl
                                have r3 := HP3.out.res.frozen 0
                                have r4 := HP3.out.res.frozen 1
                                have r5 := HP3.out.res.frozen 2
                                have hR := ((HP3.out.res.set 0 (.string ⟨#[]⟩)).set 1 (.string ⟨#[]⟩)).set 2 (.int .i64 0)
                                have z0 := hR.cell 0 rfl
                                have z1 := hR.cell 1 rfl
                                have z2 := hR.cell 2 rfl
                                have HBE := hid (((HP3.out.bel.setCell (p := ⟨w.heap.size, 0, none⟩) (by simp) (.string ⟨#[]⟩)).setCell (p := ⟨w.heap.size, 1, none⟩) (by simp) (.string ⟨#[]⟩)).setCell (p := ⟨w.heap.size, 2, none⟩) (by simp) (.int .i64 0))
                                clear hR
                                go_wp2_with fail
                                exact bodyPost_ret (v := .tuple #[.agg #[.string ⟨#[]⟩, .string ⟨#[]⟩, .int .i64 0], .int .i64 3]) (by simp [results, Tryz.f109, go_sem, z0, z1, z2]) rfl ⟨by rw [HV.out]; rfl, HBE.out⟩
                              · have hd := dig_of (c := D[m]) (by omega) (by omega)
                                have HF2 : Hid (Lib.decFrom 0 (D.data.toList.take (m + 1)) = some (N * 10 + (D[m].toNat - 48))) := by
                                  show _ = _
                                  rw [List.take_add_one, getL D m hml]
                                  exact decFrom_snoc _ _ hd _ _ _ HF0.out
                                have hN2 : N * 10 + (D[m].toNat - 48) < 1000000000 := by
                                  have h1 := from_lt _ _ _ HF2.out
                                  have h2 : (D.data.toList.take (m + 1)).length ≤ 9 := by rw [List.length_take]; omega
                                  have h3 : (10 : Nat) ^ (D.data.toList.take (m + 1)).length ≤ 10 ^ 9 := Nat.pow_le_pow_right (by decide) h2
                                  have e : (10 : Nat) ^ 9 = 1000000000 := by decide
                                  omega
                                have c2 := HP3.out.lem.cell 2 rfl
                                have f2 := HP3.out.lem.frozen 2
                                have HP4 := hid (HP3.out.drew.num ((N * 10 + (D[m].toNat - 48) : Nat) : Int))
                                have HP5 : Hid ((10 * (N : Int) + ((D[m].toNat : Int) - 48)) = ((N * 10 + (D[m].toNat - 48) : Nat) : Int)) := by show _ = _; omega
                                clear hd HF0 HMEM HNO2 HYES2 HHD
                                go_wp2_with fail
                                go_region
                                all_goals go_wp2_with fail
                                go_roundw
                                case rel => exact ⟨m + 1, N * 10 + (D[m].toNat - 48), by omega, by go_num, hN2, HF2.out, by
                                  have h := HP4.out
                                  rw [← HP5.out] at h ⊢
                                  exact h⟩
                                case measure => simp [intOf]; omega
                          · have hmi : ¬ (m : Int) < (D.size : Int) := by omega
                            have HF2 : Hid (Lib.decFrom 0 D.data.toList = some N) := by
                              have h := HF0.out
                              rw [List.take_of_length_le (by rw [ba_len]; omega)] at h
                              exact h
                            obtain ⟨g1, g2, _⟩ := dec_good (n := N) (by omega) hD0 HHD.out HF2.out
                            have HQ := hid (HYES2.out g1)
                            rw [g2] at HQ
                            clear g1 g2 HF0 HF2 HNO2 HYES2 HHD
                            have d0 := HP3.out.pts 0 a rfl
                            have d1 := HP3.out.lem.cell 0 rfl
                            have d2 := HP3.out.lem.frozen 0
                            have d3 := HP3.out.lem.cell 1 rfl
                            have d4 := HP3.out.lem.frozen 1
                            have d5 := HP3.out.lem.cell 2 rfl
                            have hgB : (g = B) = False := eq_false (Nat.ne_of_lt HP3.out.hi)
                            have hgC : (B = g) = False := eq_false (Nat.ne_of_gt HP3.out.hi)
                            have HF := hid (((HP3.out.fst (x.extract 0 q)).fst a).lst (x.extract 0 q))
                            have hob := ba_isE (x.extract 0 q)
                            by_cases ho0 : (x.extract 0 q).size = 0
                            · rw [decide_eq_true ho0] at hob
                              have HV : Hid (parseLm s = lm0 11) := hid (by rw [HQ.out, if_pos ho0])
                              clear ho0
                              have r0 := HF.out.res.cell 0 rfl
                              have r1 := HF.out.res.cell 1 rfl
                              have r2 := HF.out.res.cell 2 rfl
                              have r3 := HF.out.res.frozen 0
                              have r4 := HF.out.res.frozen 1
                              have r5 := HF.out.res.frozen 2
                              have hR := ((HF.out.res.set 0 (.string ⟨#[]⟩)).set 1 (.string ⟨#[]⟩)).set 2 (.int .i64 0)
                              have z0 := hR.cell 0 rfl
                              have z1 := hR.cell 1 rfl
                              have z2 := hR.cell 2 rfl
                              have HBE := hid (((HF.out.bel.setCell (p := ⟨w.heap.size, 0, none⟩) (by simp) (.string ⟨#[]⟩)).setCell (p := ⟨w.heap.size, 1, none⟩) (by simp) (.string ⟨#[]⟩)).setCell (p := ⟨w.heap.size, 2, none⟩) (by simp) (.int .i64 0))
                              clear hR
                              go_wp2_with fail
                              exact bodyPost_ret (v := .tuple #[.agg #[.string ⟨#[]⟩, .string ⟨#[]⟩, .int .i64 0], .int .i64 11]) (by simp [results, Tryz.f109, go_sem, z0, z1, z2]) rfl ⟨by rw [HV.out]; rfl, HBE.out⟩
                            · rw [decide_eq_false ho0] at hob
                              have HQ := hid (HQ.out.trans (if_neg ho0))
                              clear ho0
                              have HKK := HK a (x.extract 0 q) (N : Int) _ (by first | assumption | omega | exact Nat.zero_le _) (by first | assumption | omega | exact Nat.zero_le _) HF.out.bel
                              go_wp2_with fail
                              (with_reducible refine HKK.out.mono ?_)
                              rintro e w9 ⟨rfl, hB9⟩
                              have HR := hid (HF.out.below hB9)
                              clear HKK hB9 d0 d1 d2 d3 d5 HF
                              by_cases hc : lemCk a (x.extract 0 q) (N : Int) = 0
                              · have HV : Hid (parseLm s = ⟨a, (x.extract 0 q), (N : Int), 0⟩) := hid (by rw [HQ.out]; unfold lmEnd; rw [if_pos hc])
                                have r0 := HR.out.res.cell 0 rfl
                                have r1 := HR.out.res.cell 1 rfl
                                have r2 := HR.out.res.cell 2 rfl
                                have r3 := HR.out.res.frozen 0
                                have r4 := HR.out.res.frozen 1
                                have r5 := HR.out.res.frozen 2
                                have e3 := HR.out.lem.cell 0 rfl
                                have e4 := HR.out.lem.cell 1 rfl
                                have e5 := HR.out.lem.cell 2 rfl
                                have hR := ((HR.out.res.set 0 (.string a)).set 1 (.string (x.extract 0 q))).set 2 (.int .i64 (N : Int))
                                have z0 := hR.cell 0 rfl
                                have z1 := hR.cell 1 rfl
                                have z2 := hR.cell 2 rfl
                                have HBE := hid (((HR.out.bel.setCell (p := ⟨w.heap.size, 0, none⟩) (by simp) (.string a)).setCell (p := ⟨w.heap.size, 1, none⟩) (by simp) (.string (x.extract 0 q))).setCell (p := ⟨w.heap.size, 2, none⟩) (by simp) (.int .i64 (N : Int)))
                                clear hR
                                go_wp2_with fail
                                exact bodyPost_ret (v := .tuple #[.agg #[.string a, .string (x.extract 0 q), .int .i64 (N : Int)], .int .i64 0]) (by simp [results, Tryz.f109, go_sem, z0, z1, z2]) rfl ⟨by rw [HV.out]; rfl, HBE.out⟩
                              · have hcb : (lemCk a (x.extract 0 q) (N : Int) == 0) = false := by rw [beq_eq_false_iff_ne]; exact hc
                                have HV : Hid (parseLm s = lm0 (lemCk a (x.extract 0 q) (N : Int))) := hid (by rw [HQ.out]; unfold lmEnd; rw [if_neg hc])
                                have r0 := HR.out.res.cell 0 rfl
                                have r1 := HR.out.res.cell 1 rfl
                                have r2 := HR.out.res.cell 2 rfl
                                have r3 := HR.out.res.frozen 0
                                have r4 := HR.out.res.frozen 1
                                have r5 := HR.out.res.frozen 2
                                have hR := ((HR.out.res.set 0 (.string ⟨#[]⟩)).set 1 (.string ⟨#[]⟩)).set 2 (.int .i64 0)
                                have z0 := hR.cell 0 rfl
                                have z1 := hR.cell 1 rfl
                                have z2 := hR.cell 2 rfl
                                have HBE := hid (((HR.out.bel.setCell (p := ⟨w.heap.size, 0, none⟩) (by simp) (.string ⟨#[]⟩)).setCell (p := ⟨w.heap.size, 1, none⟩) (by simp) (.string ⟨#[]⟩)).setCell (p := ⟨w.heap.size, 2, none⟩) (by simp) (.int .i64 0))
                                clear hR
                                go_wp2_with fail
                                exact bodyPost_ret (v := .tuple #[.agg #[.string ⟨#[]⟩, .string ⟨#[]⟩, .int .i64 0], .int .i64 (lemCk a (x.extract 0 q) (N : Int))]) (by simp [results, Tryz.f109, go_sem, z0, z1, z2]) rfl ⟨by rw [HV.out]; rfl, HBE.out⟩
                · have q35 : ((x[q].toNat : Int) == 35) = false := beq_eq_false_iff_ne.2 (fun e => h35 (UInt8.toNat_inj.1 (by have h48 : (35 : UInt8).toNat = 35 := rfl; omega)))
                  have HN2 : Hid ((35 : UInt8) ∉ x.data.toList.take (q + 1)) := by
                    show _ ∉ _
                    rw [List.take_add_one, getL x q hql, List.mem_append, not_or]
                    exact ⟨HN.out, by simpa using fun e => h35 e.symm⟩
                  clear h35 HN
                  go_wp2_with fail
                  go_roundw
                  case rel => exact ⟨q + 1, by omega, by go_num, rfl, HN2.out, HP.out⟩
                  case measure => simp [intOf]; omega
              · have hqi : ¬ (q : Int) < (x.size : Int) := by omega
                have HQ : Hid (parseLm s = if x.size = 0 then lm0 11 else lmEnd a x 0) := by
                  have h := HN.out
                  rw [List.take_of_length_le (by rw [ba_len]; omega)] at h
                  obtain ⟨e1, e2, e3⟩ := hash_no h
                  show _ = _
                  rw [HL3.out, if_neg (by rw [e1]; simp), e2, e3]
                clear HN HL3
                have d0 := HP.out.pts 0 a rfl
                have d1 := HP.out.lem.cell 0 rfl
                have d2 := HP.out.lem.frozen 0
                have d3 := HP.out.lem.cell 1 rfl
                have d4 := HP.out.lem.frozen 1
                have d5 := HP.out.lem.cell 2 rfl
                have hgB : (g = B) = False := eq_false (Nat.ne_of_lt HP.out.hi)
                have hgC : (B = g) = False := eq_false (Nat.ne_of_gt HP.out.hi)
                have HF := hid (((HP.out.fst x).fst a).lst x)
                have hob := ba_isE x
                by_cases ho0 : x.size = 0
                · rw [decide_eq_true ho0] at hob
                  have HV : Hid (parseLm s = lm0 11) := hid (by rw [HQ.out, if_pos ho0])
                  clear ho0
                  have r0 := HF.out.res.cell 0 rfl
                  have r1 := HF.out.res.cell 1 rfl
                  have r2 := HF.out.res.cell 2 rfl
                  have r3 := HF.out.res.frozen 0
                  have r4 := HF.out.res.frozen 1
                  have r5 := HF.out.res.frozen 2
                  have hR := ((HF.out.res.set 0 (.string ⟨#[]⟩)).set 1 (.string ⟨#[]⟩)).set 2 (.int .i64 0)
                  have z0 := hR.cell 0 rfl
                  have z1 := hR.cell 1 rfl
                  have z2 := hR.cell 2 rfl
                  have HBE := hid (((HF.out.bel.setCell (p := ⟨w.heap.size, 0, none⟩) (by simp) (.string ⟨#[]⟩)).setCell (p := ⟨w.heap.size, 1, none⟩) (by simp) (.string ⟨#[]⟩)).setCell (p := ⟨w.heap.size, 2, none⟩) (by simp) (.int .i64 0))
                  clear hR
                  go_wp2_with fail
                  exact bodyPost_ret (v := .tuple #[.agg #[.string ⟨#[]⟩, .string ⟨#[]⟩, .int .i64 0], .int .i64 11]) (by simp [results, Tryz.f109, go_sem, z0, z1, z2]) rfl ⟨by rw [HV.out]; rfl, HBE.out⟩
                · rw [decide_eq_false ho0] at hob
                  have HQ := hid (HQ.out.trans (if_neg ho0))
                  clear ho0
                  have HKK := HK a x 0 _ (by first | assumption | omega | exact Nat.zero_le _) (by first | assumption | omega | exact Nat.zero_le _) HF.out.bel
                  go_wp2_with fail
                  (with_reducible refine HKK.out.mono ?_)
                  rintro e w9 ⟨rfl, hB9⟩
                  have HR := hid (HF.out.below hB9)
                  clear HKK hB9 d0 d1 d2 d3 d5 HF
                  by_cases hc : lemCk a x 0 = 0
                  · have HV : Hid (parseLm s = ⟨a, x, 0, 0⟩) := hid (by rw [HQ.out]; unfold lmEnd; rw [if_pos hc])
                    have r0 := HR.out.res.cell 0 rfl
                    have r1 := HR.out.res.cell 1 rfl
                    have r2 := HR.out.res.cell 2 rfl
                    have r3 := HR.out.res.frozen 0
                    have r4 := HR.out.res.frozen 1
                    have r5 := HR.out.res.frozen 2
                    have e3 := HR.out.lem.cell 0 rfl
                    have e4 := HR.out.lem.cell 1 rfl
                    have e5 := HR.out.lem.cell 2 rfl
                    have hR := ((HR.out.res.set 0 (.string a)).set 1 (.string x)).set 2 (.int .i64 0)
                    have z0 := hR.cell 0 rfl
                    have z1 := hR.cell 1 rfl
                    have z2 := hR.cell 2 rfl
                    have HBE := hid (((HR.out.bel.setCell (p := ⟨w.heap.size, 0, none⟩) (by simp) (.string a)).setCell (p := ⟨w.heap.size, 1, none⟩) (by simp) (.string x)).setCell (p := ⟨w.heap.size, 2, none⟩) (by simp) (.int .i64 0))
                    clear hR
                    go_wp2_with fail
                    exact bodyPost_ret (v := .tuple #[.agg #[.string a, .string x, .int .i64 0], .int .i64 0]) (by simp [results, Tryz.f109, go_sem, z0, z1, z2]) rfl ⟨by rw [HV.out]; rfl, HBE.out⟩
                  · have hcb : (lemCk a x 0 == 0) = false := by rw [beq_eq_false_iff_ne]; exact hc
                    have HV : Hid (parseLm s = lm0 (lemCk a x 0)) := hid (by rw [HQ.out]; unfold lmEnd; rw [if_neg hc])
                    have r0 := HR.out.res.cell 0 rfl
                    have r1 := HR.out.res.cell 1 rfl
                    have r2 := HR.out.res.cell 2 rfl
                    have r3 := HR.out.res.frozen 0
                    have r4 := HR.out.res.frozen 1
                    have r5 := HR.out.res.frozen 2
                    have hR := ((HR.out.res.set 0 (.string ⟨#[]⟩)).set 1 (.string ⟨#[]⟩)).set 2 (.int .i64 0)
                    have z0 := hR.cell 0 rfl
                    have z1 := hR.cell 1 rfl
                    have z2 := hR.cell 2 rfl
                    have HBE := hid (((HR.out.bel.setCell (p := ⟨w.heap.size, 0, none⟩) (by simp) (.string ⟨#[]⟩)).setCell (p := ⟨w.heap.size, 1, none⟩) (by simp) (.string ⟨#[]⟩)).setCell (p := ⟨w.heap.size, 2, none⟩) (by simp) (.int .i64 0))
                    clear hR
                    go_wp2_with fail
                    exact bodyPost_ret (v := .tuple #[.agg #[.string ⟨#[]⟩, .string ⟨#[]⟩, .int .i64 0], .int .i64 (lemCk a x 0)]) (by simp [results, Tryz.f109, go_sem, z0, z1, z2]) rfl ⟨by rw [HV.out]; rfl, HBE.out⟩
          · rw [decide_eq_false hy] at hyb
            have HV : Hid (parseLm s = lm0 3) := hid (by rw [HL.out, if_pos (by simp [hy])])
            clear HL HNK HPZ HPT HG HBA hnk1 hb hy h1 HPJ
            have r0 := HRS.out.cell 0 rfl
            have r1 := HRS.out.cell 1 rfl
            have r2 := HRS.out.cell 2 rfl
            have r3 := HRS.out.frozen 0
            have r4 := HRS.out.frozen 1
            have r5 := HRS.out.frozen 2
            have hR := ((HRS.out.set 0 (.string ⟨#[]⟩)).set 1 (.string ⟨#[]⟩)).set 2 (.int .i64 0)
            have z0 := hR.cell 0 rfl
            have z1 := hR.cell 1 rfl
            have z2 := hR.cell 2 rfl
            have HBE := hid (((HBW.out.setCell (p := ⟨w.heap.size, 0, none⟩) (by simp) (.string ⟨#[]⟩)).setCell (p := ⟨w.heap.size, 1, none⟩) (by simp) (.string ⟨#[]⟩)).setCell (p := ⟨w.heap.size, 2, none⟩) (by simp) (.int .i64 0))
            clear hR
            go_wp2_with fail
            exact bodyPost_ret (v := .tuple #[.agg #[.string ⟨#[]⟩, .string ⟨#[]⟩, .int .i64 0], .int .i64 3]) (by simp [results, Tryz.f109, go_sem, z0, z1, z2]) rfl ⟨by rw [HV.out]; rfl, HBE.out⟩
        · have h3i : ((nk : Int) != 3) = true := bne_iff_ne.2 (by omega)
          have HV : Hid (parseLm s = lm0 3) := hid (by rw [HL.out, if_pos (by rw [HNK.out]; omega)])
          clear HL HNK HPZ HPT HG HBA hnk1 hb h1 h3 HPJ
          have r0 := HRS.out.cell 0 rfl
          have r1 := HRS.out.cell 1 rfl
          have r2 := HRS.out.cell 2 rfl
          have r3 := HRS.out.frozen 0
          have r4 := HRS.out.frozen 1
          have r5 := HRS.out.frozen 2
          have hR := ((HRS.out.set 0 (.string ⟨#[]⟩)).set 1 (.string ⟨#[]⟩)).set 2 (.int .i64 0)
          have z0 := hR.cell 0 rfl
          have z1 := hR.cell 1 rfl
          have z2 := hR.cell 2 rfl
          have HBE := hid (((HBW.out.setCell (p := ⟨w.heap.size, 0, none⟩) (by simp) (.string ⟨#[]⟩)).setCell (p := ⟨w.heap.size, 1, none⟩) (by simp) (.string ⟨#[]⟩)).setCell (p := ⟨w.heap.size, 2, none⟩) (by simp) (.int .i64 0))
          clear hR
          go_wp2_with fail
          exact bodyPost_ret (v := .tuple #[.agg #[.string ⟨#[]⟩, .string ⟨#[]⟩, .int .i64 0], .int .i64 3]) (by simp [results, Tryz.f109, go_sem, z0, z1, z2]) rfl ⟨by rw [HV.out]; rfl, HBE.out⟩
end Go.Proofs.YtjhdeoniafahbaaGreatDoor
