/-
  The law PagedescTexts: the walk.
-/
import Derived.Test.YtkjapeafhcdnkaaDoorAwk53
import Derived.Test.YtkjapeafhcdnkaaDoorGrt53
import Derived.Test.YtkjapeafhcdnkaaDoorPLos
import Derived.Test.YtkjapeafhcdnkaaDoorRPa
import Derived.Test.YtkjapeafhcdnkaaDoorRck53
import Derived.Test.YtkjapeafhcdnkaaDoorPBxs
import Derived.Test.YtkjapeafhcdnkaaDoorRBx
namespace Go.Proofs.YtkjapeafhcdnkaaDoor
open Go.RowKit

structure TxS (w w6 : World) (v : Value) (bx : List Bx) (W : World) : Prop where
  bel : Below w.heap.size w W
  bel6 : Below w6.heap.size w6 W
  rd : RdB W v bx
theorem TxS.below {w w6 : World} {v : Value} {bx : List Bx} {W W' : World} (h : TxS w w6 v bx W) (hb : Below W.heap.size W W') : TxS w w6 v bx W' := ⟨below_tr h.bel hb, below_tr h.bel6 hb, h.rd.below hb⟩
theorem TxS.drew {w w6 : World} {v : Value} {bx : List Bx} {W : World} (h : TxS w w6 v bx W) : TxS w w6 v bx W.drew := h.below (below_drewN (Below.refl _ _) 1)
theorem pprV_form (l : List Pg) : ∃ (T : ByteArray) (x : Int), pprV l = .tuple #[.string T, .int .i64 x] := by
  unfold pprV
  split <;> exact ⟨_, _, rfl⟩

set_option maxRecDepth 100000 in
set_option maxHeartbeats 4000000 in
theorem ptexts_any (v : Value) (l : List Pg) (s : ByteArray) (kind m : Int) (w : World) (he : Env w) (hm : w.cell? ⟨0, 0, none⟩ = some (.int .i64 m)) (hr : RdPg w v l) (hz : SzPg l) (hsz : s.size ≤ 9223372036854775807) :
    Calls Tryd.prog 5 #[v, .string s, .int .i64 kind] w fun e w' => e = .returned (.bool true) ∧ Below w.heap.size w w' := by
  have AW := fun w' (h : Below w.heap.size w w') => hid (awake53_any m w' (he.below h) (Below.keeps h _ _ hm))
  have HE := fun w' (h : Below w.heap.size w w') => hid (he.below h)
  have HM := fun w' (h : Below w.heap.size w w') => hid (Below.keeps h _ _ hm)
  have HG1 := hid (great53_any v l w hr hz)
  have HR := hid hr
  obtain ⟨a1, k1, rfl, hlc1, hcm1, hcell⟩ := hr.open
  have HC := hid hcell
  clear he hm hr hcell
  go_enter Tryd.func5, Tryd.ntmps5
  go_wp2_with fail
  refine HG1.out.mono ?_
  clear HG1
  rintro e w2 ⟨⟨b, rfl, hb⟩, rfl⟩
  cases b with
  | true =>
    go_wp2_with fail
    refine (AW _ (Below.refl _ _)).out.mono ?_
    rintro e w3 ⟨rfl, hB3⟩
    go_wp2
    go_ret
    exact ⟨rfl, hB3⟩
  | false =>
    have HSM := hid (hb rfl)
    clear hb
    by_cases h300 : 300 < s.size
    · have h300i : (300 : Int) < (s.size : Int) := by omega
      go_wp2_with fail
      refine (AW _ (Below.refl _ _)).out.mono ?_
      rintro e w3 ⟨rfl, hB3⟩
      go_wp2
      go_ret
      exact ⟨rfl, hB3⟩
    · have h300i : ¬ (300 : Int) < (s.size : Int) := by omega
      have h5 := HSM.out.1
      have HPR := hid (pprint_any l _ w (HE _ (Below.refl _ _)).out HR.out hz (by omega) (fun hf => by have := print_small HSM.out hf; omega))
      have HPQ := fun w' (h : Below w.heap.size w w') => hid (rPrint_any _ l w' (HR.out.below h) hz (fun hf => by have := print_small HSM.out hf; omega))
      have hpv : prrV l = pprV l := if_neg (by omega)
      rw [hpv] at HPQ
      obtain ⟨T, x, hTx⟩ := pprV_form l
      rw [hTx] at HPR HPQ
      clear hTx hpv
      have HFL := hid (sm_flat HSM.out)
      go_wp2_with fail
      refine HPR.out.mono ?_
      clear HPR
      rintro e w3 ⟨rfl, hB3⟩
      have HP3 := HPQ _ hB3
      have HB3 := hid hB3
      clear HPQ hB3
      go_wp2_with fail
      refine HP3.out.mono ?_
      clear HP3
      rintro e w4 ⟨rfl, hB4⟩
      have HB4 := hid (below_tr HB3.out hB4)
      clear HB3 hB4
      have HPS := hid (pparse_any s m w4 (HE _ HB4.out).out (HM _ HB4.out).out (by omega))
      go_wp2_with fail
      refine HPS.out.mono ?_
      rintro e w5 ⟨v5, x5, rfl, hcase5, hB5⟩
      have HB5 := hid (below_tr HB4.out hB5)
      clear HPS HB4 hB5
      have HRS := hid (rparse_any s w5 (by omega))
      go_wp2_with fail
      refine HRS.out.mono ?_
      rintro e w6 ⟨v6, x6, rfl, hcase6, hB6⟩
      obtain ⟨ps, x7, r5, rfl, r6, rfl⟩ : ∃ ps x, RdPg w6 v5 ps ∧ x5 = x ∧ RdPg w6 v6 ps ∧ x6 = x := by
        rcases hcase5 with ⟨ps, h1, h2, h3⟩ | ⟨h1, rfl, h3⟩
        · rcases hcase6 with ⟨qs, g1, g2, g3⟩ | ⟨g1, _⟩
          · rw [h1] at g1; cases g1
            exact ⟨ps, 0, h2.below hB6, h3, g2, g3⟩
          · rw [h1] at g1; cases g1
        · rcases hcase6 with ⟨qs, g1, g2, g3⟩ | ⟨_, g2, g3⟩
          · rw [h1] at g1; cases g1
          · exact ⟨[], 3, RdPg.mt w6 none, h3, g2, g3⟩
      have HB6 := hid (below_tr HB5.out hB6)
      have HS6 := fun w' (h : Below w6.heap.size w6 w') => hid (samePg_any _ _ ps w' (r5.below h) (r6.below h))
      have HBP := fun w' (h : Below w.heap.size w w') => hid (pboxes_any _ l kind w' (HR.out.below h) (by have := HFL.out; omega))
      have HBR := fun w' (h : Below w.heap.size w w') => hid (rboxes_any _ l kind w' (HR.out.below h) (by have := HFL.out; omega))
      clear hcase5 hcase6 HRS HB5 hB6 r5 r6
      go_wp2_with fail
      go_loopw [47] (fun i wr => ∃ k : Nat, k ≤ l.length ∧ i = .int .i64 k ∧ Hid (Below w6.heap.size w6 wr)) (fun i _ => l.length - (intOf i).toNat)
      case atStart => exact ⟨0, by omega, rfl, Below.refl _ _⟩
      case round =>
        obtain ⟨k, hk, rfl, HB⟩ := hrel
        have HBW := hid (below_tr HB6.out HB.out)
        by_cases hlt : k < l.length
        · obtain ⟨p, b, off, q, hp, rfl, c0', c1', hq⟩ := HC.out k hlt
          have hki : (k : Int) < (l.length : Int) := by omega
          have c0 := Below.keeps HBW.out _ _ c0'
          have c1 := Below.keeps HBW.out _ _ c1'
          have hzp := hz p (List.mem_of_getElem? hp)
          have hTS : TxS w w6 q p.bx (wr.alloc (.cells #[.int .i64 p.num, q] 34)) := ⟨below_tr HBW.out (below_al wr _), below_tr HB.out (below_al wr _), hq.below (below_tr HBW.out (below_al wr _))⟩
          have HRC := hid (row_nw wr #[.int .i64 p.num, q] 34 rfl)
          have g0 := HRC.out.cell 0 rfl
          have g1 := HRC.out.cell 1 rfl
          obtain ⟨aq, kq, rfl, _, _, _⟩ := hq.open
          have HBK := hid (below_tr HB.out (below_al wr (.cells #[.int .i64 p.num, .slice aq p.bx.length kq] 34)))
          clear hp c0' c1' hq
          go_wp2_with fail
          go_region_held3 (fun w' => w'.cell? ⟨wr.heap.size, 0, none⟩ = some (.int .i64 p.num) ∧ w'.cell? ⟨wr.heap.size, 1, none⟩ = some (.slice aq p.bx.length kq) ∧ TxS w w6 (.slice aq p.bx.length kq) p.bx w')
            ((refine ⟨?_, ?_, ?_⟩ <;> first | assumption | (exact hTS.drew) | (exact TxS.drew (by assumption)) | go_keep))
            (first
              | (go_at_call 18; go_split_ands; refine (pcheck_any p _ _ (by exact TxS.rd (by assumption)) hzp).mono ?_; rintro e w8 ⟨rfl, hB8⟩; have z0 := Below.keeps hB8 _ _ (by assumption : World.cell? _ ⟨wr.heap.size, 0, none⟩ = some _); have z1 := Below.keeps hB8 _ _ (by assumption : World.cell? _ ⟨wr.heap.size, 1, none⟩ = some _); have z2 := TxS.below (by assumption) hB8)
              | (go_at_call 20; go_split_ands; refine (rpcheck_any p _ _ (by exact TxS.rd (by assumption)) hzp).mono ?_; rintro e w8 ⟨rfl, hB8⟩; have z0 := Below.keeps hB8 _ _ (by assumption : World.cell? _ ⟨wr.heap.size, 0, none⟩ = some _); have z1 := Below.keeps hB8 _ _ (by assumption : World.cell? _ ⟨wr.heap.size, 1, none⟩ = some _); have z2 := TxS.below (by assumption) hB8))
          all_goals go_split_ands
          all_goals go_wp2_with fail
          all_goals go_roundw
          all_goals first
            | exact ⟨k + 1, by omega, by go_num, TxS.bel6 (by assumption)⟩
            | (simp [intOf]; omega)
        · have hki : ¬ (k : Int) < (l.length : Int) := by omega
          have HS := HS6 _ HB.out
          go_wp2_with fail
          refine HS.out.mono ?_
          rintro e w7 ⟨rfl, hB7⟩
          have HB7 := hid (below_tr HBW.out hB7)
          have HP7 := HBP _ HB7.out
          clear HS hB7 HBW HB HB6
          go_wp2_with fail
          refine HP7.out.mono ?_
          rintro e w8 ⟨u8, rfl, hu8, hB8⟩
          have HB8 := hid (below_tr HB7.out hB8)
          have HR8 := HBR _ HB8.out
          have HU8 := hid hu8
          clear HP7 HB7 hB8 hu8
          go_wp2_with fail
          refine HR8.out.mono ?_
          rintro e w9 ⟨u9, rfl, hu9, hB9⟩
          have HB9 := hid (below_tr HB8.out hB9)
          have HSB := hid (sameB_any u8 u9 _ w9 (HU8.out.below hB9) hu9)
          clear HR8 HB8 hB9 hu9
          go_wp2_with fail
          refine HSB.out.mono ?_
          rintro e wA ⟨rfl, n, rfl⟩
          have HBA := hid (below_tr HB9.out (below_drewN (Below.refl _ _) n))
          have HA := AW _ HBA.out
          go_wp2_with fail
          refine HA.out.mono ?_
          rintro e wB ⟨rfl, hBB⟩
          go_wp2
          go_ret
          exact ⟨rfl, below_tr HBA.out hBB⟩
end Go.Proofs.YtkjapeafhcdnkaaDoor
