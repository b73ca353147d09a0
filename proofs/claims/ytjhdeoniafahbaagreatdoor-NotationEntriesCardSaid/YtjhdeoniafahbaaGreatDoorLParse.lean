/-
  lemma.Parse.
-/
import Derived.Test.YtjhdeoniafahbaaGreatDoorJ04
import Derived.Test.YtjhdeoniafahbaaGreatDoorTxS
import Derived.Test.YtjhdeoniafahbaaGreatDoorOf
import Derived.Deep.RegionHeld3
namespace Go.Proofs.YtjhdeoniafahbaaGreatDoor
open Go.RowKit Go.Shelf

theorem splitX_any (s : ByteArray) (m : Int) (w : World) (hs : s.size < 4294967281) (hm : w.cell? ⟨0, 0, none⟩ = some (.int .i64 m)) :
    Calls Tryz.prog 57 #[.string s, .string ⟨#[32]⟩] w fun e w' => e = .returned (.slice (some ⟨w.heap.size, 0, none⟩) (splitS s).length (splitS s).length) ∧ w.alloc (.cells ((splitS s).map Value.string).toArray 9) = w' := by
  refine (Go.Proofs.Any.strings_Split { Tryz.laysM146 with } Tryz.laysM146.i9 s ⟨#[32]⟩ m w hs hm (by decide)).mono ?_
  rintro e w' ⟨rfl, rfl⟩
  exact ⟨by rw [splitS_count], rfl⟩
theorem cutH_any (s : ByteArray) (m : Int) (w : World) (hs : s.size < 4294967281) (hm : w.cell? ⟨0, 0, none⟩ = some (.int .i64 m)) :
    Calls Tryz.prog 25 #[.string s, .string ⟨#[35]⟩] w fun e w' => e = .returned (.tuple #[.string (ownB s), .string (numB s), .bool (hashB s)]) ∧ Below w.heap.size w w' := by
  refine (Go.Proofs.Any.strings_Cut { Tryz.laysM145 with } s ⟨#[35]⟩ m w hs hm).mono ?_
  rintro e w' ⟨rfl, n, rfl⟩
  refine ⟨?_, below_drewN (Below.refl _ _) n⟩
  have e1 : (⟨(Lib.cut s.data.toList [35]).1.toArray⟩ : ByteArray) = ownB s := by
    refine ba_ext ?_
    unfold Lib.cut ownB hashB hashI
    by_cases h : 0 ≤ Lib.index s.data.toList [35]
    · rw [if_pos h, if_pos (by simpa using h), extract_data]; simp
    · rw [if_neg h, if_neg (by simpa using h)]
  have e2 : (⟨(Lib.cut s.data.toList [35]).2.1.toArray⟩ : ByteArray) = numB s := by
    refine ba_ext ?_
    unfold Lib.cut numB hashB hashI
    by_cases h : 0 ≤ Lib.index s.data.toList [35]
    · rw [if_pos h, if_pos (by simpa using h), extract_data, ← ba_len, List.take_length]; simp
    · rw [if_neg h, if_neg (by simpa using h)]
  have e3 : (Lib.cut s.data.toList [35]).2.2 = hashB s := by
    unfold Lib.cut hashB hashI
    by_cases h : 0 ≤ Lib.index s.data.toList [35]
    · rw [if_pos h, decide_eq_true h]
    · rw [if_neg h, decide_eq_false h]
  show Ending.returned (.tuple #[.string ⟨(Lib.cut s.data.toList [35]).1.toArray⟩, .string ⟨(Lib.cut s.data.toList [35]).2.1.toArray⟩, .bool (Lib.cut s.data.toList [35]).2.2]) = _
  rw [e1, e2, e3]

def lmV (r : LmR) : Value := .tuple #[.agg #[.string r.f, .string r.l, .int .i64 r.n], .int .i64 r.e]
theorem numB_size (s : ByteArray) : (numB s).size ≤ s.size := by
  unfold numB
  split
  · rw [ByteArray.size_extract]; omega
  · exact Nat.zero_le _
theorem ownB_size (s : ByteArray) : (ownB s).size ≤ s.size := by
  unfold ownB
  split
  · rw [ByteArray.size_extract]; omega
  · exact Nat.le_refl _

/-- The result's cells, the parts, the lemma's cells while Parse runs. -/
structure PsI (w : World) (B : Nat) (ps : Array Value) (f l : ByteArray) (n : Int) (W : World) : Prop where
  res : Row W w.heap.size #[.string ⟨#[]⟩, .string ⟨#[]⟩, .int .i64 0] 28
  pts : Row W (w.heap.size + 1) ps 9
  lem : Row W B #[.string f, .string l, .int .i64 n] 28
  bel : Below w.heap.size w W
  lo : w.heap.size + 2 ≤ B
theorem PsI.below {w W W' : World} {B : Nat} {ps : Array Value} {f l : ByteArray} {n : Int} (h : PsI w B ps f l n W) (hb : Below W.heap.size W W') : PsI w B ps f l n W' :=
  ⟨h.res.below hb, h.pts.below hb, h.lem.below hb, below_tr h.bel hb, h.lo⟩
theorem PsI.drew {w W : World} {B : Nat} {ps : Array Value} {f l : ByteArray} {n : Int} (h : PsI w B ps f l n W) : PsI w B ps f l n W.drew := h.below (Below.refl _ _).drew
theorem PsI.num {w W : World} {B : Nat} {ps : Array Value} {f l : ByteArray} {n : Int} (h : PsI w B ps f l n W) (c : Int) : PsI w B ps f l c (W.setCell ⟨B, 2, none⟩ (.int .i64 c)) :=
  have hl := h.lo
  ⟨h.res.other _ _ (by simp; omega), h.pts.other _ _ (by simp; omega), h.lem.set 2 _, h.bel.setCell (p := ⟨B, 2, none⟩) (by simp; omega) _, hl⟩
theorem PsI.fst {w W : World} {B : Nat} {ps : Array Value} {f l : ByteArray} {n : Int} (h : PsI w B ps f l n W) (c : ByteArray) : PsI w B ps c l n (W.setCell ⟨B, 0, none⟩ (.string c)) :=
  have hl := h.lo
  ⟨h.res.other _ _ (by simp; omega), h.pts.other _ _ (by simp; omega), h.lem.set 0 _, h.bel.setCell (p := ⟨B, 0, none⟩) (by simp; omega) _, hl⟩
theorem PsI.lst {w W : World} {B : Nat} {ps : Array Value} {f l : ByteArray} {n : Int} (h : PsI w B ps f l n W) (c : ByteArray) : PsI w B ps f c n (W.setCell ⟨B, 1, none⟩ (.string c)) :=
  have hl := h.lo
  ⟨h.res.other _ _ (by simp; omega), h.pts.other _ _ (by simp; omega), h.lem.set 1 _, h.bel.setCell (p := ⟨B, 1, none⟩) (by simp; omega) _, hl⟩
theorem PsI.part {w W : World} {B : Nat} {ps : Array Value} {f l : ByteArray} {n : Int} (h : PsI w B ps f l n W) (k : Nat) (c : Value) : PsI w B (ps.setIfInBounds k c) f l n (W.setCell ⟨w.heap.size + 1, k, none⟩ c) :=
  have hl := h.lo
  ⟨h.res.other _ _ (by simp), h.pts.set k _, h.lem.other _ _ (by simp; omega), h.bel.setCell (p := ⟨w.heap.size + 1, k, none⟩) (by simp) _, hl⟩

set_option maxRecDepth 100000 in
set_option maxHeartbeats 2000000 in
theorem parse43_any (s : ByteArray) (m : Int) (w : World) (he : Env w) (hs : s.size ≤ 65536) (hm : w.cell? ⟨0, 0, none⟩ = some (.int .i64 m)) :
    Calls Tryz.prog 100 #[.string s] w fun e w' => e = .returned (lmV (parseLm s)) ∧ Below w.heap.size w w' := by
  obtain ⟨ps, hps⟩ : ∃ ps, ps = splitS s := ⟨_, rfl⟩
  have HL : Hid (parseLm s = if ¬ (ps.length = 1 ∨ (ps.length = 3 ∧ ps.getD 1 ⟨#[]⟩ = ⟨#[43]⟩)) then lm0 3 else if (hashB (lmLast ps) && !decB (numB (lmLast ps))) = true then lm0 3 else if ps.length = 1 then lmEnd (ownB (lmLast ps)) ⟨#[]⟩ (lmNum (lmLast ps)) else if (ownB (lmLast ps)).size = 0 then lm0 11 else lmEnd (ps.getD 0 ⟨#[]⟩) (ownB (lmLast ps)) (lmNum (lmLast ps))) := by
    unfold Hid parseLm; rw [if_neg (by omega), hps]
  have hp1 : 1 ≤ ps.length := by rw [hps, splitS_count]; omega
  have hp2 : ps.length ≤ 65537 := by rw [hps]; have := splitS_len s; omega
  have hpz : ∀ x ∈ ps, x.size ≤ 65536 := by rw [hps]; intro x hx; have := splitS_size s x hx; omega
  have hb0 := below_al w (.cells #[.string ⟨#[]⟩, .string ⟨#[]⟩, .int .i64 0] 28)
  have hr0 := row_nw w #[.string ⟨#[]⟩, .string ⟨#[]⟩, .int .i64 0] 28 rfl
  have HSP := hid (splitX_any s m (w.alloc (.cells #[.string ⟨#[]⟩, .string ⟨#[]⟩, .int .i64 0] 28)) (by omega) (cell_al hm _))
  rw [← hps] at HSP
  have hs1 : (w.alloc (.cells #[.string ⟨#[]⟩, .string ⟨#[]⟩, .int .i64 0] 28)).heap.size = w.heap.size + 1 := by simp
  rw [hs1] at HSP
  have HM := hid hm
  have HE := hid he
  have hsz : ¬ (65536 : Int) < (s.size : Int) := by omega
  clear hps hm he
  have hz : ∀ t, t ∈ ps → ∀ w', Below w.heap.size w w' → Hid (Calls Tryz.prog 25 #[.string t, .string ⟨#[35]⟩] w' fun e w'' => e = .returned (.tuple #[.string (ownB t), .string (numB t), .bool (hashB t)]) ∧ Below w'.heap.size w' w'') := fun t ht w' h => hid (cutH_any t m w' (by have := hpz t ht; omega) (Below.keeps h _ _ HM.out))
  have hd : ∀ t, t ∈ ps → ∀ w', Below w.heap.size w w' → Hid (Calls Tryz.prog 123 #[.string (numB t)] w' fun e w'' => e = .returned (.tuple #[.int .i64 (decV (numB t)), .bool (decB (numB t))]) ∧ Below w'.heap.size w' w'') := fun t ht w' h => hid (decimal_any (numB t) w' (HE.out.below h) (by have := hpz t ht; have := numB_size t; omega))
  have hk : ∀ f l n w', f.size ≤ 65536 → l.size ≤ 65536 → Below w.heap.size w w' → Hid (Calls Tryz.prog 86 #[.agg #[.string f, .string l, .int .i64 n]] w' fun e w'' => e = .returned (.int .i64 (lemCk f l n)) ∧ Below w'.heap.size w' w'') := fun f l n w' hf hl h => hid (lck_any f l n w' (HE.out.below h) hf hl)
  by_cases h1 : ps.length = 1
  · obtain ⟨x, rfl⟩ := List.length_eq_one_iff.1 h1
    have HZ := fun w' h => hz x (by simp) w' h
    have HD := fun w' h => hd x (by simp) w' h
    have hx := hpz x (by simp)
    have hl := hpz x (by simp)
    clear hz hd hpz hp1 hp2
    simp only [List.length_cons, List.length_nil, Nat.reduceAdd, List.map_cons, List.map_nil] at HSP
    go_enter Tryz.func100, Tryz.ntmps100
    go_wp2_with fail
    refine HSP.out.mono ?_
    rintro e w2 ⟨rfl, hw2⟩
    have hr02 : Row w2 w.heap.size #[.string ⟨#[]⟩, .string ⟨#[]⟩, .int .i64 0] 28 := by rw [← hw2]; exact hr0.al _
    have hr12 : Row w2 (w.heap.size + 1) #[.string x] 9 := by rw [← hw2]; exact row_nw _ _ _ (by simp)
    have hb2 : Below w.heap.size w w2 := by rw [← hw2]; exact below_tr hb0 (below_al _ _)
    have hs2 : w2.heap.size = w.heap.size + 2 := by rw [← hw2]; simp
    clear hw2 HSP hr0 hb0
    have HI0 : Hid (PsI w w2.heap.size #[.string x] ⟨#[]⟩ ⟨#[]⟩ 0 (w2.alloc (.cells #[.string ⟨#[]⟩, .string ⟨#[]⟩, .int .i64 0] 28))) := ⟨hr02.al _, hr12.al _, row_nw _ _ _ rfl, below_tr hb2 (below_al _ _), by omega⟩
    have cL := HI0.out.pts.cell 0 rfl
    clear hs2 hr02 hr12 hb2
    go_wp2_with fail
    generalize w2.alloc (.cells #[.string ⟨#[]⟩, .string ⟨#[]⟩, .int .i64 0] 28) = w3 at *
    refine (HZ _ HI0.out.bel).out.mono ?_
    rintro e w4 ⟨rfl, hB4⟩
    have HI1 := hid (HI0.out.below hB4)
    generalize w2.heap.size = B at *
    clear hB4 cL HZ HI0
    cases hh : hashB x with
    | true =>
      have hle := ownB_size x
      have HD1 := HD _ HI1.out.bel
      go_wp2_with fail
      refine HD1.out.mono ?_
      rintro e w5 ⟨rfl, hB5⟩
      have HI2 := hid (HI1.out.below hB5)
      clear HD1 hB5 HD HI1
      cases hd1 : decB (numB x) with
      | false =>
        have HV : Hid (parseLm s = lm0 3) := hid (by rw [HL.out, if_neg (by simp), if_pos (by show (hashB x && !decB (numB x)) = true; rw [hh, hd1]; rfl)])
        have r0 := HI2.out.res.cell 0 rfl
        have r1 := HI2.out.res.cell 1 rfl
        have r2 := HI2.out.res.cell 2 rfl
        have r3 := HI2.out.res.frozen 0
        have r4 := HI2.out.res.frozen 1
        have r5 := HI2.out.res.frozen 2
        have hR := ((HI2.out.res.set 0 (.string ⟨#[]⟩)).set 1 (.string ⟨#[]⟩)).set 2 (.int .i64 0)
        have z0 := hR.cell 0 rfl
        have z1 := hR.cell 1 rfl
        have z2 := hR.cell 2 rfl
        have HBE := hid (((HI2.out.bel.setCell (p := ⟨w.heap.size, 0, none⟩) (by simp) (.string ⟨#[]⟩)).setCell (p := ⟨w.heap.size, 1, none⟩) (by simp) (.string ⟨#[]⟩)).setCell (p := ⟨w.heap.size, 2, none⟩) (by simp) (.int .i64 0))
        clear hR
        go_wp2_with fail
        exact bodyPost_ret (v := .tuple #[.agg #[.string ⟨#[]⟩, .string ⟨#[]⟩, .int .i64 0], .int .i64 3]) (by simp [results, Tryz.f100, go_sem, z0, z1, z2]) rfl ⟨by rw [HV.out]; rfl, HBE.out⟩
      | true =>
        have hnum : lmNum x = decV (numB x) := if_pos hh
        have HQ : Hid (parseLm s = lmEnd (ownB x) ⟨#[]⟩ (decV (numB x))) := hid (by rw [HL.out, if_neg (by simp), if_neg (by show ¬ (hashB x && !decB (numB x)) = true; rw [hh, hd1]; simp), if_pos (show [x].length = 1 from rfl), ← hnum]; rfl)
        clear hnum
        have q1 := HI2.out.lem.cell 2 rfl
        have q2 := HI2.out.lem.frozen 2
        have q5 := (HI2.out.num (decV (numB x))).pts.cell 0 rfl
        have q6 := (HI2.out.num (decV (numB x))).pts.frozen 0
        have HI3 := hid ((HI2.out.num (decV (numB x))).part 0 (.string (ownB x)))
        have d0 := HI3.out.pts.cell 0 rfl
        have d1 := HI3.out.lem.cell 0 rfl
        have d2 := HI3.out.lem.frozen 0
        have HF := hid (HI3.out.fst (ownB x))
        have e0 := HF.out.lem.cell 0 rfl
        have e1 := HF.out.lem.cell 1 rfl
        have e2 := HF.out.lem.cell 2 rfl
        have HK := hk (ownB x) ⟨#[]⟩ (decV (numB x)) _ (by first | omega | exact Nat.zero_le _) (by first | omega | exact Nat.zero_le _) HF.out.bel
        go_wp2_with fail
        refine HK.out.mono ?_
        rintro e w9 ⟨rfl, hB9⟩
        have HR := hid (HF.out.below hB9)
        clear HK hB9
        by_cases hc : lemCk (ownB x) ⟨#[]⟩ (decV (numB x)) = 0
        · have HV : Hid (parseLm s = ⟨(ownB x), ⟨#[]⟩, decV (numB x), 0⟩) := hid (by rw [HQ.out]; unfold lmEnd; rw [if_pos hc])
          have r0 := HR.out.res.cell 0 rfl
          have r1 := HR.out.res.cell 1 rfl
          have r2 := HR.out.res.cell 2 rfl
          have r3 := HR.out.res.frozen 0
          have r4 := HR.out.res.frozen 1
          have r5 := HR.out.res.frozen 2
          have e3 := HR.out.lem.cell 0 rfl
          have e4 := HR.out.lem.cell 1 rfl
          have e5 := HR.out.lem.cell 2 rfl
          have hR := ((HR.out.res.set 0 (.string (ownB x))).set 1 (.string ⟨#[]⟩)).set 2 (.int .i64 (decV (numB x)))
          have z0 := hR.cell 0 rfl
          have z1 := hR.cell 1 rfl
          have z2 := hR.cell 2 rfl
          have HBE := hid (((HR.out.bel.setCell (p := ⟨w.heap.size, 0, none⟩) (by simp) (.string (ownB x))).setCell (p := ⟨w.heap.size, 1, none⟩) (by simp) (.string ⟨#[]⟩)).setCell (p := ⟨w.heap.size, 2, none⟩) (by simp) (.int .i64 (decV (numB x))))
          clear hR d0 d1 d2
          go_wp2_with fail
          exact bodyPost_ret (v := .tuple #[.agg #[.string (ownB x), .string ⟨#[]⟩, .int .i64 (decV (numB x))], .int .i64 0]) (by simp [results, Tryz.f100, go_sem, z0, z1, z2]) rfl ⟨by rw [HV.out]; rfl, HBE.out⟩
        · have hcb : (lemCk (ownB x) ⟨#[]⟩ (decV (numB x)) == 0) = false := by rw [beq_eq_false_iff_ne]; exact hc
          have HV : Hid (parseLm s = lm0 (lemCk (ownB x) ⟨#[]⟩ (decV (numB x)))) := hid (by rw [HQ.out]; unfold lmEnd; rw [if_neg hc])
          have r0 := HR.out.res.cell 0 rfl
          have r1 := HR.out.res.cell 1 rfl
          have r2 := HR.out.res.cell 2 rfl
          have r3 := HR.out.res.frozen 0
          have r4 := HR.out.res.frozen 1
          have r5 := HR.out.res.frozen 2
          have hR := ((HR.out.res.set 0 (.string ⟨#[]⟩)).set 1 (.string ⟨#[]⟩)).set 2 (.int .i64 0)
          have z0 := hR.cell 0 rfl
          have z1 := hR.cell 1 rfl
          have z2 := hR.cell 2 rfl
          have HBE := hid (((HR.out.bel.setCell (p := ⟨w.heap.size, 0, none⟩) (by simp) (.string ⟨#[]⟩)).setCell (p := ⟨w.heap.size, 1, none⟩) (by simp) (.string ⟨#[]⟩)).setCell (p := ⟨w.heap.size, 2, none⟩) (by simp) (.int .i64 0))
          clear hR
          go_wp2_with fail
          exact bodyPost_ret (v := .tuple #[.agg #[.string ⟨#[]⟩, .string ⟨#[]⟩, .int .i64 0], .int .i64 (lemCk (ownB x) ⟨#[]⟩ (decV (numB x)))]) (by simp [results, Tryz.f100, go_sem, z0, z1, z2]) rfl ⟨by rw [HV.out]; rfl, HBE.out⟩
    | false =>
      have how : ownB x = x := by unfold ownB; rw [if_neg (by rw [hh]; simp)]
      have hnum : lmNum x = 0 := by unfold lmNum; rw [if_neg (by rw [hh]; simp)]
      have HQ : Hid (parseLm s = lmEnd x ⟨#[]⟩ 0) := hid (by rw [HL.out, if_neg (by simp), if_neg (by show ¬ (hashB x && !decB (numB x)) = true; rw [hh]; simp), if_pos (show [x].length = 1 from rfl)]; show lmEnd (ownB x) _ (lmNum x) = _; rw [how, hnum])
      clear how hnum HD
      have d0 := HI1.out.pts.cell 0 rfl
      have d1 := HI1.out.lem.cell 0 rfl
      have d2 := HI1.out.lem.frozen 0
      have HF := hid (HI1.out.fst x)
      have e0 := HF.out.lem.cell 0 rfl
      have e1 := HF.out.lem.cell 1 rfl
      have e2 := HF.out.lem.cell 2 rfl
      have HK := hk x ⟨#[]⟩ (0) _ (by first | omega | exact Nat.zero_le _) (by first | omega | exact Nat.zero_le _) HF.out.bel
      go_wp2_with fail
      refine HK.out.mono ?_
      rintro e w9 ⟨rfl, hB9⟩
      have HR := hid (HF.out.below hB9)
      clear HK hB9
      by_cases hc : lemCk x ⟨#[]⟩ (0) = 0
      · have HV : Hid (parseLm s = ⟨x, ⟨#[]⟩, 0, 0⟩) := hid (by rw [HQ.out]; unfold lmEnd; rw [if_pos hc])
        have r0 := HR.out.res.cell 0 rfl
        have r1 := HR.out.res.cell 1 rfl
        have r2 := HR.out.res.cell 2 rfl
        have r3 := HR.out.res.frozen 0
        have r4 := HR.out.res.frozen 1
        have r5 := HR.out.res.frozen 2
        have e3 := HR.out.lem.cell 0 rfl
        have e4 := HR.out.lem.cell 1 rfl
        have e5 := HR.out.lem.cell 2 rfl
        have hR := ((HR.out.res.set 0 (.string x)).set 1 (.string ⟨#[]⟩)).set 2 (.int .i64 (0))
        have z0 := hR.cell 0 rfl
        have z1 := hR.cell 1 rfl
        have z2 := hR.cell 2 rfl
        have HBE := hid (((HR.out.bel.setCell (p := ⟨w.heap.size, 0, none⟩) (by simp) (.string x)).setCell (p := ⟨w.heap.size, 1, none⟩) (by simp) (.string ⟨#[]⟩)).setCell (p := ⟨w.heap.size, 2, none⟩) (by simp) (.int .i64 (0)))
        clear hR d0 d1 d2
        go_wp2_with fail
        exact bodyPost_ret (v := .tuple #[.agg #[.string x, .string ⟨#[]⟩, .int .i64 (0)], .int .i64 0]) (by simp [results, Tryz.f100, go_sem, z0, z1, z2]) rfl ⟨by rw [HV.out]; rfl, HBE.out⟩
      · have hcb : (lemCk x ⟨#[]⟩ (0) == 0) = false := by rw [beq_eq_false_iff_ne]; exact hc
        have HV : Hid (parseLm s = lm0 (lemCk x ⟨#[]⟩ (0))) := hid (by rw [HQ.out]; unfold lmEnd; rw [if_neg hc])
        have r0 := HR.out.res.cell 0 rfl
        have r1 := HR.out.res.cell 1 rfl
        have r2 := HR.out.res.cell 2 rfl
        have r3 := HR.out.res.frozen 0
        have r4 := HR.out.res.frozen 1
        have r5 := HR.out.res.frozen 2
        have hR := ((HR.out.res.set 0 (.string ⟨#[]⟩)).set 1 (.string ⟨#[]⟩)).set 2 (.int .i64 0)
        have z0 := hR.cell 0 rfl
        have z1 := hR.cell 1 rfl
        have z2 := hR.cell 2 rfl
        have HBE := hid (((HR.out.bel.setCell (p := ⟨w.heap.size, 0, none⟩) (by simp) (.string ⟨#[]⟩)).setCell (p := ⟨w.heap.size, 1, none⟩) (by simp) (.string ⟨#[]⟩)).setCell (p := ⟨w.heap.size, 2, none⟩) (by simp) (.int .i64 0))
        clear hR
        go_wp2_with fail
        exact bodyPost_ret (v := .tuple #[.agg #[.string ⟨#[]⟩, .string ⟨#[]⟩, .int .i64 0], .int .i64 (lemCk x ⟨#[]⟩ (0))]) (by simp [results, Tryz.f100, go_sem, z0, z1, z2]) rfl ⟨by rw [HV.out]; rfl, HBE.out⟩
  · by_cases h3 : ps.length = 3
    · obtain ⟨x, y, z, rfl⟩ : ∃ x y z, ps = [x, y, z] := by
        match ps, h3 with
        | [x, y, z], _ => exact ⟨x, y, z, rfl⟩
      by_cases hy : y = ⟨#[43]⟩
      · subst hy
        have HZ := fun w' h => hz z (by simp) w' h
        have HD := fun w' h => hd z (by simp) w' h
        have hx := hpz x (by simp)
        have hl := hpz z (by simp)
        clear hz hd hpz hp1 hp2
        simp only [List.length_cons, List.length_nil, Nat.reduceAdd, List.map_cons, List.map_nil] at HSP
        go_enter Tryz.func100, Tryz.ntmps100
        go_wp2_with fail
        refine HSP.out.mono ?_
        rintro e w2 ⟨rfl, hw2⟩
        have hr02 : Row w2 w.heap.size #[.string ⟨#[]⟩, .string ⟨#[]⟩, .int .i64 0] 28 := by rw [← hw2]; exact hr0.al _
        have hr12 : Row w2 (w.heap.size + 1) #[.string x, .string ⟨#[43]⟩, .string z] 9 := by rw [← hw2]; exact row_nw _ _ _ (by simp)
        have hb2 : Below w.heap.size w w2 := by rw [← hw2]; exact below_tr hb0 (below_al _ _)
        have hs2 : w2.heap.size = w.heap.size + 2 := by rw [← hw2]; simp
        clear hw2 HSP hr0 hb0
        have HI0 : Hid (PsI w w2.heap.size #[.string x, .string ⟨#[43]⟩, .string z] ⟨#[]⟩ ⟨#[]⟩ 0 (w2.alloc (.cells #[.string ⟨#[]⟩, .string ⟨#[]⟩, .int .i64 0] 28))) := ⟨hr02.al _, hr12.al _, row_nw _ _ _ rfl, below_tr hb2 (below_al _ _), by omega⟩
        have cL := HI0.out.pts.cell 2 rfl
        have c1 := hr12.cell 1 rfl
        clear hs2 hr02 hr12 hb2
        go_wp2_with fail
        generalize w2.alloc (.cells #[.string ⟨#[]⟩, .string ⟨#[]⟩, .int .i64 0] 28) = w3 at *
        refine (HZ _ HI0.out.bel).out.mono ?_
        rintro e w4 ⟨rfl, hB4⟩
        have HI1 := hid (HI0.out.below hB4)
        generalize w2.heap.size = B at *
        clear hB4 cL HZ HI0
        cases hh : hashB z with
        | true =>
          have hle := ownB_size z
          have HD1 := HD _ HI1.out.bel
          go_wp2_with fail
          refine HD1.out.mono ?_
          rintro e w5 ⟨rfl, hB5⟩
          have HI2 := hid (HI1.out.below hB5)
          clear HD1 hB5 HD HI1
          cases hd1 : decB (numB z) with
          | false =>
            have HV : Hid (parseLm s = lm0 3) := hid (by rw [HL.out, if_neg (by simp), if_pos (by show (hashB z && !decB (numB z)) = true; rw [hh, hd1]; rfl)])
            have r0 := HI2.out.res.cell 0 rfl
            have r1 := HI2.out.res.cell 1 rfl
            have r2 := HI2.out.res.cell 2 rfl
            have r3 := HI2.out.res.frozen 0
            have r4 := HI2.out.res.frozen 1
            have r5 := HI2.out.res.frozen 2
            have hR := ((HI2.out.res.set 0 (.string ⟨#[]⟩)).set 1 (.string ⟨#[]⟩)).set 2 (.int .i64 0)
            have z0 := hR.cell 0 rfl
            have z1 := hR.cell 1 rfl
            have z2 := hR.cell 2 rfl
            have HBE := hid (((HI2.out.bel.setCell (p := ⟨w.heap.size, 0, none⟩) (by simp) (.string ⟨#[]⟩)).setCell (p := ⟨w.heap.size, 1, none⟩) (by simp) (.string ⟨#[]⟩)).setCell (p := ⟨w.heap.size, 2, none⟩) (by simp) (.int .i64 0))
            clear hR
            go_wp2_with fail
            exact bodyPost_ret (v := .tuple #[.agg #[.string ⟨#[]⟩, .string ⟨#[]⟩, .int .i64 0], .int .i64 3]) (by simp [results, Tryz.f100, go_sem, z0, z1, z2]) rfl ⟨by rw [HV.out]; rfl, HBE.out⟩
          | true =>
            have hnum : lmNum z = decV (numB z) := if_pos hh
            have HQ0 := hid (fun (h0 : (ownB z).size = 0) => show parseLm s = lm0 11 from by rw [HL.out, if_neg (by simp), if_neg (by show ¬ (hashB z && !decB (numB z)) = true; rw [hh, hd1]; simp), if_neg (by show ¬ (3 : Nat) = 1; omega), if_pos (by exact h0)])
            have HQ1 := hid (fun (h0 : ¬ (ownB z).size = 0) => show parseLm s = lmEnd x (ownB z) (decV (numB z)) from by rw [HL.out, if_neg (by simp), if_neg (by show ¬ (hashB z && !decB (numB z)) = true; rw [hh, hd1]; simp), if_neg (by show ¬ (3 : Nat) = 1; omega), if_neg (by exact h0), ← hnum]; rfl)
            clear hnum
            have q1 := HI2.out.lem.cell 2 rfl
            have q2 := HI2.out.lem.frozen 2
            have q5 := (HI2.out.num (decV (numB z))).pts.cell 2 rfl
            have q6 := (HI2.out.num (decV (numB z))).pts.frozen 2
            have HI3 := hid ((HI2.out.num (decV (numB z))).part 2 (.string (ownB z)))
            have d0 := HI3.out.pts.cell 0 rfl
            have d1 := HI3.out.lem.cell 0 rfl
            have d2 := HI3.out.lem.frozen 0
            have HF := hid (HI3.out.fst x)
            have d3 := HF.out.pts.cell 2 rfl
            have d4 := HF.out.lem.cell 1 rfl
            have d5 := HF.out.lem.frozen 1
            have HL1 := hid (HF.out.lst (ownB z))
            have d6 := HL1.out.lem.cell 1 rfl
            have hE := ba_isE (ownB z)
            by_cases hz0 : (ownB z).size = 0
            · rw [decide_eq_true hz0] at hE
              have HV : Hid (parseLm s = lm0 11) := hid (HQ0.out hz0)
              have r0 := HL1.out.res.cell 0 rfl
              have r1 := HL1.out.res.cell 1 rfl
              have r2 := HL1.out.res.cell 2 rfl
              have r3 := HL1.out.res.frozen 0
              have r4 := HL1.out.res.frozen 1
              have r5 := HL1.out.res.frozen 2
              have hR := ((HL1.out.res.set 0 (.string ⟨#[]⟩)).set 1 (.string ⟨#[]⟩)).set 2 (.int .i64 0)
              have z0 := hR.cell 0 rfl
              have z1 := hR.cell 1 rfl
              have z2 := hR.cell 2 rfl
              have HBE := hid (((HL1.out.bel.setCell (p := ⟨w.heap.size, 0, none⟩) (by simp) (.string ⟨#[]⟩)).setCell (p := ⟨w.heap.size, 1, none⟩) (by simp) (.string ⟨#[]⟩)).setCell (p := ⟨w.heap.size, 2, none⟩) (by simp) (.int .i64 0))
              clear hR
              go_wp2_with fail
              exact bodyPost_ret (v := .tuple #[.agg #[.string ⟨#[]⟩, .string ⟨#[]⟩, .int .i64 0], .int .i64 11]) (by simp [results, Tryz.f100, go_sem, z0, z1, z2]) rfl ⟨by rw [HV.out]; rfl, HBE.out⟩
            · rw [decide_eq_false hz0] at hE
              have HQn := hid (HQ1.out hz0)
              clear hz0
              have e0 := HL1.out.lem.cell 0 rfl
              have e1 := HL1.out.lem.cell 1 rfl
              have e2 := HL1.out.lem.cell 2 rfl
              have HK := hk x (ownB z) (decV (numB z)) _ (by first | omega | exact Nat.zero_le _) (by first | omega | exact Nat.zero_le _) HL1.out.bel
              go_wp2_with fail
              refine HK.out.mono ?_
              rintro e w9 ⟨rfl, hB9⟩
              have HR := hid (HL1.out.below hB9)
              clear HK hB9
              by_cases hc : lemCk x (ownB z) (decV (numB z)) = 0
              · have HV : Hid (parseLm s = ⟨x, (ownB z), decV (numB z), 0⟩) := hid (by rw [HQn.out]; unfold lmEnd; rw [if_pos hc])
                have r0 := HR.out.res.cell 0 rfl
                have r1 := HR.out.res.cell 1 rfl
                have r2 := HR.out.res.cell 2 rfl
                have r3 := HR.out.res.frozen 0
                have r4 := HR.out.res.frozen 1
                have r5 := HR.out.res.frozen 2
                have e3 := HR.out.lem.cell 0 rfl
                have e4 := HR.out.lem.cell 1 rfl
                have e5 := HR.out.lem.cell 2 rfl
                have hR := ((HR.out.res.set 0 (.string x)).set 1 (.string (ownB z))).set 2 (.int .i64 (decV (numB z)))
                have z0 := hR.cell 0 rfl
                have z1 := hR.cell 1 rfl
                have z2 := hR.cell 2 rfl
                have HBE := hid (((HR.out.bel.setCell (p := ⟨w.heap.size, 0, none⟩) (by simp) (.string x)).setCell (p := ⟨w.heap.size, 1, none⟩) (by simp) (.string (ownB z))).setCell (p := ⟨w.heap.size, 2, none⟩) (by simp) (.int .i64 (decV (numB z))))
                clear hR d0 d1 d2
                go_wp2_with fail
                exact bodyPost_ret (v := .tuple #[.agg #[.string x, .string (ownB z), .int .i64 (decV (numB z))], .int .i64 0]) (by simp [results, Tryz.f100, go_sem, z0, z1, z2]) rfl ⟨by rw [HV.out]; rfl, HBE.out⟩
              · have hcb : (lemCk x (ownB z) (decV (numB z)) == 0) = false := by rw [beq_eq_false_iff_ne]; exact hc
                have HV : Hid (parseLm s = lm0 (lemCk x (ownB z) (decV (numB z)))) := hid (by rw [HQn.out]; unfold lmEnd; rw [if_neg hc])
                have r0 := HR.out.res.cell 0 rfl
                have r1 := HR.out.res.cell 1 rfl
                have r2 := HR.out.res.cell 2 rfl
                have r3 := HR.out.res.frozen 0
                have r4 := HR.out.res.frozen 1
                have r5 := HR.out.res.frozen 2
                have hR := ((HR.out.res.set 0 (.string ⟨#[]⟩)).set 1 (.string ⟨#[]⟩)).set 2 (.int .i64 0)
                have z0 := hR.cell 0 rfl
                have z1 := hR.cell 1 rfl
                have z2 := hR.cell 2 rfl
                have HBE := hid (((HR.out.bel.setCell (p := ⟨w.heap.size, 0, none⟩) (by simp) (.string ⟨#[]⟩)).setCell (p := ⟨w.heap.size, 1, none⟩) (by simp) (.string ⟨#[]⟩)).setCell (p := ⟨w.heap.size, 2, none⟩) (by simp) (.int .i64 0))
                clear hR
                go_wp2_with fail
                exact bodyPost_ret (v := .tuple #[.agg #[.string ⟨#[]⟩, .string ⟨#[]⟩, .int .i64 0], .int .i64 (lemCk x (ownB z) (decV (numB z)))]) (by simp [results, Tryz.f100, go_sem, z0, z1, z2]) rfl ⟨by rw [HV.out]; rfl, HBE.out⟩
        | false =>
          have how : ownB z = z := by unfold ownB; rw [if_neg (by rw [hh]; simp)]
          have hnum : lmNum z = 0 := by unfold lmNum; rw [if_neg (by rw [hh]; simp)]
          have HQ0 := hid (fun (h0 : z.size = 0) => show parseLm s = lm0 11 from by rw [HL.out, if_neg (by simp), if_neg (by show ¬ (hashB z && !decB (numB z)) = true; rw [hh]; simp), if_neg (by show ¬ (3 : Nat) = 1; omega), if_pos (by show (ownB z).size = 0; rw [how]; exact h0)])
          have HQ1 := hid (fun (h0 : ¬ z.size = 0) => show parseLm s = lmEnd x z 0 from by rw [HL.out, if_neg (by simp), if_neg (by show ¬ (hashB z && !decB (numB z)) = true; rw [hh]; simp), if_neg (by show ¬ (3 : Nat) = 1; omega), if_neg (by show ¬ (ownB z).size = 0; rw [how]; exact h0)]; show lmEnd x (ownB z) (lmNum z) = _; rw [how, hnum])
          clear how hnum HD
          have d0 := HI1.out.pts.cell 0 rfl
          have d1 := HI1.out.lem.cell 0 rfl
          have d2 := HI1.out.lem.frozen 0
          have HF := hid (HI1.out.fst x)
          have d3 := HF.out.pts.cell 2 rfl
          have d4 := HF.out.lem.cell 1 rfl
          have d5 := HF.out.lem.frozen 1
          have HL1 := hid (HF.out.lst z)
          have d6 := HL1.out.lem.cell 1 rfl
          have hE := ba_isE z
          by_cases hz0 : z.size = 0
          · rw [decide_eq_true hz0] at hE
            have HV : Hid (parseLm s = lm0 11) := hid (HQ0.out hz0)
            have r0 := HL1.out.res.cell 0 rfl
            have r1 := HL1.out.res.cell 1 rfl
            have r2 := HL1.out.res.cell 2 rfl
            have r3 := HL1.out.res.frozen 0
            have r4 := HL1.out.res.frozen 1
            have r5 := HL1.out.res.frozen 2
            have hR := ((HL1.out.res.set 0 (.string ⟨#[]⟩)).set 1 (.string ⟨#[]⟩)).set 2 (.int .i64 0)
            have z0 := hR.cell 0 rfl
            have z1 := hR.cell 1 rfl
            have z2 := hR.cell 2 rfl
            have HBE := hid (((HL1.out.bel.setCell (p := ⟨w.heap.size, 0, none⟩) (by simp) (.string ⟨#[]⟩)).setCell (p := ⟨w.heap.size, 1, none⟩) (by simp) (.string ⟨#[]⟩)).setCell (p := ⟨w.heap.size, 2, none⟩) (by simp) (.int .i64 0))
            clear hR
            go_wp2_with fail
            exact bodyPost_ret (v := .tuple #[.agg #[.string ⟨#[]⟩, .string ⟨#[]⟩, .int .i64 0], .int .i64 11]) (by simp [results, Tryz.f100, go_sem, z0, z1, z2]) rfl ⟨by rw [HV.out]; rfl, HBE.out⟩
          · rw [decide_eq_false hz0] at hE
            have HQn := hid (HQ1.out hz0)
            clear hz0
            have e0 := HL1.out.lem.cell 0 rfl
            have e1 := HL1.out.lem.cell 1 rfl
            have e2 := HL1.out.lem.cell 2 rfl
            have HK := hk x z (0) _ (by first | omega | exact Nat.zero_le _) (by first | omega | exact Nat.zero_le _) HL1.out.bel
            go_wp2_with fail
            refine HK.out.mono ?_
            rintro e w9 ⟨rfl, hB9⟩
            have HR := hid (HL1.out.below hB9)
            clear HK hB9
            by_cases hc : lemCk x z (0) = 0
            · have HV : Hid (parseLm s = ⟨x, z, 0, 0⟩) := hid (by rw [HQn.out]; unfold lmEnd; rw [if_pos hc])
              have r0 := HR.out.res.cell 0 rfl
              have r1 := HR.out.res.cell 1 rfl
              have r2 := HR.out.res.cell 2 rfl
              have r3 := HR.out.res.frozen 0
              have r4 := HR.out.res.frozen 1
              have r5 := HR.out.res.frozen 2
              have e3 := HR.out.lem.cell 0 rfl
              have e4 := HR.out.lem.cell 1 rfl
              have e5 := HR.out.lem.cell 2 rfl
              have hR := ((HR.out.res.set 0 (.string x)).set 1 (.string z)).set 2 (.int .i64 (0))
              have z0 := hR.cell 0 rfl
              have z1 := hR.cell 1 rfl
              have z2 := hR.cell 2 rfl
              have HBE := hid (((HR.out.bel.setCell (p := ⟨w.heap.size, 0, none⟩) (by simp) (.string x)).setCell (p := ⟨w.heap.size, 1, none⟩) (by simp) (.string z)).setCell (p := ⟨w.heap.size, 2, none⟩) (by simp) (.int .i64 (0)))
              clear hR d0 d1 d2
              go_wp2_with fail
              exact bodyPost_ret (v := .tuple #[.agg #[.string x, .string z, .int .i64 (0)], .int .i64 0]) (by simp [results, Tryz.f100, go_sem, z0, z1, z2]) rfl ⟨by rw [HV.out]; rfl, HBE.out⟩
            · have hcb : (lemCk x z (0) == 0) = false := by rw [beq_eq_false_iff_ne]; exact hc
              have HV : Hid (parseLm s = lm0 (lemCk x z (0))) := hid (by rw [HQn.out]; unfold lmEnd; rw [if_neg hc])
              have r0 := HR.out.res.cell 0 rfl
              have r1 := HR.out.res.cell 1 rfl
              have r2 := HR.out.res.cell 2 rfl
              have r3 := HR.out.res.frozen 0
              have r4 := HR.out.res.frozen 1
              have r5 := HR.out.res.frozen 2
              have hR := ((HR.out.res.set 0 (.string ⟨#[]⟩)).set 1 (.string ⟨#[]⟩)).set 2 (.int .i64 0)
              have z0 := hR.cell 0 rfl
              have z1 := hR.cell 1 rfl
              have z2 := hR.cell 2 rfl
              have HBE := hid (((HR.out.bel.setCell (p := ⟨w.heap.size, 0, none⟩) (by simp) (.string ⟨#[]⟩)).setCell (p := ⟨w.heap.size, 1, none⟩) (by simp) (.string ⟨#[]⟩)).setCell (p := ⟨w.heap.size, 2, none⟩) (by simp) (.int .i64 0))
              clear hR
              go_wp2_with fail
              exact bodyPost_ret (v := .tuple #[.agg #[.string ⟨#[]⟩, .string ⟨#[]⟩, .int .i64 0], .int .i64 (lemCk x z (0))]) (by simp [results, Tryz.f100, go_sem, z0, z1, z2]) rfl ⟨by rw [HV.out]; rfl, HBE.out⟩
      · -- Y
        have hyb : (y.toList == [43]) = false := by
          have h := ba_beq y ⟨#[43]⟩
          rw [show (⟨#[43]⟩ : ByteArray).toList = [43] from by decide +kernel] at h
          rw [h]; simpa using hy
        clear hz hd hk hpz hp1 hp2
        simp only [List.length_cons, List.length_nil, Nat.reduceAdd, List.map_cons, List.map_nil] at HSP
        go_enter Tryz.func100, Tryz.ntmps100
        go_wp2_with fail
        refine HSP.out.mono ?_
        rintro e w2 ⟨rfl, hw2⟩
        have hr02 : Row w2 w.heap.size #[.string ⟨#[]⟩, .string ⟨#[]⟩, .int .i64 0] 28 := by rw [← hw2]; exact hr0.al _
        have hr12 : Row w2 (w.heap.size + 1) #[.string x, .string y, .string z] 9 := by rw [← hw2]; exact row_nw _ _ _ (by simp)
        have hb2 : Below w.heap.size w w2 := by rw [← hw2]; exact below_tr hb0 (below_al _ _)
        clear hw2 HSP hr0 hb0
        have c1 := hr12.cell 1 rfl
        have r0 := hr02.cell 0 rfl
        have r1 := hr02.cell 1 rfl
        have r2 := hr02.cell 2 rfl
        have r3 := hr02.frozen 0
        have r4 := hr02.frozen 1
        have r5 := hr02.frozen 2
        have hR := ((hr02.set 0 (.string ⟨#[]⟩)).set 1 (.string ⟨#[]⟩)).set 2 (.int .i64 0)
        have z0 := hR.cell 0 rfl
        have z1 := hR.cell 1 rfl
        have z2 := hR.cell 2 rfl
        have HBE := hid (((hb2.setCell (p := ⟨w.heap.size, 0, none⟩) (by simp) (.string ⟨#[]⟩)).setCell (p := ⟨w.heap.size, 1, none⟩) (by simp) (.string ⟨#[]⟩)).setCell (p := ⟨w.heap.size, 2, none⟩) (by simp) (.int .i64 0))
        have HV : Hid (parseLm s = lm0 3) := hid (by rw [HL.out, if_pos (by simpa using hy)])
        clear hR hy
        go_wp2_with fail
        exact bodyPost_ret (v := .tuple #[.agg #[.string ⟨#[]⟩, .string ⟨#[]⟩, .int .i64 0], .int .i64 3]) (by simp [results, Tryz.f100, go_sem, z0, z1, z2]) rfl ⟨by rw [HV.out]; rfl, HBE.out⟩
    · have n1 : ((ps.length : Int) != 1) = true := by rw [bne_iff_ne]; omega
      have n2 : ¬ (ps.length : Int) = 1 := by omega
      have n3 : ¬ (ps.length : Int) = 3 := by omega
      clear hz hd hk hpz hp1
      go_enter Tryz.func100, Tryz.ntmps100
      go_wp2_with fail
      refine HSP.out.mono ?_
      rintro e w2 ⟨rfl, hw2⟩
      have hr02 : Row w2 w.heap.size #[.string ⟨#[]⟩, .string ⟨#[]⟩, .int .i64 0] 28 := by rw [← hw2]; exact hr0.al _
      have hb2 : Below w.heap.size w w2 := by rw [← hw2]; exact below_tr hb0 (below_al _ _)
      clear hw2 HSP hr0 hb0
      have r0 := hr02.cell 0 rfl
      have r1 := hr02.cell 1 rfl
      have r2 := hr02.cell 2 rfl
      have r3 := hr02.frozen 0
      have r4 := hr02.frozen 1
      have r5 := hr02.frozen 2
      have hR := ((hr02.set 0 (.string ⟨#[]⟩)).set 1 (.string ⟨#[]⟩)).set 2 (.int .i64 0)
      have z0 := hR.cell 0 rfl
      have z1 := hR.cell 1 rfl
      have z2 := hR.cell 2 rfl
      have HBE := hid (((hb2.setCell (p := ⟨w.heap.size, 0, none⟩) (by simp) (.string ⟨#[]⟩)).setCell (p := ⟨w.heap.size, 1, none⟩) (by simp) (.string ⟨#[]⟩)).setCell (p := ⟨w.heap.size, 2, none⟩) (by simp) (.int .i64 0))
      have HV : Hid (parseLm s = lm0 3) := hid (by rw [HL.out, if_pos (by omega)])
      clear hR h1 h3
      go_wp2_with fail
      exact bodyPost_ret (v := .tuple #[.agg #[.string ⟨#[]⟩, .string ⟨#[]⟩, .int .i64 0], .int .i64 3]) (by simp [results, Tryz.f100, go_sem, z0, z1, z2]) rfl ⟨by rw [HV.out]; rfl, HBE.out⟩
end Go.Proofs.YtjhdeoniafahbaaGreatDoor
