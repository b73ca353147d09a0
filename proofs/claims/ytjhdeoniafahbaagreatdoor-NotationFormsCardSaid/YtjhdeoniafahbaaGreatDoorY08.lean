/-
  Joined, what is needed of: LParse Shelf PlNp.
-/
import Derived.Deep.RegionHeld3
import Derived.Test.YtjhdeoniafahbaaGreatDoorY06
import Derived.Test.YtjhdeoniafahbaaGreatDoorY05
import Derived.Test.YtjhdeoniafahbaaGreatDoorY07
import Derived.Shelf.Strings.OnBuilder
import Derived.Test.YtjhdeoniafahbaaGreatDoorProg
import Derived.Test.YtjhdeoniafahbaaGreatDoorY04
namespace Go.Proofs.YtjhdeoniafahbaaGreatDoor
open Go.RowKit Go.Shelf
theorem splitX_any (s : ByteArray) (m : Int) (w : World) (hs : s.size < 4294967281) (hm : w.cell? ⟨0, 0, none⟩ = some (.int .i64 m)) :
    Calls Tryz.prog 57 #[.string s, .string ⟨#[32]⟩] w fun e w' => e = .returned (.slice (some ⟨w.heap.size, 0, none⟩) (splitS s).length (splitS s).length) ∧ w.alloc (.cells ((splitS s).map Value.string).toArray 9) = w' := by
  refine (Go.Proofs.Any.strings_Split { Tryz.laysM146 with } Tryz.laysM146.i9 s ⟨#[32]⟩ m w hs hm (by decide)).mono ?_
  rintro e w' ⟨rfl, rfl⟩
  exact ⟨by rw [splitS_count], rfl⟩
theorem cutH_any (s : ByteArray) (m : Int) (w : World) (hs : s.size < 4294967281) (hm : w.cell? ⟨0, 0, none⟩ = some (.int .i64 m)) :
    Calls Tryz.prog 25 #[.string s, .string ⟨#[35]⟩] w fun e w' => e = .returned (.tuple #[.string (ownB s), .string (numB s), .bool (hashB s)]) ∧ Below w.heap.size w w' := by
  refine (Go.Proofs.Any.strings_Cut { Tryz.laysM145 with } s ⟨#[35]⟩ m w hs hm).mono ?_
  rintro e w' ⟨rfl, n, rfl⟩
  refine ⟨?_, below_drewN (Below.refl _ _) n⟩
  have e1 : (⟨(Lib.cut s.data.toList [35]).1.toArray⟩ : ByteArray) = ownB s := by
    refine ba_ext ?_
    unfold Lib.cut ownB hashB hashI
    by_cases h : 0 ≤ Lib.index s.data.toList [35]
    · rw [if_pos h, if_pos (by simpa using h), extract_data]; simp
    · rw [if_neg h, if_neg (by simpa using h)]
  have e2 : (⟨(Lib.cut s.data.toList [35]).2.1.toArray⟩ : ByteArray) = numB s := by
    refine ba_ext ?_
    unfold Lib.cut numB hashB hashI
    by_cases h : 0 ≤ Lib.index s.data.toList [35]
    · rw [if_pos h, if_pos (by simpa using h), extract_data, ← ba_len, List.take_length]; simp
    · rw [if_neg h, if_neg (by simpa using h)]
  have e3 : (Lib.cut s.data.toList [35]).2.2 = hashB s := by
    unfold Lib.cut hashB hashI
    by_cases h : 0 ≤ Lib.index s.data.toList [35]
    · rw [if_pos h, decide_eq_true h]
    · rw [if_neg h, decide_eq_false h]
  show Ending.returned (.tuple #[.string ⟨(Lib.cut s.data.toList [35]).1.toArray⟩, .string ⟨(Lib.cut s.data.toList [35]).2.1.toArray⟩, .bool (Lib.cut s.data.toList [35]).2.2]) = _
  rw [e1, e2, e3]
def lmV (r : LmR) : Value := .tuple #[.agg #[.string r.f, .string r.l, .int .i64 r.n], .int .i64 r.e]
theorem numB_size (s : ByteArray) : (numB s).size ≤ s.size := by
  unfold numB
  split
  · rw [ByteArray.size_extract]; omega
  · exact Nat.zero_le _
theorem ownB_size (s : ByteArray) : (ownB s).size ≤ s.size := by
  unfold ownB
  split
  · rw [ByteArray.size_extract]; omega
  · exact Nat.le_refl _
/-- The result's cells, the parts, the lemma's cells while Parse runs. -/
structure PsI (w : World) (B : Nat) (ps : Array Value) (f l : ByteArray) (n : Int) (W : World) : Prop where
  res : Row W w.heap.size #[.string ⟨#[]⟩, .string ⟨#[]⟩, .int .i64 0] 28
  pts : Row W (w.heap.size + 1) ps 9
  lem : Row W B #[.string f, .string l, .int .i64 n] 28
  bel : Below w.heap.size w W
  lo : w.heap.size + 2 ≤ B
theorem PsI.below {w W W' : World} {B : Nat} {ps : Array Value} {f l : ByteArray} {n : Int} (h : PsI w B ps f l n W) (hb : Below W.heap.size W W') : PsI w B ps f l n W' :=
  ⟨h.res.below hb, h.pts.below hb, h.lem.below hb, below_tr h.bel hb, h.lo⟩
theorem PsI.drew {w W : World} {B : Nat} {ps : Array Value} {f l : ByteArray} {n : Int} (h : PsI w B ps f l n W) : PsI w B ps f l n W.drew := h.below (Below.refl _ _).drew
theorem PsI.num {w W : World} {B : Nat} {ps : Array Value} {f l : ByteArray} {n : Int} (h : PsI w B ps f l n W) (c : Int) : PsI w B ps f l c (W.setCell ⟨B, 2, none⟩ (.int .i64 c)) :=
  have hl := h.lo
  ⟨h.res.other _ _ (by simp; omega), h.pts.other _ _ (by simp; omega), h.lem.set 2 _, h.bel.setCell (p := ⟨B, 2, none⟩) (by simp; omega) _, hl⟩
theorem PsI.fst {w W : World} {B : Nat} {ps : Array Value} {f l : ByteArray} {n : Int} (h : PsI w B ps f l n W) (c : ByteArray) : PsI w B ps c l n (W.setCell ⟨B, 0, none⟩ (.string c)) :=
  have hl := h.lo
  ⟨h.res.other _ _ (by simp; omega), h.pts.other _ _ (by simp; omega), h.lem.set 0 _, h.bel.setCell (p := ⟨B, 0, none⟩) (by simp; omega) _, hl⟩
theorem PsI.lst {w W : World} {B : Nat} {ps : Array Value} {f l : ByteArray} {n : Int} (h : PsI w B ps f l n W) (c : ByteArray) : PsI w B ps f c n (W.setCell ⟨B, 1, none⟩ (.string c)) :=
  have hl := h.lo
  ⟨h.res.other _ _ (by simp; omega), h.pts.other _ _ (by simp; omega), h.lem.set 1 _, h.bel.setCell (p := ⟨B, 1, none⟩) (by simp; omega) _, hl⟩
theorem PsI.part {w W : World} {B : Nat} {ps : Array Value} {f l : ByteArray} {n : Int} (h : PsI w B ps f l n W) (k : Nat) (c : Value) : PsI w B (ps.setIfInBounds k c) f l n (W.setCell ⟨w.heap.size + 1, k, none⟩ c) :=
  have hl := h.lo
  ⟨h.res.other _ _ (by simp), h.pts.set k _, h.lem.other _ _ (by simp; omega), h.bel.setCell (p := ⟨w.heap.size + 1, k, none⟩) (by simp) _, hl⟩
set_option maxRecDepth 100000 in
set_option maxHeartbeats 2000000 in
theorem parse43_any (s : ByteArray) (m : Int) (w : World) (he : Env w) (hs : s.size ≤ 65536) (hm : w.cell? ⟨0, 0, none⟩ = some (.int .i64 m)) :
    Calls Tryz.prog 100 #[.string s] w fun e w' => e = .returned (lmV (parseLm s)) ∧ Below w.heap.size w w' := by
  obtain ⟨ps, hps⟩ : ∃ ps, ps = splitS s := ⟨_, rfl⟩
  have HL : Hid (parseLm s = if ¬ (ps.length = 1 ∨ (ps.length = 3 ∧ ps.getD 1 ⟨#[]⟩ = ⟨#[43]⟩)) then lm0 3 else if (hashB (lmLast ps) && !decB (numB (lmLast ps))) = true then lm0 3 else if ps.length = 1 then lmEnd (ownB (lmLast ps)) ⟨#[]⟩ (lmNum (lmLast ps)) else if (ownB (lmLast ps)).size = 0 then lm0 11 else lmEnd (ps.getD 0 ⟨#[]⟩) (ownB (lmLast ps)) (lmNum (lmLast ps))) := by
    unfold Hid parseLm; rw [if_neg (by omega), hps]
  have hp1 : 1 ≤ ps.length := by rw [hps, splitS_count]; omega
  have hp2 : ps.length ≤ 65537 := by rw [hps]; have := splitS_len s; omega
  have hpz : ∀ x ∈ ps, x.size ≤ 65536 := by rw [hps]; intro x hx; have := splitS_size s x hx; omega
  have hb0 := below_al w (.cells #[.string ⟨#[]⟩, .string ⟨#[]⟩, .int .i64 0] 28)
  have hr0 := row_nw w #[.string ⟨#[]⟩, .string ⟨#[]⟩, .int .i64 0] 28 rfl
  have HSP := hid (splitX_any s m (w.alloc (.cells #[.string ⟨#[]⟩, .string ⟨#[]⟩, .int .i64 0] 28)) (by omega) (cell_al hm _))
  rw [← hps] at HSP
  have hs1 : (w.alloc (.cells #[.string ⟨#[]⟩, .string ⟨#[]⟩, .int .i64 0] 28)).heap.size = w.heap.size + 1 := by simp
  rw [hs1] at HSP
  have HM := hid hm
  have HE := hid he
  have hsz : ¬ (65536 : Int) < (s.size : Int) := by omega
  clear hps hm he
  have hz : ∀ t, t ∈ ps → ∀ w', Below w.heap.size w w' → Hid (Calls Tryz.prog 25 #[.string t, .string ⟨#[35]⟩] w' fun e w'' => e = .returned (.tuple #[.string (ownB t), .string (numB t), .bool (hashB t)]) ∧ Below w'.heap.size w' w'') := fun t ht w' h => hid (cutH_any t m w' (by have := hpz t ht; omega) (Below.keeps h _ _ HM.out))
  have hd : ∀ t, t ∈ ps → ∀ w', Below w.heap.size w w' → Hid (Calls Tryz.prog 123 #[.string (numB t)] w' fun e w'' => e = .returned (.tuple #[.int .i64 (decV (numB t)), .bool (decB (numB t))]) ∧ Below w'.heap.size w' w'') := fun t ht w' h => hid (decimal_any (numB t) w' (HE.out.below h) (by have := hpz t ht; have := numB_size t; omega))
  have hk : ∀ f l n w', f.size ≤ 65536 → l.size ≤ 65536 → Below w.heap.size w w' → Hid (Calls Tryz.prog 86 #[.agg #[.string f, .string l, .int .i64 n]] w' fun e w'' => e = .returned (.int .i64 (lemCk f l n)) ∧ Below w'.heap.size w' w'') := fun f l n w' hf hl h => hid (lck_any f l n w' (HE.out.below h) hf hl)
  by_cases h1 : ps.length = 1
  · obtain ⟨x, rfl⟩ := List.length_eq_one_iff.1 h1
    have HZ := fun w' h => hz x (by simp) w' h
    have HD := fun w' h => hd x (by simp) w' h
    have hx := hpz x (by simp)
    have hl := hpz x (by simp)
    clear hz hd hpz hp1 hp2
    simp only [List.length_cons, List.length_nil, Nat.reduceAdd, List.map_cons, List.map_nil] at HSP
    go_enter Tryz.func100, Tryz.ntmps100
    go_wp2_with fail
    refine HSP.out.mono ?_
    rintro e w2 ⟨rfl, hw2⟩
    have hr02 : Row w2 w.heap.size #[.string ⟨#[]⟩, .string ⟨#[]⟩, .int .i64 0] 28 := by rw [← hw2]; exact hr0.al _
    have hr12 : Row w2 (w.heap.size + 1) #[.string x] 9 := by rw [← hw2]; exact row_nw _ _ _ (by simp)
    have hb2 : Below w.heap.size w w2 := by rw [← hw2]; exact below_tr hb0 (below_al _ _)
    have hs2 : w2.heap.size = w.heap.size + 2 := by rw [← hw2]; simp
    clear hw2 HSP hr0 hb0
    have HI0 : Hid (PsI w w2.heap.size #[.string x] ⟨#[]⟩ ⟨#[]⟩ 0 (w2.alloc (.cells #[.string ⟨#[]⟩, .string ⟨#[]⟩, .int .i64 0] 28))) := ⟨hr02.al _, hr12.al _, row_nw _ _ _ rfl, below_tr hb2 (below_al _ _), by omega⟩
    have cL := HI0.out.pts.cell 0 rfl
    clear hs2 hr02 hr12 hb2
    go_wp2_with fail
    generalize w2.alloc (.cells #[.string ⟨#[]⟩, .string ⟨#[]⟩, .int .i64 0] 28) = w3 at *
    refine (HZ _ HI0.out.bel).out.mono ?_
    rintro e w4 ⟨rfl, hB4⟩
    have HI1 := hid (HI0.out.below hB4)
    generalize w2.heap.size = B at *
    clear hB4 cL HZ HI0
    cases hh : hashB x with
    | true =>
      have hle := ownB_size x
      have HD1 := HD _ HI1.out.bel
      go_wp2_with fail
      refine HD1.out.mono ?_
      rintro e w5 ⟨rfl, hB5⟩
      have HI2 := hid (HI1.out.below hB5)
      clear HD1 hB5 HD HI1
      cases hd1 : decB (numB x) with
      | false =>
        have HV : Hid (parseLm s = lm0 3) := hid (by rw [HL.out, if_neg (by simp), if_pos (by show (hashB x && !decB (numB x)) = true; rw [hh, hd1]; rfl)])
        have r0 := HI2.out.res.cell 0 rfl
        have r1 := HI2.out.res.cell 1 rfl
        have r2 := HI2.out.res.cell 2 rfl
        have r3 := HI2.out.res.frozen 0
        have r4 := HI2.out.res.frozen 1
        have r5 := HI2.out.res.frozen 2
        have hR := ((HI2.out.res.set 0 (.string ⟨#[]⟩)).set 1 (.string ⟨#[]⟩)).set 2 (.int .i64 0)
        have z0 := hR.cell 0 rfl
        have z1 := hR.cell 1 rfl
        have z2 := hR.cell 2 rfl
        have HBE := hid (((HI2.out.bel.setCell (p := ⟨w.heap.size, 0, none⟩) (by simp) (.string ⟨#[]⟩)).setCell (p := ⟨w.heap.size, 1, none⟩) (by simp) (.string ⟨#[]⟩)).setCell (p := ⟨w.heap.size, 2, none⟩) (by simp) (.int .i64 0))
        clear hR
        go_wp2_with fail
        exact bodyPost_ret (v := .tuple #[.agg #[.string ⟨#[]⟩, .string ⟨#[]⟩, .int .i64 0], .int .i64 3]) (by simp [results, Tryz.f100, go_sem, z0, z1, z2]) rfl ⟨by rw [HV.out]; rfl, HBE.out⟩
      | true =>
        have hnum : lmNum x = decV (numB x) := if_pos hh
        have HQ : Hid (parseLm s = lmEnd (ownB x) ⟨#[]⟩ (decV (numB x))) := hid (by rw [HL.out, if_neg (by simp), if_neg (by show ¬ (hashB x && !decB (numB x)) = true; rw [hh, hd1]; simp), if_pos (show [x].length = 1 from rfl), ← hnum]; rfl)
        clear hnum
        have q1 := HI2.out.lem.cell 2 rfl
        have q2 := HI2.out.lem.frozen 2
        have q5 := (HI2.out.num (decV (numB x))).pts.cell 0 rfl
        have q6 := (HI2.out.num (decV (numB x))).pts.frozen 0
        have HI3 := hid ((HI2.out.num (decV (numB x))).part 0 (.string (ownB x)))
        have d0 := HI3.out.pts.cell 0 rfl
        have d1 := HI3.out.lem.cell 0 rfl
        have d2 := HI3.out.lem.frozen 0
        have HF := hid (HI3.out.fst (ownB x))
        have e0 := HF.out.lem.cell 0 rfl
        have e1 := HF.out.lem.cell 1 rfl
        have e2 := HF.out.lem.cell 2 rfl
        have HK := hk (ownB x) ⟨#[]⟩ (decV (numB x)) _ (by first | omega | exact Nat.zero_le _) (by first | omega | exact Nat.zero_le _) HF.out.bel
        go_wp2_with fail
        refine HK.out.mono ?_
        rintro e w9 ⟨rfl, hB9⟩
        have HR := hid (HF.out.below hB9)
        clear HK hB9
        by_cases hc : lemCk (ownB x) ⟨#[]⟩ (decV (numB x)) = 0
        · have HV : Hid (parseLm s = ⟨(ownB x), ⟨#[]⟩, decV (numB x), 0⟩) := hid (by rw [HQ.out]; unfold lmEnd; rw [if_pos hc])
          have r0 := HR.out.res.cell 0 rfl
          have r1 := HR.out.res.cell 1 rfl
          have r2 := HR.out.res.cell 2 rfl
          have r3 := HR.out.res.frozen 0
          have r4 := HR.out.res.frozen 1
          have r5 := HR.out.res.frozen 2
          have e3 := HR.out.lem.cell 0 rfl
          have e4 := HR.out.lem.cell 1 rfl
          have e5 := HR.out.lem.cell 2 rfl
          have hR := ((HR.out.res.set 0 (.string (ownB x))).set 1 (.string ⟨#[]⟩)).set 2 (.int .i64 (decV (numB x)))
          have z0 := hR.cell 0 rfl
          have z1 := hR.cell 1 rfl
          have z2 := hR.cell 2 rfl
          have HBE := hid (((HR.out.bel.setCell (p := ⟨w.heap.size, 0, none⟩) (by simp) (.string (ownB x))).setCell (p := ⟨w.heap.size, 1, none⟩) (by simp) (.string ⟨#[]⟩)).setCell (p := ⟨w.heap.size, 2, none⟩) (by simp) (.int .i64 (decV (numB x))))
          clear hR d0 d1 d2
          go_wp2_with fail
          exact bodyPost_ret (v := .tuple #[.agg #[.string (ownB x), .string ⟨#[]⟩, .int .i64 (decV (numB x))], .int .i64 0]) (by simp [results, Tryz.f100, go_sem, z0, z1, z2]) rfl ⟨by rw [HV.out]; rfl, HBE.out⟩
        · have hcb : (lemCk (ownB x) ⟨#[]⟩ (decV (numB x)) == 0) = false := by rw [beq_eq_false_iff_ne]; exact hc
          have HV : Hid (parseLm s = lm0 (lemCk (ownB x) ⟨#[]⟩ (decV (numB x)))) := hid (by rw [HQ.out]; unfold lmEnd; rw [if_neg hc])
          have r0 := HR.out.res.cell 0 rfl
          have r1 := HR.out.res.cell 1 rfl
          have r2 := HR.out.res.cell 2 rfl
          have r3 := HR.out.res.frozen 0
          have r4 := HR.out.res.frozen 1
          have r5 := HR.out.res.frozen 2
          have hR := ((HR.out.res.set 0 (.string ⟨#[]⟩)).set 1 (.string ⟨#[]⟩)).set 2 (.int .i64 0)
          have z0 := hR.cell 0 rfl
          have z1 := hR.cell 1 rfl
          have z2 := hR.cell 2 rfl
          have HBE := hid (((HR.out.bel.setCell (p := ⟨w.heap.size, 0, none⟩) (by simp) (.string ⟨#[]⟩)).setCell (p := ⟨w.heap.size, 1, none⟩) (by simp) (.string ⟨#[]⟩)).setCell (p := ⟨w.heap.size, 2, none⟩) (by simp) (.int .i64 0))
          clear hR
          go_wp2_with fail
          exact bodyPost_ret (v := .tuple #[.agg #[.string ⟨#[]⟩, .string ⟨#[]⟩, .int .i64 0], .int .i64 (lemCk (ownB x) ⟨#[]⟩ (decV (numB x)))]) (by simp [results, Tryz.f100, go_sem, z0, z1, z2]) rfl ⟨by rw [HV.out]; rfl, HBE.out⟩
    | false =>
      have how : ownB x = x := by unfold ownB; rw [if_neg (by rw [hh]; simp)]
      have hnum : lmNum x = 0 := by unfold lmNum; rw [if_neg (by rw [hh]; simp)]
      have HQ : Hid (parseLm s = lmEnd x ⟨#[]⟩ 0) := hid (by rw [HL.out, if_neg (by simp), if_neg (by show ¬ (hashB x && !decB (numB x)) = true; rw [hh]; simp), if_pos (show [x].length = 1 from rfl)]; show lmEnd (ownB x) _ (lmNum x) = _; rw [how, hnum])
      clear how hnum HD
      have d0 := HI1.out.pts.cell 0 rfl
      have d1 := HI1.out.lem.cell 0 rfl
      have d2 := HI1.out.lem.frozen 0
      have HF := hid (HI1.out.fst x)
      have e0 := HF.out.lem.cell 0 rfl
      have e1 := HF.out.lem.cell 1 rfl
      have e2 := HF.out.lem.cell 2 rfl
      have HK := hk x ⟨#[]⟩ (0) _ (by first | omega | exact Nat.zero_le _) (by first | omega | exact Nat.zero_le _) HF.out.bel
      go_wp2_with fail
      refine HK.out.mono ?_
      rintro e w9 ⟨rfl, hB9⟩
      have HR := hid (HF.out.below hB9)
      clear HK hB9
      by_cases hc : lemCk x ⟨#[]⟩ (0) = 0
      · have HV : Hid (parseLm s = ⟨x, ⟨#[]⟩, 0, 0⟩) := hid (by rw [HQ.out]; unfold lmEnd; rw [if_pos hc])
        have r0 := HR.out.res.cell 0 rfl
        have r1 := HR.out.res.cell 1 rfl
        have r2 := HR.out.res.cell 2 rfl
        have r3 := HR.out.res.frozen 0
        have r4 := HR.out.res.frozen 1
        have r5 := HR.out.res.frozen 2
        have e3 := HR.out.lem.cell 0 rfl
        have e4 := HR.out.lem.cell 1 rfl
        have e5 := HR.out.lem.cell 2 rfl
        have hR := ((HR.out.res.set 0 (.string x)).set 1 (.string ⟨#[]⟩)).set 2 (.int .i64 (0))
        have z0 := hR.cell 0 rfl
        have z1 := hR.cell 1 rfl
        have z2 := hR.cell 2 rfl
        have HBE := hid (((HR.out.bel.setCell (p := ⟨w.heap.size, 0, none⟩) (by simp) (.string x)).setCell (p := ⟨w.heap.size, 1, none⟩) (by simp) (.string ⟨#[]⟩)).setCell (p := ⟨w.heap.size, 2, none⟩) (by simp) (.int .i64 (0)))
        clear hR d0 d1 d2
        go_wp2_with fail
        exact bodyPost_ret (v := .tuple #[.agg #[.string x, .string ⟨#[]⟩, .int .i64 (0)], .int .i64 0]) (by simp [results, Tryz.f100, go_sem, z0, z1, z2]) rfl ⟨by rw [HV.out]; rfl, HBE.out⟩
      · have hcb : (lemCk x ⟨#[]⟩ (0) == 0) = false := by rw [beq_eq_false_iff_ne]; exact hc
        have HV : Hid (parseLm s = lm0 (lemCk x ⟨#[]⟩ (0))) := hid (by rw [HQ.out]; unfold lmEnd; rw [if_neg hc])
        have r0 := HR.out.res.cell 0 rfl
        have r1 := HR.out.res.cell 1 rfl
        have r2 := HR.out.res.cell 2 rfl
        have r3 := HR.out.res.frozen 0
        have r4 := HR.out.res.frozen 1
        have r5 := HR.out.res.frozen 2
        have hR := ((HR.out.res.set 0 (.string ⟨#[]⟩)).set 1 (.string ⟨#[]⟩)).set 2 (.int .i64 0)
        have z0 := hR.cell 0 rfl
        have z1 := hR.cell 1 rfl
        have z2 := hR.cell 2 rfl
        have HBE := hid (((HR.out.bel.setCell (p := ⟨w.heap.size, 0, none⟩) (by simp) (.string ⟨#[]⟩)).setCell (p := ⟨w.heap.size, 1, none⟩) (by simp) (.string ⟨#[]⟩)).setCell (p := ⟨w.heap.size, 2, none⟩) (by simp) (.int .i64 0))
        clear hR
        go_wp2_with fail
        exact bodyPost_ret (v := .tuple #[.agg #[.string ⟨#[]⟩, .string ⟨#[]⟩, .int .i64 0], .int .i64 (lemCk x ⟨#[]⟩ (0))]) (by simp [results, Tryz.f100, go_sem, z0, z1, z2]) rfl ⟨by rw [HV.out]; rfl, HBE.out⟩
  · by_cases h3 : ps.length = 3
    · obtain ⟨x, y, z, rfl⟩ : ∃ x y z, ps = [x, y, z] := by
        match ps, h3 with
        | [x, y, z], _ => exact ⟨x, y, z, rfl⟩
      by_cases hy : y = ⟨#[43]⟩
      · subst hy
        have HZ := fun w' h => hz z (by simp) w' h
        have HD := fun w' h => hd z (by simp) w' h
        have hx := hpz x (by simp)
        have hl := hpz z (by simp)
        clear hz hd hpz hp1 hp2
        simp only [List.length_cons, List.length_nil, Nat.reduceAdd, List.map_cons, List.map_nil] at HSP
        go_enter Tryz.func100, Tryz.ntmps100
        go_wp2_with fail
        refine HSP.out.mono ?_
        rintro e w2 ⟨rfl, hw2⟩
        have hr02 : Row w2 w.heap.size #[.string ⟨#[]⟩, .string ⟨#[]⟩, .int .i64 0] 28 := by rw [← hw2]; exact hr0.al _
        have hr12 : Row w2 (w.heap.size + 1) #[.string x, .string ⟨#[43]⟩, .string z] 9 := by rw [← hw2]; exact row_nw _ _ _ (by simp)
        have hb2 : Below w.heap.size w w2 := by rw [← hw2]; exact below_tr hb0 (below_al _ _)
        have hs2 : w2.heap.size = w.heap.size + 2 := by rw [← hw2]; simp
        clear hw2 HSP hr0 hb0
        have HI0 : Hid (PsI w w2.heap.size #[.string x, .string ⟨#[43]⟩, .string z] ⟨#[]⟩ ⟨#[]⟩ 0 (w2.alloc (.cells #[.string ⟨#[]⟩, .string ⟨#[]⟩, .int .i64 0] 28))) := ⟨hr02.al _, hr12.al _, row_nw _ _ _ rfl, below_tr hb2 (below_al _ _), by omega⟩
        have cL := HI0.out.pts.cell 2 rfl
        have c1 := hr12.cell 1 rfl
        clear hs2 hr02 hr12 hb2
        go_wp2_with fail
        generalize w2.alloc (.cells #[.string ⟨#[]⟩, .string ⟨#[]⟩, .int .i64 0] 28) = w3 at *
        refine (HZ _ HI0.out.bel).out.mono ?_
        rintro e w4 ⟨rfl, hB4⟩
        have HI1 := hid (HI0.out.below hB4)
        generalize w2.heap.size = B at *
        clear hB4 cL HZ HI0
        cases hh : hashB z with
        | true =>
          have hle := ownB_size z
          have HD1 := HD _ HI1.out.bel
          go_wp2_with fail
          refine HD1.out.mono ?_
          rintro e w5 ⟨rfl, hB5⟩
          have HI2 := hid (HI1.out.below hB5)
          clear HD1 hB5 HD HI1
          cases hd1 : decB (numB z) with
          | false =>
            have HV : Hid (parseLm s = lm0 3) := hid (by rw [HL.out, if_neg (by simp), if_pos (by show (hashB z && !decB (numB z)) = true; rw [hh, hd1]; rfl)])
            have r0 := HI2.out.res.cell 0 rfl
            have r1 := HI2.out.res.cell 1 rfl
            have r2 := HI2.out.res.cell 2 rfl
            have r3 := HI2.out.res.frozen 0
            have r4 := HI2.out.res.frozen 1
            have r5 := HI2.out.res.frozen 2
            have hR := ((HI2.out.res.set 0 (.string ⟨#[]⟩)).set 1 (.string ⟨#[]⟩)).set 2 (.int .i64 0)
            have z0 := hR.cell 0 rfl
            have z1 := hR.cell 1 rfl
            have z2 := hR.cell 2 rfl
            have HBE := hid (((HI2.out.bel.setCell (p := ⟨w.heap.size, 0, none⟩) (by simp) (.string ⟨#[]⟩)).setCell (p := ⟨w.heap.size, 1, none⟩) (by simp) (.string ⟨#[]⟩)).setCell (p := ⟨w.heap.size, 2, none⟩) (by simp) (.int .i64 0))
            clear hR
            go_wp2_with fail
            exact bodyPost_ret (v := .tuple #[.agg #[.string ⟨#[]⟩, .string ⟨#[]⟩, .int .i64 0], .int .i64 3]) (by simp [results, Tryz.f100, go_sem, z0, z1, z2]) rfl ⟨by rw [HV.out]; rfl, HBE.out⟩
          | true =>
            have hnum : lmNum z = decV (numB z) := if_pos hh
            have HQ0 := hid (fun (h0 : (ownB z).size = 0) => show parseLm s = lm0 11 from by rw [HL.out, if_neg (by simp), if_neg (by show ¬ (hashB z && !decB (numB z)) = true; rw [hh, hd1]; simp), if_neg (by show ¬ (3 : Nat) = 1; omega), if_pos (by exact h0)])
            have HQ1 := hid (fun (h0 : ¬ (ownB z).size = 0) => show parseLm s = lmEnd x (ownB z) (decV (numB z)) from by rw [HL.out, if_neg (by simp), if_neg (by show ¬ (hashB z && !decB (numB z)) = true; rw [hh, hd1]; simp), if_neg (by show ¬ (3 : Nat) = 1; omega), if_neg (by exact h0), ← hnum]; rfl)
            clear hnum
            have q1 := HI2.out.lem.cell 2 rfl
            have q2 := HI2.out.lem.frozen 2
            have q5 := (HI2.out.num (decV (numB z))).pts.cell 2 rfl
            have q6 := (HI2.out.num (decV (numB z))).pts.frozen 2
            have HI3 := hid ((HI2.out.num (decV (numB z))).part 2 (.string (ownB z)))
            have d0 := HI3.out.pts.cell 0 rfl
            have d1 := HI3.out.lem.cell 0 rfl
            have d2 := HI3.out.lem.frozen 0
            have HF := hid (HI3.out.fst x)
            have d3 := HF.out.pts.cell 2 rfl
            have d4 := HF.out.lem.cell 1 rfl
            have d5 := HF.out.lem.frozen 1
            have HL1 := hid (HF.out.lst (ownB z))
            have d6 := HL1.out.lem.cell 1 rfl
            have hE := ba_isE (ownB z)
            by_cases hz0 : (ownB z).size = 0
            · rw [decide_eq_true hz0] at hE
              have HV : Hid (parseLm s = lm0 11) := hid (HQ0.out hz0)
              have r0 := HL1.out.res.cell 0 rfl
              have r1 := HL1.out.res.cell 1 rfl
              have r2 := HL1.out.res.cell 2 rfl
              have r3 := HL1.out.res.frozen 0
              have r4 := HL1.out.res.frozen 1
              have r5 := HL1.out.res.frozen 2
              have hR := ((HL1.out.res.set 0 (.string ⟨#[]⟩)).set 1 (.string ⟨#[]⟩)).set 2 (.int .i64 0)
              have z0 := hR.cell 0 rfl
              have z1 := hR.cell 1 rfl
              have z2 := hR.cell 2 rfl
              have HBE := hid (((HL1.out.bel.setCell (p := ⟨w.heap.size, 0, none⟩) (by simp) (.string ⟨#[]⟩)).setCell (p := ⟨w.heap.size, 1, none⟩) (by simp) (.string ⟨#[]⟩)).setCell (p := ⟨w.heap.size, 2, none⟩) (by simp) (.int .i64 0))
              clear hR
              go_wp2_with fail
              exact bodyPost_ret (v := .tuple #[.agg #[.string ⟨#[]⟩, .string ⟨#[]⟩, .int .i64 0], .int .i64 11]) (by simp [results, Tryz.f100, go_sem, z0, z1, z2]) rfl ⟨by rw [HV.out]; rfl, HBE.out⟩
            · rw [decide_eq_false hz0] at hE
              have HQn := hid (HQ1.out hz0)
              clear hz0
              have e0 := HL1.out.lem.cell 0 rfl
              have e1 := HL1.out.lem.cell 1 rfl
              have e2 := HL1.out.lem.cell 2 rfl
              have HK := hk x (ownB z) (decV (numB z)) _ (by first | omega | exact Nat.zero_le _) (by first | omega | exact Nat.zero_le _) HL1.out.bel
              go_wp2_with fail
              refine HK.out.mono ?_
              rintro e w9 ⟨rfl, hB9⟩
              have HR := hid (HL1.out.below hB9)
              clear HK hB9
              by_cases hc : lemCk x (ownB z) (decV (numB z)) = 0
              · have HV : Hid (parseLm s = ⟨x, (ownB z), decV (numB z), 0⟩) := hid (by rw [HQn.out]; unfold lmEnd; rw [if_pos hc])
                have r0 := HR.out.res.cell 0 rfl
                have r1 := HR.out.res.cell 1 rfl
                have r2 := HR.out.res.cell 2 rfl
                have r3 := HR.out.res.frozen 0
                have r4 := HR.out.res.frozen 1
                have r5 := HR.out.res.frozen 2
                have e3 := HR.out.lem.cell 0 rfl
                have e4 := HR.out.lem.cell 1 rfl
                have e5 := HR.out.lem.cell 2 rfl
                have hR := ((HR.out.res.set 0 (.string x)).set 1 (.string (ownB z))).set 2 (.int .i64 (decV (numB z)))
                have z0 := hR.cell 0 rfl
                have z1 := hR.cell 1 rfl
                have z2 := hR.cell 2 rfl
                have HBE := hid (((HR.out.bel.setCell (p := ⟨w.heap.size, 0, none⟩) (by simp) (.string x)).setCell (p := ⟨w.heap.size, 1, none⟩) (by simp) (.string (ownB z))).setCell (p := ⟨w.heap.size, 2, none⟩) (by simp) (.int .i64 (decV (numB z))))
                clear hR d0 d1 d2
                go_wp2_with fail
                exact bodyPost_ret (v := .tuple #[.agg #[.string x, .string (ownB z), .int .i64 (decV (numB z))], .int .i64 0]) (by simp [results, Tryz.f100, go_sem, z0, z1, z2]) rfl ⟨by rw [HV.out]; rfl, HBE.out⟩
              · have hcb : (lemCk x (ownB z) (decV (numB z)) == 0) = false := by rw [beq_eq_false_iff_ne]; exact hc
                have HV : Hid (parseLm s = lm0 (lemCk x (ownB z) (decV (numB z)))) := hid (by rw [HQn.out]; unfold lmEnd; rw [if_neg hc])
                have r0 := HR.out.res.cell 0 rfl
                have r1 := HR.out.res.cell 1 rfl
                have r2 := HR.out.res.cell 2 rfl
                have r3 := HR.out.res.frozen 0
                have r4 := HR.out.res.frozen 1
                have r5 := HR.out.res.frozen 2
                have hR := ((HR.out.res.set 0 (.string ⟨#[]⟩)).set 1 (.string ⟨#[]⟩)).set 2 (.int .i64 0)
                have z0 := hR.cell 0 rfl
                have z1 := hR.cell 1 rfl
                have z2 := hR.cell 2 rfl
                have HBE := hid (((HR.out.bel.setCell (p := ⟨w.heap.size, 0, none⟩) (by simp) (.string ⟨#[]⟩)).setCell (p := ⟨w.heap.size, 1, none⟩) (by simp) (.string ⟨#[]⟩)).setCell (p := ⟨w.heap.size, 2, none⟩) (by simp) (.int .i64 0))
                clear hR
                go_wp2_with fail
                exact bodyPost_ret (v := .tuple #[.agg #[.string ⟨#[]⟩, .string ⟨#[]⟩, .int .i64 0], .int .i64 (lemCk x (ownB z) (decV (numB z)))]) (by simp [results, Tryz.f100, go_sem, z0, z1, z2]) rfl ⟨by rw [HV.out]; rfl, HBE.out⟩
        | false =>
          have how : ownB z = z := by unfold ownB; rw [if_neg (by rw [hh]; simp)]
          have hnum : lmNum z = 0 := by unfold lmNum; rw [if_neg (by rw [hh]; simp)]
          have HQ0 := hid (fun (h0 : z.size = 0) => show parseLm s = lm0 11 from by rw [HL.out, if_neg (by simp), if_neg (by show ¬ (hashB z && !decB (numB z)) = true; rw [hh]; simp), if_neg (by show ¬ (3 : Nat) = 1; omega), if_pos (by show (ownB z).size = 0; rw [how]; exact h0)])
          have HQ1 := hid (fun (h0 : ¬ z.size = 0) => show parseLm s = lmEnd x z 0 from by rw [HL.out, if_neg (by simp), if_neg (by show ¬ (hashB z && !decB (numB z)) = true; rw [hh]; simp), if_neg (by show ¬ (3 : Nat) = 1; omega), if_neg (by show ¬ (ownB z).size = 0; rw [how]; exact h0)]; show lmEnd x (ownB z) (lmNum z) = _; rw [how, hnum])
          clear how hnum HD
          have d0 := HI1.out.pts.cell 0 rfl
          have d1 := HI1.out.lem.cell 0 rfl
          have d2 := HI1.out.lem.frozen 0
          have HF := hid (HI1.out.fst x)
          have d3 := HF.out.pts.cell 2 rfl
          have d4 := HF.out.lem.cell 1 rfl
          have d5 := HF.out.lem.frozen 1
          have HL1 := hid (HF.out.lst z)
          have d6 := HL1.out.lem.cell 1 rfl
          have hE := ba_isE z
          by_cases hz0 : z.size = 0
          · rw [decide_eq_true hz0] at hE
            have HV : Hid (parseLm s = lm0 11) := hid (HQ0.out hz0)
            have r0 := HL1.out.res.cell 0 rfl
            have r1 := HL1.out.res.cell 1 rfl
            have r2 := HL1.out.res.cell 2 rfl
            have r3 := HL1.out.res.frozen 0
            have r4 := HL1.out.res.frozen 1
            have r5 := HL1.out.res.frozen 2
            have hR := ((HL1.out.res.set 0 (.string ⟨#[]⟩)).set 1 (.string ⟨#[]⟩)).set 2 (.int .i64 0)
            have z0 := hR.cell 0 rfl
            have z1 := hR.cell 1 rfl
            have z2 := hR.cell 2 rfl
            have HBE := hid (((HL1.out.bel.setCell (p := ⟨w.heap.size, 0, none⟩) (by simp) (.string ⟨#[]⟩)).setCell (p := ⟨w.heap.size, 1, none⟩) (by simp) (.string ⟨#[]⟩)).setCell (p := ⟨w.heap.size, 2, none⟩) (by simp) (.int .i64 0))
            clear hR
            go_wp2_with fail
            exact bodyPost_ret (v := .tuple #[.agg #[.string ⟨#[]⟩, .string ⟨#[]⟩, .int .i64 0], .int .i64 11]) (by simp [results, Tryz.f100, go_sem, z0, z1, z2]) rfl ⟨by rw [HV.out]; rfl, HBE.out⟩
          · rw [decide_eq_false hz0] at hE
            have HQn := hid (HQ1.out hz0)
            clear hz0
            have e0 := HL1.out.lem.cell 0 rfl
            have e1 := HL1.out.lem.cell 1 rfl
            have e2 := HL1.out.lem.cell 2 rfl
            have HK := hk x z (0) _ (by first | omega | exact Nat.zero_le _) (by first | omega | exact Nat.zero_le _) HL1.out.bel
            go_wp2_with fail
            refine HK.out.mono ?_
            rintro e w9 ⟨rfl, hB9⟩
            have HR := hid (HL1.out.below hB9)
            clear HK hB9
            by_cases hc : lemCk x z (0) = 0
            · have HV : Hid (parseLm s = ⟨x, z, 0, 0⟩) := hid (by rw [HQn.out]; unfold lmEnd; rw [if_pos hc])
              have r0 := HR.out.res.cell 0 rfl
              have r1 := HR.out.res.cell 1 rfl
              have r2 := HR.out.res.cell 2 rfl
              have r3 := HR.out.res.frozen 0
              have r4 := HR.out.res.frozen 1
              have r5 := HR.out.res.frozen 2
              have e3 := HR.out.lem.cell 0 rfl
              have e4 := HR.out.lem.cell 1 rfl
              have e5 := HR.out.lem.cell 2 rfl
              have hR := ((HR.out.res.set 0 (.string x)).set 1 (.string z)).set 2 (.int .i64 (0))
              have z0 := hR.cell 0 rfl
              have z1 := hR.cell 1 rfl
              have z2 := hR.cell 2 rfl
              have HBE := hid (((HR.out.bel.setCell (p := ⟨w.heap.size, 0, none⟩) (by simp) (.string x)).setCell (p := ⟨w.heap.size, 1, none⟩) (by simp) (.string z)).setCell (p := ⟨w.heap.size, 2, none⟩) (by simp) (.int .i64 (0)))
              clear hR d0 d1 d2
              go_wp2_with fail
              exact bodyPost_ret (v := .tuple #[.agg #[.string x, .string z, .int .i64 (0)], .int .i64 0]) (by simp [results, Tryz.f100, go_sem, z0, z1, z2]) rfl ⟨by rw [HV.out]; rfl, HBE.out⟩
            · have hcb : (lemCk x z (0) == 0) = false := by rw [beq_eq_false_iff_ne]; exact hc
              have HV : Hid (parseLm s = lm0 (lemCk x z (0))) := hid (by rw [HQn.out]; unfold lmEnd; rw [if_neg hc])
              have r0 := HR.out.res.cell 0 rfl
              have r1 := HR.out.res.cell 1 rfl
              have r2 := HR.out.res.cell 2 rfl
              have r3 := HR.out.res.frozen 0
              have r4 := HR.out.res.frozen 1
              have r5 := HR.out.res.frozen 2
              have hR := ((HR.out.res.set 0 (.string ⟨#[]⟩)).set 1 (.string ⟨#[]⟩)).set 2 (.int .i64 0)
              have z0 := hR.cell 0 rfl
              have z1 := hR.cell 1 rfl
              have z2 := hR.cell 2 rfl
              have HBE := hid (((HR.out.bel.setCell (p := ⟨w.heap.size, 0, none⟩) (by simp) (.string ⟨#[]⟩)).setCell (p := ⟨w.heap.size, 1, none⟩) (by simp) (.string ⟨#[]⟩)).setCell (p := ⟨w.heap.size, 2, none⟩) (by simp) (.int .i64 0))
              clear hR
              go_wp2_with fail
              exact bodyPost_ret (v := .tuple #[.agg #[.string ⟨#[]⟩, .string ⟨#[]⟩, .int .i64 0], .int .i64 (lemCk x z (0))]) (by simp [results, Tryz.f100, go_sem, z0, z1, z2]) rfl ⟨by rw [HV.out]; rfl, HBE.out⟩
      · -- Y
        have hyb : (y.toList == [43]) = false := by
          have h := ba_beq y ⟨#[43]⟩
          rw [show (⟨#[43]⟩ : ByteArray).toList = [43] from by decide +kernel] at h
          rw [h]; simpa using hy
        clear hz hd hk hpz hp1 hp2
        simp only [List.length_cons, List.length_nil, Nat.reduceAdd, List.map_cons, List.map_nil] at HSP
        go_enter Tryz.func100, Tryz.ntmps100
        go_wp2_with fail
        refine HSP.out.mono ?_
        rintro e w2 ⟨rfl, hw2⟩
        have hr02 : Row w2 w.heap.size #[.string ⟨#[]⟩, .string ⟨#[]⟩, .int .i64 0] 28 := by rw [← hw2]; exact hr0.al _
        have hr12 : Row w2 (w.heap.size + 1) #[.string x, .string y, .string z] 9 := by rw [← hw2]; exact row_nw _ _ _ (by simp)
        have hb2 : Below w.heap.size w w2 := by rw [← hw2]; exact below_tr hb0 (below_al _ _)
        clear hw2 HSP hr0 hb0
        have c1 := hr12.cell 1 rfl
        have r0 := hr02.cell 0 rfl
        have r1 := hr02.cell 1 rfl
        have r2 := hr02.cell 2 rfl
        have r3 := hr02.frozen 0
        have r4 := hr02.frozen 1
        have r5 := hr02.frozen 2
        have hR := ((hr02.set 0 (.string ⟨#[]⟩)).set 1 (.string ⟨#[]⟩)).set 2 (.int .i64 0)
        have z0 := hR.cell 0 rfl
        have z1 := hR.cell 1 rfl
        have z2 := hR.cell 2 rfl
        have HBE := hid (((hb2.setCell (p := ⟨w.heap.size, 0, none⟩) (by simp) (.string ⟨#[]⟩)).setCell (p := ⟨w.heap.size, 1, none⟩) (by simp) (.string ⟨#[]⟩)).setCell (p := ⟨w.heap.size, 2, none⟩) (by simp) (.int .i64 0))
        have HV : Hid (parseLm s = lm0 3) := hid (by rw [HL.out, if_pos (by simpa using hy)])
        clear hR hy
        go_wp2_with fail
        exact bodyPost_ret (v := .tuple #[.agg #[.string ⟨#[]⟩, .string ⟨#[]⟩, .int .i64 0], .int .i64 3]) (by simp [results, Tryz.f100, go_sem, z0, z1, z2]) rfl ⟨by rw [HV.out]; rfl, HBE.out⟩
    · have n1 : ((ps.length : Int) != 1) = true := by rw [bne_iff_ne]; omega
      have n2 : ¬ (ps.length : Int) = 1 := by omega
      have n3 : ¬ (ps.length : Int) = 3 := by omega
      clear hz hd hk hpz hp1
      go_enter Tryz.func100, Tryz.ntmps100
      go_wp2_with fail
      refine HSP.out.mono ?_
      rintro e w2 ⟨rfl, hw2⟩
      have hr02 : Row w2 w.heap.size #[.string ⟨#[]⟩, .string ⟨#[]⟩, .int .i64 0] 28 := by rw [← hw2]; exact hr0.al _
      have hb2 : Below w.heap.size w w2 := by rw [← hw2]; exact below_tr hb0 (below_al _ _)
      clear hw2 HSP hr0 hb0
      have r0 := hr02.cell 0 rfl
      have r1 := hr02.cell 1 rfl
      have r2 := hr02.cell 2 rfl
      have r3 := hr02.frozen 0
      have r4 := hr02.frozen 1
      have r5 := hr02.frozen 2
      have hR := ((hr02.set 0 (.string ⟨#[]⟩)).set 1 (.string ⟨#[]⟩)).set 2 (.int .i64 0)
      have z0 := hR.cell 0 rfl
      have z1 := hR.cell 1 rfl
      have z2 := hR.cell 2 rfl
      have HBE := hid (((hb2.setCell (p := ⟨w.heap.size, 0, none⟩) (by simp) (.string ⟨#[]⟩)).setCell (p := ⟨w.heap.size, 1, none⟩) (by simp) (.string ⟨#[]⟩)).setCell (p := ⟨w.heap.size, 2, none⟩) (by simp) (.int .i64 0))
      have HV : Hid (parseLm s = lm0 3) := hid (by rw [HL.out, if_pos (by omega)])
      clear hR h1 h3
      go_wp2_with fail
      exact bodyPost_ret (v := .tuple #[.agg #[.string ⟨#[]⟩, .string ⟨#[]⟩, .int .i64 0], .int .i64 3]) (by simp [results, Tryz.f100, go_sem, z0, z1, z2]) rfl ⟨by rw [HV.out]; rfl, HBE.out⟩
end Go.Proofs.YtjhdeoniafahbaaGreatDoor
namespace Go.Proofs
open Go.Shelf
def Tryz.lays156_ren : Go.Shelf.Ren := ⟨fun | 156 => 26 | 165 => 64 | 166 => 65 | 169 => 66 | 240 => 104 | 241 => 105 | 276 => 128 | 277 => 129 | n => n, fun | 31 => 23 | 9 => 9 | 3 => 3 | 4 => 4 | 0 => 0 | 20 => 20 | 72 => 100 | 76 => 104 | 70 => 97 | 37 => 98 | 75 => 103 | 127 => 127 | 164 => 141 | 5 => 5 | 80 => 106 | n => n, fun | n => n⟩
theorem Tryz.lays156 : Go.Proofs.Lays.n156 Tryz.prog Tryz.lays156_ren := {
  mixed := by kernel_rfl
  f156 := Tryz.func26.trans (congrArg some (by kernel_rfl))
  f165 := Tryz.func64.trans (congrArg some (by kernel_rfl))
  f166 := Tryz.func65.trans (congrArg some (by kernel_rfl))
  f169 := Tryz.func66.trans (congrArg some (by kernel_rfl))
  f240 := Tryz.func104.trans (congrArg some (by kernel_rfl))
  f241 := Tryz.func105.trans (congrArg some (by kernel_rfl))
  f276 := Tryz.func128.trans (congrArg some (by kernel_rfl))
  f277 := Tryz.func129.trans (congrArg some (by kernel_rfl))
  t0 := Tryz.underlying0
  a0 := Tryz.isAgg0
  z0 := Tryz.sizeOf0
  v0 := Tryz.zeroValue0
  t3 := Tryz.underlying3
  a3 := Tryz.isAgg3
  z3 := Tryz.sizeOf3
  v3 := Tryz.zeroValue3
  t4 := Tryz.underlying4
  a4 := Tryz.isAgg4
  z4 := Tryz.sizeOf4
  v4 := Tryz.zeroValue4
  t9 := Tryz.underlying9
  a9 := Tryz.isAgg9
  z9 := Tryz.sizeOf9
  v9 := Tryz.zeroValue9
  t20 := Tryz.underlying20
  a20 := Tryz.isAgg20
  z20 := Tryz.sizeOf20
  v20 := Tryz.zeroValue20
  t31 := Tryz.underlying23
  a31 := Tryz.isAgg23
  z31 := Tryz.sizeOf23
  v31 := Tryz.zeroValue23
  t37 := Tryz.underlying98
  a37 := Tryz.isAgg98
  z37 := Tryz.sizeOf98
  v37 := Tryz.zeroValue98
  t70 := Tryz.underlying97
  a70 := Tryz.isAgg97
  z70 := Tryz.sizeOf97
  v70 := Tryz.zeroValue97
  t72 := Tryz.underlying100
  a72 := Tryz.isAgg100
  z72 := Tryz.sizeOf100
  v72 := Tryz.zeroValue100
  t75 := Tryz.underlying103
  a75 := Tryz.isAgg103
  z75 := Tryz.sizeOf103
  v75 := Tryz.zeroValue103
  t76 := Tryz.underlying104
  a76 := Tryz.isAgg104
  z76 := Tryz.sizeOf104
  v76 := Tryz.zeroValue104
  t127 := Tryz.underlying127
  a127 := Tryz.isAgg127
  z127 := Tryz.sizeOf127
  v127 := Tryz.zeroValue127
  t164 := Tryz.underlying141
  a164 := Tryz.isAgg141
  z164 := Tryz.sizeOf141
  v164 := Tryz.zeroValue141 }
theorem Tryz.Builder_Extra_156 : Builder.Extra Tryz.prog Tryz.lays156_ren := {
  sizeBuilder := by kernel_rfl
  liesBuilder := by kernel_rfl
  t5 := Tryz.underlying5
  a5 := Tryz.isAgg5
  z5 := Tryz.sizeOf5
  v5 := Tryz.zeroValue5
  infoByte := by kernel_rfl
  cellsByte := by kernel_rfl
  sizeByte := by kernel_rfl
  neB5 := by decide }
open Go.RowKit in
/-- No element: the empty string; the world is as it was. (Whatever the slice's address and capacity: a nil slice too.) (LAID: no walk: one application.) -/
theorem Tryz.strings_Join_none (a : Option Addr) (c : Nat) (sep : ByteArray) (w : World) :
    Calls Tryz.prog 26 #[.slice a 0 c, .string sep] w fun e w' => e = .returned (.string ⟨#[]⟩) ∧ w' = w := Any.strings_Join_none Tryz.lays156 Tryz.Builder_Extra_156 a c sep w
open Go.RowKit in
/-- strings.Join: "Join concatenates the elements of its first argument to create a single string. The separator string sep is placed between elements in the resulting string.": HOWEVER MANY ELEMENTS. Below the heap's end the world is as it was. (LAID: no walk: one application.) -/
theorem Tryz.strings_Join (bk o c : Nat) (xs : List ByteArray) (sep : ByteArray) (w : World) (hcells : ∀ (j : Nat) x, xs[j]? = some x → w.cell? ⟨bk, o + j, none⟩ = some (.string x)) (hbk : bk < w.heap.size) (hN : xs.length ≤ 140737488355328) (hcap : xs.length ≤ c) (hlen : (Lib.join (xs.map (·.data.toList)) sep.data.toList).length ≤ 140737488355328) :
    Calls Tryz.prog 26 #[.slice (some ⟨bk, o, none⟩) xs.length c, .string sep] w fun e w' => e = .returned (.string ⟨(Lib.join (xs.map (·.data.toList)) sep.data.toList).toArray⟩) ∧ Below w.heap.size w w' := Any.strings_Join Tryz.lays156 Tryz.Builder_Extra_156 bk o c xs sep w hcells hbk hN hcap hlen
end Go.Proofs
namespace Go.Proofs.YtjhdeoniafahbaaGreatDoor
/-- A character that no word and no siglum has. -/
def brc (c : UInt8) : Bool := c == 32 || c == 123 || c == 124 || c == 125
theorem brc_kind {c : UInt8} (h0 : kindI c.toNat ≠ 0) (h6 : kindI c.toNat ≠ 6) : brc c = false := by
  cases hb : brc c with
  | false => rfl
  | true =>
    unfold brc at hb
    simp only [Bool.or_eq_true, beq_iff_eq] at hb
    rcases hb with ((rfl | rfl) | rfl) | rfl
    · exact absurd (by decide) h6
    · exact absurd (by decide) h0
    · exact absurd (by decide) h0
    · exact absurd (by decide) h0
theorem word_brc {s : ByteArray} (h : wordB s = true) : ∀ c ∈ s.data.toList, brc c = false := by
  intro c hc
  unfold wordB at h
  rw [Bool.or_eq_true] at h
  rcases h with h | h
  · obtain ⟨h0, _, h6⟩ := isWord_chars h c hc
    exact brc_kind h0 h6
  · split at h
    · rename_i hs
      have hl : s.data.toList.length = 1 := by rw [Array.length_toList]; exact hs
      obtain ⟨x, hx⟩ := List.length_eq_one_iff.1 hl
      rw [hx] at hc
      have e : c = x := by simpa using hc
      unfold firstK at h
      rw [hx] at h
      simp only [Bool.or_eq_true, decide_eq_true_eq] at h
      rw [e]
      exact brc_kind (by omega) (by omega)
    · obtain ⟨h1, h2⟩ := gap_data h
      rw [h1] at hc
      obtain ⟨h3, h4, h5⟩ := dec_back h2
      have hd : ∀ c ∈ (innB s).data.toList, 48 ≤ c.toNat ∧ c.toNat ≤ 57 := by
        rw [← h3, itoaB_data (by omega)]
        exact (digits_ok _).2.2
      have : c = 91 ∨ c ∈ (innB s).data.toList ∨ c = 93 := by simpa [or_assoc] using hc
      rcases this with rfl | h | rfl
      · decide
      · have := hd c h
        cases hb : brc c with
        | false => rfl
        | true =>
          unfold brc at hb
          simp only [Bool.or_eq_true, beq_iff_eq] at hb
          rcases hb with ((rfl | rfl) | rfl) | rfl <;> exact absurd this (by decide)
      · decide
theorem sig_chars {s : ByteArray} (h : sigB s = true) : s.size ≠ 0 ∧ s.size ≤ 16 ∧ ∀ c ∈ s.data.toList, brc c = false ∧ c ≠ 93 := by
  have hnm : ∀ {t : ByteArray}, isNameB t = true → t.size ≠ 0 ∧ t.size ≤ 16 ∧ ∀ c ∈ t.data.toList, brc c = false ∧ c ≠ 93 := by
    intro t ht
    unfold isNameB at ht
    simp only [Bool.and_eq_true, decide_eq_true_eq] at ht
    refine ⟨ht.1.1, ht.1.2, fun c hc => ?_⟩
    have := isLet_kind (all_let (l := t.data.toList) (by rw [ht.2]; rfl) c hc)
    refine ⟨brc_kind (by omega) (by omega), ?_⟩
    rintro rfl
    exact absurd this (by decide)
  unfold sigB at h
  simp only [Bool.and_eq_true, Bool.or_eq_true, decide_eq_true_eq] at h
  obtain ⟨h1, h2⟩ := h
  have hn := hnm h1
  unfold cutStar at hn h2
  by_cases hc : 1 ≤ s.size ∧ (s.extract (s.size - 1) s.size).toList = [42]
  · rw [if_pos hc] at hn h2
    have h3 : s.size ≤ 16 := by simpa using h2
    refine ⟨by omega, h3, fun c hm => ?_⟩
    have e : s.data.toList = (s.extract 0 (s.size - 1)).data.toList ++ (s.extract (s.size - 1) s.size).data.toList := by
      rw [Lib.extract_from_zero, Lib.extract_to_end, List.take_append_drop]
    rw [e] at hm
    rcases List.mem_append.1 hm with hm | hm
    · exact hn.2.2 c hm
    · rw [← ByteArray.toList_eq, hc.2] at hm
      have : c = 42 := by simpa using hm
      subst this; decide
  · rw [if_neg hc] at hn
    exact hn
theorem sig_brc {s : ByteArray} (h : sigB s = true) : s.size ≠ 0 ∧ s.size ≤ 16 ∧ ∀ c ∈ s.data.toList, brc c = false := ⟨(sig_chars h).1, (sig_chars h).2.1, fun c hc => ((sig_chars h).2.2 c hc).1⟩
theorem brc_32 {s : ByteArray} (h : ∀ c ∈ s.data.toList, brc c = false) : (32 : UInt8) ∉ s.data.toList := fun hm => absurd (h _ hm) (by decide)
/-- A string without braces and bars begins with none, and is no bar. -/
theorem brc_opens {s : ByteArray} (h : ∀ c ∈ s.data.toList, brc c = false) : opensB s = false := by
  cases ho : opensB s with
  | false => rfl
  | true =>
    unfold opensB cutPB Lib.hasPrefix at ho
    obtain ⟨t, ht⟩ := List.isPrefixOf_iff_prefix.1 ho
    exact absurd (h 123 (by rw [← ht]; simp [lbrB])) (by decide)
theorem brc_bar {s : ByteArray} (h : ∀ c ∈ s.data.toList, brc c = false) : s ≠ barB := by
  rintro rfl
  exact absurd (h 124 (by simp [barB])) (by decide)
theorem word_beh {s : ByteArray} (h : wordB s = true) : s ≠ behB ∧ s ≠ noneB ∧ s ≠ plusB ∧ s ≠ minB ∧ s ≠ starB := by
  refine ⟨?_, ?_, ?_, ?_, ?_⟩ <;> rintro rfl <;> exact absurd h (by decide +kernel)
/-- What is valid. -/
structure VrOk (pl : Int) (v : Vr) : Prop where
  s0 : v.sg ≠ []
  sg : ∀ s ∈ v.sg, sigB s = true
  ws : ∀ s ∈ v.ws, wordB s = true
  wl : v.ws.length ≤ 4096
  sl : v.sg.length ≤ 4096
  w0 : v.ws = [] → pl = 1
structure NtOk (x : Nt) : Prop where
  f1 : 1 ≤ x.fr
  f2 : x.fr ≤ x.to_
  f3 : x.to_ ≤ 4096
  p1 : 1 ≤ x.pl
  p4 : x.pl ≤ 4
  no : x.pl = 4 → x.lf = ⟨#[]⟩ ∧ x.ll = ⟨#[]⟩ ∧ x.ln = 0
  lm : x.pl ≠ 4 → lemCk x.lf x.ll x.ln = 0
  on : x.pl ≠ 4 → x.pl ≠ 1 → x.ll = ⟨#[]⟩
  ps : x.pos = false → x.sup = []
  sp : ∀ s ∈ x.sup, sigB s = true
  sl : x.sup.length ≤ 4096
  v0 : x.vs ≠ []
  vl : x.vs.length ≤ 4096
  vs : ∀ v ∈ x.vs, VrOk x.pl v
theorem ba_nil {s : ByteArray} (h : s.size = 0) : s = ⟨#[]⟩ := ba_ext (List.eq_nil_of_length_eq_zero (by rw [ba_len]; exact h))
theorem lcheck_ok {l : List ByteArray} (h : lcheckI l = 0) : l.length ≤ 4096 ∧ ∀ s ∈ l, wordB s = true := by
  unfold lcheckI at h
  split at h
  · cases h
  · split at h
    · cases h
    · rename_i h1 h2
      refine ⟨by omega, fun s hs => ?_⟩
      cases hw : wordB s with
      | true => rfl
      | false => exact absurd (List.any_eq_true.2 ⟨s, hs, by rw [hw]; rfl⟩) h2
theorem lcheck_of {l : List ByteArray} (h : l.length ≤ 4096) (hw : ∀ s ∈ l, wordB s = true) : lcheckI l = 0 := by
  unfold lcheckI
  rw [if_neg (by omega), if_neg]
  intro ha
  obtain ⟨s, hs, hb⟩ := List.any_eq_true.1 ha
  rw [hw s hs] at hb; cases hb
theorem var_ok {pl : Int} {v : Vr} (h : varI pl v = 0) : VrOk pl v := by
  unfold varI at h
  split at h
  · cases h
  split at h
  · cases h
  split at h
  · cases h
  split at h
  · cases h
  rename_i h1 h2 h3 h4
  have hc := lcheck_ok (Classical.not_not.1 h3)
  refine ⟨fun e => h1 (.inl (by rw [e]; rfl)), fun s hs => ?_, hc.2, hc.1, by omega, fun e => ?_⟩
  · cases hw : sigB s with
    | true => rfl
    | false => exact absurd (List.any_eq_true.2 ⟨s, hs, by rw [hw]; rfl⟩) h4
  · rw [e] at h1
    by_cases hp : pl = 1
    · exact hp
    · exact absurd (.inr ⟨rfl, hp⟩) h1
theorem vars_ok {pl : Int} : ∀ {l : List Vr}, varsI pl l = 0 → ∀ v ∈ l, VrOk pl v
  | [], _, v, hv => by cases hv
  | a :: r, h, v, hv => by
    unfold varsI at h
    split at h
    · rename_i h0
      rcases List.mem_cons.1 hv with rfl | hv
      · exact var_ok h0
      · exact vars_ok h v hv
    · rename_i h0; exact absurd h h0
theorem note_ok {x : Nt} (h : nteI x = 0) : NtOk x := by
  unfold nteI at h
  split at h
  · rename_i h0
    have hv := vars_ok h
    unfold headI at h0
    split at h0
    · cases h0
    split at h0
    · cases h0
    split at h0
    · cases h0
    split at h0
    · rename_i hq; exact absurd h0 hq.2
    split at h0
    · cases h0
    split at h0
    · cases h0
    split at h0
    · cases h0
    split at h0
    · cases h0
    split at h0
    · cases h0
    split at h0
    · cases h0
    rename_i h1 h2 h3 h4 h5 h6 h7 h8 h9 h10
    refine ⟨by omega, by omega, by omega, by omega, by omega, fun e => ?_, fun e => ?_, fun e e1 => ?_, fun e => ?_, fun s hs => ?_, by omega, fun e => h9 (by rw [e]; rfl), by omega, hv⟩
    · have hl : lem0 x = true := by
        cases hl : lem0 x with
        | true => rfl
        | false => exact absurd ⟨e, hl⟩ h3
      unfold lem0 at hl
      simp only [Bool.and_eq_true, decide_eq_true_eq] at hl
      exact ⟨ba_nil hl.1.1, ba_nil hl.1.2, hl.2⟩
    · exact Classical.byContradiction fun hc => h4 ⟨e, hc⟩
    · exact ba_nil (Classical.byContradiction fun hc => h5 ⟨e, e1, hc⟩)
    · refine List.eq_nil_of_length_eq_zero (Classical.byContradiction fun hc => h6 ⟨by omega, e⟩)
    · cases hw : sigB s with
      | true => rfl
      | false => exact absurd (List.any_eq_true.2 ⟨s, hs, by rw [hw]; rfl⟩) h8
  · rename_i h0; exact absurd h h0
/-- Tokens. -/
theorem braces_data (l : List ByteArray) : (bracesB l).data.toList = 123 :: ((joinB l).data.toList ++ [125]) := by simp [bracesB]
theorem sig_join_ne {l : List ByteArray} (h : ∀ s ∈ l, sigB s = true) (hl : l ≠ []) : (joinB l).size ≠ 0 := by
  obtain ⟨x, r, rfl⟩ := List.exists_cons_of_ne_nil hl
  have h1 := (sig_brc (h x (by simp))).1
  have e : (joinB (x :: r)).size = (Lib.join ((x :: r).map (·.data.toList)) [32]).length := rfl
  rw [e, List.map_cons, Lib.join_cons, List.length_append]
  have e2 : x.data.toList.length = x.size := rfl
  omega
theorem split_joinW {l : List ByteArray} (h : ∀ s ∈ l, (32 : UInt8) ∉ s.data.toList) (hl : l ≠ []) : splitS (joinB l) = l := by rw [split_join_any hl, split_words h]
/-- Sigla between braces are read back. -/
theorem sig_back {l : List ByteArray} (h : ∀ s ∈ l, sigB s = true) : sigOk (splitS (bracesB l)) = true ∧ sigL (splitS (bracesB l)) = l := by
  have hd := braces_data l
  have hj : joinB (splitS (bracesB l)) = bracesB l := joinB_split _
  have e1 : cutPB (bracesB l) lbrB = true := by unfold cutPB Lib.hasPrefix; rw [hd]; rfl
  have hsz : (bracesB l).size = (joinB l).data.toList.length + 2 := by rw [← ba_len, hd]; simp
  have hp : (cutPS (bracesB l) lbrB).data.toList = (joinB l).data.toList ++ [125] := by
    unfold cutPS
    rw [if_pos e1, extract_data, ← ba_len (bracesB l), List.take_length, hd]; rfl
  have e2 : cutXB (cutPS (bracesB l) lbrB) rbrB = true := by
    unfold cutXB Lib.hasSuffix
    rw [hp, List.isSuffixOf_iff_suffix]
    exact ⟨_, rfl⟩
  have hps : (cutPS (bracesB l) lbrB).size = (joinB l).data.toList.length + 1 := by rw [← ba_len, hp]; simp
  have e3 : cutXS (cutPS (bracesB l) lbrB) rbrB = joinB l := by
    refine ba_ext ?_
    unfold cutXS
    rw [if_pos e2, extract_data, hp, hps]
    simp [show rbrB.size = 1 from rfl]
  have ok : sigOk (splitS (bracesB l)) = true := by unfold sigOk; rw [hj, e1, e2]; rfl
  refine ⟨ok, ?_⟩
  unfold sigL inrB
  rw [if_pos ok, hj, e3]
  by_cases hl : l = []
  · subst hl; rfl
  · rw [if_neg (sig_join_ne h hl), split_joinW (fun s hs => brc_32 (sig_brc (h s hs)).2.2) hl]
theorem quote_back {l : List ByteArray} (h : ∀ s ∈ l, wordB s = true) (hl : l.length ≤ 4096) (hs : (quoteB l).size ≤ 65536) : unqI (quoteB l) = 0 ∧ unqL (quoteB l) = l := by
  by_cases h0 : l = []
  · subst h0
    exact ⟨by decide +kernel, by decide +kernel⟩
  · have hq : quoteB l = joinB l := by unfold quoteB; rw [if_neg (fun e => h0 (List.eq_nil_of_length_eq_zero e))]
    have hsp : splitS (joinB l) = l := split_joinW (fun s hs => brc_32 (word_brc (h s hs))) h0
    have hnn : joinB l ≠ noneB := by
      intro e
      rw [e] at hsp
      have e2 : splitS noneB = [noneB] := split_word (by decide)
      rw [e2] at hsp
      exact (word_beh (h noneB (by rw [← hsp]; simp))).2.1 rfl
    rw [hq] at hs ⊢
    unfold unqI unqL
    rw [if_neg (by omega), if_neg hnn, hsp, if_pos (lcheck_of hl h), if_neg (by omega), if_neg hnn, if_pos (lcheck_of hl h)]
    exact ⟨rfl, rfl⟩
theorem fIdx_app {α : Type} {p : α → Bool} {a : List α} (x : α) (r : List α) (ha : ∀ y ∈ a, p y = false) (hx : p x = true) : fIdx p (a ++ x :: r) = (a.length : Int) :=
  fIdx_hit p _ a.length x (by rw [List.take_left]; exact ha) (by simp) hx
/-- The characters of the tokens are those of the string, without the spaces. -/
theorem cutL_mem (c : UInt8) : ∀ (l : List UInt8), ∀ x ∈ cutL c l, ∀ b ∈ x, b ∈ l
  | [], x, h => by simp [cutL] at h; simp [h]
  | b :: l, x, h => by
    have ih := cutL_mem c l
    unfold cutL at h
    intro d hd
    split at h
    · rcases List.mem_cons.1 h with rfl | h
      · cases hd
      · exact List.mem_cons_of_mem _ (ih x h d hd)
    · split at h
      · rw [List.mem_singleton] at h
        subst h
        rw [List.mem_singleton] at hd
        simp [hd]
      · rename_i y t e
        rcases List.mem_cons.1 h with rfl | h
        · rcases List.mem_cons.1 hd with rfl | hd
          · simp
          · exact List.mem_cons_of_mem _ (ih y (by rw [e]; simp) d hd)
        · exact List.mem_cons_of_mem _ (ih x (by rw [e]; simp [h]) d hd)
theorem split_chars {s t : ByteArray} (ht : t ∈ splitS s) : ∀ c ∈ t.data.toList, c ∈ s.data.toList ∧ c ≠ 32 := by
  intro c hc
  have hm : t.data.toList ∈ cutL 32 s.data.toList := by rw [← splitS_data]; exact List.mem_map_of_mem ht
  exact ⟨cutL_mem 32 _ _ hm c hc, fun e => cutL_no 32 _ _ hm (e ▸ hc)⟩
theorem split_head {s : ByteArray} {c : UInt8} {r : List UInt8} (hs : s.data.toList = c :: r) (hc : c ≠ 32) : ∃ h t y, splitS s = h :: t ∧ h.data.toList = c :: y := by
  have hd := splitS_data s
  rw [hs, cutL, if_neg hc] at hd
  cases hq : splitS s with
  | nil =>
    rw [hq] at hd
    cases hr : cutL 32 r with
    | nil => rw [hr] at hd; cases hd
    | cons y t => rw [hr] at hd; cases hd
  | cons h t =>
    rw [hq, List.map_cons] at hd
    cases hr : cutL 32 r with
    | nil => rw [hr] at hd; exact ⟨h, t, [], rfl, (List.cons.inj hd).1⟩
    | cons y u => rw [hr] at hd; exact ⟨h, t, y, rfl, (List.cons.inj hd).1⟩
/-- The tokens of a lemma. -/
theorem lem_toks {f l : ByteArray} {n : Int} (h : lemCk f l n = 0) : ∃ a t : ByteArray, wordB a = true ∧ t.data.toList = a.data.toList ++ (if n = 0 then [] else 35 :: (itoaB n).data.toList) ∧ (splitS (printT f l n) = [t] ∨ splitS (printT f l n) = [f, ⟨#[43]⟩, t]) := by
  obtain ⟨hf, hl, h0, h1⟩ := lck_parts h
  have hd := printT_data f l n
  have hf32 : (32 : UInt8) ∉ f.data.toList := fun hm => (word_chars hf _ hm).1 rfl
  by_cases hl0 : l.size = 0
  · rw [if_pos hl0, List.nil_append] at hd
    refine ⟨f, printT f l n, hf, hd, .inl ?_⟩
    refine split_of ?_
    rw [cutL_none]
    · rfl
    · rw [hd]; exact tail_no (.inr hf) h0
  · have hlw : wordB l = true := by
      rcases hl with h | h
      · exact absurd h hl0
      · exact h
    rw [if_neg hl0] at hd
    obtain ⟨t, ht⟩ : ∃ t : ByteArray, t.data.toList = l.data.toList ++ (if n = 0 then [] else 35 :: (itoaB n).data.toList) := ⟨⟨(l.data.toList ++ (if n = 0 then [] else 35 :: (itoaB n).data.toList)).toArray⟩, by simp⟩
    refine ⟨l, t, hlw, ht, .inr ?_⟩
    refine split_of ?_
    rw [hd]
    have e1 : f.data.toList ++ (([32, 43, 32] ++ l.data.toList) ++ (if n = 0 then [] else 35 :: (itoaB n).data.toList)) = f.data.toList ++ 32 :: ([43] ++ 32 :: t.data.toList) := by rw [ht]; simp
    rw [e1, cutL_app _ hf32, cutL_app _ (by decide), cutL_none]
    · rfl
    · rw [ht]; exact tail_no (.inr hlw) h0
/-- A token that stands ahead of the sigla: it begins with no brace and is no ]. -/
def Tok (t : ByteArray) : Prop := opensB t = false ∧ t ≠ behB
theorem tok_tail {a t : ByteArray} {n : Int} (ha : wordB a = true) (hn : 0 ≤ n) (ht : t.data.toList = a.data.toList ++ (if n = 0 then [] else 35 :: (itoaB n).data.toList)) :
    Tok t ∧ t ≠ plusB ∧ t ≠ minB ∧ t ≠ starB := by
  by_cases h : n = 0
  · rw [if_pos h, List.append_nil] at ht
    obtain rfl : t = a := ba_ext ht
    have hb := word_beh ha
    exact ⟨⟨brc_opens (word_brc ha), hb.1⟩, hb.2.2⟩
  · rw [if_neg h] at ht
    have hm : (35 : UInt8) ∈ t.data.toList := by rw [ht]; simp
    refine ⟨⟨brc_opens fun c hc => ?_, ?_⟩, ?_, ?_, ?_⟩
    · rw [ht, List.mem_append, List.mem_cons] at hc
      rcases hc with hc | rfl | hc
      · exact word_brc ha c hc
      · decide
      · rw [itoaB_data hn] at hc
        have := (digits_ok _).2.2 _ hc
        cases hb : brc c with
        | false => rfl
        | true =>
          unfold brc at hb
          simp only [Bool.or_eq_true, beq_iff_eq] at hb
          rcases hb with ((rfl | rfl) | rfl) | rfl <;> exact absurd this (by decide)
    all_goals rintro rfl; exact absurd hm (by decide)
theorem lem_tok {f l : ByteArray} {n : Int} (h : lemCk f l n = 0) : (∀ t ∈ splitS (printT f l n), Tok t) ∧ splitS (printT f l n) ≠ [] ∧
    ∀ d, (splitS (printT f l n)).getD ((splitS (printT f l n)).length - 1) d ≠ plusB ∧ (splitS (printT f l n)).getD ((splitS (printT f l n)).length - 1) d ≠ minB ∧ (splitS (printT f l n)).getD ((splitS (printT f l n)).length - 1) d ≠ starB := by
  obtain ⟨hf, _, h0, _⟩ := lck_parts h
  obtain ⟨a, t, ha, ht, hs⟩ := lem_toks h
  have hT := tok_tail ha h0 ht
  rcases hs with hs | hs
  · rw [hs]
    exact ⟨fun u hu => by rw [List.mem_singleton.1 hu]; exact hT.1, by simp, fun d => hT.2⟩
  · rw [hs]
    refine ⟨fun u hu => ?_, by simp, fun d => hT.2⟩
    rcases List.mem_cons.1 hu with rfl | hu
    · exact ⟨brc_opens (word_brc hf), (word_beh hf).1⟩
    · rcases List.mem_cons.1 hu with rfl | hu
      · exact ⟨by decide +kernel, by decide +kernel⟩
      · rw [List.mem_singleton.1 hu]; exact hT.1
theorem sign_tok (p : Int) : (signsB p).flatMap splitS = signsB p ∧ ∀ t ∈ signsB p, Tok t := by
  unfold signsB
  split
  · exact ⟨by decide +kernel, fun t ht => by rw [List.mem_singleton.1 ht]; exact ⟨by decide +kernel, by decide +kernel⟩⟩
  · split
    · exact ⟨by decide +kernel, fun t ht => by rw [List.mem_singleton.1 ht]; exact ⟨by decide +kernel, by decide +kernel⟩⟩
    · split
      · exact ⟨by decide +kernel, fun t ht => by rw [List.mem_singleton.1 ht]; exact ⟨by decide +kernel, by decide +kernel⟩⟩
      · exact ⟨rfl, fun t ht => by cases ht⟩
theorem brace_tok {l : List ByteArray} (h : ∀ s ∈ l, sigB s = true) : (∃ x r, splitS (bracesB l) = x :: r ∧ opensB x = true) ∧ ∀ t ∈ splitS (bracesB l), t ≠ behB ∧ t ≠ barB := by
  constructor
  · obtain ⟨x, r, y, e, hx⟩ := split_head (braces_data l) (by decide)
    refine ⟨x, r, e, ?_⟩
    unfold opensB cutPB Lib.hasPrefix
    rw [hx]; rfl
  · intro t ht
    have hc := split_chars ht
    have hall : ∀ c ∈ (bracesB l).data.toList, c ≠ 93 ∧ c ≠ 124 := by
      intro c hc
      rw [braces_data, List.mem_cons, List.mem_append] at hc
      rcases hc with rfl | hc | hc
      · decide
      · by_cases hl : l = []
        · subst hl; simp [joinB, Lib.join] at hc
        · have hsp := split_joinW (fun s hs => brc_32 (sig_brc (h s hs)).2.2) hl
          have hjd : (joinB l).data.toList = Lib.join (l.map (·.data.toList)) [32] := by simp [joinB]
          rw [hjd] at hc
          have hmem : ∀ (l : List ByteArray), c ∈ Lib.join (l.map (·.data.toList)) [32] → c = 32 ∨ ∃ s ∈ l, c ∈ s.data.toList := by
            intro l
            induction l with
            | nil => intro hc; simp [Lib.join] at hc
            | cons x r ih =>
              intro hc
              cases r with
              | nil =>
                rw [List.map_cons, List.map_nil, Lib.join_one] at hc
                exact .inr ⟨x, by simp, hc⟩
              | cons y r =>
                rw [List.map_cons, List.map_cons, Lib.join_cons, Lib.joinTail, List.map_cons, List.flatten_cons] at hc
                rw [List.map_cons, Lib.join_cons, Lib.joinTail] at ih
                rw [List.mem_append, List.append_assoc, List.mem_append, List.mem_singleton] at hc
                rcases hc with hc | hc | hc
                · exact .inr ⟨x, by simp, hc⟩
                · exact .inl hc
                · rcases ih hc with h | ⟨s, hs, h⟩
                  · exact .inl h
                  · exact .inr ⟨s, by simp [hs], h⟩
          rcases hmem l hc with rfl | ⟨s, hs, hc⟩
          · decide
          · have := (sig_chars (h s hs)).2.2 c hc
            refine ⟨this.2, ?_⟩
            rintro rfl
            exact absurd this.1 (by decide)
      · rw [List.mem_singleton] at hc; subst hc; decide
    constructor
    · rintro rfl
      exact (hall 93 (hc 93 (by decide)).1).1 rfl
    · rintro rfl
      exact (hall 124 (hc 124 (by decide)).1).2 rfl
theorem ito_digits {n : Int} (h : 0 ≤ n) : ∀ c ∈ (itoaB n).data.toList, 48 ≤ c.toNat ∧ c.toNat ≤ 57 := by
  rw [itoaB_data h]; exact (digits_ok _).2.2
theorem span_chars {a b : Int} (ha : 0 ≤ a) (hb : 0 ≤ b) : ∀ c ∈ (spanB a b).data.toList, c = 45 ∨ (48 ≤ c.toNat ∧ c.toNat ≤ 57) := by
  intro c hc
  unfold spanB at hc
  split at hc
  · exact .inr (ito_digits ha c hc)
  · have : c ∈ (itoaB a).data.toList ∨ c = 45 ∨ c ∈ (itoaB b).data.toList := by simpa [or_assoc] using hc
    rcases this with h | h | h
    · exact .inr (ito_digits ha c h)
    · exact .inl h
    · exact .inr (ito_digits hb c h)
theorem span_tok {a b : Int} (ha : 0 ≤ a) (hb : 0 ≤ b) : splitS (spanB a b) = [spanB a b] ∧ Tok (spanB a b) := by
  have h := span_chars ha hb
  have hno : ∀ c, (c = 32 ∨ c = 93 ∨ brc c = true) → c ∉ (spanB a b).data.toList := by
    intro c hc hm
    rcases h c hm with rfl | h
    · exact absurd hc (by decide)
    · rcases hc with rfl | rfl | hc
      · exact absurd h (by decide)
      · exact absurd h (by decide)
      · unfold brc at hc
        simp only [Bool.or_eq_true, beq_iff_eq] at hc
        rcases hc with ((rfl | rfl) | rfl) | rfl <;> exact absurd h (by decide)
  refine ⟨split_word (hno 32 (.inl rfl)), brc_opens fun c hc => ?_, ?_⟩
  · cases hb : brc c with
    | false => rfl
    | true => exact absurd hc (hno c (.inr (.inr hb)))
  · intro e
    exact hno 93 (.inr (.inl rfl)) (by rw [e]; decide)
theorem ato_itoa {n : Int} (h0 : 0 ≤ n) (h1 : n < 1000000000) : atoB (itoaB n) = true ∧ decV (itoaB n) = n := by
  have e : Lib.atoiAll (itoaB n).data.toList = .ok n := by
    rw [itoaB_data h0, atoi_digits _ (by omega), Int.toNat_of_nonneg h0]
  unfold atoB decV
  rw [e]; exact ⟨rfl, rfl⟩
theorem cut_at45 {u v : List UInt8} (h : (45 : UInt8) ∉ u) : Lib.cut (u ++ 45 :: v) [45] = (u, v, true) := by
  unfold Lib.cut
  rw [index_app _ h]
  simp
theorem drop_app1 {α : Type} (a : List α) (b : α) (r : List α) : (a ++ b :: r).drop (a.length + 1) = r := by simp
theorem line_back {a b : Int} (ha : 0 ≤ a) (ha2 : a < 1000000000) (hb : 0 ≤ b) (hb2 : b < 1000000000) : lineB (spanB a b) = true ∧ decV (dashB (spanB a b)).1 = a ∧ decV (lstB (spanB a b)) = b := by
  have h45 : (45 : UInt8) ∉ (itoaB a).data.toList := fun hm => absurd (ito_digits ha _ hm) (by decide)
  have qa := ato_itoa ha ha2
  have qb := ato_itoa hb hb2
  by_cases he : a = b
  · subst he
    have es : spanB a a = itoaB a := by unfold spanB; rw [if_pos rfl]
    have e1 : dashB (itoaB a) = (itoaB a, ⟨#[]⟩, false) := by
      unfold dashB Lib.cut
      rw [index_no h45]; rfl
    have e2 : lstB (itoaB a) = itoaB a := by unfold lstB; rw [e1]; rfl
    unfold lineB
    rw [es, e2, e1, qa.1, qa.2, es]
    simp
  · have es : spanB a b = (itoaB a ++ ⟨#[45]⟩) ++ itoaB b := by unfold spanB; rw [if_neg he]
    have hd : (spanB a b).data.toList = (itoaB a).data.toList ++ 45 :: (itoaB b).data.toList := by rw [es]; simp
    have e1 : dashB (spanB a b) = (itoaB a, itoaB b, true) := by
      unfold dashB
      rw [hd, cut_at45 h45]
    have e2 : lstB (spanB a b) = itoaB b := by unfold lstB; rw [e1]; rfl
    unfold lineB
    rw [e2, e1, qa.1, qa.2, qb.1, qb.2]
    simp
/-- Bars. -/
theorem barsP_none : ∀ {l : List ByteArray}, (∀ t ∈ l, t ≠ barB) → barsP l = [l]
  | [], _ => rfl
  | x :: r, h => by rw [barsP, if_neg (h x (by simp)), barsP_none fun t ht => h t (by simp [ht])]
theorem barsP_app {r : List ByteArray} : ∀ {a : List ByteArray}, (∀ t ∈ a, t ≠ barB) → barsP (a ++ barB :: r) = a :: barsP r
  | [], _ => by rw [List.nil_append, barsP, if_pos rfl]
  | x :: a, h => by rw [List.cons_append, barsP, if_neg (h x (by simp)), barsP_app fun t ht => h t (by simp [ht])]
def grpV (v : Vr) : List ByteArray := splitS (quoteB v.ws) ++ splitS (bracesB v.sg)
theorem quote_toks {l : List ByteArray} (h : ∀ s ∈ l, wordB s = true) : ∀ t ∈ splitS (quoteB l), opensB t = false ∧ t ≠ barB := by
  intro t ht
  unfold quoteB at ht
  split at ht
  · have e : splitS noneB = [noneB] := split_word (by decide)
    rw [e, List.mem_singleton] at ht
    subst ht
    exact ⟨by decide +kernel, by decide +kernel⟩
  · rename_i hl
    rw [split_joinW (fun s hs => brc_32 (word_brc (h s hs))) (fun e => hl (by rw [e]; rfl))] at ht
    exact ⟨brc_opens (word_brc (h t ht)), brc_bar (word_brc (h t ht))⟩
theorem grp_bar {pl : Int} {v : Vr} (h : VrOk pl v) : ∀ t ∈ grpV v, t ≠ barB := by
  intro t ht
  rcases List.mem_append.1 ht with ht | ht
  · exact (quote_toks h.ws t ht).2
  · exact ((brace_tok h.sg).2 t ht).2
theorem oneV_toks (v : Vr) : (oneV v).flatMap splitS = grpV v := by simp [oneV, grpV]
theorem bars_vars {pl : Int} : ∀ (r : List Vr) (v : Vr), (∀ u ∈ v :: r, VrOk pl u) → barsP ((varsV (v :: r)).flatMap splitS) = (v :: r).map grpV
  | [], v, h => by
    rw [varsV, List.flatMap_nil, List.append_nil, oneV_toks, barsP_none (grp_bar (h v (by simp)))]; rfl
  | u :: r, v, h => by
    have ih := bars_vars r u fun x hx => h x (by simp [hx])
    have e : (varsV (v :: u :: r)).flatMap splitS = grpV v ++ barB :: (varsV (u :: r)).flatMap splitS := by
      have hb : splitS barB = [barB] := split_word (by decide)
      rw [varsV, List.flatMap_append, oneV_toks, List.flatMap_cons, List.flatMap_append, List.flatMap_cons, hb, oneV_toks, varsV, List.flatMap_append, oneV_toks]
      rfl
    rw [e, barsP_app (grp_bar (h v (by simp))), ih]; rfl
theorem mem_join_le {l : List ByteArray} {x : ByteArray} (h : x ∈ l) : x.size ≤ (joinB l).size := by
  have e : (joinB l).size = (Lib.join (l.map (·.data.toList)) [32]).length := rfl
  rw [e]
  clear e
  induction l with
  | nil => cases h
  | cons y r ih =>
    have hy : y.data.toList.length = y.size := rfl
    rw [List.map_cons, Lib.join_cons, List.length_append]
    rcases List.mem_cons.1 h with rfl | h
    · omega
    · have := ih h
      cases r with
      | nil => cases h
      | cons z r =>
        rw [List.map_cons, Lib.join_cons, List.length_append] at this
        rw [List.map_cons, Lib.joinTail, List.map_cons, List.flatten_cons, List.length_append, List.length_append]
        rw [Lib.joinTail] at this
        omega
theorem grp_back {pl : Int} {v : Vr} (h : VrOk pl v) (hq : (quoteB v.ws).size ≤ 65536) : vrB (grpV v) = true ∧ vrP (grpV v) = v := by
  obtain ⟨⟨x, r, hx, ho⟩, _⟩ := brace_tok h.sg
  have hQ := quote_back h.ws h.wl hq
  have hS := sig_back h.sg
  have hI : openI (grpV v) = ((splitS (quoteB v.ws)).length : Int) := by
    unfold openI grpV
    rw [hx]
    exact fIdx_app x r (fun t ht => (quote_toks h.ws t ht).1) ho
  have e1 : (grpV v).take (openI (grpV v)).toNat = splitS (quoteB v.ws) := by rw [hI, Int.toNat_natCast]; exact List.take_left
  have e2 : (grpV v).drop (openI (grpV v)).toNat = splitS (bracesB v.sg) := by rw [hI, Int.toNat_natCast]; exact List.drop_left
  have hj : joinB (splitS (quoteB v.ws)) = quoteB v.ws := joinB_split _
  constructor
  · unfold vrB
    rw [e1, e2, hj, hQ.1, hS.1, hI]
    simp
  · unfold vrP
    rw [e1, e2, hj, hQ.2, hS.2, if_neg (by rw [hI]; omega)]
/-- The tokens ahead of the ]. -/
def supT (x : Nt) : List ByteArray := if x.pos = true then splitS (bracesB x.sup) else []
def lemT (x : Nt) : List ByteArray := if x.pl = 4 then [] else splitS (printT x.lf x.ll x.ln)
theorem front_toks {x : Nt} (h : NtOk x) : (frontL x).flatMap splitS = spanB x.fr x.to_ :: (lemT x ++ (signsB x.pl ++ supT x)) := by
  have h1 := (span_tok (a := x.fr) (b := x.to_) (by have := h.f1; omega) (by have := h.f1; have := h.f2; omega)).1
  have h2 := (sign_tok x.pl).1
  unfold frontL lemT supT
  rw [List.flatMap_append, List.flatMap_append, List.flatMap_append, h2, List.flatMap_cons, h1]
  have e1 : (if x.pl = 4 then [] else [printT x.lf x.ll x.ln] : List ByteArray).flatMap splitS = if x.pl = 4 then [] else splitS (printT x.lf x.ll x.ln) := by split <;> simp
  have e2 : (if x.pos = true then [bracesB x.sup] else [] : List ByteArray).flatMap splitS = if x.pos = true then splitS (bracesB x.sup) else [] := by split <;> simp
  rw [e1, e2]; rfl
theorem pre_tok {x : Nt} (h : NtOk x) : ∀ t ∈ lemT x ++ signsB x.pl, Tok t := by
  intro t ht
  rcases List.mem_append.1 ht with ht | ht
  · unfold lemT at ht
    split at ht
    · cases ht
    · rename_i hp
      exact (lem_tok (h.lm hp)).1 t ht
  · exact (sign_tok x.pl).2 t ht
theorem front_beh {x : Nt} (h : NtOk x) : ∀ t ∈ (frontL x).flatMap splitS, t ≠ behB := by
  rw [front_toks h]
  intro t ht
  rcases List.mem_cons.1 ht with rfl | ht
  · exact (span_tok (a := x.fr) (b := x.to_) (by have := h.f1; omega) (by have := h.f1; have := h.f2; omega)).2.2
  · rw [← List.append_assoc] at ht
    rcases List.mem_append.1 ht with ht | ht
    · exact (pre_tok h t ht).2
    · unfold supT at ht
      split at ht
      · exact ((brace_tok h.sp).2 t ht).1
      · cases ht
theorem toks_prN {x : Nt} (_h : NtOk x) : splitS (prN x) = (frontL x).flatMap splitS ++ behB :: (varsV x.vs).flatMap splitS := by
  unfold prN partsN
  rw [split_join_any (by simp), List.flatMap_append, List.flatMap_append, List.flatMap_singleton, show splitS behB = [behB] from split_word (by decide)]; rfl
theorem own_front {x : Nt} (h : NtOk x) : ownP ((frontL x).flatMap splitS) = lemT x ++ signsB x.pl ∧ supB ((frontL x).flatMap splitS) = x.pos ∧ supL ((frontL x).flatMap splitS) = x.sup ∧ supOk ((frontL x).flatMap splitS) = true := by
  have hr : restP ((frontL x).flatMap splitS) = (lemT x ++ signsB x.pl) ++ supT x := by unfold restP; rw [front_toks h, List.append_assoc]; rfl
  cases hp : x.pos with
  | false =>
    have hs : supT x = [] := by unfold supT; rw [hp]; rfl
    have hi : openI (restP ((frontL x).flatMap splitS)) = -1 := by
      rw [hr, hs, List.append_nil]
      exact fIdx_none _ _ fun t ht => (pre_tok h t ht).1
    unfold ownP supB supL supOk
    rw [hi, hr, hs, h.ps hp]
    simp
  | true =>
    have hs : supT x = splitS (bracesB x.sup) := by unfold supT; rw [hp]; rfl
    obtain ⟨⟨y, r, hy, ho⟩, _⟩ := brace_tok h.sp
    have hS := sig_back h.sp
    have hi : openI (restP ((frontL x).flatMap splitS)) = ((lemT x ++ signsB x.pl).length : Int) := by
      rw [hr, hs, hy]
      exact fIdx_app y r (fun t ht => (pre_tok h t ht).1) ho
    have e1 : (restP ((frontL x).flatMap splitS)).take (openI (restP ((frontL x).flatMap splitS))).toNat = lemT x ++ signsB x.pl := by rw [hi, hr, Int.toNat_natCast]; exact List.take_left
    have e2 : (restP ((frontL x).flatMap splitS)).drop (openI (restP ((frontL x).flatMap splitS))).toNat = splitS (bracesB x.sup) := by rw [hi, hr, hs, Int.toNat_natCast]; exact List.drop_left
    unfold ownP supB supL supOk
    rw [e1, e2, hS.1, hS.2, if_neg (by rw [hi]; omega), if_neg (by rw [hi]; omega), hi]
    simp; omega
theorem getD_snoc (a : List ByteArray) (x d : ByteArray) : (a ++ [x]).getD ((a ++ [x]).length - 1) d = x := by simp
theorem plc_front {x : Nt} (h : NtOk x) : plcI (lemT x ++ signsB x.pl) = x.pl ∧ lemP (lemT x ++ signsB x.pl) = lemT x := by
  have h1 := h.p1
  have h4 := h.p4
  have hcase : x.pl = 1 ∨ x.pl = 2 ∨ x.pl = 3 ∨ x.pl = 4 := by omega
  have hsg : ∀ (y : ByteArray) (p : Int), signsB x.pl = [y] → (y = plusB ∧ p = 2 ∨ y = minB ∧ p = 3 ∨ y = starB ∧ p = 4) → plcI (lemT x ++ signsB x.pl) = p ∧ lemP (lemT x ++ signsB x.pl) = lemT x := by
    intro y p hy hc
    have e : plcI (lemT x ++ signsB x.pl) = p := by
      unfold plcI
      rw [hy, if_neg (by simp), getD_snoc]
      rcases hc with ⟨rfl, rfl⟩ | ⟨rfl, rfl⟩ | ⟨rfl, rfl⟩
      · rw [if_pos rfl]
      · rw [if_neg (by decide +kernel), if_pos rfl]
      · rw [if_neg (by decide +kernel), if_neg (by decide +kernel), if_pos rfl]
    refine ⟨e, ?_⟩
    unfold lemP
    rw [e, if_neg (by omega), hy]
    simp
  rcases hcase with hp | hp | hp | hp
  · have hs : signsB x.pl = [] := by rw [hp]; rfl
    have hl : lemT x = splitS (printT x.lf x.ll x.ln) := by unfold lemT; rw [if_neg (by omega)]
    obtain ⟨_, hne, hlast⟩ := lem_tok (h.lm (by omega))
    have hd := hlast ⟨#[]⟩
    rw [← hl] at hne hd
    have e : plcI (lemT x ++ signsB x.pl) = 1 := by
      unfold plcI
      rw [hs, List.append_nil, if_neg (fun e => hne (List.eq_nil_of_length_eq_zero e)), if_neg hd.1, if_neg hd.2.1, if_neg hd.2.2]
    refine ⟨by rw [e, hp], ?_⟩
    unfold lemP
    rw [e, if_pos rfl, hs, List.append_nil]
  · rw [hp] at hsg ⊢; exact hsg plusB 2 rfl (.inl ⟨rfl, rfl⟩)
  · rw [hp] at hsg ⊢; exact hsg minB 3 rfl (.inr (.inl ⟨rfl, rfl⟩))
  · rw [hp] at hsg ⊢; exact hsg starB 4 rfl (.inr (.inr ⟨rfl, rfl⟩))
theorem hd_front {x : Nt} (h : NtOk x) (hz : (printT x.lf x.ll x.ln).size ≤ 65536) : hdB ((frontL x).flatMap splitS) = true ∧ hdP ((frontL x).flatMap splitS) = { x with vs := [] } := by
  obtain ⟨e1, e2, e3, e4⟩ := own_front h
  obtain ⟨e5, e6⟩ := plc_front h
  have hf := h.f1
  have ht := h.f2
  have h3 := h.f3
  have hg : ((frontL x).flatMap splitS).getD 0 ⟨#[]⟩ = spanB x.fr x.to_ := by rw [front_toks h]; rfl
  obtain ⟨q1, q2, q3⟩ := line_back (a := x.fr) (b := x.to_) (by omega) (by omega) (by omega) (by omega)
  have hL : hdLm ((frontL x).flatMap splitS) = ⟨x.lf, x.ll, x.ln, 0⟩ := by
    unfold hdLm
    rw [e1, e5, e6]
    by_cases hp : x.pl = 4
    · obtain ⟨a, b, c⟩ := h.no hp
      rw [if_pos hp, a, b, c]; rfl
    · rw [if_neg hp]
      have hj : joinB (lemT x) = printT x.lf x.ll x.ln := by
        unfold lemT
        rw [if_neg hp]; exact joinB_split _
      rw [hj]
      exact parse_print43 (h.lm hp) hz
  constructor
  · unfold hdB
    rw [hg, q1, e4, hL, e1, e5, e6]
    by_cases hp : x.pl = 4
    · have : lemT x = [] := by unfold lemT; rw [if_pos hp]
      rw [if_pos hp, this]; rfl
    · rw [if_neg hp]; rfl
  · unfold hdP
    rw [hg, q2, q3, e1, e2, e3, e5, hL]
theorem vars_mem {l : List Vr} {v : Vr} (h : v ∈ l) : quoteB v.ws ∈ varsV l := by
  cases l with
  | nil => cases h
  | cons a r =>
    rcases List.mem_cons.1 h with rfl | h
    · simp [varsV, oneV]
    · unfold varsV
      refine List.mem_append_right _ (List.mem_flatMap.2 ⟨v, h, ?_⟩)
      simp [oneV]
/-- P45.2, the first half, plainly. -/
theorem par_print {x : Nt} (h : prE x = 0) : okP (prN x) = true ∧ noteP (prN x) = x := by
  have hE := h
  unfold prE at h
  split at h
  · rename_i h0
    split at h
    · cases h
    · rename_i hz
      have hN := note_ok h0
      have ht := toks_prN hN
      have hI : endI (splitS (prN x)) = (((frontL x).flatMap splitS).length : Int) := by
        unfold endI
        rw [ht]
        exact fIdx_app _ _ (fun t h => decide_eq_false (front_beh hN t h)) (decide_eq_true rfl)
      have hfr : frP (prN x) = (frontL x).flatMap splitS := by
        unfold frP
        rw [hI, Int.toNat_natCast, ht]; exact List.take_left
      have hlen : 0 < ((frontL x).flatMap splitS).length := by rw [front_toks hN]; simp
      obtain ⟨v, r, hv⟩ := List.exists_cons_of_ne_nil hN.v0
      have hg : grpsP (prN x) = x.vs.map grpV := by
        unfold grpsP
        rw [hI, Int.toNat_natCast, ht]
        have e : ((frontL x).flatMap splitS ++ behB :: (varsV x.vs).flatMap splitS).drop (((frontL x).flatMap splitS).length + 1) = (varsV x.vs).flatMap splitS := drop_app1 _ _ _
        rw [e, hv]
        exact bars_vars r v (by rw [← hv]; exact hN.vs)
      have hpt : (printT x.lf x.ll x.ln).size ≤ 65536 := by
        by_cases hp : x.pl = 4
        · obtain ⟨a, b, c⟩ := hN.no hp
          rw [a, b, c]; decide +kernel
        · have : (printT x.lf x.ll x.ln) ∈ partsN x := by
            unfold partsN frontL
            rw [if_neg hp]; simp
          have := mem_join_le this
          have e : (joinB (partsN x)).size = (prN x).size := rfl
          omega
      obtain ⟨hh, hp⟩ := hd_front hN hpt
      have hall : ∀ u ∈ x.vs, vrB (grpV u) = true ∧ vrP (grpV u) = u := fun u hu => by
        refine grp_back (hN.vs u hu) ?_
        have hm : quoteB u.ws ∈ partsN x := by
          unfold partsN
          exact List.mem_append_right _ (List.mem_append_right _ (vars_mem hu))
        have := mem_join_le hm
        have e : (joinB (partsN x)).size = (prN x).size := rfl
        omega
      have hnote : noteP (prN x) = x := by
        unfold noteP
        rw [hfr, hp, hg, List.map_map]
        have : x.vs.map (vrP ∘ grpV) = x.vs := by
          rw [List.map_congr_left (f := vrP ∘ grpV) (g := id) fun u hu => (hall u hu).2]; simp
        rw [this]
      refine ⟨?_, hnote⟩
      unfold okP
      rw [hnote, hE, hfr, hh, hI, hg]
      have ha : (x.vs.map grpV).all vrB = true := by
        rw [List.all_eq_true]
        intro g hg
        obtain ⟨u, hu, rfl⟩ := List.mem_map.1 hg
        exact (hall u hu).1
      have hl2 : (0 : Int) < (((frontL x).flatMap splitS).length : Int) := by omega
      rw [ha, decide_eq_true hl2]
      simp
  · rename_i h0; exact absurd h h0
theorem par_ok {s : ByteArray} (h : parI s = 0) : prE (parN s) = 0 ∧ prN (parN s) = s := by
  unfold parI at h
  split at h
  · rename_i ho
    unfold parN
    rw [if_pos ho]
    unfold okP at ho
    simp only [Bool.and_eq_true, decide_eq_true_eq] at ho
    exact ho.2.2.2
  · split at h <;> cases h
/-- What a parser that ends with 'the text of what was read is the string' reads. -/
theorem par_uniq {s : ByteArray} {x : Nt} (h : prE x = 0) (hs : prN x = s) : parI s = 0 ∧ parN s = x := by
  subst hs
  obtain ⟨h1, h2⟩ := par_print h
  unfold parI parN
  rw [if_pos h1, if_pos h1]
  exact ⟨rfl, h2⟩
end Go.Proofs.YtjhdeoniafahbaaGreatDoor
