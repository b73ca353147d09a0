/-
  The reference's Print, and Occurrences of both, whatever the words. Printed by genrpr.py.
-/
import Derived.Test.YtmbehkanhefcpaaGreatDoorLTxt
import Derived.Test.YtmbehkanhefcpaaGreatDoorRWrd
import Derived.Test.YtmbehkanhefcpaaGreatDoorOccs
import Derived.Test.YtmbehkanhefcpaaGreatDoorROcc
namespace Go.Proofs.YtmbehkanhefcpaaGreatDoor
open Go.RowKit

set_option maxRecDepth 100000 in
set_option maxHeartbeats 1000000 in
theorem rprint_any (f l : ByteArray) (n : Int) (w : World) (he : Env w) (hf : f.size ≤ 65536) (hl : l.size ≤ 65536) (hck : lemCk f l n = 0) :
    Calls Tryz.prog 7 #[.agg #[.string f, .string l, .int .i64 n]] w fun e w' => e = .returned (.tuple #[.string (printT f l n), .int .i64 0]) ∧ Below w.heap.size w w' := by
  have hb0 := below_al w (.cells #[.string f, .string l, .int .i64 n] 23)
  have hr0 := row_nw w #[.string f, .string l, .int .i64 n] 23 rfl
  have HC := hid (rlck_any f l n (w.alloc (.cells #[.string f, .string l, .int .i64 n] 23)) (he.below hb0) hf hl)
  rw [hck] at HC
  have hnb := lck_bounds hck
  have HIT := fun w' (h : Below w.heap.size w w') => hid (itoa_b n w' (he.below h) (by omega) (by omega))
  have hIS := itoaB_size hnb.1 hnb.2
  have hE := ba_isE l
  have HP : Hid (printT f l n = (if n = 0 then (if l.size = 0 then f else f ++ (⟨#[32, 43, 32]⟩ ++ l)) else (if l.size = 0 then f else f ++ (⟨#[32, 43, 32]⟩ ++ l)) ++ (⟨#[35]⟩ ++ itoaB n))) := rfl
  clear hck
  by_cases hl0 : l.size = 0
  all_goals by_cases hn0 : n = 0
  · rw [decide_eq_true hl0] at hE
    have HP2 : Hid (printT f l n = f) := by unfold Hid; rw [HP.out, if_pos hn0, if_pos hl0]
    clear HP hl0
    subst hn0
    go_enter Tryz.func7, Tryz.ntmps7
    go_wp2_with fail
    refine HC.out.mono ?_
    rintro e w1 ⟨rfl, hB1⟩
    have hr1 := hr0.below hB1
    have c0 := hr1.cell 0 rfl
    have c1 := hr1.cell 1 rfl
    have c2 := hr1.cell 2 rfl
    go_wp2
    go_ret2
    exact ⟨by rw [HP2.out]; first | rfl | (simp only [ByteArray.append_assoc]; rfl), below_tr hb0 hB1⟩
  · rw [decide_eq_true hl0] at hE
    have hn1 : 0 < n := by omega
    have HP2 : Hid (printT f l n = f ++ (⟨#[35]⟩ ++ itoaB n)) := by unfold Hid; rw [HP.out, if_neg hn0, if_pos hl0]
    clear HP hl0
    go_enter Tryz.func7, Tryz.ntmps7
    go_wp2_with fail
    refine HC.out.mono ?_
    rintro e w1 ⟨rfl, hB1⟩
    have hr1 := hr0.below hB1
    have c0 := hr1.cell 0 rfl
    have c1 := hr1.cell 1 rfl
    have c2 := hr1.cell 2 rfl
    go_wp2_with fail
    refine (HIT _ (below_tr hb0 hB1)).out.mono ?_
    rintro e w2 ⟨rfl, hB2⟩
    go_wp2
    go_ret2
    exact ⟨by rw [HP2.out]; first | rfl | (simp only [ByteArray.append_assoc]; rfl), below_tr (below_tr hb0 hB1) hB2⟩
  · rw [decide_eq_false hl0] at hE
    have HP2 : Hid (printT f l n = f ++ (⟨#[32, 43, 32]⟩ ++ l)) := by unfold Hid; rw [HP.out, if_pos hn0, if_neg hl0]
    clear HP hl0
    subst hn0
    go_enter Tryz.func7, Tryz.ntmps7
    go_wp2_with fail
    refine HC.out.mono ?_
    rintro e w1 ⟨rfl, hB1⟩
    have hr1 := hr0.below hB1
    have c0 := hr1.cell 0 rfl
    have c1 := hr1.cell 1 rfl
    have c2 := hr1.cell 2 rfl
    go_wp2
    go_ret2
    exact ⟨by rw [HP2.out]; first | rfl | (simp only [ByteArray.append_assoc]; rfl), below_tr hb0 hB1⟩
  · rw [decide_eq_false hl0] at hE
    have hn1 : 0 < n := by omega
    have HP2 : Hid (printT f l n = (f ++ (⟨#[32, 43, 32]⟩ ++ l)) ++ (⟨#[35]⟩ ++ itoaB n)) := by unfold Hid; rw [HP.out, if_neg hn0, if_neg hl0]
    clear HP hl0
    go_enter Tryz.func7, Tryz.ntmps7
    go_wp2_with fail
    refine HC.out.mono ?_
    rintro e w1 ⟨rfl, hB1⟩
    have hr1 := hr0.below hB1
    have c0 := hr1.cell 0 rfl
    have c1 := hr1.cell 1 rfl
    have c2 := hr1.cell 2 rfl
    go_wp2_with fail
    refine (HIT _ (below_tr hb0 hB1)).out.mono ?_
    rintro e w2 ⟨rfl, hB2⟩
    go_wp2
    go_ret2
    exact ⟨by rw [HP2.out]; first | rfl | (simp only [ByteArray.append_assoc]; rfl), below_tr (below_tr hb0 hB1) hB2⟩

set_option maxRecDepth 100000 in
set_option maxHeartbeats 1000000 in
theorem rprintE_any (f l : ByteArray) (n : Int) (w : World) (he : Env w) (hf : f.size ≤ 65536) (hl : l.size ≤ 65536) (hck : lemCk f l n ≠ 0) :
    Calls Tryz.prog 7 #[.agg #[.string f, .string l, .int .i64 n]] w fun e w' => e = .returned (.tuple #[.string ⟨#[]⟩, .int .i64 (lemCk f l n)]) ∧ Below w.heap.size w w' := by
  have hb0 := below_al w (.cells #[.string f, .string l, .int .i64 n] 23)
  have HC := hid (rlck_any f l n (w.alloc (.cells #[.string f, .string l, .int .i64 n] 23)) (he.below hb0) hf hl)
  have hcb : (lemCk f l n == 0) = false := beq_eq_false_iff_ne.2 hck
  generalize lemCk f l n = ck at *
  go_enter Tryz.func7, Tryz.ntmps7
  go_wp2_with fail
  refine HC.out.mono ?_
  rintro e w1 ⟨rfl, hB1⟩
  go_wp2
  go_ret2
  exact ⟨rfl, below_tr hb0 hB1⟩

/-- The error of Occurrences. -/
def occE (ws : List ByteArray) (f l : ByteArray) : Int := if lcheckI ws = 0 then lemCk f l 0 else lcheckI ws
theorem lck0 (f l : ByteArray) : lemCk f l 0 = if (!wordB f || (decide (l.size ≠ 0) && !wordB l)) = true then 11 else 0 := by
  unfold lemCk
  split
  · rfl
  · rw [if_neg (by omega)]
theorem RdP.mt (W : World) : RdP W (.slice none 0 0) [] := rdP_of (n₀ := 0) (base := 0) (World.ownsRow_nil _ _ _ _) (fun i p h => by simp at h)
/-- What is told of both. -/
def OccR (ws : List ByteArray) (f l : ByteArray) (w : World) (e : Ending) (w' : World) : Prop := ∃ u, e = .returned (.tuple #[u, .int .i64 (occE ws f l)]) ∧ RdP w' u (if occE ws f l = 0 then occ ws f l else []) ∧ Below w.heap.size w w'
theorem occR_no {ws : List ByteArray} {f l : ByteArray} {w w' : World} {x : Int} (h : occE ws f l = x) (h0 : x ≠ 0) (hB : Below w.heap.size w w') : OccR ws f l w (.returned (.tuple #[.slice none 0 0, .int .i64 x])) w' := by
  refine ⟨_, by rw [h], ?_, hB⟩
  rw [h, if_neg h0]; exact RdP.mt _

set_option maxRecDepth 100000 in
set_option maxHeartbeats 2000000 in
theorem occR_any (ws : List ByteArray) (f l : ByteArray) (v : Value) (w : World) (he : Env w) (hr : RdS w v ws) (hz : ∀ s ∈ ws, s.size ≤ 65536) (hf : f.size ≤ 65536) (hl : l.size ≤ 65536) (hlen : lcheckI ws = 0 → ws.length ≤ 13) :
    Calls Tryz.prog 10 #[v, .string f, .string l] w fun e w' => OccR ws f l w e w' := by
  by_cases hck : lcheckI ws = 0
  · by_cases hlk : lemCk f l 0 = 0
    · have hE : occE ws f l = 0 := by unfold occE; rw [if_pos hck, hlk]
      refine (occs_any ws f l v w he hr hz hf hl (hlen hck) hck hlk).mono ?_
      rintro e w' ⟨u, rfl, h2, h3⟩
      exact ⟨u, by rw [hE], by rw [if_pos hE]; exact h2, h3⟩
    · have hE : occE ws f l = lemCk f l 0 := by unfold occE; rw [if_pos hck]
      have HE := hid hE
      have HNE := hid hlk
      have hb0 := below_tr (below_al w (.cells #[.slice none 0 0] 32)) (below_al _ (.cells #[.int .i64 0] 27))
      have hr0 := (row_nw w #[.slice none 0 0] 32 rfl).al (.cells #[.int .i64 0] 27)
      have hr1 := row_nw (w.alloc (.cells #[.slice none 0 0] 32)) #[.int .i64 0] 27 (n := w.heap.size + 1) (by simp)
      have HCK := hid (lcheck_any v ws _ (he.below hb0) (hr.below hb0) hz)
      have HLK := fun w' (h : Below w.heap.size w w') => hid (lck_any f l 0 w' (he.below h) hf hl)
      rw [hck] at HCK
      have hcb : (lemCk f l 0 != 0) = true := bne_iff_ne.2 hlk
      generalize lemCk f l 0 = ck at *
      obtain ⟨ad, cap, rfl, hlc, hcm, _⟩ := hr.open
      clear hck hlk hE hr
      go_enter Tryz.func10, Tryz.ntmps10
      go_wp2_with fail
      refine HCK.out.mono ?_
      rintro e w2 ⟨rfl, hB1⟩
      have hb2 := below_tr hb0 hB1
      go_wp2_with fail
      refine (HLK _ hb2).out.mono ?_
      rintro e w3 ⟨rfl, hB3⟩
      have hra := (hr0.below hB1).below hB3
      have hrb := (hr1.below hB1).below hB3
      have x1 := hra.cell 0 rfl
      have x2 := hrb.cell 0 rfl
      have x3 := hra.frozen 0
      have x4 := hrb.frozen 0
      have z0 := ((hra.set 0 (.slice none 0 0)).other ⟨w.heap.size + 1, 0, none⟩ (.int .i64 ck) (by simp)).cell 0 rfl
      have z1 := ((hrb.other ⟨w.heap.size, 0, none⟩ (.slice none 0 0) (by simp)).set 0 (.int .i64 ck)).cell 0 rfl
      have HBF := hid (((below_tr hb2 hB3).setCell (p := ⟨w.heap.size, 0, none⟩) (Nat.le_refl _) (.slice none 0 0)).setCell (p := ⟨w.heap.size + 1, 0, none⟩) (by simp) (.int .i64 ck))
      clear hb0 hr0 hr1 hB1 hb2 hB3 HCK HLK
      go_wp2_with fail
      exact bodyPost_ret (v := .tuple #[.slice none 0 0, .int .i64 ck]) (by simp [results, Tryz.f10, go_sem, z0, z1]) rfl (occR_no HE.out HNE.out HBF.out)
  · have hE : occE ws f l = lcheckI ws := by unfold occE; rw [if_neg hck]
    have HE := hid hE
    have HNE := hid hck
    have hb0 := below_tr (below_al w (.cells #[.slice none 0 0] 32)) (below_al _ (.cells #[.int .i64 0] 27))
    have hr0 := (row_nw w #[.slice none 0 0] 32 rfl).al (.cells #[.int .i64 0] 27)
    have hr1 := row_nw (w.alloc (.cells #[.slice none 0 0] 32)) #[.int .i64 0] 27 (n := w.heap.size + 1) (by simp)
    have HCK := hid (lcheck_any v ws _ (he.below hb0) (hr.below hb0) hz)
    have hcb : (lcheckI ws != 0) = true := bne_iff_ne.2 hck
    generalize lcheckI ws = ck at *
    obtain ⟨ad, cap, rfl, hlc, hcm, _⟩ := hr.open
    clear hck hE hr
    go_enter Tryz.func10, Tryz.ntmps10
    go_wp2_with fail
    refine HCK.out.mono ?_
    rintro e w2 ⟨rfl, hB1⟩
    have hra := hr0.below hB1
    have hrb := hr1.below hB1
    have x1 := hra.cell 0 rfl
    have x2 := hrb.cell 0 rfl
    have x3 := hra.frozen 0
    have x4 := hrb.frozen 0
    have z0 := ((hra.set 0 (.slice none 0 0)).other ⟨w.heap.size + 1, 0, none⟩ (.int .i64 ck) (by simp)).cell 0 rfl
    have z1 := ((hrb.other ⟨w.heap.size, 0, none⟩ (.slice none 0 0) (by simp)).set 0 (.int .i64 ck)).cell 0 rfl
    have HBF := hid (((below_tr hb0 hB1).setCell (p := ⟨w.heap.size, 0, none⟩) (Nat.le_refl _) (.slice none 0 0)).setCell (p := ⟨w.heap.size + 1, 0, none⟩) (by simp) (.int .i64 ck))
    clear hb0 hr0 hr1 hB1 HCK
    go_wp2_with fail
    exact bodyPost_ret (v := .tuple #[.slice none 0 0, .int .i64 ck]) (by simp [results, Tryz.f10, go_sem, z0, z1]) rfl (occR_no HE.out HNE.out HBF.out)

set_option maxRecDepth 100000 in
set_option maxHeartbeats 2000000 in
theorem roccR_any (ws : List ByteArray) (f l : ByteArray) (v : Value) (w : World) (he : Env w) (hr : RdS w v ws) (hz : ∀ s ∈ ws, s.size ≤ 65536) (hf : f.size ≤ 65536) (hl : l.size ≤ 65536) (hlen : lcheckI ws = 0 → ws.length ≤ 13) :
    Calls Tryz.prog 11 #[v, .string f, .string l] w fun e w' => OccR ws f l w e w' := by
  have HCK := hid (rcheckW_any v ws w he hr hz)
  have HE0 := fun w' (h : Below w.heap.size w w') => hid (he.below h)
  have HR := hid hr
  have HOC : Hid (occE ws f l = if lcheckI ws = 0 then lemCk f l 0 else lcheckI ws) := rfl
  have HL0 := hid (lck0 f l)
  obtain ⟨ad, cap, rfl, hlc, hcm, _⟩ := hr.open
  by_cases hck : lcheckI ws = 0
  · have HF := fun w' (h : Below w.heap.size w w') => hid (rwd_any f w' (he.below h) hf)
    have HLw := fun w' (h : Below w.heap.size w w') => hid (rwd_any l w' (he.below h) hl)
    have hls := hlen hck
    have HOW := fun w' (h : Below w.heap.size w w') => hid (rocc_any ws f l (.slice ad ws.length cap) w' (hr.below h) hls)
    have hol := occ_len hls f l
    have HC0 := hid hck
    have hEl := ba_isE l
    rw [hck] at HCK
    clear hck hlen hls hr he
    cases hwf : wordB f with
    | false =>
      have HX : Hid (occE ws f l = 11) := by show _ = _; rw [HOC.out, if_pos HC0.out, HL0.out, hwf]; rfl
      rw [hwf] at HF
      clear HL0 HOC HC0 hwf
      go_enter Tryz.func11, Tryz.ntmps11
      go_wp2_with fail
      refine HCK.out.mono ?_
      rintro e w1 ⟨rfl, hB1⟩
      go_wp2_with fail
      refine (HF _ hB1).out.mono ?_
      rintro e w2 ⟨rfl, hB2⟩
      go_wp2
      go_ret2
      exact occR_no HX.out (by decide) (below_tr hB1 hB2)
    | true =>
      rw [hwf] at HF
      by_cases hl0 : l.size = 0
      · rw [decide_eq_true hl0] at hEl
        have HX : Hid (occE ws f l = 0) := by show _ = _; rw [HOC.out, if_pos HC0.out, HL0.out, hwf, decide_eq_false (by omega)]; rfl
        clear HL0 HOC HC0 hwf hl0
        go_enter Tryz.func11, Tryz.ntmps11
        go_wp2_with fail
        refine HCK.out.mono ?_
        rintro e w1 ⟨rfl, hB1⟩
        go_wp2_with fail
        refine (HF _ hB1).out.mono ?_
        rintro e w2 ⟨rfl, hB2⟩
        have HO := HOW _ (below_tr hB1 hB2)
        go_wp2_with fail
        refine HO.out.mono ?_
        rintro e w3 ⟨u, rfl, hu, hB3⟩
        obtain ⟨au, cu, rfl, hlu, hmu, _⟩ := hu.open
        have hlt : ¬ (65536 : Int) < ((occ ws f l).length : Int) := by omega
        go_wp2
        go_ret2
        exact ⟨_, by rw [HX.out]; rfl, by rw [HX.out]; exact hu, below_tr (below_tr hB1 hB2) hB3⟩
      · rw [decide_eq_false hl0] at hEl
        cases hwl : wordB l with
        | false =>
          have HX : Hid (occE ws f l = 11) := by show _ = _; rw [HOC.out, if_pos HC0.out, HL0.out, hwf, hwl, decide_eq_true (by omega)]; rfl
          rw [hwl] at HLw
          clear HL0 HOC HC0 hwf hl0 hwl
          go_enter Tryz.func11, Tryz.ntmps11
          go_wp2_with fail
          refine HCK.out.mono ?_
          rintro e w1 ⟨rfl, hB1⟩
          go_wp2_with fail
          refine (HF _ hB1).out.mono ?_
          rintro e w2 ⟨rfl, hB2⟩
          have HLx := HLw _ (below_tr hB1 hB2)
          go_wp2_with fail
          refine HLx.out.mono ?_
          rintro e w3 ⟨rfl, hB3⟩
          go_wp2
          go_ret2
          exact occR_no HX.out (by decide) (below_tr (below_tr hB1 hB2) hB3)
        | true =>
          have HX : Hid (occE ws f l = 0) := by show _ = _; rw [HOC.out, if_pos HC0.out, HL0.out, hwf, hwl, decide_eq_true (by omega)]; rfl
          rw [hwl] at HLw
          clear HL0 HOC HC0 hwf hl0 hwl
          go_enter Tryz.func11, Tryz.ntmps11
          go_wp2_with fail
          refine HCK.out.mono ?_
          rintro e w1 ⟨rfl, hB1⟩
          go_wp2_with fail
          refine (HF _ hB1).out.mono ?_
          rintro e w2 ⟨rfl, hB2⟩
          have HLx := HLw _ (below_tr hB1 hB2)
          go_wp2_with fail
          refine HLx.out.mono ?_
          rintro e w3 ⟨rfl, hB3⟩
          have HO := HOW _ (below_tr (below_tr hB1 hB2) hB3)
          go_wp2_with fail
          refine HO.out.mono ?_
          rintro e w4 ⟨u, rfl, hu, hB4⟩
          obtain ⟨au, cu, rfl, hlu, hmu, _⟩ := hu.open
          have hlt : ¬ (65536 : Int) < ((occ ws f l).length : Int) := by omega
          go_wp2
          go_ret2
          exact ⟨_, by rw [HX.out]; rfl, by rw [HX.out]; exact hu, below_tr (below_tr (below_tr hB1 hB2) hB3) hB4⟩
  · have HX : Hid (occE ws f l = lcheckI ws) := by show _ = _; rw [HOC.out, if_neg hck]
    have HNE := hid hck
    have hcb : (lcheckI ws != 0) = true := bne_iff_ne.2 hck
    clear hck HOC HL0 hlen hr HR
    generalize lcheckI ws = ck at *
    go_enter Tryz.func11, Tryz.ntmps11
    go_wp2_with fail
    refine HCK.out.mono ?_
    rintro e w1 ⟨rfl, hB1⟩
    go_wp2
    go_ret2
    exact occR_no HX.out HNE.out hB1
end Go.Proofs.YtmbehkanhefcpaaGreatDoor
