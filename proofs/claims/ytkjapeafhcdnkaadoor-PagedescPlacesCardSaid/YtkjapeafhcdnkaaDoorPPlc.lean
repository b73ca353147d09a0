/-
  The law PagedescPlaces: the walk.
-/
import Derived.Test.YtkjapeafhcdnkaaDoorAwk53
import Derived.Test.YtkjapeafhcdnkaaDoorGrt53
import Derived.Test.YtkjapeafhcdnkaaDoorOvl
import Derived.Test.YtkjapeafhcdnkaaDoorROv
import Derived.Test.YtkjapeafhcdnkaaDoorRBn
import Derived.Test.YtkjapeafhcdnkaaDoorRMv
import Derived.Test.YtkjapeafhcdnkaaDoorSame53
namespace Go.Proofs.YtkjapeafhcdnkaaDoor
open Go.RowKit

def ovRes (h : Int) (p : Pg) : List (Nat × Nat) × Int := if pgI p = 0 then if lenB h = true then (ovAll h p.bx p.bx.length, 0) else ([], 2) else ([], 1)
def OvR (r : List (Nat × Nat) × Int) (w : World) (e : Ending) (w' : World) : Prop := ∃ u, e = .returned (.tuple #[u, .int .i64 r.2]) ∧ RdP w' u r.1 ∧ Below w.heap.size w w'
theorem overlapU (p : Pg) (v : Value) (h : Int) (w : World) (hr : RdB w v p.bx) (hz : SzB p.bx) : Calls Tryd.prog 29 #[.agg #[.int .i64 p.num, v], .int .i64 h] w fun e w' => OvR (ovRes h p) w e w' := by
  unfold ovRes
  by_cases hg : pgI p = 0
  · rw [if_pos hg]
    cases hh : lenB h with
    | true => rw [if_pos rfl]; exact overlap_yes p v h w hr hz hg hh
    | false =>
      rw [if_neg (by simp)]
      refine (overlap_far p v h w hr hz hg hh).mono ?_
      rintro e w' ⟨rfl, hB⟩
      exact ⟨_, rfl, RdP.nil _, hB⟩
  · rw [if_neg hg]
    refine (overlap_bad p v h w hr hz hg).mono ?_
    rintro e w' ⟨rfl, hB⟩
    exact ⟨_, rfl, RdP.nil _, hB⟩
theorem roverlapU (p : Pg) (v : Value) (h : Int) (w : World) (hr : RdB w v p.bx) (hz : SzB p.bx) : Calls Tryd.prog 38 #[.agg #[.int .i64 p.num, v], .int .i64 h] w fun e w' => OvR (ovRes h p) w e w' := by
  unfold ovRes
  by_cases hg : pgI p = 0
  · rw [if_pos hg]
    cases hh : lenB h with
    | true => rw [if_pos rfl]; exact roverlap_yes p v h w hr hz hg hh
    | false => rw [if_neg (by simp)]; exact roverlap_far p v h w hr hz hg hh
  · rw [if_neg hg]; exact roverlap_bad p v h w hr hz hg
def bnRes (p : Pg) : Int × Int × Int × Int × Int :=
  if pgI p = 0 then match p.bx[0]? with | none => (0, 0, 0, 0, 5) | some b0 => (fX b0.x p.bx, fY b0.y p.bx, fR (b0.x + b0.wd) p.bx, fD b0.y p.bx, 0) else (0, 0, 0, 0, 1)
def bnV (r : Int × Int × Int × Int × Int) : Value := .tuple #[.int .i64 r.1, .int .i64 r.2.1, .int .i64 r.2.2.1, .int .i64 r.2.2.2.1, .int .i64 r.2.2.2.2]
theorem boundsU (p : Pg) (v : Value) (w : World) (hr : RdB w v p.bx) (hz : SzB p.bx) : Calls Tryd.prog 21 #[.agg #[.int .i64 p.num, v]] w fun e w' => e = .returned (bnV (bnRes p)) ∧ Below w.heap.size w w' := by
  unfold bnRes
  by_cases hg : pgI p = 0
  · rw [if_pos hg]
    cases h0 : p.bx[0]? with
    | none =>
      have hn : p.bx = [] := by cases hb : p.bx with | nil => rfl | cons a r => rw [hb] at h0; cases h0
      exact bounds_none p v w hr hz hg hn
    | some b0 => exact bounds_yes p b0 v w hr hz hg h0
  · rw [if_neg hg]; exact bounds_bad p v w hr hz hg
theorem rboundsU (p : Pg) (v : Value) (w : World) (hr : RdB w v p.bx) (hz : SzB p.bx) : Calls Tryd.prog 39 #[.agg #[.int .i64 p.num, v]] w fun e w' => e = .returned (bnV (bnRes p)) ∧ Below w.heap.size w w' := by
  unfold bnRes
  by_cases hg : pgI p = 0
  · rw [if_pos hg]
    cases h0 : p.bx[0]? with
    | none =>
      have hn : p.bx = [] := by cases hb : p.bx with | nil => rfl | cons a r => rw [hb] at h0; cases h0
      exact rbounds_none p v w hr hz hg hn
    | some b0 => exact rbounds_yes p b0 v w hr hz hg h0
  · rw [if_neg hg]; exact rbounds_bad p v w hr hz hg
def mvRes (dx dy : Int) (p : Pg) : Pg × Int :=
  if pgI p = 0 then if mvFar dx dy = true then (⟨0, []⟩, 2) else if p.bx.all (mvOk dx dy) = true then (⟨p.num, p.bx.map (mvB dx dy)⟩, 0) else (⟨0, []⟩, 2) else (⟨0, []⟩, 1)
def MvU (r : Pg × Int) (w : World) (e : Ending) (w' : World) : Prop := ∃ u, e = .returned (.tuple #[.agg #[.int .i64 r.1.num, u], .int .i64 r.2]) ∧ RdB w' u r.1.bx ∧ Below w.heap.size w w'
theorem moveU (p : Pg) (v : Value) (dx dy : Int) (w : World) (hr : RdB w v p.bx) (hz : SzB p.bx) : Calls Tryd.prog 40 #[.agg #[.int .i64 p.num, v], .int .i64 dx, .int .i64 dy] w fun e w' => MvU (mvRes dx dy p) w e w' := by
  unfold mvRes
  by_cases hg : pgI p = 0
  · rw [if_pos hg]
    cases hf : mvFar dx dy with
    | true =>
      rw [if_pos rfl]
      refine (move_far p v dx dy w hr hz hg hf).mono ?_
      rintro e w' ⟨rfl, hB⟩
      exact ⟨_, rfl, RdB.nil _, hB⟩
    | false =>
      rw [if_neg (by simp)]
      refine (move_yes p v dx dy w hr hz hg hf).mono ?_
      rintro e w' hm
      cases ha : p.bx.all (mvOk dx dy) with
      | true => rw [if_pos rfl]; exact hm.1 ha
      | false =>
        rw [if_neg (by simp)]
        obtain ⟨rfl, hB⟩ := hm.2 ha
        exact ⟨_, rfl, RdB.nil _, hB⟩
  · rw [if_neg hg]
    refine (move_bad p v dx dy w hr hz hg).mono ?_
    rintro e w' ⟨rfl, hB⟩
    exact ⟨_, rfl, RdB.nil _, hB⟩
theorem rmoveU (p : Pg) (v : Value) (dx dy : Int) (w : World) (hr : RdB w v p.bx) (hz : SzB p.bx) : Calls Tryd.prog 41 #[.agg #[.int .i64 p.num, v], .int .i64 dx, .int .i64 dy] w fun e w' => MvU (mvRes dx dy p) w e w' := by
  unfold mvRes
  by_cases hg : pgI p = 0
  · rw [if_pos hg]
    cases hf : mvFar dx dy with
    | true =>
      rw [if_pos rfl]
      refine (rmove_far p v dx dy w hr hz hg hf).mono ?_
      rintro e w' ⟨rfl, hB⟩
      exact ⟨_, rfl, RdB.nil _, hB⟩
    | false =>
      rw [if_neg (by simp)]
      refine (rmove_yes p v dx dy w hr hz hg hf).mono ?_
      rintro e w' hm
      cases ha : p.bx.all (mvOk dx dy) with
      | true => rw [if_pos rfl]; exact hm.1 ha
      | false =>
        rw [if_neg (by simp)]
        obtain ⟨rfl, hB⟩ := hm.2 ha
        exact ⟨_, rfl, RdB.nil _, hB⟩
  · rw [if_neg hg]
    refine (rmove_bad p v dx dy w hr hz hg).mono ?_
    rintro e w' ⟨rfl, hB⟩
    exact ⟨_, rfl, RdB.nil _, hB⟩

set_option maxRecDepth 100000 in
set_option maxHeartbeats 4000000 in
theorem pplaces_any (p : Pg) (v : Value) (ht dx dy m : Int) (w : World) (he : Env w) (hm : w.cell? ⟨0, 0, none⟩ = some (.int .i64 m)) (hr : RdB w v p.bx) (hz : SzB p.bx) :
    Calls Tryd.prog 9 #[.agg #[.int .i64 p.num, v], .int .i64 ht, .int .i64 dx, .int .i64 dy] w fun e w' => e = .returned (.bool true) ∧ Below w.heap.size w w' := by
  have AW := fun w' (h : Below w.heap.size w w') => hid (awake53_any m w' (he.below h) (Below.keeps h _ _ hm))
  have hb1 := below_al w (.cells #[.int .i64 p.num, v] 34)
  have hro := hid (row_nw w #[.int .i64 p.num, v] 34 rfl)
  obtain ⟨ad, cap, rfl, hlc, hcm, hcell⟩ := hr.open
  have hb2 := below_tr hb1 (below_al (w.alloc (.cells #[.int .i64 p.num, .slice ad p.bx.length cap] 34)) (.cells #[.int .i64 p.num, .slice ad p.bx.length cap] 34))
  have hrg : Row _ (w.heap.size + 1) #[.int .i64 p.num, .slice ad p.bx.length cap] 34 := row_nw (w.alloc (.cells #[.int .i64 p.num, .slice ad p.bx.length cap] 34)) #[.int .i64 p.num, .slice ad p.bx.length cap] 34 (by simp)
  have HRG := hid hrg
  have hro2 := hid (hro.out.al (.cells #[.int .i64 p.num, .slice ad p.bx.length cap] 34))
  have HR := hid hr
  have O1 := fun w' (h : Below w.heap.size w w') => hid (overlapU p _ ht w' (HR.out.below h) hz)
  have O2 := fun w' (h : Below w.heap.size w w') => hid (roverlapU p _ ht w' (HR.out.below h) hz)
  have N1 := fun w' (h : Below w.heap.size w w') => hid (boundsU p _ w' (HR.out.below h) hz)
  have N2 := fun w' (h : Below w.heap.size w w') => hid (rboundsU p _ w' (HR.out.below h) hz)
  have M1 := fun w' (h : Below w.heap.size w w') => hid (moveU p _ dx dy w' (HR.out.below h) hz)
  have M2 := fun w' (h : Below w.heap.size w w') => hid (rmoveU p _ dx dy w' (HR.out.below h) hz)
  generalize ovRes ht p = ov at *
  generalize bnRes p = bn at *
  generalize mvRes dx dy p = mv at *
  obtain ⟨L, c1⟩ := ov
  obtain ⟨X, Y, R, D, c2⟩ := bn
  obtain ⟨Q, c3⟩ := mv
  simp only [bnV] at N1 N2
  clear hrg he hm hcell hro hr
  go_enter Tryd.func9, Tryd.ntmps9
  go_wp2_with fail
  generalize (w.alloc (.cells #[.int .i64 p.num, .slice ad p.bx.length cap] 34)).alloc (.cells #[.int .i64 p.num, .slice ad p.bx.length cap] 34) = w1 at *
  have hpg : RdPg w1 (.slice (some ⟨w.heap.size + 1, 0, none⟩) 1 1) [p] := rdPg_one (HRG.out.cell 0 rfl) (HRG.out.cell 1 rfl) (HR.out.below hb2)
  have HGR := great53_any _ [p] w1 hpg (fun q hq => by
    have : q = p := by simpa using hq
    rw [this]; exact hz)
  refine HGR.mono ?_
  clear HGR hb1
  rintro e w2 ⟨⟨b, rfl, _⟩, rfl⟩
  have p0 := hro2.out.cell 0 rfl
  have p1 := hro2.out.cell 1 rfl
  cases b with
  | true =>
    go_wp2_with fail
    refine (AW _ hb2).out.mono ?_
    rintro e w3 ⟨rfl, hB3⟩
    go_wp2
    go_ret
    exact ⟨rfl, below_tr hb2 hB3⟩
  | false =>
    have K1 := O1 _ hb2
    clear O1 HRG hpg
    go_wp2_with fail
    refine K1.out.mono ?_
    rintro e w3 ⟨u3, rfl, hu3, hB3⟩
    have hb3 := below_tr hb2 hB3
    have hro3 := hid (hro2.out.below hB3)
    have K2 := O2 _ hb3
    have HU3 := hid hu3
    clear p0 p1 K1 O2 hu3 hB3 hb2 hro2
    have p0 := hro3.out.cell 0 rfl
    have p1 := hro3.out.cell 1 rfl
    go_wp2_with fail
    refine K2.out.mono ?_
    rintro e w4 ⟨u4, rfl, hu4, hB4⟩
    have hb4 := below_tr hb3 hB4
    have hro4 := hid (hro3.out.below hB4)
    have HU34 := hid (HU3.out.below hB4)
    have HU4 := hid hu4
    have K3 := N1 _ hb4
    clear p0 p1 K2 N1 hu4 hB4 hb3 hro3 HU3
    have p0 := hro4.out.cell 0 rfl
    have p1 := hro4.out.cell 1 rfl
    go_wp2_with fail
    refine K3.out.mono ?_
    rintro e w5 ⟨rfl, hB5⟩
    have hb5 := below_tr hb4 hB5
    have hro5 := hid (hro4.out.below hB5)
    have HU35 := hid (HU34.out.below hB5)
    have HU45 := hid (HU4.out.below hB5)
    have K4 := N2 _ hb5
    clear p0 p1 K3 N2 hB5 hb4 hro4 HU34 HU4
    have p0 := hro5.out.cell 0 rfl
    have p1 := hro5.out.cell 1 rfl
    go_wp2_with fail
    refine K4.out.mono ?_
    rintro e w6 ⟨rfl, hB6⟩
    have hb6 := below_tr hb5 hB6
    have hro6 := hid (hro5.out.below hB6)
    have HU36 := hid (HU35.out.below hB6)
    have HU46 := hid (HU45.out.below hB6)
    have K5 := M1 _ hb6
    clear p0 p1 K4 M1 hB6 hb5 hro5 HU35 HU45
    have p0 := hro6.out.cell 0 rfl
    have p1 := hro6.out.cell 1 rfl
    go_wp2_with fail
    refine K5.out.mono ?_
    rintro e w7 ⟨u7, rfl, hu7, hB7⟩
    obtain ⟨a7, k7, rfl, hlc7, hcm7, _⟩ := hu7.open
    have hbP := below_al w7 (.cells #[.int .i64 Q.num, .slice a7 Q.bx.length k7] 34)
    have hb8 := below_tr (below_tr hb6 hB7) hbP
    have hro8 := hid (hro6.out.below (below_tr hB7 hbP))
    have HU38 := hid (HU36.out.below (below_tr hB7 hbP))
    have HU48 := hid (HU46.out.below (below_tr hB7 hbP))
    have HV8 := hid (hu7.below hbP)
    have hrS8 := hid (row_nw w7 #[.int .i64 Q.num, .slice a7 Q.bx.length k7] 34 rfl)
    have K6 := M2 _ hb8
    clear p0 p1 K5 M2 hB7 hb6 hro6 HU36 HU46 hbP hu7
    have p0 := hro8.out.cell 0 rfl
    have p1 := hro8.out.cell 1 rfl
    go_wp2_with fail
    generalize w7.alloc (.cells #[.int .i64 Q.num, .slice a7 Q.bx.length k7] 34) = w8 at *
    generalize w7.heap.size = S at *
    refine K6.out.mono ?_
    rintro e w9 ⟨u9, rfl, hu9, hB9⟩
    obtain ⟨a9, k9, rfl, hlc9, hcm9, _⟩ := hu9.open
    have hbP := below_al w9 (.cells #[.int .i64 Q.num, .slice a9 Q.bx.length k9] 34)
    have hbA := below_tr (below_tr hb8 hB9) hbP
    have HU3A := hid (HU38.out.below (below_tr hB9 hbP))
    have HU4A := hid (HU48.out.below (below_tr hB9 hbP))
    have HVA := hid (HV8.out.below (below_tr hB9 hbP))
    have HWA := hid (hu9.below hbP)
    have hrSA := hid (hrS8.out.below (below_tr hB9 hbP))
    have hrTA := hid (row_nw w9 #[.int .i64 Q.num, .slice a9 Q.bx.length k9] 34 rfl)
    have K7 := hid (sameT_any _ _ _ _ HU3A.out HU4A.out)
    clear p0 p1 K6 hB9 hb8 hro8 HU38 HU48 hbP hu9 HV8 hrS8
    go_wp2_with fail
    generalize w9.alloc (.cells #[.int .i64 Q.num, .slice a9 Q.bx.length k9] 34) = wA at *
    generalize w9.heap.size = T at *
    refine K7.out.mono ?_
    rintro e wB ⟨rfl, hBB⟩
    have hbB := below_tr hbA hBB
    have hrSB := hid (hrSA.out.below hBB)
    have hrTB := hid (hrTA.out.below hBB)
    have HVB := hid (HVA.out.below hBB)
    have HWB := hid (HWA.out.below hBB)
    have s0 := hrSB.out.cell 0 rfl
    have s1 := hrSB.out.cell 1 rfl
    have hrTC := hid (hrTB.out.al (.cells #[.int .i64 Q.num, .slice a7 Q.bx.length k7] 34))
    have t0 := hrTC.out.cell 0 rfl
    have t1 := hrTC.out.cell 1 rfl
    have hbC := below_tr (below_al wB (.cells #[.int .i64 Q.num, .slice a7 Q.bx.length k7] 34)) (below_al _ (.cells #[.int .i64 Q.num, .slice a9 Q.bx.length k9] 34))
    have hrX := (row_nw wB #[.int .i64 Q.num, .slice a7 Q.bx.length k7] 34 rfl).al (.cells #[.int .i64 Q.num, .slice a9 Q.bx.length k9] 34)
    have hrY := row_nw (wB.alloc (.cells #[.int .i64 Q.num, .slice a7 Q.bx.length k7] 34)) #[.int .i64 Q.num, .slice a9 Q.bx.length k9] 34 (n := wB.heap.size + 1) (by simp)
    have HSM := hid (samePg_any _ _ [Q] _ (rdPg_one (p := Q) (hrX.cell 0 rfl) (hrX.cell 1 rfl) (HVB.out.below hbC)) (rdPg_one (p := Q) (hrY.cell 0 rfl) (hrY.cell 1 rfl) (HWB.out.below hbC)))
    have HBC := hid (below_tr hbB hbC)
    clear K7 hBB hbB hbA HU3A HU4A HVA HWA hrSA hrTA hrX hrY hbC HVB HWB hrTB hrSB
    go_wp2_with fail
    refine HSM.out.mono ?_
    rintro e wD ⟨rfl, hBD⟩
    have HA := AW _ (below_tr HBC.out hBD)
    have HBD := hid (below_tr HBC.out hBD)
    clear HSM s0 s1 t0 t1 hBD
    go_wp2_with fail
    refine HA.out.mono ?_
    rintro e wE ⟨rfl, hBE⟩
    go_wp2
    go_ret
    exact ⟨rfl, below_tr HBD.out hBE⟩
end Go.Proofs.YtkjapeafhcdnkaaDoor
