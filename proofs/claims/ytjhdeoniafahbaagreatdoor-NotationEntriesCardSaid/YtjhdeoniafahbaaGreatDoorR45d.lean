/-
  The reference's Of.
-/
import Derived.Test.YtjhdeoniafahbaaGreatDoorR45b
import Derived.Test.YtjhdeoniafahbaaGreatDoorR45c
import Derived.Test.YtjhdeoniafahbaaGreatDoorR45w
import Derived.Test.YtjhdeoniafahbaaGreatDoorROf
import Derived.Test.YtjhdeoniafahbaaGreatDoorJ08
namespace Go.Proofs.YtjhdeoniafahbaaGreatDoor
open Go.RowKit

theorem cells9 {W : World} {B : Nat} {t : TypeId} {c0 c1 c2 c3 c4 c5 c6 c7 c8 : Value} (h : Row W B #[c0, c1, c2, c3, c4, c5, c6, c7, c8] t) : W.cell? ⟨B, 0, none⟩ = some c0 ∧ W.cell? ⟨B, 1, none⟩ = some c1 ∧ W.cell? ⟨B, 2, none⟩ = some c2 ∧ W.cell? ⟨B, 3, none⟩ = some c3 ∧
    W.cell? ⟨B, 4, none⟩ = some c4 ∧ W.cell? ⟨B, 5, none⟩ = some c5 ∧ W.cell? ⟨B, 6, none⟩ = some c6 ∧ W.cell? ⟨B, 7, none⟩ = some c7 ∧ W.cell? ⟨B, 8, none⟩ = some c8 := ⟨h.cell 0 rfl, h.cell 1 rfl, h.cell 2 rfl, h.cell 3 rfl, h.cell 4 rfl, h.cell 5 rfl, h.cell 6 rfl, h.cell 7 rfl, h.cell 8 rfl⟩
theorem free9 {W : World} {B : Nat} {t : TypeId} {cs : Array Value} (h : Row W B cs t) : W.frozen? ⟨B, 0, none⟩ = false ∧ W.frozen? ⟨B, 1, none⟩ = false ∧ W.frozen? ⟨B, 2, none⟩ = false ∧ W.frozen? ⟨B, 3, none⟩ = false ∧ W.frozen? ⟨B, 4, none⟩ = false ∧ W.frozen? ⟨B, 5, none⟩ = false ∧
    W.frozen? ⟨B, 6, none⟩ = false ∧ W.frozen? ⟨B, 7, none⟩ = false ∧ W.frozen? ⟨B, 8, none⟩ = false := ⟨h.frozen 0, h.frozen 1, h.frozen 2, h.frozen 3, h.frozen 4, h.frozen 5, h.frozen 6, h.frozen 7, h.frozen 8⟩
theorem cells6 {W : World} {B : Nat} {t : TypeId} {c0 c1 c2 c3 c4 c5 : Value} (h : Row W B #[c0, c1, c2, c3, c4, c5] t) : W.cell? ⟨B, 0, none⟩ = some c0 ∧ W.cell? ⟨B, 1, none⟩ = some c1 ∧ W.cell? ⟨B, 2, none⟩ = some c2 ∧ W.cell? ⟨B, 3, none⟩ = some c3 ∧
    W.cell? ⟨B, 4, none⟩ = some c4 ∧ W.cell? ⟨B, 5, none⟩ = some c5 := ⟨h.cell 0 rfl, h.cell 1 rfl, h.cell 2 rfl, h.cell 3 rfl, h.cell 4 rfl, h.cell 5 rfl⟩
theorem free6 {W : World} {B : Nat} {t : TypeId} {cs : Array Value} (h : Row W B cs t) : W.frozen? ⟨B, 0, none⟩ = false ∧ W.frozen? ⟨B, 1, none⟩ = false ∧ W.frozen? ⟨B, 2, none⟩ = false ∧ W.frozen? ⟨B, 3, none⟩ = false ∧ W.frozen? ⟨B, 4, none⟩ = false ∧ W.frozen? ⟨B, 5, none⟩ = false := ⟨h.frozen 0, h.frozen 1, h.frozen 2, h.frozen 3, h.frozen 4, h.frozen 5⟩
/-- The entry, the result's cells, the note that is built. -/
structure RfM (x : En) (u s : Value) (w : World) (B : Nat) (y : Nt) (W : World) : Prop where
  os : OfS x u s w W
  row : Row W B (y.cells u s) 30
theorem RfM.below {x : En} {u s : Value} {w W W' : World} {B : Nat} {y : Nt} (h : RfM x u s w B y W) (hb : Below W.heap.size W W') : RfM x u s w B y W' := ⟨h.os.below hb, h.row.below hb⟩
theorem RfM.al {x : En} {u s : Value} {w W : World} {B : Nat} {y : Nt} (h : RfM x u s w B y W) (o : Obj) : RfM x u s w B y (W.alloc o) := h.below (below_al W o)
theorem RfM.drew {x : En} {u s : Value} {w W : World} {B : Nat} {y : Nt} (h : RfM x u s w B y W) : RfM x u s w B y W.drew := h.below (Below.refl _ _).drew
theorem RfM.put {x : En} {u s : Value} {w W : World} {B : Nat} {y : Nt} (h : RfM x u s w B y W) (hB : w.heap.size + 2 ≤ B) (i : Nat) (c : Value) (y' : Nt) (hN : (y.cells u s).setIfInBounds i c = y'.cells u s) : RfM x u s w B y' (W.setCell ⟨B, i, none⟩ c) :=
  ⟨h.os.set _ _ hB, by rw [← hN]; exact h.row.set i c⟩
theorem RfM.put2 {x : En} {u s : Value} {w W : World} {B : Nat} {a b p : Int} {pos : Bool} {sup : List ByteArray} {vs : List Vr} (h : RfM x u s w B ⟨1, 1, p, ⟨#[]⟩, ⟨#[]⟩, 0, pos, sup, vs⟩ W) (hB : w.heap.size + 2 ≤ B) :
    RfM x u s w B ⟨a, b, p, ⟨#[]⟩, ⟨#[]⟩, 0, pos, sup, vs⟩ ((W.setCell ⟨B, 0, none⟩ (.int .i64 a)).setCell ⟨B, 1, none⟩ (.int .i64 b)) :=
  (h.put hB 0 (.int .i64 a) ⟨a, 1, p, ⟨#[]⟩, ⟨#[]⟩, 0, pos, sup, vs⟩ rfl).put hB 1 (.int .i64 b) ⟨a, b, p, ⟨#[]⟩, ⟨#[]⟩, 0, pos, sup, vs⟩ rfl

set_option maxRecDepth 100000 in
set_option maxHeartbeats 16000000 in
theorem rOf_any (ls la : List Int) (ws : List ByteArray) (x : En) (v1 v2 v3 u s : Value) (w : World) (he : Env w) (h1 : RdI w v1 ls) (h2 : RdI w v2 la) (h3 : RdS w v3 ws) (hE : RdE w u s x)
    (hz : Sz16 ws) (hzE : SzE x) (hlen : ws.length ≤ 13) :
    Calls Tryz.prog 16 #[v1, v2, v3, .agg (x.cells u s)] w fun r w' => OfQ (ofAN ls la ws x) (ofAI ls la ws x) w r w' := by
  have HE := fun w' (h : Below w.heap.size w w') => hid (he.below h)
  have HRD := fun w' (h : Below w.heap.size w w') => hid (hE.below h)
  have HB0 := hid (below_tr (below_al w (.cells (x.cells u s) 26)) (below_al _ (.cells zeroN 30)))
  have HOS : Hid (OfS x u s w ((w.alloc (.cells (x.cells u s) 26)).alloc (.cells zeroN 30))) :=
    ⟨(row_nw w (x.cells u s) 26 rfl).al _, by
      have := row_nw (w.alloc (.cells (x.cells u s) 26)) zeroN 30 rfl
      rw [show (w.alloc (.cells (x.cells u s) 26)).heap.size = w.heap.size + 1 by simp] at this
      exact this, HB0.out⟩
  have HLI := hid (rlists_any v1 v2 v3 ls la ws _ (h1.below HB0.out) (h2.below HB0.out) (h3.below HB0.out))
  have HIA : Hid (ofAI ls la ws x = if listsI ls la ws.length = 0 then ofI ls la ws x else listsI ls la ws.length) := rfl
  have HNA : Hid (ofAN ls la ws x = if ofAI ls la ws x = 0 then ofN ls la ws x else nt00) := rfl
  have HI : Hid (ofI ls la ws x = if x.fr < 0 ∨ x.to_ < x.fr ∨ (ws.length : Int) < x.to_ then 2
    else if (ofPl x.fr x.to_ ws.length).1 ≠ 4 ∧ (ofLm ls la ws (ofPl x.fr x.to_ ws.length).2.1 (ofPl x.fr x.to_ ws.length).2.2).2.2.2 ≠ 0 then (ofLm ls la ws (ofPl x.fr x.to_ ws.length).2.1 (ofPl x.fr x.to_ ws.length).2.2).2.2.2
    else nteI (ofN ls la ws x)) := rfl
  have HCH : ∀ (B : Nat) (nf nt np : Int) (lf ll : ByteArray) (ln : Int) {W : World}, RfM x u s w B ⟨nf, nt, np, lf, ll, ln, x.pos, x.sup, x.vs⟩ W → SzN ⟨nf, nt, np, lf, ll, ln, x.pos, x.sup, x.vs⟩ →
      Calls Tryz.prog 34 #[.agg #[.int .i64 nf, .int .i64 nt, .int .i64 np, .string lf, .string ll, .int .i64 ln, .bool x.pos, u, s]] W fun e w' => e = .returned (.int .i64 (nteI ⟨nf, nt, np, lf, ll, ln, x.pos, x.sup, x.vs⟩)) ∧ Below W.heap.size W w' :=
    fun B nf nt np lf ll ln W h hz => rchk_any ⟨nf, nt, np, lf, ll, ln, x.pos, x.sup, x.vs⟩ u s W (HE _ h.os.bel).out ⟨(HRD _ h.os.bel).out.rs, (HRD _ h.os.bel).out.rv⟩ hz
  obtain ⟨a1, c1, rfl, hq1, hm1, hC1⟩ := h1.open
  obtain ⟨a2, c2, rfl, hq2, hm2, hC2⟩ := h2.open
  obtain ⟨a3, c3, rfl, hq3, hm3, _⟩ := h3.open
  have HC1 := hid hC1
  have HC2 := hid hC2
  obtain ⟨au, cu, rfl, hqu, hmu, _⟩ := hE.rs.open
  obtain ⟨av, cv, rfl, hqv, hmv, _⟩ := hE.rv.open
  have HZE := hid hzE
  clear he hE hC1 hC2 hzE
  generalize x.sup.length = nu at *
  generalize x.vs.length = nv at *
  unfold En.cells zeroN at HB0 HOS HLI
  unfold En.cells
  by_cases k0 : listsI ls la ws.length = 0
  · obtain ⟨hl1, hl2, _⟩ := lists_len k0
    have HL1 := hid hl1
    have HL2b := hid hl2
    have HIB : Hid (ofAI ls la ws x = ofI ls la ws x) := by show _ = _; rw [HIA.out, if_pos k0]
    have HWD : ∀ (a b : Int) (w' : World), Below w.heap.size w w' → Hid (Calls Tryz.prog 40 #[.slice a1 ls.length c1, .slice a3 ws.length c3, .int .i64 a, .int .i64 b] w' fun e w'' => ∃ r, e = .returned (.tuple #[r, .int .i64 (wAt ls a b)]) ∧ RdS w'' r (wWs ls ws a b) ∧ Below w'.heap.size w' w'') := fun a b w' h => by
      have h4 := rwindow_any _ _ ls ws a b w' (h1.below h) (h3.below h) hl1 (by omega)
      rw [winF_eq k0] at h4
      exact h4
    rw [k0] at HLI
    clear h1 h2 h3 hl1 hl2 HIA k0
    by_cases k3 : x.fr < 0 ∨ x.to_ < x.fr ∨ (ws.length : Int) < x.to_
    · have HF : Hid (∀ W', Below w.heap.size w W' → OfQ (ofAN ls la ws x) (ofAI ls la ws x) w (.returned (.tuple #[.agg (nt00.cells (.slice none 0 0) (.slice none 0 0)), .int .i64 2])) W') := fun W' hb => by
        have hI2 : ofAI ls la ws x = 2 := by rw [HIB.out, HI.out, if_pos k3]
        have hN2 : ofAN ls la ws x = nt00 := by rw [HNA.out, hI2, if_neg (by decide)]
        exact ⟨none, 0, 0, none, 0, 0, by rw [hN2, hI2], by rw [hN2]; exact rdN_zero _, hb⟩
      clear HI HIB HWD HL1 HL2b
      by_cases j1 : x.fr < 0
      · clear k3
        go_enter Tryz.func16, Tryz.ntmps16
        go_wp2_with fail
        (with_reducible refine HLI.out.mono ?_)
        rintro e w3 ⟨rfl, hB3⟩
        have HOS3 := hid (HOS.out.below hB3)
        clear hB3 HLI HOS HB0
        have e1 := HOS3.out.ent.cell 1 (x := .int .i64 x.fr) rfl
        have e2 := HOS3.out.ent.cell 2 (x := .int .i64 x.to_) rfl
        obtain ⟨r0, r1, r2, r3, r4, r5, r6, r7, r8⟩ := cells9 HOS3.out.res
        obtain ⟨g0, g1, g2, g3, g4, g5, g6, g7, g8⟩ := free9 HOS3.out.res
        go_wp2_with fail
        have q := row9 HOS3.out.res (.int .i64 0) (.int .i64 0) (.int .i64 0) (.string ⟨#[]⟩) (.string ⟨#[]⟩) (.int .i64 0) (.bool false) (.slice none 0 0) (.slice none 0 0)
        have hb := zsets_bel HOS3.out.bel
        obtain ⟨z0, z1, z2, z3, z4, z5, z6, z7, z8⟩ := cells9 q
        exact bodyPost_ret (v := .tuple #[.agg (nt00.cells (.slice none 0 0) (.slice none 0 0)), .int .i64 2]) (by simp [results, Tryz.f16, go_sem, Nt.cells, nt00, z0, z1, z2, z3, z4, z5, z6, z7, z8]) rfl (HF.out _ hb)
      by_cases j2 : x.to_ < x.fr
      · clear k3
        go_enter Tryz.func16, Tryz.ntmps16
        go_wp2_with fail
        (with_reducible refine HLI.out.mono ?_)
        rintro e w3 ⟨rfl, hB3⟩
        have HOS3 := hid (HOS.out.below hB3)
        clear hB3 HLI HOS HB0
        have e1 := HOS3.out.ent.cell 1 (x := .int .i64 x.fr) rfl
        have e2 := HOS3.out.ent.cell 2 (x := .int .i64 x.to_) rfl
        obtain ⟨r0, r1, r2, r3, r4, r5, r6, r7, r8⟩ := cells9 HOS3.out.res
        obtain ⟨g0, g1, g2, g3, g4, g5, g6, g7, g8⟩ := free9 HOS3.out.res
        go_wp2_with fail
        have q := row9 HOS3.out.res (.int .i64 0) (.int .i64 0) (.int .i64 0) (.string ⟨#[]⟩) (.string ⟨#[]⟩) (.int .i64 0) (.bool false) (.slice none 0 0) (.slice none 0 0)
        have hb := zsets_bel HOS3.out.bel
        obtain ⟨z0, z1, z2, z3, z4, z5, z6, z7, z8⟩ := cells9 q
        exact bodyPost_ret (v := .tuple #[.agg (nt00.cells (.slice none 0 0) (.slice none 0 0)), .int .i64 2]) (by simp [results, Tryz.f16, go_sem, Nt.cells, nt00, z0, z1, z2, z3, z4, z5, z6, z7, z8]) rfl (HF.out _ hb)
      · have j3 : (ws.length : Int) < x.to_ := by omega
        clear k3
        go_enter Tryz.func16, Tryz.ntmps16
        go_wp2_with fail
        (with_reducible refine HLI.out.mono ?_)
        rintro e w3 ⟨rfl, hB3⟩
        have HOS3 := hid (HOS.out.below hB3)
        clear hB3 HLI HOS HB0
        have e1 := HOS3.out.ent.cell 1 (x := .int .i64 x.fr) rfl
        have e2 := HOS3.out.ent.cell 2 (x := .int .i64 x.to_) rfl
        obtain ⟨r0, r1, r2, r3, r4, r5, r6, r7, r8⟩ := cells9 HOS3.out.res
        obtain ⟨g0, g1, g2, g3, g4, g5, g6, g7, g8⟩ := free9 HOS3.out.res
        go_wp2_with fail
        have q := row9 HOS3.out.res (.int .i64 0) (.int .i64 0) (.int .i64 0) (.string ⟨#[]⟩) (.string ⟨#[]⟩) (.int .i64 0) (.bool false) (.slice none 0 0) (.slice none 0 0)
        have hb := zsets_bel HOS3.out.bel
        obtain ⟨z0, z1, z2, z3, z4, z5, z6, z7, z8⟩ := cells9 q
        exact bodyPost_ret (v := .tuple #[.agg (nt00.cells (.slice none 0 0) (.slice none 0 0)), .int .i64 2]) (by simp [results, Tryz.f16, go_sem, Nt.cells, nt00, z0, z1, z2, z3, z4, z5, z6, z7, z8]) rfl (HF.out _ hb)
    have j1 : ¬ x.fr < 0 := by omega
    have j2 : ¬ x.to_ < x.fr := by omega
    have j3 : ¬ (ws.length : Int) < x.to_ := by omega
    have HIO : Hid (ofAI ls la ws x = if (ofPl x.fr x.to_ ws.length).1 ≠ 4 ∧ (ofLm ls la ws (ofPl x.fr x.to_ ws.length).2.1 (ofPl x.fr x.to_ ws.length).2.2).2.2.2 ≠ 0 then (ofLm ls la ws (ofPl x.fr x.to_ ws.length).2.1 (ofPl x.fr x.to_ ws.length).2.2).2.2.2
      else nteI (ofN ls la ws x)) := by show _ = _; rw [HIB.out, HI.out, if_neg k3]
    clear HI HIB k3
    go_enter Tryz.func16, Tryz.ntmps16
    go_wp2_with fail
    (with_reducible refine HLI.out.mono ?_)
    rintro e w3 ⟨rfl, hB3⟩
    have HOS3 := hid (HOS.out.below hB3)
    clear hB3 HLI HOS HB0
    have e0 := HOS3.out.ent.cell 0 (x := .int .i64 x.ly) rfl
    have e1 := HOS3.out.ent.cell 1 (x := .int .i64 x.fr) rfl
    have e2 := HOS3.out.ent.cell 2 (x := .int .i64 x.to_) rfl
    have e3 := HOS3.out.ent.cell 3 (x := .bool x.pos) rfl
    have e4 := HOS3.out.ent.cell 4 (x := .slice au nu cu) rfl
    have e5 := HOS3.out.ent.cell 5 (x := .slice av nv cv) rfl
    go_upto_region 7 with fail
    obtain ⟨B, hB⟩ : ∃ B, B = w3.heap.size := ⟨_, rfl⟩
    have hBlo : w.heap.size + 2 ≤ B := by have := HOS3.out.res.lt; omega
    have HM0 : Hid (RfM x (.slice au nu cu) (.slice av nv cv) w B ⟨1, 1, 4, ⟨#[]⟩, ⟨#[]⟩, 0, x.pos, x.sup, x.vs⟩ (w3.alloc (.cells #[.int .i64 1, .int .i64 1, .int .i64 4, .string ⟨#[]⟩, .string ⟨#[]⟩, .int .i64 0, .bool x.pos, .slice au nu cu, .slice av nv cv] 30))) := ⟨HOS3.out.al _, by rw [hB]; exact row_nw _ _ _ rfl⟩
    rw [← hB]
    generalize w3.alloc (.cells #[.int .i64 1, .int .i64 1, .int .i64 4, .string ⟨#[]⟩, .string ⟨#[]⟩, .int .i64 0, .bool x.pos, .slice au nu cu, .slice av nv cv] 30) = W3 at *
    clear e0 e1 e2 e3 e4 e5 HOS3 hB
    have e1 := HM0.out.os.ent.cell 1 (x := .int .i64 x.fr) rfl
    have e2 := HM0.out.os.ent.cell 2 (x := .int .i64 x.to_) rfl
    go_quiet (fail)
    have HM1 := hid (HM0.out.below (below_drewN (Below.refl _ _) nq))
    generalize W3.drewN nq = W2 at *
    clear HM0 e1 e2
    go_upto_block 0 with fail
    have HNPL : Hid (ofPl x.fr x.to_ ws.length = if x.fr < x.to_ then (1, x.fr, x.to_) else if 0 < x.fr then (2, x.fr - 1, x.to_) else if 0 < ws.length then (3, x.fr, 1) else (4, x.fr, x.to_)) := rfl
    go_cut [12, 13] from 56 to 71 (fun fv tv wx => ∃ (p : Int) (f t : Nat), fv = .int .i64 (f : Int) ∧ tv = .int .i64 (t : Int) ∧ Hid (ofPl x.fr x.to_ ws.length = (p, (f : Int), (t : Int))) ∧ Hid (p ≠ 4 → f < ws.length ∧ 1 ≤ t ∧ t ≤ ws.length) ∧ RfM x (.slice au nu cu) (.slice av nv cv) w B ⟨1, 1, p, ⟨#[]⟩, ⟨#[]⟩, 0, x.pos, x.sup, x.vs⟩ wx)
    case first =>
      have hm0 := HM1.out
      have d2 := hm0.row.cell 2 (x := .int .i64 4) rfl
      have f2 := hm0.row.frozen 2
      by_cases m1 : x.fr < x.to_
      · have HP : Hid (ofPl x.fr x.to_ ws.length = (1, x.fr, x.to_)) := by show _ = _; rw [HNPL.out, if_pos m1]
        have hm2 := hm0.put hBlo 2 (.int .i64 1) ⟨1, 1, 1, ⟨#[]⟩, ⟨#[]⟩, 0, x.pos, x.sup, x.vs⟩ rfl
        go_wp2_with fail
        go_meet
        exact ⟨1, x.fr.toNat, x.to_.toNat, by rw [Int.toNat_of_nonneg (by omega)], by rw [Int.toNat_of_nonneg (by omega)], by show _ = _; rw [HP.out, Int.toNat_of_nonneg (by omega), Int.toNat_of_nonneg (by omega)], fun _ => ⟨by omega, by omega, by omega⟩, hm2⟩
      by_cases m2 : 0 < x.fr
      · have HP : Hid (ofPl x.fr x.to_ ws.length = (2, x.fr - 1, x.to_)) := by show _ = _; rw [HNPL.out, if_neg m1, if_pos m2]
        have hw : IntKind.i64.wrap (x.fr - 1) = x.fr - 1 := IntWalk.i64_in _ (by omega)
        have hm2 := hm0.put hBlo 2 (.int .i64 2) ⟨1, 1, 2, ⟨#[]⟩, ⟨#[]⟩, 0, x.pos, x.sup, x.vs⟩ rfl
        go_wp2_with fail
        go_meet
        exact ⟨2, (x.fr - 1).toNat, x.to_.toNat, by rw [Int.toNat_of_nonneg (by omega)], by rw [Int.toNat_of_nonneg (by omega)], by show _ = _; rw [HP.out, Int.toNat_of_nonneg (by omega), Int.toNat_of_nonneg (by omega)], fun _ => ⟨by omega, by omega, by omega⟩, hm2⟩
      by_cases m3 : 0 < ws.length
      · have HP : Hid (ofPl x.fr x.to_ ws.length = (3, x.fr, 1)) := by show _ = _; rw [HNPL.out, if_neg m1, if_neg m2, if_pos m3]
        have m3i : (0 : Int) < (ws.length : Int) := by omega
        have hm2 := hm0.put hBlo 2 (.int .i64 3) ⟨1, 1, 3, ⟨#[]⟩, ⟨#[]⟩, 0, x.pos, x.sup, x.vs⟩ rfl
        go_wp2_with fail
        go_meet
        exact ⟨3, x.fr.toNat, 1, by rw [Int.toNat_of_nonneg (by omega)], rfl, by show _ = _; rw [HP.out, Int.toNat_of_nonneg (by omega)]; rfl, fun _ => ⟨by omega, by omega, by omega⟩, hm2⟩
      · have HP : Hid (ofPl x.fr x.to_ ws.length = (4, x.fr, x.to_)) := by show _ = _; rw [HNPL.out, if_neg m1, if_neg m2, if_neg m3]
        have m3i : ¬ (0 : Int) < (ws.length : Int) := by omega
        go_wp2_with fail
        go_meet
        exact ⟨4, x.fr.toNat, x.to_.toNat, by rw [Int.toNat_of_nonneg (by omega)], by rw [Int.toNat_of_nonneg (by omega)], by show _ = _; rw [HP.out, Int.toNat_of_nonneg (by omega), Int.toNat_of_nonneg (by omega)], fun h => absurd rfl h, hm0⟩
    case rest =>
      obtain ⟨p, f, t, rfl, rfl, HP, HFT, hM⟩ := hcut
      have HM1 := hid hM
      have d2 := hM.row.cell 2 (x := .int .i64 p) rfl
      clear hM HNPL j1 j2 j3
      by_cases hp4 : p = 4
      · have p4b : (p != 4) = false := by rw [hp4]; rfl
        obtain ⟨nf, hnf⟩ : ∃ n : Int, n = 1 := ⟨_, rfl⟩
        obtain ⟨nt, hnt⟩ : ∃ n : Int, n = 1 := ⟨_, rfl⟩
        obtain ⟨np, hnp⟩ : ∃ n : Int, n = 4 := ⟨_, rfl⟩
        obtain ⟨lf, hlf⟩ : ∃ n : ByteArray, n = ⟨#[]⟩ := ⟨_, rfl⟩
        obtain ⟨ll, hll⟩ : ∃ n : ByteArray, n = ⟨#[]⟩ := ⟨_, rfl⟩
        obtain ⟨ln, hln⟩ : ∃ n : Int, n = 0 := ⟨_, rfl⟩
        have HEE : Hid (ofAI ls la ws x = nteI ⟨nf, nt, np, lf, ll, ln, x.pos, x.sup, x.vs⟩ ∧ ofN ls la ws x = ⟨nf, nt, np, lf, ll, ln, x.pos, x.sup, x.vs⟩) := by
          show _ ∧ _
          have e1 : ofN ls la ws x = ⟨nf, nt, np, lf, ll, ln, x.pos, x.sup, x.vs⟩ := by
            unfold ofN
            rw [HP.out, if_pos hp4, hnf, hnt, hnp, hlf, hll, hln]
          refine ⟨?_, e1⟩
          rw [HIO.out, HP.out, if_neg (by simp [hp4]), e1]
        have HMM : Hid (RfM x (.slice au nu cu) (.slice av nv cv) w B ⟨nf, nt, np, lf, ll, ln, x.pos, x.sup, x.vs⟩ wc) := by
          have h := HM1.out
          rw [hp4] at h
          show RfM _ _ _ _ _ _ _
          rw [hnf, hnt, hnp, hlf, hll, hln]
          exact h
        have HSZ : Hid (SzN ⟨nf, nt, np, lf, ll, ln, x.pos, x.sup, x.vs⟩) := ⟨by rw [hlf]; exact Nat.zero_le _, by rw [hll]; exact Nat.zero_le _, HZE.out.sup, HZE.out.vs⟩
        clear HP HFT HM1 hnf hnt hnp hlf hll hln hp4 HIO HWD
        go_upto_region 21 with fail
        clear d2
        generalize hne : nteI ⟨nf, nt, np, lf, ll, ln, x.pos, x.sup, x.vs⟩ = ne at *
        have HM := hid HMM.out
        have hm := HM.out
        obtain ⟨b0, b1, b2, b3, b4, b5, b6, b7, b8⟩ := cells9 hm.row
        have HCK := hid (HCH _ _ _ _ _ _ _ hm HSZ.out)
        rw [hne] at HCK
        clear hne hm
        go_wp2_with fail
        (with_reducible refine HCK.out.mono ?_)
        rintro e w7 ⟨rfl, hB7⟩
        have HM7 := hid (HM.out.below hB7)
        clear b0 b1 b2 b3 b4 b5 b6 b7 b8 hB7 HCK HM HMM
        have HR7 := hid HM7.out.os.res
        have HB7 := hid HM7.out.os.bel
        by_cases k1 : ne = 0
        · have k1b : (ne != 0) = false := by rw [k1]; rfl
          have HI2 : Hid (ofAI ls la ws x = 0) := by show _ = _; rw [HEE.out.1, k1]
          have HN2 : Hid (ofAN ls la ws x = ⟨nf, nt, np, lf, ll, ln, x.pos, x.sup, x.vs⟩) := by show _ = _; rw [HNA.out, HI2.out, if_pos rfl]; exact HEE.out.2
          clear k1
          obtain ⟨b0, b1, b2, b3, b4, b5, b6, b7, b8⟩ := cells9 HM7.out.row
          obtain ⟨r0, r1, r2, r3, r4, r5, r6, r7, r8⟩ := cells9 HR7.out
          obtain ⟨g0, g1, g2, g3, g4, g5, g6, g7, g8⟩ := free9 HR7.out
          go_wp2_with fail
          have q := row9 HR7.out (.int .i64 nf) (.int .i64 nt) (.int .i64 np) (.string lf) (.string ll) (.int .i64 ln) (.bool x.pos) (.slice au nu cu) (.slice av nv cv)
          have hb := bel_set9 HB7.out (B := w.heap.size + 1) (Nat.le_succ _) ⟨nf, nt, np, lf, ll, ln, x.pos, x.sup, x.vs⟩ (.slice au nu cu) (.slice av nv cv)
          obtain ⟨z0, z1, z2, z3, z4, z5, z6, z7, z8⟩ := cells9 q
          exact bodyPost_ret (v := .tuple #[.agg #[.int .i64 nf, .int .i64 nt, .int .i64 np, .string lf, .string ll, .int .i64 ln, .bool x.pos, .slice au nu cu, .slice av nv cv], .int .i64 0]) (by simp [results, Tryz.f16, go_sem, z0, z1, z2, z3, z4, z5, z6, z7, z8]) rfl ⟨au, nu, cu, av, nv, cv, by rw [HN2.out, HI2.out]; rfl, by rw [HN2.out]; exact ⟨(HRD _ hb).out.rs, (HRD _ hb).out.rv⟩, hb⟩
        · have k1b : (ne != 0) = true := bne_iff_ne.2 k1
          have HF : Hid (∀ W', Below w.heap.size w W' → OfQ (ofAN ls la ws x) (ofAI ls la ws x) w (.returned (.tuple #[.agg (nt00.cells (.slice none 0 0) (.slice none 0 0)), .int .i64 ne])) W') := fun W' hb => by
            have hI2 : ofAI ls la ws x = ne := HEE.out.1
            have hN2 : ofAN ls la ws x = nt00 := by rw [HNA.out, hI2, if_neg k1]
            exact ⟨none, 0, 0, none, 0, 0, by rw [hN2, hI2], by rw [hN2]; exact rdN_zero _, hb⟩
          clear k1 HEE
          obtain ⟨r0, r1, r2, r3, r4, r5, r6, r7, r8⟩ := cells9 HR7.out
          obtain ⟨g0, g1, g2, g3, g4, g5, g6, g7, g8⟩ := free9 HR7.out
          go_wp2_with fail
          have q := row9 HR7.out (.int .i64 0) (.int .i64 0) (.int .i64 0) (.string ⟨#[]⟩) (.string ⟨#[]⟩) (.int .i64 0) (.bool false) (.slice none 0 0) (.slice none 0 0)
          have hb := zsets_bel HB7.out
          obtain ⟨z0, z1, z2, z3, z4, z5, z6, z7, z8⟩ := cells9 q
          exact bodyPost_ret (v := .tuple #[.agg (nt00.cells (.slice none 0 0) (.slice none 0 0)), .int .i64 ne]) (by simp [results, Tryz.f16, go_sem, Nt.cells, nt00, z0, z1, z2, z3, z4, z5, z6, z7, z8]) rfl (HF.out _ hb)
      · have p4b : (p != 4) = true := bne_iff_ne.2 hp4
        obtain ⟨a, b1, o1, ha, ea1, d1⟩ := HC1.out f (by have := HL1.out; have := HFT.out hp4; omega)
        cases ea1
        obtain ⟨b, b2, o2, hb, ea2, d2⟩ := HC2.out (t - 1) (by have := HL2b.out; have := HFT.out hp4; omega)
        cases ea2
        have hbel := HM1.out.os.bel
        have e1 := Below.keeps hbel _ _ d1
        have e2 := Below.keeps hbel _ _ d2
        have u1 : (0 : Int) ≤ (f : Int) := by omega
        have u2 : (f : Int) < (ls.length : Int) := by have := HL1.out; have := HFT.out hp4; omega
        have u3 : IntKind.i64.wrap ((t : Int) - 1) = ((t - 1 : Nat) : Int) := by
          have := HFT.out hp4
          rw [IntWalk.i64_in _ (by omega)]; omega
        have u4 : (0 : Int) ≤ ((t - 1 : Nat) : Int) := by omega
        have u5 : ((t - 1 : Nat) : Int) < (la.length : Int) := by have := HL2b.out; have := HFT.out hp4; omega
        have HA : Hid (lnAt ls (f : Int) = a ∧ lnAt la ((t : Int) - 1) = b) := by
          have h0 := HFT.out hp4
          refine ⟨?_, ?_⟩
          · unfold lnAt
            rw [Int.toNat_natCast, List.getD_eq_getElem?_getD, ha]; rfl
          · unfold lnAt
            rw [show ((t : Int) - 1).toNat = t - 1 by omega, List.getD_eq_getElem?_getD, hb]; rfl
        have k0 := HM1.out.row.cell 0 (x := .int .i64 1) rfl
        have k1' := HM1.out.row.cell 1 (x := .int .i64 1) rfl
        have g0 := HM1.out.row.frozen 0
        have g1 := HM1.out.row.frozen 1
        have hma := HM1.out.put hBlo 0 (.int .i64 a) ⟨a, 1, p, ⟨#[]⟩, ⟨#[]⟩, 0, x.pos, x.sup, x.vs⟩ rfl
        have HM2 := hid (hma.put hBlo 1 (.int .i64 b) ⟨a, b, p, ⟨#[]⟩, ⟨#[]⟩, 0, x.pos, x.sup, x.vs⟩ rfl)
        have nb1 : b1 < w.heap.size := World.block_lt_of_cell? _ _ d1
        have nb2 : b2 < w.heap.size := World.block_lt_of_cell? _ _ d2
        have e2s : (wc.setCell ⟨B, 0, none⟩ (.int .i64 a)).cell? ⟨b2, o2 + (t - 1), none⟩ = some (.int .i64 b) := by
          rw [World.cell?_setCell_other]
          · exact e2
          · intro e; have := (Addr.mk.inj e).1; omega
        have e1s : (wc.setCell ⟨B, 1, none⟩ (.int .i64 b)).cell? ⟨b1, o1 + f, none⟩ = some (.int .i64 a) := by
          rw [World.cell?_setCell_other]
          · exact e1
          · intro e; have := (Addr.mk.inj e).1; omega
        clear hma hbel d1 d2 ha hb nb1 nb2
        generalize ht1 : t - 1 = t1 at *
        clear ht1
        have HP4 := hid hp4
        clear hp4
        go_upto_region 15 with fail
        go_cut [] from 75 to 85 (fun wx => RfM x (.slice au nu cu) (.slice av nv cv) w B ⟨a, b, p, ⟨#[]⟩, ⟨#[]⟩, 0, x.pos, x.sup, x.vs⟩ wx)
        case first =>
          go_region
          all_goals (go_wp2_with fail; go_meet)
          all_goals (first | exact HM2.out | exact HM2.out.drew | exact HM1.out.drew.put2 hBlo | trace_state)
        case rest =>
          have HM3 := hid hcut
          clear hcut HM2 HM1 k0 k1' g0 g1 e1 e2 e1s e2s
          have q0 := HM3.out.row.cell 0 (x := .int .i64 a) rfl
          have q1 := HM3.out.row.cell 1 (x := .int .i64 b) rfl
          have HWI := HWD a b wc HM3.out.os.bel
          clear HWD
          go_wp2_with fail
          (with_reducible refine HWI.out.mono ?_)
          rintro e w5 ⟨r, rfl, hr5, hB5⟩
          have HM5 := hid (HM3.out.below hB5)
          have HOW := hid hr5
          have HWZ : Hid (Sz16 (wWs ls ws a b)) := fun s hs => hz s (wWs_mem hs)
          have HWL : Hid ((wWs ls ws a b).length ≤ 13) := Nat.le_trans (wWs_len ls ws a b) hlen
          have HAB := hid (wAt_bound ls a b)
          have hu := HFT.out HP4.out
          have hll := HL1.out
          have w1 : IntKind.i64.wrap ((f : Int) - wAt ls a b) = (f : Int) - wAt ls a b := IntWalk.i64_in _ (by have := HAB.out; omega)
          have w2 : IntKind.i64.wrap ((t : Int) - wAt ls a b) = (t : Int) - wAt ls a b := IntWalk.i64_in _ (by have := HAB.out; omega)
          clear hB5 hr5 q0 q1 HM3 HWI hu hll
          have HOFL : Hid (ofLm ls la ws (f : Int) (t : Int) = ofRes (wWs ls ws a b) ((f : Int) - wAt ls a b) ((t : Int) - wAt ls a b)) := by
            show _ = _
            unfold ofLm
            rw [HA.out.1, HA.out.2]
          have HOA := hid (rof_any (wWs ls ws a b) ((f : Int) - wAt ls a b) ((t : Int) - wAt ls a b) r w5 (HE _ HM5.out.os.bel).out HOW.out HWZ.out (fun _ => HWL.out))
          have HOZ := hid (ofRes_size (x := (f : Int) - wAt ls a b) (y := (t : Int) - wAt ls a b) HWZ.out)
          generalize hor : ofRes (wWs ls ws a b) ((f : Int) - wAt ls a b) ((t : Int) - wAt ls a b) = orr at *
          clear hor
          obtain ⟨lf, ll, ln, le⟩ := orr
          unfold ofVal at HOA
          simp only at HOA HOZ
          generalize wAt ls a b = A at *
          generalize wWs ls ws a b = wo at *
          obtain ⟨ar, cr, rfl, hlr, hmr, _⟩ := HOW.out.open
          have hHI : Hid (ofAI ls la ws x = if le ≠ 0 then le else nteI (ofN ls la ws x)) := by
            show _ = _
            rw [HIO.out, HP.out, HOFL.out]
            by_cases h : le = 0
            · rw [if_neg (by simp [h]), if_neg (by simp [h])]
            · rw [if_pos ⟨HP4.out, h⟩, if_pos h]
          have HNN : Hid (ofN ls la ws x = ⟨a, b, p, lf, ll, ln, x.pos, x.sup, x.vs⟩) := by
            show _ = _
            unfold ofN
            rw [HP.out, if_neg HP4.out, HOFL.out, HA.out.1, HA.out.2]
          clear HIO HP HOFL HA HAB HWZ HWL HOW
          by_cases hle : le = 0
          · subst hle
            have HEE : Hid (ofAI ls la ws x = nteI ⟨a, b, p, lf, ll, ln, x.pos, x.sup, x.vs⟩ ∧ ofN ls la ws x = ⟨a, b, p, lf, ll, ln, x.pos, x.sup, x.vs⟩) := ⟨by rw [hHI.out, if_neg (by simp), HNN.out], HNN.out⟩
            go_wp2_with fail
            (with_reducible refine HOA.out.mono ?_)
            rintro e w6 ⟨rfl, hB6⟩
            have HM6 := hid (HM5.out.below hB6)
            have HM7 := hid (HM6.out.al (.cells #[.string lf, .string ll, .int .i64 ln] 28))
            have HRL := hid (row_nw w6 #[.string lf, .string ll, .int .i64 ln] 28 rfl)
            clear hB6 HM5 HOA HM6
            have t0 := HRL.out.cell 0 (x := .string lf) rfl
            have t1' := HRL.out.cell 1 (x := .string ll) rfl
            have t2 := HRL.out.cell 2 (x := .int .i64 ln) rfl
            have s3 := HM7.out.row.cell 3 (x := .string ⟨#[]⟩) rfl
            have s4 := HM7.out.row.cell 4 (x := .string ⟨#[]⟩) rfl
            have s5 := HM7.out.row.cell 5 (x := .int .i64 0) rfl
            have g3 := HM7.out.row.frozen 3
            have g4 := HM7.out.row.frozen 4
            have g5 := HM7.out.row.frozen 5
            have hma := HM7.out.put hBlo 3 (.string lf) ⟨a, b, p, lf, ⟨#[]⟩, 0, x.pos, x.sup, x.vs⟩ rfl
            have hmb := hma.put hBlo 4 (.string ll) ⟨a, b, p, lf, ll, 0, x.pos, x.sup, x.vs⟩ rfl
            have HMM := hid (hmb.put hBlo 5 (.int .i64 ln) ⟨a, b, p, lf, ll, ln, x.pos, x.sup, x.vs⟩ rfl)
            have HSZ : Hid (SzN ⟨a, b, p, lf, ll, ln, x.pos, x.sup, x.vs⟩) := ⟨HOZ.out.1, HOZ.out.2, HZE.out.sup, HZE.out.vs⟩
            clear hma hmb HM7 HRL HNN hHI HOZ
            generalize hnf : a = nf at *
            generalize hnt : b = nt at *
            generalize hnp : p = np at *
            clear hnf hnt hnp HP4 HFT
            go_upto_region 21 with fail
            generalize (((w6.alloc (.cells #[.string lf, .string ll, .int .i64 ln] 28)).setCell ⟨B, 3, none⟩ (.string lf)).setCell ⟨B, 4, none⟩ (.string ll)).setCell ⟨B, 5, none⟩ (.int .i64 ln) = W6 at *
            clear t0 t1' t2 s3 s4 s5 g3 g4 g5
            generalize hne : nteI ⟨nf, nt, np, lf, ll, ln, x.pos, x.sup, x.vs⟩ = ne at *
            have HM := hid HMM.out
            have hm := HM.out
            obtain ⟨b0, b1, b2, b3, b4, b5, b6, b7, b8⟩ := cells9 hm.row
            have HCK := hid (HCH _ _ _ _ _ _ _ hm HSZ.out)
            rw [hne] at HCK
            clear hne hm
            go_wp2_with fail
            (with_reducible refine HCK.out.mono ?_)
            rintro e w7 ⟨rfl, hB7⟩
            have HM7 := hid (HM.out.below hB7)
            clear b0 b1 b2 b3 b4 b5 b6 b7 b8 hB7 HCK HM HMM
            have HR7 := hid HM7.out.os.res
            have HB7 := hid HM7.out.os.bel
            by_cases k1 : ne = 0
            · have k1b : (ne != 0) = false := by rw [k1]; rfl
              have HI2 : Hid (ofAI ls la ws x = 0) := by show _ = _; rw [HEE.out.1, k1]
              have HN2 : Hid (ofAN ls la ws x = ⟨nf, nt, np, lf, ll, ln, x.pos, x.sup, x.vs⟩) := by show _ = _; rw [HNA.out, HI2.out, if_pos rfl]; exact HEE.out.2
              clear k1
              obtain ⟨b0, b1, b2, b3, b4, b5, b6, b7, b8⟩ := cells9 HM7.out.row
              obtain ⟨r0, r1, r2, r3, r4, r5, r6, r7, r8⟩ := cells9 HR7.out
              obtain ⟨g0, g1, g2, g3, g4, g5, g6, g7, g8⟩ := free9 HR7.out
              go_wp2_with fail
              have q := row9 HR7.out (.int .i64 nf) (.int .i64 nt) (.int .i64 np) (.string lf) (.string ll) (.int .i64 ln) (.bool x.pos) (.slice au nu cu) (.slice av nv cv)
              have hb := bel_set9 HB7.out (B := w.heap.size + 1) (Nat.le_succ _) ⟨nf, nt, np, lf, ll, ln, x.pos, x.sup, x.vs⟩ (.slice au nu cu) (.slice av nv cv)
              obtain ⟨z0, z1, z2, z3, z4, z5, z6, z7, z8⟩ := cells9 q
              exact bodyPost_ret (v := .tuple #[.agg #[.int .i64 nf, .int .i64 nt, .int .i64 np, .string lf, .string ll, .int .i64 ln, .bool x.pos, .slice au nu cu, .slice av nv cv], .int .i64 0]) (by simp [results, Tryz.f16, go_sem, z0, z1, z2, z3, z4, z5, z6, z7, z8]) rfl ⟨au, nu, cu, av, nv, cv, by rw [HN2.out, HI2.out]; rfl, by rw [HN2.out]; exact ⟨(HRD _ hb).out.rs, (HRD _ hb).out.rv⟩, hb⟩
            · have k1b : (ne != 0) = true := bne_iff_ne.2 k1
              have HF : Hid (∀ W', Below w.heap.size w W' → OfQ (ofAN ls la ws x) (ofAI ls la ws x) w (.returned (.tuple #[.agg (nt00.cells (.slice none 0 0) (.slice none 0 0)), .int .i64 ne])) W') := fun W' hb => by
                have hI2 : ofAI ls la ws x = ne := HEE.out.1
                have hN2 : ofAN ls la ws x = nt00 := by rw [HNA.out, hI2, if_neg k1]
                exact ⟨none, 0, 0, none, 0, 0, by rw [hN2, hI2], by rw [hN2]; exact rdN_zero _, hb⟩
              clear k1 HEE
              obtain ⟨r0, r1, r2, r3, r4, r5, r6, r7, r8⟩ := cells9 HR7.out
              obtain ⟨g0, g1, g2, g3, g4, g5, g6, g7, g8⟩ := free9 HR7.out
              go_wp2_with fail
              have q := row9 HR7.out (.int .i64 0) (.int .i64 0) (.int .i64 0) (.string ⟨#[]⟩) (.string ⟨#[]⟩) (.int .i64 0) (.bool false) (.slice none 0 0) (.slice none 0 0)
              have hb := zsets_bel HB7.out
              obtain ⟨z0, z1, z2, z3, z4, z5, z6, z7, z8⟩ := cells9 q
              exact bodyPost_ret (v := .tuple #[.agg (nt00.cells (.slice none 0 0) (.slice none 0 0)), .int .i64 ne]) (by simp [results, Tryz.f16, go_sem, Nt.cells, nt00, z0, z1, z2, z3, z4, z5, z6, z7, z8]) rfl (HF.out _ hb)
          · have hlb : (le == 0) = false := beq_eq_false_iff_ne.2 hle
            have hlc : (le != 0) = true := bne_iff_ne.2 hle
            have HF : Hid (∀ W', Below w.heap.size w W' → OfQ (ofAN ls la ws x) (ofAI ls la ws x) w (.returned (.tuple #[.agg (nt00.cells (.slice none 0 0) (.slice none 0 0)), .int .i64 le])) W') := fun W' hb => by
              have hI2 : ofAI ls la ws x = le := by rw [hHI.out, if_pos hle]
              have hN2 : ofAN ls la ws x = nt00 := by rw [HNA.out, hI2, if_neg hle]
              exact ⟨none, 0, 0, none, 0, 0, by rw [hN2, hI2], by rw [hN2]; exact rdN_zero _, hb⟩
            clear hHI HNN hle
            go_wp2_with fail
            (with_reducible refine HOA.out.mono ?_)
            rintro e w6 ⟨rfl, hB6⟩
            have HM7 := hid ((HM5.out.below hB6).al (.cells #[.string lf, .string ll, .int .i64 ln] 28))
            clear hB6 HM5 HOA
            obtain ⟨r0, r1, r2, r3, r4, r5, r6, r7, r8⟩ := cells9 HM7.out.os.res
            obtain ⟨g0, g1, g2, g3, g4, g5, g6, g7, g8⟩ := free9 HM7.out.os.res
            go_wp2_with fail
            have q := row9 HM7.out.os.res (.int .i64 0) (.int .i64 0) (.int .i64 0) (.string ⟨#[]⟩) (.string ⟨#[]⟩) (.int .i64 0) (.bool false) (.slice none 0 0) (.slice none 0 0)
            have hb := zsets_bel HM7.out.os.bel
            obtain ⟨z0, z1, z2, z3, z4, z5, z6, z7, z8⟩ := cells9 q
            exact bodyPost_ret (v := .tuple #[.agg (nt00.cells (.slice none 0 0) (.slice none 0 0)), .int .i64 le]) (by simp [results, Tryz.f16, go_sem, Nt.cells, nt00, z0, z1, z2, z3, z4, z5, z6, z7, z8]) rfl (HF.out _ hb)
  · have HF : Hid (∀ W', Below w.heap.size w W' → OfQ (ofAN ls la ws x) (ofAI ls la ws x) w (.returned (.tuple #[.agg (nt00.cells (.slice none 0 0) (.slice none 0 0)), .int .i64 (listsI ls la ws.length)])) W') := fun W' hb => by
      have hI2 : ofAI ls la ws x = listsI ls la ws.length := by rw [HIA.out, if_neg k0]
      have hN2 : ofAN ls la ws x = nt00 := by rw [HNA.out, hI2, if_neg k0]
      exact ⟨none, 0, 0, none, 0, 0, by rw [hN2, hI2], by rw [hN2]; exact rdN_zero _, hb⟩
    have k0b : (listsI ls la ws.length != 0) = true := bne_iff_ne.2 k0
    clear h1 h2 h3 HIA HNA HI k0 HCH
    generalize listsI ls la ws.length = li at *
    go_enter Tryz.func16, Tryz.ntmps16
    go_wp2_with fail
    (with_reducible refine HLI.out.mono ?_)
    rintro e w3 ⟨rfl, hB3⟩
    have HOS3 := hid (HOS.out.below hB3)
    clear hB3 HLI HOS HB0
    obtain ⟨r0, r1, r2, r3, r4, r5, r6, r7, r8⟩ := cells9 HOS3.out.res
    obtain ⟨g0, g1, g2, g3, g4, g5, g6, g7, g8⟩ := free9 HOS3.out.res
    go_wp2_with fail
    have q := row9 HOS3.out.res (.int .i64 0) (.int .i64 0) (.int .i64 0) (.string ⟨#[]⟩) (.string ⟨#[]⟩) (.int .i64 0) (.bool false) (.slice none 0 0) (.slice none 0 0)
    have hb := zsets_bel HOS3.out.bel
    obtain ⟨z0, z1, z2, z3, z4, z5, z6, z7, z8⟩ := cells9 q
    exact bodyPost_ret (v := .tuple #[.agg (nt00.cells (.slice none 0 0) (.slice none 0 0)), .int .i64 li]) (by simp [results, Tryz.f16, go_sem, Nt.cells, nt00, z0, z1, z2, z3, z4, z5, z6, z7, z8]) rfl (HF.out _ hb)
end Go.Proofs.YtjhdeoniafahbaaGreatDoor
