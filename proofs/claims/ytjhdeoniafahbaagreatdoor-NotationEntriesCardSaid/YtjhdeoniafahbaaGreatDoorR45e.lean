/-
  The reference's Resolve.
-/
import Derived.Test.YtjhdeoniafahbaaGreatDoorR45d
import Derived.Test.YtjhdeoniafahbaaGreatDoorRFnd
import Derived.Test.YtjhdeoniafahbaaGreatDoorRsn
import Derived.Test.YtjhdeoniafahbaaGreatDoorJ05
namespace Go.Proofs.YtjhdeoniafahbaaGreatDoor
open Go.RowKit

/-- What the reference's Resolve answers. -/
def rrP (ls : List Int) (ws : List ByteArray) (n : Nt) : Int × Int :=
  if n.pl = 1 then (wAt ls n.fr n.to_ + (rsF ls ws n).1, wAt ls n.fr n.to_ + (rsF ls ws n).2.1) else if n.pl = 2 then (wAt ls n.fr n.to_ + (rsF ls ws n).2.1, wAt ls n.fr n.to_ + (rsF ls ws n).2.1)
  else if n.pl = 3 then (wAt ls n.fr n.to_ + (rsF ls ws n).1, wAt ls n.fr n.to_ + (rsF ls ws n).1) else (0, 0)
def rrE (ls : List Int) (ws : List ByteArray) (ly : Int) (n : Nt) : En := ⟨ly, (rrP ls ws n).1, (rrP ls ws n).2, n.pos, n.sup, n.vs⟩
def rrI (ls la : List Int) (ws : List ByteArray) (ly : Int) (n : Nt) : Int :=
  if listsI ls la ws.length ≠ 0 then listsI ls la ws.length else if ly < 0 ∨ 62 < ly then 2 else if nteI n ≠ 0 then nteI n
  else if n.pl ≠ 4 ∧ (rsF ls ws n).2.2 ≠ 0 then 26
  else if ofAI ls la ws (rrE ls ws ly n) ≠ 0 ∨ ntB (ofAN ls la ws (rrE ls ws ly n)) n = false then 26 else 0
def rrN (ls la : List Int) (ws : List ByteArray) (ly : Int) (n : Nt) : En := if rrI ls la ws ly n = 0 then rrE ls ws ly n else en00
theorem rr_three {ls la : List Int} {ws : List ByteArray} {ly : Int} {n : Nt} (hl : listsI ls la ws.length = 0) (hw : ws.length ≤ 13) (hp : n.pl = 3) (h1 : ofI ls la ws (rsE ls ws ly n) = 0) (h2 : ofN ls la ws (rsE ls ws ly n) = n) :
    wAt ls n.fr n.to_ + (rsF ls ws n).1 = 0 := by
  have hE : (rsE ls ws ly n).fr = 0 ∧ (rsE ls ws ly n).to_ = 0 := by
    unfold rsE rsP
    rw [if_neg (by omega), if_neg (by omega)]
    exact ⟨rfl, rfl⟩
  generalize rsE ls ws ly n = e at *
  by_cases h0 : 0 < ws.length
  · have hP : ofPl e.fr e.to_ ws.length = (3, 0, 1) := by
      rw [hE.1, hE.2]; unfold ofPl
      rw [if_neg (by omega), if_neg (by omega), if_pos h0]
    have hle : (ofLm ls la ws ((0 : Nat) : Int) ((1 : Nat) : Int)).2.2.2 = 0 := by
      unfold ofI at h1
      rw [if_neg (by omega), hP] at h1
      split at h1
      · exact h1
      · rename_i hc
        exact Classical.byContradiction fun hn => hc ⟨by show (3 : Int) ≠ 4; decide, hn⟩
    obtain ⟨_, _, _, e4⟩ := ofLm_ok hl hw (f := 0) (t := 1) (by omega) (by omega) hle
    have h3 := h2
    unfold ofN at h3
    rw [hP, if_neg (by show ¬ (3 : Int) = 4; decide)] at h3
    have f1 : n.fr = lnAt ls ((0 : Nat) : Int) := by rw [← h3]; rfl
    have f2 : n.to_ = lnAt la (((1 : Nat) : Int) - 1) := by rw [← h3]; rfl
    have f3 : n.lf = (ofLm ls la ws ((0 : Nat) : Int) ((1 : Nat) : Int)).1 := by rw [← h3]; rfl
    have f4 : n.ll = (ofLm ls la ws ((0 : Nat) : Int) ((1 : Nat) : Int)).2.1 := by rw [← h3]; rfl
    have f5 : n.ln = (ofLm ls la ws ((0 : Nat) : Int) ((1 : Nat) : Int)).2.2.1 := by rw [← h3]; rfl
    unfold rsF
    rw [f1, f2, f3, f4, f5, e4]
    show _ + (((0 : Nat) : Int) - _) = 0
    omega
  · have hP : (ofPl e.fr e.to_ ws.length).1 = 4 := by
      rw [hE.1, hE.2]; unfold ofPl
      rw [if_neg (by omega), if_neg (by omega), if_neg h0]
    unfold ofN at h2
    rw [if_pos hP] at h2
    have := congrArg Nt.pl h2
    rw [hp] at this
    cases this
theorem ofA_of {ls la : List Int} {ws : List ByteArray} (hl : listsI ls la ws.length = 0) (e : En) (n : Nt) : (ofAI ls la ws e ≠ 0 ∨ ntB (ofAN ls la ws e) n = false) ↔ (ofI ls la ws e ≠ 0 ∨ ntB (ofN ls la ws e) n = false) := by
  have h1 : ofAI ls la ws e = ofI ls la ws e := by unfold ofAI; rw [if_pos hl]
  rw [h1]
  by_cases h : ofI ls la ws e = 0
  · have h2 : ofAN ls la ws e = ofN ls la ws e := by unfold ofAN; rw [h1, if_pos h]
    rw [h2]
  · exact ⟨fun _ => .inl h, fun _ => .inl h⟩
theorem rr_eq {ls la : List Int} {ws : List ByteArray} {ly : Int} {n : Nt} (hll : ls.length ≤ 65536) (hw : ws.length ≤ 13) : rrI ls la ws ly n = rsI ls la ws ly n ∧ rrN ls la ws ly n = rsN ls la ws ly n := by
  have key : rrI ls la ws ly n = rsI ls la ws ly n ∧ (rsI ls la ws ly n = 0 → rrE ls ws ly n = rsE ls ws ly n) := by
    unfold rrI rsI
    by_cases c1 : listsI ls la ws.length ≠ 0
    · rw [if_pos c1, if_pos c1]; exact ⟨rfl, fun h => absurd h c1⟩
    have hl : listsI ls la ws.length = 0 := Classical.not_not.1 c1
    rw [if_neg c1, if_neg c1]
    by_cases c2 : ly < 0 ∨ 62 < ly
    · rw [if_pos c2, if_pos c2]; exact ⟨rfl, fun h => by cases h⟩
    rw [if_neg c2, if_neg c2]
    by_cases c3 : nteI n ≠ 0
    · rw [if_pos c3, if_pos c3]; exact ⟨rfl, fun h => absurd h c3⟩
    rw [if_neg c3, if_neg c3]
    by_cases c4 : n.pl ≠ 4 ∧ (rsF ls ws n).2.2 ≠ 0
    · rw [if_pos c4, if_pos c4]; exact ⟨rfl, fun h => by cases h⟩
    rw [if_neg c4, if_neg c4]
    by_cases c5 : rrE ls ws ly n = rsE ls ws ly n
    · refine ⟨?_, fun _ => c5⟩
      rw [c5]
      by_cases c6 : ofI ls la ws (rsE ls ws ly n) ≠ 0 ∨ ntB (ofN ls la ws (rsE ls ws ly n)) n = false
      · rw [if_pos c6, if_pos ((ofA_of hl _ _).2 c6)]
      · rw [if_neg c6, if_neg (fun h => c6 ((ofA_of hl _ _).1 h))]
    · have hp : n.pl = 3 := Classical.byContradiction fun hp => c5 (by
        unfold rrE rsE rrP rsP
        by_cases p1 : n.pl = 1
        · rw [if_pos p1, if_pos p1]
        · rw [if_neg p1, if_neg p1]
          by_cases p2 : n.pl = 2
          · rw [if_pos p2, if_pos p2]
          · rw [if_neg p2, if_neg p2, if_neg hp])
      have hfb := findRes_bound (wWs ls ws n.fr n.to_) n.lf n.ll n.ln (by have := wWs_len ls ws n.fr n.to_; omega)
      have hab := wAt_bound ls n.fr n.to_
      have hs0 : wAt ls n.fr n.to_ + (rsF ls ws n).1 ≠ 0 := fun h0 => c5 (by
        unfold rrE rsE rrP rsP
        rw [if_neg (by omega), if_neg (by omega), if_pos hp, if_neg (by omega), if_neg (by omega), h0])
      have c6 : ofI ls la ws (rsE ls ws ly n) ≠ 0 ∨ ntB (ofN ls la ws (rsE ls ws ly n)) n = false := by
        by_cases h1 : ofI ls la ws (rsE ls ws ly n) = 0
        · right
          exact ntB_ne fun h2 => hs0 (rr_three hl hw hp h1 h2)
        · exact .inl h1
      have c7 : ofI ls la ws (rrE ls ws ly n) ≠ 0 ∨ ntB (ofN ls la ws (rrE ls ws ly n)) n = false := by
        right
        refine ntB_ne fun h2 => ?_
        have hpl : (ofN ls la ws (rrE ls ws ly n)).pl = 2 := by
          have hE : (rrE ls ws ly n).fr = (rrE ls ws ly n).to_ ∧ 0 < (rrE ls ws ly n).fr := by
            unfold rrE rrP
            rw [if_neg (by omega), if_neg (by omega), if_pos hp]
            refine ⟨rfl, ?_⟩
            show 0 < wAt ls n.fr n.to_ + (rsF ls ws n).1
            have : 0 ≤ (rsF ls ws n).1 := hfb.1.1
            omega
          have hP : ofPl (rrE ls ws ly n).fr (rrE ls ws ly n).to_ ws.length = (2, (rrE ls ws ly n).fr - 1, (rrE ls ws ly n).to_) := by
            unfold ofPl
            rw [if_neg (by omega), if_pos hE.2]
          unfold ofN
          rw [hP, if_neg (by show ¬ (2 : Int) = 4; decide)]
        rw [h2, hp] at hpl
        cases hpl
      rw [if_pos ((ofA_of hl _ _).2 c7), if_pos c6]
      exact ⟨rfl, fun h => by cases h⟩
  refine ⟨key.1, ?_⟩
  unfold rrN rsN
  rw [key.1]
  by_cases h : rsI ls la ws ly n = 0
  · rw [if_pos h, if_pos h, key.2 h]
  · rw [if_neg h, if_neg h]

/-- The note, the result's cells, the entry that is built. -/
structure RrM (x : Nt) (u s : Value) (w : World) (B : Nat) (E : En) (W : World) : Prop where
  os : RsS x u s w W
  row : Row W B (E.cells u s) 26
theorem RrM.below {x : Nt} {u s : Value} {w W W' : World} {B : Nat} {E : En} (h : RrM x u s w B E W) (hb : Below W.heap.size W W') : RrM x u s w B E W' := ⟨h.os.below hb, h.row.below hb⟩
theorem RrM.al {x : Nt} {u s : Value} {w W : World} {B : Nat} {E : En} (h : RrM x u s w B E W) (o : Obj) : RrM x u s w B E (W.alloc o) := h.below (below_al W o)
theorem RrM.put {x : Nt} {u s : Value} {w W : World} {B : Nat} {E : En} (h : RrM x u s w B E W) (hB : w.heap.size + 2 ≤ B) (i : Nat) (c : Value) (E' : En) (hE : (E.cells u s).setIfInBounds i c = E'.cells u s) : RrM x u s w B E' (W.setCell ⟨B, i, none⟩ c) :=
  ⟨h.os.set _ _ hB, by rw [← hE]; exact h.row.set i c⟩

set_option maxRecDepth 100000 in
set_option maxHeartbeats 16000000 in
theorem rRes_raw (ls la : List Int) (ws : List ByteArray) (ly : Int) (x : Nt) (v1 v2 v3 u s : Value) (w : World) (he : Env w) (h1 : RdI w v1 ls) (h2 : RdI w v2 la) (h3 : RdS w v3 ws) (hN : RdN w u s x)
    (hz : Sz16 ws) (hzN : SzN x) (hlen : ws.length ≤ 13) (hsl : x.sup.length ≤ 65536) (hvl : x.vs.length ≤ 65536) (hel : ∀ v ∈ x.vs, v.ws.length ≤ 65536 ∧ v.sg.length ≤ 65536) :
    Calls Tryz.prog 18 #[v1, v2, v3, .int .i64 ly, .agg (x.cells u s)] w fun r w' => RsQ (rrN ls la ws ly x) (rrI ls la ws ly x) w r w' := by
  have HE := fun w' (h : Below w.heap.size w w') => hid (he.below h)
  have HR := fun w' (h : Below w.heap.size w w') => hid (hN.below h)
  have hb0 := below_tr (below_al w (.cells (x.cells u s) 30)) (below_al _ (.cells zeroE 26))
  have HOS : Hid (RsS x u s w ((w.alloc (.cells (x.cells u s) 30)).alloc (.cells zeroE 26))) :=
    ⟨(row_nw w (x.cells u s) 30 rfl).al _, by
      have := row_nw (w.alloc (.cells (x.cells u s) 30)) zeroE 26 rfl
      rw [show (w.alloc (.cells (x.cells u s) 30)).heap.size = w.heap.size + 1 by simp] at this
      exact this, hb0⟩
  have HLI := hid (rlists_any v1 v2 v3 ls la ws _ (h1.below hb0) (h2.below hb0) (h3.below hb0))
  have HI : Hid (rrI ls la ws ly x = if listsI ls la ws.length ≠ 0 then listsI ls la ws.length else if ly < 0 ∨ 62 < ly then 2 else if nteI x ≠ 0 then nteI x
    else if x.pl ≠ 4 ∧ (rsF ls ws x).2.2 ≠ 0 then 26
    else if ofAI ls la ws (rrE ls ws ly x) ≠ 0 ∨ ntB (ofAN ls la ws (rrE ls ws ly x)) x = false then 26 else 0) := rfl
  have HNN : Hid (rrN ls la ws ly x = if rrI ls la ws ly x = 0 then rrE ls ws ly x else en00) := rfl
  have HZZ : Hid (∀ e : Int, e ≠ 0 → rrI ls la ws ly x = e → ∀ W, Below w.heap.size w W → RsQ (rrN ls la ws ly x) (rrI ls la ws ly x) w (.returned (.tuple #[.agg zeroE, .int .i64 e])) W) := fun e h0 hi W hb =>
    ⟨none, 0, 0, none, 0, 0, by rw [HNN.out, hi, if_neg h0]; rfl, by rw [HNN.out, hi, if_neg h0]; exact rdE_zero _, hb⟩
  have HRE : Hid (∀ E : En, (E.sup = x.sup ∧ E.vs = x.vs) → ∀ W, Below w.heap.size w W → RdE W u s E) := fun E h W hb => ⟨by rw [h.1]; exact (HR _ hb).out.rs, by rw [h.2]; exact (HR _ hb).out.rv⟩
  have HOO0 : ∀ (B : Nat) (E : En) {W : World}, (E.sup = x.sup ∧ E.vs = x.vs) → RrM x u s w B E W → Calls Tryz.prog 16 #[v1, v2, v3, .agg (E.cells u s)] W fun r w' => OfQ (ofAN ls la ws E) (ofAI ls la ws E) W r w' :=
    fun B E W hs h => rOf_any ls la ws E v1 v2 v3 u s W (HE _ h.os.bel).out (h1.below h.os.bel) (h2.below h.os.bel) (h3.below h.os.bel) (HRE.out E hs _ h.os.bel) hz
      ⟨by rw [hs.1]; exact hzN.sup, by rw [hs.2]; exact hzN.vs, by rw [hs.1]; exact hsl, by rw [hs.2]; exact hvl, by rw [hs.2]; exact hel⟩ hlen
  have HSA : ∀ (y : Nt) (am : Option Addr) (nm cm : Nat) (ak : Option Addr) (nk ck : Nat) (W : World), Below w.heap.size w W → RdN W (.slice am nm cm) (.slice ak nk ck) y →
      Calls Tryz.prog 19 #[.agg (y.cells (.slice am nm cm) (.slice ak nk ck)), .agg (x.cells u s)] W fun e w' => e = .returned (.bool (ntB y x)) ∧ Below W.heap.size W w' := fun y am nm cm ak nk ck W hb hy => rsame45_any y x _ _ u s W hy (HR _ hb).out
  obtain ⟨a1, c1, rfl, _⟩ := h1.open
  obtain ⟨a2, c2, rfl, _⟩ := h2.open
  obtain ⟨a3, c3, rfl, _⟩ := h3.open
  obtain ⟨au, cu, rfl, _⟩ := hN.rs.open
  obtain ⟨av, cv, rfl, _⟩ := hN.rv.open
  generalize hnu : x.sup.length = nu at *
  generalize hnv : x.vs.length = nv at *
  clear hnu hnv hsl hvl hel
  unfold Nt.cells zeroE at HLI HOS
  by_cases k0 : listsI ls la ws.length = 0
  case neg =>
    have k0b : (listsI ls la ws.length != 0) = true := bne_iff_ne.2 k0
    have HZ := hid (HZZ.out (listsI ls la ws.length) k0 (by rw [HI.out, if_pos k0]))
    clear HZZ HI HNN k0 he h1 h2 h3 hN HOO0 HSA hb0
    generalize listsI ls la ws.length = li at *
    unfold Nt.cells
    go_enter Tryz.func18, Tryz.ntmps18
    go_wp2_with fail
    (with_reducible refine HLI.out.mono ?_)
    rintro e w2 ⟨rfl, hB2⟩
    have HS2 := hid (HOS.out.below hB2)
    clear HOS HLI hB2
    obtain ⟨r0, r1, r2, r3, r4, r5⟩ := cells6 HS2.out.res
    obtain ⟨g0, g1, g2, g3, g4, g5⟩ := free6 HS2.out.res
    go_wp2_with fail
    have q := row6 HS2.out.res (.int .i64 0) (.int .i64 0) (.int .i64 0) (.bool false) (.slice none 0 0) (.slice none 0 0)
    have hb := zsets6_bel HS2.out.bel
    obtain ⟨z0, z1, z2, z3, z4, z5⟩ := cells6 q
    exact bodyPost_ret (v := .tuple #[.agg zeroE, .int .i64 li]) (by simp [results, Tryz.f18, go_sem, zeroE, z0, z1, z2, z3, z4, z5]) rfl (HZ.out _ hb)
  obtain ⟨hl1, hl2, _⟩ := lists_len k0
  have HWD : ∀ (a b : Int) (w' : World), Below w.heap.size w w' → Hid (Calls Tryz.prog 40 #[.slice a1 ls.length c1, .slice a3 ws.length c3, .int .i64 a, .int .i64 b] w' fun e w'' => ∃ r, e = .returned (.tuple #[r, .int .i64 (wAt ls a b)]) ∧ RdS w'' r (wWs ls ws a b) ∧ Below w'.heap.size w' w'') := fun a b w' h => by
    have h4 := rwindow_any _ _ ls ws a b w' (h1.below h) (h3.below h) hl1 (by omega)
    rw [winF_eq k0] at h4
    exact h4
  have HCH : ∀ {W : World}, Below w.heap.size w W → Hid (Calls Tryz.prog 34 #[.agg (x.cells (.slice au nu cu) (.slice av nv cv))] W fun e w' => e = .returned (.int .i64 (nteI x)) ∧ Below W.heap.size W w') := fun {W} h => rchk_any x _ _ W (HE _ h).out (HR _ h).out hzN
  have HL1 := hid hl1
  rw [k0] at HLI
  have HI2 : Hid (rrI ls la ws ly x = if ly < 0 ∨ 62 < ly then 2 else if nteI x ≠ 0 then nteI x
    else if x.pl ≠ 4 ∧ (rsF ls ws x).2.2 ≠ 0 then 26
    else if ofAI ls la ws (rrE ls ws ly x) ≠ 0 ∨ ntB (ofAN ls la ws (rrE ls ws ly x)) x = false then 26 else 0) := by show _ = _; rw [HI.out, if_neg (by rw [k0]; simp)]
  clear HI k0 hl1 hl2 he h1 h2 h3 hN hb0
  unfold Nt.cells at HCH HSA ⊢
  by_cases k1 : ly < 0 ∨ 62 < ly
  case pos =>
    have HZ := hid (HZZ.out 2 (by decide) (by rw [HI2.out, if_pos k1]))
    clear HZZ HI2 HNN HOO0 HSA HCH HWD
    by_cases k2 : ly < 0
    · clear k1
      go_enter Tryz.func18, Tryz.ntmps18
      go_wp2_with fail
      (with_reducible refine HLI.out.mono ?_)
      rintro e w2 ⟨rfl, hB2⟩
      have HS2 := hid (HOS.out.below hB2)
      clear HOS HLI hB2
      obtain ⟨r0, r1, r2, r3, r4, r5⟩ := cells6 HS2.out.res
      obtain ⟨g0, g1, g2, g3, g4, g5⟩ := free6 HS2.out.res
      go_wp2_with fail
      have q := row6 HS2.out.res (.int .i64 0) (.int .i64 0) (.int .i64 0) (.bool false) (.slice none 0 0) (.slice none 0 0)
      have hb := zsets6_bel HS2.out.bel
      obtain ⟨z0, z1, z2, z3, z4, z5⟩ := cells6 q
      exact bodyPost_ret (v := .tuple #[.agg zeroE, .int .i64 2]) (by simp [results, Tryz.f18, go_sem, zeroE, z0, z1, z2, z3, z4, z5]) rfl (HZ.out _ hb)
    · have k3 : 62 < ly := by omega
      clear k1
      go_enter Tryz.func18, Tryz.ntmps18
      go_wp2_with fail
      (with_reducible refine HLI.out.mono ?_)
      rintro e w2 ⟨rfl, hB2⟩
      have HS2 := hid (HOS.out.below hB2)
      clear HOS HLI hB2
      obtain ⟨r0, r1, r2, r3, r4, r5⟩ := cells6 HS2.out.res
      obtain ⟨g0, g1, g2, g3, g4, g5⟩ := free6 HS2.out.res
      go_wp2_with fail
      have q := row6 HS2.out.res (.int .i64 0) (.int .i64 0) (.int .i64 0) (.bool false) (.slice none 0 0) (.slice none 0 0)
      have hb := zsets6_bel HS2.out.bel
      obtain ⟨z0, z1, z2, z3, z4, z5⟩ := cells6 q
      exact bodyPost_ret (v := .tuple #[.agg zeroE, .int .i64 2]) (by simp [results, Tryz.f18, go_sem, zeroE, z0, z1, z2, z3, z4, z5]) rfl (HZ.out _ hb)
  have k2 : ¬ ly < 0 := by omega
  have k3 : ¬ 62 < ly := by omega
  by_cases k4 : nteI x = 0
  case neg =>
    have k4b : (nteI x != 0) = true := bne_iff_ne.2 k4
    have HZ := hid (HZZ.out (nteI x) k4 (by rw [HI2.out, if_neg k1, if_pos k4]))
    clear HZZ HI2 HNN HOO0 HSA HWD k1 k4
    go_enter Tryz.func18, Tryz.ntmps18
    go_wp2_with fail
    (with_reducible refine HLI.out.mono ?_)
    rintro e w2 ⟨rfl, hB2⟩
    have HS2 := hid (HOS.out.below hB2)
    clear HOS HLI hB2
    obtain ⟨b0, b1, b2, b3, b4, b5, b6, b7, b8⟩ := cells9 HS2.out.ent
    have HC2 := HCH HS2.out.bel
    clear HCH
    go_wp2_with fail
    (with_reducible refine HC2.out.mono ?_)
    rintro e w3 ⟨rfl, hB3⟩
    have HS3 := hid (HS2.out.below hB3)
    clear HS2 HC2 hB3 b0 b1 b2 b3 b4 b5 b6 b7 b8
    obtain ⟨r0, r1, r2, r3, r4, r5⟩ := cells6 HS3.out.res
    obtain ⟨g0, g1, g2, g3, g4, g5⟩ := free6 HS3.out.res
    go_wp2_with fail
    have q := row6 HS3.out.res (.int .i64 0) (.int .i64 0) (.int .i64 0) (.bool false) (.slice none 0 0) (.slice none 0 0)
    have hb := zsets6_bel HS3.out.bel
    obtain ⟨z0, z1, z2, z3, z4, z5⟩ := cells6 q
    exact bodyPost_ret (v := .tuple #[.agg zeroE, .int .i64 (nteI x)]) (by simp [results, Tryz.f18, go_sem, zeroE, z0, z1, z2, z3, z4, z5]) rfl (HZ.out _ hb)
  have HI3 : Hid (rrI ls la ws ly x = if x.pl ≠ 4 ∧ (rsF ls ws x).2.2 ≠ 0 then 26
    else if ofAI ls la ws (rrE ls ws ly x) ≠ 0 ∨ ntB (ofAN ls la ws (rrE ls ws ly x)) x = false then 26 else 0) := by show _ = _; rw [HI2.out, if_neg k1, if_neg (by rw [k4]; simp)]
  have HPLL : Hid (1 ≤ x.pl ∧ x.pl ≤ 4) := (head_ok (x := x) (Classical.byContradiction fun hn => by unfold nteI at k4; rw [if_neg hn] at k4; exact hn k4)).2.1
  rw [k4] at HCH
  clear HI2 k1 k4
  go_enter Tryz.func18, Tryz.ntmps18
  go_wp2_with fail
  (with_reducible refine HLI.out.mono ?_)
  rintro e w2 ⟨rfl, hB2⟩
  have HS2 := hid (HOS.out.below hB2)
  clear HOS HLI hB2
  obtain ⟨b0, b1, b2, b3, b4, b5, b6, b7, b8⟩ := cells9 HS2.out.ent
  have HC2 := HCH HS2.out.bel
  clear HCH
  go_wp2_with fail
  (with_reducible refine HC2.out.mono ?_)
  rintro e w3 ⟨rfl, hB3⟩
  have HS3 := hid (HS2.out.below hB3)
  clear HS2 HC2 hB3 b0 b1 b2 b3 b4 b5 b6 b7 b8
  obtain ⟨b0, b1, b2, b3, b4, b5, b6, b7, b8⟩ := cells9 HS3.out.ent
  have hBlo : w.heap.size + 2 ≤ w3.heap.size := by have := HS3.out.res.lt; omega
  have HM0 : Hid (RrM x (.slice au nu cu) (.slice av nv cv) w w3.heap.size ⟨ly, 0, 0, x.pos, x.sup, x.vs⟩ (w3.alloc (.cells #[.int .i64 ly, .int .i64 0, .int .i64 0, .bool x.pos, .slice au nu cu, .slice av nv cv] 26))) := ⟨HS3.out.al _, row_nw _ _ _ rfl⟩
  obtain ⟨B, hB⟩ : ∃ B, B = w3.heap.size := ⟨_, rfl⟩
  rw [← hB] at hBlo HM0
  go_upto_region 10 with fail
  rw [← hB]
  generalize w3.alloc (.cells #[.int .i64 ly, .int .i64 0, .int .i64 0, .bool x.pos, .slice au nu cu, .slice av nv cv] 26) = W3 at *
  clear HS3 hB b0 b1 b2 b3 b4 b5 b6 b7 b8
  obtain ⟨b0, b1, b2, b3, b4, b5, b6, b7, b8⟩ := cells9 HM0.out.os.ent
  by_cases k6 : x.pl = 4
  · have k6b : (x.pl != 4) = false := by rw [k6]; rfl
    obtain ⟨E, hE⟩ : ∃ E, E = rrE ls ws ly x := ⟨_, rfl⟩
    have hE2 : (⟨ly, 0, 0, x.pos, x.sup, x.vs⟩ : En) = E := by
      rw [hE]; unfold rrE rrP
      rw [if_neg (by omega), if_neg (by omega), if_neg (by omega)]
    rw [hE2] at HM0
    have HMM := hid HM0.out
    have HEE := hid hE
    have HEL : Hid (E.sup = x.sup ∧ E.vs = x.vs) := by rw [← hE2]; exact ⟨rfl, rfl⟩
    have HIE0 : Hid (∀ E', E' = rrE ls ws ly x → rrI ls la ws ly x = if ofAI ls la ws E' ≠ 0 ∨ ntB (ofAN ls la ws E') x = false then 26 else 0) := fun E' h => by rw [h, HI3.out, if_neg (fun h => h.1 k6)]
    have HOO := fun (B : Nat) (W : World) (h : RrM x (.slice au nu cu) (.slice av nv cv) w B E W) => HOO0 B E HEL.out h
    clear HM0 HI3 hE hE2 k6 HWD HOO0
    unfold En.cells at HOO
    go_upto_region 21 with fail
    clear b0 b1 b2 b3 b4 b5 b6 b7 b8
    have HM := hid HMM.out
    have hm := HM.out
    obtain ⟨d0, d1, d2, d3, d4, d5⟩ := cells6 hm.row
    have HOF := hid (HOO _ _ hm)
    clear hm HMM
    go_wp2_with fail
    (with_reducible refine HOF.out.mono ?_)
    rintro e w6 ⟨am, nm, cm, ak, nk, ck, rfl, hN6, hB6⟩
    have HM6 := hid ((HM.out.below hB6).al (.cells ((ofAN ls la ws E).cells (.slice am nm cm) (.slice ak nk ck)) 30))
    have HN6 := hid (hN6.below (below_al w6 (.cells ((ofAN ls la ws E).cells (.slice am nm cm) (.slice ak nk ck)) 30)))
    have HQ6 := hid (row_nw w6 ((ofAN ls la ws E).cells (.slice am nm cm) (.slice ak nk ck)) 30 rfl)
    clear d0 d1 d2 d3 d4 d5 HOF HM hB6 hN6
    have HIE := hid (HIE0.out E HEE.out)
    clear HIE0
    generalize hoi : ofAI ls la ws E = oi at *
    obtain ⟨y, hy⟩ : ∃ y, y = ofAN ls la ws E := ⟨_, rfl⟩
    rw [← hy] at HN6 HQ6 HM6 HIE ⊢
    have HYE := hid hy
    clear hy hoi
    unfold Nt.cells at HQ6 HM6 HN6 ⊢
    by_cases k5 : oi = 0
    · have k5b : (oi != 0) = false := by rw [k5]; rfl
      go_upto_region 22 with fail
      generalize w6.alloc (.cells #[.int .i64 y.fr, .int .i64 y.to_, .int .i64 y.pl, .string y.lf, .string y.ll, .int .i64 y.ln, .bool y.pos, .slice am nm cm, .slice ak nk ck] 30) = W6 at *
      generalize w6.heap.size = B6 at *
      have HSM := hid (HSA _ _ _ _ _ _ _ W6 HM6.out.os.bel HN6.out)
      obtain ⟨y0, y1, y2, y3, y4, y5, y6, y7, y8⟩ := cells9 HQ6.out
      obtain ⟨b0, b1, b2, b3, b4, b5, b6, b7, b8⟩ := cells9 HM6.out.os.ent
      cases hnt : ntB y x with
      | true =>
        rw [hnt] at HSM
        have HI5 : Hid (rrI ls la ws ly x = 0) := by show _ = _; rw [HIE.out, if_neg]; rintro (h | h); exact h k5; rw [hnt] at h; cases h
        have HN5 : Hid (rrN ls la ws ly x = E) := by show _ = _; rw [HNN.out, HI5.out, if_pos rfl]; exact HEE.out.symm
        clear hnt HIE HNN HZZ k5
        go_wp2_with fail
        (with_reducible refine HSM.out.mono ?_)
        rintro e w7 ⟨rfl, hB7⟩
        have HM7 := hid (HM6.out.below hB7)
        have hm := HM7.out
        clear y0 y1 y2 y3 y4 y5 y6 y7 y8 b0 b1 b2 b3 b4 b5 b6 b7 b8 hB7 HSM HM6 HN6 HQ6
        obtain ⟨d0, d1, d2, d3, d4, d5⟩ := cells6 hm.row
        clear hm
        obtain ⟨r0, r1, r2, r3, r4, r5⟩ := cells6 HM7.out.os.res
        obtain ⟨g0, g1, g2, g3, g4, g5⟩ := free6 HM7.out.os.res
        go_wp2_with fail
        have q := row6 HM7.out.os.res (.int .i64 E.ly) (.int .i64 E.fr) (.int .i64 E.to_) (.bool E.pos) (.slice au nu cu) (.slice av nv cv)
        have hb := bel_set6 HM7.out.os.bel (B := w.heap.size + 1) (Nat.le_succ _) E (.slice au nu cu) (.slice av nv cv)
        obtain ⟨z0, z1, z2, z3, z4, z5⟩ := cells6 q
        exact bodyPost_ret (v := .tuple #[.agg (E.cells (.slice au nu cu) (.slice av nv cv)), .int .i64 0]) (by simp [results, Tryz.f18, go_sem, En.cells, z0, z1, z2, z3, z4, z5]) rfl ⟨au, _, cu, av, _, cv, by rw [HN5.out, HI5.out], by rw [HN5.out]; exact HRE.out E HEL.out _ hb, hb⟩
      | false =>
        rw [hnt] at HSM
        have HZ := hid (HZZ.out 26 (by decide) (by rw [HIE.out, if_pos (.inr hnt)]))
        clear hnt HIE HNN HZZ k5
        go_wp2_with fail
        (with_reducible refine HSM.out.mono ?_)
        rintro e w7 ⟨rfl, hB7⟩
        have HM7 := hid (HM6.out.below hB7)
        clear y0 y1 y2 y3 y4 y5 y6 y7 y8 b0 b1 b2 b3 b4 b5 b6 b7 b8 hB7 HSM HM6 HN6 HQ6
        obtain ⟨r0, r1, r2, r3, r4, r5⟩ := cells6 HM7.out.os.res
        obtain ⟨g0, g1, g2, g3, g4, g5⟩ := free6 HM7.out.os.res
        go_wp2_with fail
        have q := row6 HM7.out.os.res (.int .i64 0) (.int .i64 0) (.int .i64 0) (.bool false) (.slice none 0 0) (.slice none 0 0)
        have hb := zsets6_bel HM7.out.os.bel
        obtain ⟨z0, z1, z2, z3, z4, z5⟩ := cells6 q
        exact bodyPost_ret (v := .tuple #[.agg zeroE, .int .i64 26]) (by simp [results, Tryz.f18, go_sem, zeroE, z0, z1, z2, z3, z4, z5]) rfl (HZ.out _ hb)
    · have k5b : (oi != 0) = true := bne_iff_ne.2 k5
      have HZ := hid (HZZ.out 26 (by decide) (by rw [HIE.out, if_pos (.inl k5)]))
      clear HIE HNN HZZ k5
      go_upto_region 22 with fail
      generalize w6.alloc (.cells #[.int .i64 y.fr, .int .i64 y.to_, .int .i64 y.pl, .string y.lf, .string y.ll, .int .i64 y.ln, .bool y.pos, .slice am nm cm, .slice ak nk ck] 30) = W6 at *
      generalize w6.heap.size = B6 at *
      obtain ⟨r0, r1, r2, r3, r4, r5⟩ := cells6 HM6.out.os.res
      obtain ⟨g0, g1, g2, g3, g4, g5⟩ := free6 HM6.out.os.res
      go_wp2_with fail
      have q := row6 HM6.out.os.res (.int .i64 0) (.int .i64 0) (.int .i64 0) (.bool false) (.slice none 0 0) (.slice none 0 0)
      have hb := zsets6_bel HM6.out.os.bel
      obtain ⟨z0, z1, z2, z3, z4, z5⟩ := cells6 q
      exact bodyPost_ret (v := .tuple #[.agg zeroE, .int .i64 26]) (by simp [results, Tryz.f18, go_sem, zeroE, z0, z1, z2, z3, z4, z5]) rfl (HZ.out _ hb)
  · have k6b : (x.pl != 4) = true := bne_iff_ne.2 k6
    have HWI := HWD x.fr x.to_ W3 HM0.out.os.bel
    clear HWD
    go_wp2_with fail
    (with_reducible refine HWI.out.mono ?_)
    rintro e w5 ⟨r, rfl, hr5, hB5⟩
    have HM5 := hid (HM0.out.below hB5)
    clear HM0 HWI hB5 b0 b1 b2 b3 b4 b5 b6 b7 b8
    have HFB := hid (findRes_bound (wWs ls ws x.fr x.to_) x.lf x.ll x.ln (by have := wWs_len ls ws x.fr x.to_; omega))
    have HWB : Hid ((wWs ls ws x.fr x.to_).length ≤ 13) := Nat.le_trans (wWs_len ls ws x.fr x.to_) hlen
    have HAB := hid (wAt_bound ls x.fr x.to_)
    have HLB : Hid (ls.length ≤ 13) := by show _ ≤ _; have := HL1.out; omega
    have HFD := hid (rfind_any (wWs ls ws x.fr x.to_) x.lf x.ll x.ln r w5 (HE _ HM5.out.os.bel).out hr5 (fun y hy => hz y (wWs_mem hy)) hzN.lf hzN.ll (fun _ => HWB.out))
    have HRF : Hid (rsF ls ws x = findRes (wWs ls ws x.fr x.to_) x.lf x.ll x.ln) := rfl
    generalize findRes (wWs ls ws x.fr x.to_) x.lf x.ll x.ln = fr at *
    obtain ⟨fi, fk, fe⟩ := fr
    unfold findVal at HFD
    simp only at HFD HFB
    obtain ⟨ar, nr, cr, rfl⟩ : ∃ a n c, r = .slice a n c := by obtain ⟨a, c, h, _⟩ := hr5.open; exact ⟨a, _, c, h⟩
    obtain ⟨b0, b1, b2, b3, b4, b5, b6, b7, b8⟩ := cells9 HM5.out.os.ent
    clear hr5
    by_cases k7 : fe = 0
    · subst k7
      have HI4 : Hid (rrI ls la ws ly x = if ofAI ls la ws (rrE ls ws ly x) ≠ 0 ∨ ntB (ofAN ls la ws (rrE ls ws ly x)) x = false then 26 else 0) := by show _ = _; rw [HI3.out, if_neg (fun h => h.2 (by rw [HRF.out]))]
      have w1 : IntKind.i64.wrap (fi + wAt ls x.fr x.to_) = fi + wAt ls x.fr x.to_ := IntWalk.i64_in _ (by have := HAB.out; have := HFB.out; have := HWB.out; have := HLB.out; omega)
      have w2 : IntKind.i64.wrap (fk + wAt ls x.fr x.to_) = fk + wAt ls x.fr x.to_ := IntWalk.i64_in _ (by have := HAB.out; have := HFB.out; have := HWB.out; have := HLB.out; omega)
      have HRP : Hid (rrE ls ws ly x = if x.pl = 2 then ⟨ly, fk + wAt ls x.fr x.to_, fk + wAt ls x.fr x.to_, x.pos, x.sup, x.vs⟩ else if x.pl = 3 then ⟨ly, fi + wAt ls x.fr x.to_, fi + wAt ls x.fr x.to_, x.pos, x.sup, x.vs⟩ else if x.pl = 1 then ⟨ly, fi + wAt ls x.fr x.to_, fk + wAt ls x.fr x.to_, x.pos, x.sup, x.vs⟩ else ⟨ly, 0, 0, x.pos, x.sup, x.vs⟩) := by
        show _ = _
        unfold rrE rrP
        rw [HRF.out]
        by_cases p2 : x.pl = 2
        · rw [if_neg (by omega), if_pos p2, if_pos p2, Int.add_comm fk]
        · by_cases p1 : x.pl = 1
          · rw [if_pos p1, if_neg p2, if_neg (by omega), if_pos p1, Int.add_comm fi, Int.add_comm fk]
          · by_cases p3 : x.pl = 3
            · rw [if_neg p1, if_neg p2, if_pos p3, if_neg p2, if_pos p3, Int.add_comm fi]
            · rw [if_neg p1, if_neg p2, if_neg p3, if_neg p2, if_neg p3, if_neg p1]
      generalize wAt ls x.fr x.to_ = A at *
      clear HI3 HRF HFB HAB HWB HLB HL1
      go_wp2_with fail
      (with_reducible refine HFD.out.mono ?_)
      rintro e w6 ⟨rfl, hB6⟩
      have HM6 := hid (HM5.out.below hB6)
      clear HFD HM5 hB6 b0 b1 b2 b3 b4 b5 b6 b7 b8
      have t1 := HM6.out.row.cell 1 (x := .int .i64 0) rfl
      have t2 := HM6.out.row.cell 2 (x := .int .i64 0) rfl
      have f1 := HM6.out.row.frozen 1
      have f2 := HM6.out.row.frozen 2
      have hma := HM6.out.put hBlo 1 (.int .i64 (fi + A)) ⟨ly, fi + A, 0, x.pos, x.sup, x.vs⟩ rfl
      have HM7 := hid (hma.put hBlo 2 (.int .i64 (fk + A)) ⟨ly, fi + A, fk + A, x.pos, x.sup, x.vs⟩ rfl)
      clear hma
      go_upto_region 16 with fail
      generalize (w6.setCell ⟨B, 1, none⟩ (.int .i64 (fi + A))).setCell ⟨B, 2, none⟩ (.int .i64 (fk + A)) = W7 at *
      clear t1 t2 f1 f2 HM6
      have c2 := HM7.out.os.ent.cell 2 (x := .int .i64 x.pl) rfl
      go_upto_block 0 with fail
      clear c2
      go_cut [] from 85 to 94 (fun wx => RrM x (.slice au nu cu) (.slice av nv cv) w B (rrE ls ws ly x) wx)
      case first =>
        have t1 := HM7.out.row.cell 1 (x := .int .i64 (fi + A)) rfl
        have t2 := HM7.out.row.cell 2 (x := .int .i64 (fk + A)) rfl
        have f1 := HM7.out.row.frozen 1
        have f2 := HM7.out.row.frozen 2
        by_cases p2 : x.pl = 2
        · have p2b : (x.pl == 2) = true := by rw [p2]; rfl
          have hmb := HM7.out.put hBlo 1 (.int .i64 (fk + A)) ⟨ly, fk + A, fk + A, x.pos, x.sup, x.vs⟩ rfl
          rw [show (⟨ly, fk + A, fk + A, x.pos, x.sup, x.vs⟩ : En) = rrE ls ws ly x by rw [HRP.out, if_pos p2]] at hmb
          clear p2
          go_wp2_with fail
          go_meet
          exact hmb
        have p2b : (x.pl == 2) = false := beq_eq_false_iff_ne.2 p2
        by_cases p3 : x.pl = 3
        · have p3b : (x.pl == 3) = true := by rw [p3]; rfl
          have hmb := HM7.out.put hBlo 2 (.int .i64 (fi + A)) ⟨ly, fi + A, fi + A, x.pos, x.sup, x.vs⟩ rfl
          rw [show (⟨ly, fi + A, fi + A, x.pos, x.sup, x.vs⟩ : En) = rrE ls ws ly x by rw [HRP.out, if_neg p2, if_pos p3]] at hmb
          clear p3 p2
          go_wp2_with fail
          go_meet
          exact hmb
        have p3b : (x.pl == 3) = false := beq_eq_false_iff_ne.2 p3
        have p1 : x.pl = 1 := by have := HPLL.out; omega
        have hmb := HM7.out
        rw [show (⟨ly, fi + A, fk + A, x.pos, x.sup, x.vs⟩ : En) = rrE ls ws ly x by rw [HRP.out, if_neg p2, if_neg p3, if_pos p1]] at hmb
        clear p3 p2 p1
        go_wp2_with fail
        go_meet
        exact hmb
      case rest =>
        have HMM0 := hid hcut
        clear hcut HM7 HPLL w1 w2
        have HEL0 : Hid ((rrE ls ws ly x).sup = x.sup ∧ (rrE ls ws ly x).vs = x.vs) := ⟨rfl, rfl⟩
        obtain ⟨E, hE⟩ : ∃ E, E = rrE ls ws ly x := ⟨_, rfl⟩
        rw [← hE] at HMM0 HEL0
        have HMM := hid HMM0.out
        have HEE := hid hE
        have HEL := hid HEL0.out
        have HIE0 : Hid (∀ E', E' = rrE ls ws ly x → rrI ls la ws ly x = if ofAI ls la ws E' ≠ 0 ∨ ntB (ofAN ls la ws E') x = false then 26 else 0) := fun E' h => by rw [h, HI4.out]
        have HOO := fun (B : Nat) (W : World) (h : RrM x (.slice au nu cu) (.slice av nv cv) w B E W) => HOO0 B E HEL.out h
        clear HI4 hE HRP HOO0 HMM0 HEL0
        unfold En.cells at HOO
        have HM := hid HMM.out
        have hm := HM.out
        obtain ⟨d0, d1, d2, d3, d4, d5⟩ := cells6 hm.row
        have HOF := hid (HOO _ _ hm)
        clear hm HMM
        go_wp2_with fail
        (with_reducible refine HOF.out.mono ?_)
        rintro e w6 ⟨am, nm, cm, ak, nk, ck, rfl, hN6, hB6⟩
        have HM6 := hid ((HM.out.below hB6).al (.cells ((ofAN ls la ws E).cells (.slice am nm cm) (.slice ak nk ck)) 30))
        have HN6 := hid (hN6.below (below_al w6 (.cells ((ofAN ls la ws E).cells (.slice am nm cm) (.slice ak nk ck)) 30)))
        have HQ6 := hid (row_nw w6 ((ofAN ls la ws E).cells (.slice am nm cm) (.slice ak nk ck)) 30 rfl)
        clear d0 d1 d2 d3 d4 d5 HOF HM hB6 hN6
        have HIE := hid (HIE0.out E HEE.out)
        clear HIE0
        generalize hoi : ofAI ls la ws E = oi at *
        obtain ⟨y, hy⟩ : ∃ y, y = ofAN ls la ws E := ⟨_, rfl⟩
        rw [← hy] at HN6 HQ6 HM6 HIE ⊢
        have HYE := hid hy
        clear hy hoi
        unfold Nt.cells at HQ6 HM6 HN6 ⊢
        by_cases k5 : oi = 0
        · have k5b : (oi != 0) = false := by rw [k5]; rfl
          go_upto_region 22 with fail
          generalize w6.alloc (.cells #[.int .i64 y.fr, .int .i64 y.to_, .int .i64 y.pl, .string y.lf, .string y.ll, .int .i64 y.ln, .bool y.pos, .slice am nm cm, .slice ak nk ck] 30) = W6 at *
          generalize w6.heap.size = B6 at *
          have HSM := hid (HSA _ _ _ _ _ _ _ W6 HM6.out.os.bel HN6.out)
          obtain ⟨y0, y1, y2, y3, y4, y5, y6, y7, y8⟩ := cells9 HQ6.out
          obtain ⟨b0, b1, b2, b3, b4, b5, b6, b7, b8⟩ := cells9 HM6.out.os.ent
          cases hnt : ntB y x with
          | true =>
            rw [hnt] at HSM
            have HI5 : Hid (rrI ls la ws ly x = 0) := by show _ = _; rw [HIE.out, if_neg]; rintro (h | h); exact h k5; rw [hnt] at h; cases h
            have HN5 : Hid (rrN ls la ws ly x = E) := by show _ = _; rw [HNN.out, HI5.out, if_pos rfl]; exact HEE.out.symm
            clear hnt HIE HNN HZZ k5
            go_wp2_with fail
            (with_reducible refine HSM.out.mono ?_)
            rintro e w7 ⟨rfl, hB7⟩
            have HM7 := hid (HM6.out.below hB7)
            have hm := HM7.out
            clear y0 y1 y2 y3 y4 y5 y6 y7 y8 b0 b1 b2 b3 b4 b5 b6 b7 b8 hB7 HSM HM6 HN6 HQ6
            obtain ⟨d0, d1, d2, d3, d4, d5⟩ := cells6 hm.row
            clear hm
            obtain ⟨r0, r1, r2, r3, r4, r5⟩ := cells6 HM7.out.os.res
            obtain ⟨g0, g1, g2, g3, g4, g5⟩ := free6 HM7.out.os.res
            go_wp2_with fail
            have q := row6 HM7.out.os.res (.int .i64 E.ly) (.int .i64 E.fr) (.int .i64 E.to_) (.bool E.pos) (.slice au nu cu) (.slice av nv cv)
            have hb := bel_set6 HM7.out.os.bel (B := w.heap.size + 1) (Nat.le_succ _) E (.slice au nu cu) (.slice av nv cv)
            obtain ⟨z0, z1, z2, z3, z4, z5⟩ := cells6 q
            exact bodyPost_ret (v := .tuple #[.agg (E.cells (.slice au nu cu) (.slice av nv cv)), .int .i64 0]) (by simp [results, Tryz.f18, go_sem, En.cells, z0, z1, z2, z3, z4, z5]) rfl ⟨au, _, cu, av, _, cv, by rw [HN5.out, HI5.out], by rw [HN5.out]; exact HRE.out E HEL.out _ hb, hb⟩
          | false =>
            rw [hnt] at HSM
            have HZ := hid (HZZ.out 26 (by decide) (by rw [HIE.out, if_pos (.inr hnt)]))
            clear hnt HIE HNN HZZ k5
            go_wp2_with fail
            (with_reducible refine HSM.out.mono ?_)
            rintro e w7 ⟨rfl, hB7⟩
            have HM7 := hid (HM6.out.below hB7)
            clear y0 y1 y2 y3 y4 y5 y6 y7 y8 b0 b1 b2 b3 b4 b5 b6 b7 b8 hB7 HSM HM6 HN6 HQ6
            obtain ⟨r0, r1, r2, r3, r4, r5⟩ := cells6 HM7.out.os.res
            obtain ⟨g0, g1, g2, g3, g4, g5⟩ := free6 HM7.out.os.res
            go_wp2_with fail
            have q := row6 HM7.out.os.res (.int .i64 0) (.int .i64 0) (.int .i64 0) (.bool false) (.slice none 0 0) (.slice none 0 0)
            have hb := zsets6_bel HM7.out.os.bel
            obtain ⟨z0, z1, z2, z3, z4, z5⟩ := cells6 q
            exact bodyPost_ret (v := .tuple #[.agg zeroE, .int .i64 26]) (by simp [results, Tryz.f18, go_sem, zeroE, z0, z1, z2, z3, z4, z5]) rfl (HZ.out _ hb)
        · have k5b : (oi != 0) = true := bne_iff_ne.2 k5
          have HZ := hid (HZZ.out 26 (by decide) (by rw [HIE.out, if_pos (.inl k5)]))
          clear HIE HNN HZZ k5
          go_upto_region 22 with fail
          generalize w6.alloc (.cells #[.int .i64 y.fr, .int .i64 y.to_, .int .i64 y.pl, .string y.lf, .string y.ll, .int .i64 y.ln, .bool y.pos, .slice am nm cm, .slice ak nk ck] 30) = W6 at *
          generalize w6.heap.size = B6 at *
          obtain ⟨r0, r1, r2, r3, r4, r5⟩ := cells6 HM6.out.os.res
          obtain ⟨g0, g1, g2, g3, g4, g5⟩ := free6 HM6.out.os.res
          go_wp2_with fail
          have q := row6 HM6.out.os.res (.int .i64 0) (.int .i64 0) (.int .i64 0) (.bool false) (.slice none 0 0) (.slice none 0 0)
          have hb := zsets6_bel HM6.out.os.bel
          obtain ⟨z0, z1, z2, z3, z4, z5⟩ := cells6 q
          exact bodyPost_ret (v := .tuple #[.agg zeroE, .int .i64 26]) (by simp [results, Tryz.f18, go_sem, zeroE, z0, z1, z2, z3, z4, z5]) rfl (HZ.out _ hb)
    · have k7b : (fe != 0) = true := bne_iff_ne.2 k7
      have HZ := hid (HZZ.out 26 (by decide) (by rw [HI3.out, if_pos ⟨k6, by rw [HRF.out]; exact k7⟩]))
      clear HZZ HI3 HNN HRF HFB HAB HWB HLB HL1 k7 HOO0 HSA
      go_wp2_with fail
      (with_reducible refine HFD.out.mono ?_)
      rintro e w6 ⟨rfl, hB6⟩
      have HM6 := hid (HM5.out.below hB6)
      clear HFD HM5 hB6 b0 b1 b2 b3 b4 b5 b6 b7 b8
      obtain ⟨r0, r1, r2, r3, r4, r5⟩ := cells6 HM6.out.os.res
      obtain ⟨g0, g1, g2, g3, g4, g5⟩ := free6 HM6.out.os.res
      go_wp2_with fail
      have q := row6 HM6.out.os.res (.int .i64 0) (.int .i64 0) (.int .i64 0) (.bool false) (.slice none 0 0) (.slice none 0 0)
      have hb := zsets6_bel HM6.out.os.bel
      obtain ⟨z0, z1, z2, z3, z4, z5⟩ := cells6 q
      exact bodyPost_ret (v := .tuple #[.agg zeroE, .int .i64 26]) (by simp [results, Tryz.f18, go_sem, zeroE, z0, z1, z2, z3, z4, z5]) rfl (HZ.out _ hb)
theorem rRes_any (ls la : List Int) (ws : List ByteArray) (ly : Int) (x : Nt) (v1 v2 v3 u s : Value) (w : World) (he : Env w) (h1 : RdI w v1 ls) (h2 : RdI w v2 la) (h3 : RdS w v3 ws) (hN : RdN w u s x)
    (hz : Sz16 ws) (hzN : SzN x) (hll : ls.length ≤ 65536) (hlen : ws.length ≤ 13) (hsl : x.sup.length ≤ 65536) (hvl : x.vs.length ≤ 65536) (hel : ∀ v ∈ x.vs, v.ws.length ≤ 65536 ∧ v.sg.length ≤ 65536) :
    Calls Tryz.prog 18 #[v1, v2, v3, .int .i64 ly, .agg (x.cells u s)] w fun r w' => RsQ (rsN ls la ws ly x) (rsI ls la ws ly x) w r w' := by
  have h := rRes_raw ls la ws ly x v1 v2 v3 u s w he h1 h2 h3 hN hz hzN hlen hsl hvl hel
  rw [(rr_eq hll hlen).1, (rr_eq hll hlen).2] at h
  exact h
end Go.Proofs.YtjhdeoniafahbaaGreatDoor
