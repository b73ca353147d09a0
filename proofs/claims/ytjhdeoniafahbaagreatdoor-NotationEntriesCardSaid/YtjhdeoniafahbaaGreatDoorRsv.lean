/-
  notation.Resolve.
-/
import Derived.Test.YtjhdeoniafahbaaGreatDoorJ07
import Derived.Test.YtjhdeoniafahbaaGreatDoorJ08
import Derived.Test.YtjhdeoniafahbaaGreatDoorJ05
namespace Go.Proofs.YtjhdeoniafahbaaGreatDoor
open Go.RowKit

def RsQ (y : En) (err : Int) (w : World) (r : Ending) (w' : World) : Prop :=
  ∃ (au : Option Addr) (nu cu : Nat) (av : Option Addr) (nv cv : Nat), r = .returned (.tuple #[.agg (y.cells (.slice au nu cu) (.slice av nv cv)), .int .i64 err]) ∧ RdE w' (.slice au nu cu) (.slice av nv cv) y ∧ Below w.heap.size w w'
def en00 : En := ⟨0, 0, 0, false, [], []⟩
theorem rdE_zero (w : World) : RdE w (.slice none 0 0) (.slice none 0 0) en00 := ⟨Rd.nil _, RdV.nil _⟩
def rsN (ls la : List Int) (ws : List ByteArray) (ly : Int) (n : Nt) : En := if rsI ls la ws ly n = 0 then rsE ls ws ly n else en00

set_option maxRecDepth 100000 in
set_option maxHeartbeats 16000000 in
theorem pres_any (ls la : List Int) (ws : List ByteArray) (ly : Int) (x : Nt) (v1 v2 v3 u s : Value) (w : World) (he : Env w) (h1 : RdI w v1 ls) (h2 : RdI w v2 la) (h3 : RdS w v3 ws) (hN : RdN w u s x)
    (hz : Sz16 ws) (hzN : SzN x) (hlen : ws.length ≤ 13) :
    Calls Tryz.prog 17 #[v1, v2, v3, .int .i64 ly, .agg (x.cells u s)] w fun r w' => RsQ (rsN ls la ws ly x) (rsI ls la ws ly x) w r w' := by
  have HE := fun w' (h : Below w.heap.size w w') => hid (he.below h)
  have H1 := fun w' (h : Below w.heap.size w w') => hid (h1.below h)
  have H2 := fun w' (h : Below w.heap.size w w') => hid (h2.below h)
  have H3 := fun w' (h : Below w.heap.size w w') => hid (h3.below h)
  have HR := fun w' (h : Below w.heap.size w w') => hid (hN.below h)
  have hb0 := below_tr (below_al w (.cells (x.cells u s) 30)) (below_al _ (.cells zeroE 26))
  have HOS : Hid (RsS x u s w ((w.alloc (.cells (x.cells u s) 30)).alloc (.cells zeroE 26))) :=
    ⟨(row_nw w (x.cells u s) 30 rfl).al _, by
      have := row_nw (w.alloc (.cells (x.cells u s) 30)) zeroE 26 rfl
      rw [show (w.alloc (.cells (x.cells u s) 30)).heap.size = w.heap.size + 1 by simp] at this
      exact this, hb0⟩
  have HLI := hid (lists_any v1 v2 v3 ls la ws _ (h1.below hb0) (h2.below hb0) (h3.below hb0))
  have HI : Hid (rsI ls la ws ly x = if listsI ls la ws.length ≠ 0 then listsI ls la ws.length else if ly < 0 ∨ 62 < ly then 2 else if nteI x ≠ 0 then nteI x
    else if x.pl ≠ 4 ∧ (rsF ls ws x).2.2 ≠ 0 then 26
    else if ofI ls la ws (rsE ls ws ly x) ≠ 0 ∨ ntB (ofN ls la ws (rsE ls ws ly x)) x = false then 26 else 0) := rfl
  have HNN : Hid (rsN ls la ws ly x = if rsI ls la ws ly x = 0 then rsE ls ws ly x else en00) := rfl
  obtain ⟨a1, c1, rfl, _⟩ := h1.open
  obtain ⟨a2, c2, rfl, _⟩ := h2.open
  obtain ⟨a3, c3, rfl, _⟩ := h3.open
  obtain ⟨au, cu, rfl, _⟩ := hN.rs.open
  obtain ⟨av, cv, rfl, _⟩ := hN.rv.open
  have HZZ : Hid (∀ e : Int, e ≠ 0 → rsI ls la ws ly x = e → ∀ W, Below w.heap.size w W → RsQ (rsN ls la ws ly x) (rsI ls la ws ly x) w (.returned (.tuple #[.agg zeroE, .int .i64 e])) W) := fun e h0 hi W hb =>
    ⟨none, 0, 0, none, 0, 0, by rw [HNN.out, hi, if_neg h0]; rfl, by rw [HNN.out, hi, if_neg h0]; exact rdE_zero _, hb⟩
  clear he h1 h2 h3 hN hb0
  generalize hli : listsI ls la ws.length = li at *
  unfold Nt.cells zeroE at HLI HOS
  unfold Nt.cells
  go_enter Tryz.func17, Tryz.ntmps17
  go_wp2_with fail
  (with_reducible refine HLI.out.mono ?_)
  rintro e w2 ⟨rfl, hB2⟩
  have HS2 : Hid (RsS x (.slice au x.sup.length cu) (.slice av x.vs.length cv) w w2) := HOS.out.below hB2
  clear HOS HLI hB2
  by_cases k0 : li = 0
  case neg =>
    have k0b : (li == 0) = false := beq_eq_false_iff_ne.2 k0
    have HZ := hid (HZZ.out li k0 (by rw [HI.out, if_pos k0]))
    clear HZZ HI HNN k0
    have r0 := HS2.out.res.cell 0 (x := .int .i64 0) rfl
    have r1 := HS2.out.res.cell 1 (x := .int .i64 0) rfl
    have r2 := HS2.out.res.cell 2 (x := .int .i64 0) rfl
    have r3 := HS2.out.res.cell 3 (x := .bool false) rfl
    have r4 := HS2.out.res.cell 4 (x := .slice none 0 0) rfl
    have r5 := HS2.out.res.cell 5 (x := .slice none 0 0) rfl
    have g0 := HS2.out.res.frozen 0
    have g1 := HS2.out.res.frozen 1
    have g2 := HS2.out.res.frozen 2
    have g3 := HS2.out.res.frozen 3
    have g4 := HS2.out.res.frozen 4
    have g5 := HS2.out.res.frozen 5
    go_wp2_with fail
    have q := row6 HS2.out.res (.int .i64 0) (.int .i64 0) (.int .i64 0) (.bool false) (.slice none 0 0) (.slice none 0 0)
    have hb := zsets6_bel HS2.out.bel
    have z0 := q.cell 0 (x := .int .i64 0) rfl
    have z1 := q.cell 1 (x := .int .i64 0) rfl
    have z2 := q.cell 2 (x := .int .i64 0) rfl
    have z3 := q.cell 3 (x := .bool false) rfl
    have z4 := q.cell 4 (x := .slice none 0 0) rfl
    have z5 := q.cell 5 (x := .slice none 0 0) rfl
    exact bodyPost_ret (v := .tuple #[.agg zeroE, .int .i64 li]) (by simp [results, Tryz.f17, go_sem, zeroE, z0, z1, z2, z3, z4, z5]) rfl (HZ.out _ hb)
  subst k0
  obtain ⟨hl1, hl2, _⟩ := lists_len hli
  have HL1 := hid hl1
  have HL2 := hid hl2
  clear hli hl1 hl2
  by_cases k1 : ly < 0 ∨ 62 < ly
  case pos =>
    have HZ := hid (HZZ.out 2 (by decide) (by rw [HI.out, if_neg (by simp), if_pos k1]))
    clear HZZ HI HNN
    by_cases k2 : ly < 0
    · clear k1
      have r0 := HS2.out.res.cell 0 (x := .int .i64 0) rfl
      have r1 := HS2.out.res.cell 1 (x := .int .i64 0) rfl
      have r2 := HS2.out.res.cell 2 (x := .int .i64 0) rfl
      have r3 := HS2.out.res.cell 3 (x := .bool false) rfl
      have r4 := HS2.out.res.cell 4 (x := .slice none 0 0) rfl
      have r5 := HS2.out.res.cell 5 (x := .slice none 0 0) rfl
      have g0 := HS2.out.res.frozen 0
      have g1 := HS2.out.res.frozen 1
      have g2 := HS2.out.res.frozen 2
      have g3 := HS2.out.res.frozen 3
      have g4 := HS2.out.res.frozen 4
      have g5 := HS2.out.res.frozen 5
      go_wp2_with fail
      have q := row6 HS2.out.res (.int .i64 0) (.int .i64 0) (.int .i64 0) (.bool false) (.slice none 0 0) (.slice none 0 0)
      have hb := zsets6_bel HS2.out.bel
      have z0 := q.cell 0 (x := .int .i64 0) rfl
      have z1 := q.cell 1 (x := .int .i64 0) rfl
      have z2 := q.cell 2 (x := .int .i64 0) rfl
      have z3 := q.cell 3 (x := .bool false) rfl
      have z4 := q.cell 4 (x := .slice none 0 0) rfl
      have z5 := q.cell 5 (x := .slice none 0 0) rfl
      exact bodyPost_ret (v := .tuple #[.agg zeroE, .int .i64 2]) (by simp [results, Tryz.f17, go_sem, zeroE, z0, z1, z2, z3, z4, z5]) rfl (HZ.out _ hb)
    · have k3 : 62 < ly := by omega
      clear k1
      have r0 := HS2.out.res.cell 0 (x := .int .i64 0) rfl
      have r1 := HS2.out.res.cell 1 (x := .int .i64 0) rfl
      have r2 := HS2.out.res.cell 2 (x := .int .i64 0) rfl
      have r3 := HS2.out.res.cell 3 (x := .bool false) rfl
      have r4 := HS2.out.res.cell 4 (x := .slice none 0 0) rfl
      have r5 := HS2.out.res.cell 5 (x := .slice none 0 0) rfl
      have g0 := HS2.out.res.frozen 0
      have g1 := HS2.out.res.frozen 1
      have g2 := HS2.out.res.frozen 2
      have g3 := HS2.out.res.frozen 3
      have g4 := HS2.out.res.frozen 4
      have g5 := HS2.out.res.frozen 5
      go_wp2_with fail
      have q := row6 HS2.out.res (.int .i64 0) (.int .i64 0) (.int .i64 0) (.bool false) (.slice none 0 0) (.slice none 0 0)
      have hb := zsets6_bel HS2.out.bel
      have z0 := q.cell 0 (x := .int .i64 0) rfl
      have z1 := q.cell 1 (x := .int .i64 0) rfl
      have z2 := q.cell 2 (x := .int .i64 0) rfl
      have z3 := q.cell 3 (x := .bool false) rfl
      have z4 := q.cell 4 (x := .slice none 0 0) rfl
      have z5 := q.cell 5 (x := .slice none 0 0) rfl
      exact bodyPost_ret (v := .tuple #[.agg zeroE, .int .i64 2]) (by simp [results, Tryz.f17, go_sem, zeroE, z0, z1, z2, z3, z4, z5]) rfl (HZ.out _ hb)
  have k2 : ¬ ly < 0 := by omega
  have k3 : ¬ 62 < ly := by omega
  have b0 := HS2.out.ent.cell 0 (x := .int .i64 x.fr) rfl
  have b1 := HS2.out.ent.cell 1 (x := .int .i64 x.to_) rfl
  have b2 := HS2.out.ent.cell 2 (x := .int .i64 x.pl) rfl
  have b3 := HS2.out.ent.cell 3 (x := .string x.lf) rfl
  have b4 := HS2.out.ent.cell 4 (x := .string x.ll) rfl
  have b5 := HS2.out.ent.cell 5 (x := .int .i64 x.ln) rfl
  have b6 := HS2.out.ent.cell 6 (x := .bool x.pos) rfl
  have b7 := HS2.out.ent.cell 7 (x := .slice au x.sup.length cu) rfl
  have b8 := HS2.out.ent.cell 8 (x := .slice av x.vs.length cv) rfl
  have HCK := hid (pchk_any x (.slice au x.sup.length cu) (.slice av x.vs.length cv) w2 (HE _ HS2.out.bel).out (HR _ HS2.out.bel).out hzN)
  unfold Nt.cells at HCK
  go_wp2_with fail
  (with_reducible refine HCK.out.mono ?_)
  rintro e w3 ⟨rfl, hB3⟩
  have HS3 := hid (HS2.out.below hB3)
  clear HS2 HCK hB3 b0 b1 b2 b3 b4 b5 b6 b7 b8
  by_cases k4 : nteI x = 0
  case neg =>
    have k4b : (nteI x == 0) = false := beq_eq_false_iff_ne.2 k4
    have HZ := hid (HZZ.out (nteI x) k4 (by rw [HI.out, if_neg (by simp), if_neg k1, if_pos k4]))
    clear HZZ HI HNN k4 k1
    have r0 := HS3.out.res.cell 0 (x := .int .i64 0) rfl
    have r1 := HS3.out.res.cell 1 (x := .int .i64 0) rfl
    have r2 := HS3.out.res.cell 2 (x := .int .i64 0) rfl
    have r3 := HS3.out.res.cell 3 (x := .bool false) rfl
    have r4 := HS3.out.res.cell 4 (x := .slice none 0 0) rfl
    have r5 := HS3.out.res.cell 5 (x := .slice none 0 0) rfl
    have g0 := HS3.out.res.frozen 0
    have g1 := HS3.out.res.frozen 1
    have g2 := HS3.out.res.frozen 2
    have g3 := HS3.out.res.frozen 3
    have g4 := HS3.out.res.frozen 4
    have g5 := HS3.out.res.frozen 5
    go_wp2_with fail
    have q := row6 HS3.out.res (.int .i64 0) (.int .i64 0) (.int .i64 0) (.bool false) (.slice none 0 0) (.slice none 0 0)
    have hb := zsets6_bel HS3.out.bel
    have z0 := q.cell 0 (x := .int .i64 0) rfl
    have z1 := q.cell 1 (x := .int .i64 0) rfl
    have z2 := q.cell 2 (x := .int .i64 0) rfl
    have z3 := q.cell 3 (x := .bool false) rfl
    have z4 := q.cell 4 (x := .slice none 0 0) rfl
    have z5 := q.cell 5 (x := .slice none 0 0) rfl
    exact bodyPost_ret (v := .tuple #[.agg zeroE, .int .i64 (nteI x)]) (by simp [results, Tryz.f17, go_sem, zeroE, z0, z1, z2, z3, z4, z5]) rfl (HZ.out _ hb)
  have HI2 : Hid (rsI ls la ws ly x = if x.pl ≠ 4 ∧ (rsF ls ws x).2.2 ≠ 0 then 26
    else if ofI ls la ws (rsE ls ws ly x) ≠ 0 ∨ ntB (ofN ls la ws (rsE ls ws ly x)) x = false then 26 else 0) := by
    show _ = _
    rw [HI.out, if_neg (by simp), if_neg k1, if_neg (by simp [k4])]
  have HOK := hid (note_ok k4)
  rw [k4]
  clear HI k1 k4
  go_upto_region 9 with fail
  generalize w3 = W3 at *
  have hI := HS3.out
  have EC := enters_of Tryz.func42 (by kernel_rfl) rfl
  have e6 := hI.ent.cell 6 (x := .bool x.pos) rfl
  have e7 := hI.ent.cell 7 (x := .slice au x.sup.length cu) rfl
  have e6a := cell_al e6 (.cells #[.int .i64 0, .int .i64 0, .int .i64 0, .bool false, .slice none 0 0, .slice none 0 0] 26)
  have e7a := cell_al e7 (.cells #[.int .i64 0, .int .i64 0, .int .i64 0, .bool false, .slice none 0 0, .slice none 0 0] 26)
  have hWs : w.heap.size + 2 ≤ W3.heap.size := hI.res.lt
  have HCL := fun w' (h : Below w.heap.size w w') => hid (cloneF_any (.slice au x.sup.length cu) x.sup w' (HR w' h).out.rs (by have := HOK.out.sl; omega))
  go_cut [14] from 45 to 51 (fun p wx => RsC x (.slice au x.sup.length cu) (.slice av x.vs.length cv) ly w p wx)
  case first =>
    go_region_law (first
      | (refine step_callC rfl 42 EC (.tmp 49) #[23] rfl (.slice au x.sup.length cu) (by simp [Act.eval]) x.sup (HCL W3.drew hI.drew.bel).out ?_; intro ad c w6 hr6 hB6; have z3 := Below.keeps hB6 _ _ e6; have z3a := cell_al z3 (.cells #[.int .i64 0, .int .i64 0, .int .i64 0, .bool false, .slice none 0 0, .slice none 0 0] 26); have z1 := hI.drew.below hB6)
      | (refine step_callC rfl 42 EC (.tmp 49) #[23] rfl (.slice au x.sup.length cu) (by simp [Act.eval]) x.sup (HCL (W3.alloc (.cells zeroE 26)).drew (hI.al _).drew.bel).out ?_; intro ad c w6 hr6 hB6; have z3 := Below.keeps hB6 _ _ (cell_al e6 (.cells zeroE 26)); have z1 := (hI.al (.cells zeroE 26)).drew.below hB6; have zr := Row.below (Row.drew (row_nw W3 zeroE 26 rfl)) hB6; have q0 := zr.cell 0 (x := .int .i64 0) rfl; have q1 := zr.cell 1 (x := .int .i64 0) rfl; have q2 := zr.cell 2 (x := .int .i64 0) rfl; have q3 := zr.cell 3 (x := .bool false) rfl; have q4 := zr.cell 4 (x := .slice none 0 0) rfl; have q5 := zr.cell 5 (x := .slice none 0 0) rfl; have g0 := zr.frozen 0; have g1 := zr.frozen 1; have g2 := zr.frozen 2; have g3 := zr.frozen 3; have g4 := zr.frozen 4; have g5 := zr.frozen 5))
    all_goals (go_wp2_with fail; go_meet)
    all_goals first
      | with_reducible exact RsC.fold hr6 z1
      | with_reducible exact RsC.sets zr hWs hr6 z1
  case rest =>
    obtain ⟨B, ab, cb, rfl, hBlo, hRB, hSB, hOS⟩ := hcut
    have e8 := hOS.ent.cell 8 (x := .slice av x.vs.length cv) rfl
    have HLP : Hid (RsM x (.slice au x.sup.length cu) (.slice av x.vs.length cv) w B (.slice ab x.sup.length cb) (.slice none 0 0) [] ⟨ly, 0, 0, x.pos, x.sup, x.vs⟩ wc) := ⟨hOS, hRB, hSB, World.ownsRow_nil _ _ _ _, fun p hp => by cases hp⟩
    have HVC := hid (HR w (Below.refl _ _)).out.rv
    clear hRB hSB hOS e6 e7 e6a e7a hWs HCL hI HS3
    go_wp2_with fail
    obtain ⟨_, _, he8, _, _, hcell⟩ := HVC.out.open
    simp only [Value.slice.injEq] at he8
    obtain ⟨rfl, _, rfl⟩ := he8
    have HC := hid hcell
    clear hcell HVC e8
    go_loopw [55] (fun i wr => ∃ (k : Nat) (sv : Value) (phs : List VrV), k ≤ x.vs.length ∧ i = .int .i64 k ∧ Hid (RsM x (.slice au x.sup.length cu) (.slice av x.vs.length cv) w B (.slice ab x.sup.length cb) sv phs ⟨ly, 0, 0, x.pos, x.sup, x.vs⟩ wr) ∧ Hid (phs.map (·.1) = x.vs.take k)) (fun i _ => x.vs.length - (intOf i).toNat)
    case atStart => exact ⟨0, _, [], Nat.zero_le _, rfl, HLP.out, rfl⟩
    case round =>
      clear HLP
      obtain ⟨k, sv, phs, hk, rfl, HL, HPH⟩ := hrel
      by_cases hlt : k < x.vs.length
      · obtain ⟨y, b, o, vw, vg, hx, rfl, d0, d1, rw0, rs0⟩ := HC.out k hlt
        have hki : (k : Int) < (x.vs.length : Int) := by omega
        have hbel := HL.out.os.bel
        have e0 := Below.keeps hbel _ _ d0
        have e1 := Below.keeps hbel _ _ d1
        have hel := HOK.out.vs y (List.mem_of_getElem? hx)
        have hel1 := hel.wl
        have hel2 := hel.sl
        have HQ1 := fun w' (h : Below w.heap.size w w') => hid (cloneF_any vw y.ws w' (rw0.below h) (by omega))
        have HQ2 := fun w' (h : Below w.heap.size w w') => hid (cloneF_any vg y.sg w' (rs0.below h) (by omega))
        obtain ⟨aw, cw, rfl, hlw, hmw, _⟩ := rw0.open
        obtain ⟨ag, cg, rfl, hlg, hmg, _⟩ := rs0.open
        have hpl : phs.length ≤ 65536 := by
          have := congrArg List.length HPH.out
          rw [List.length_map, List.length_take] at this
          have := HOK.out.vl; omega
        have HPH2 : Hid ((phs.map (·.1)) ++ [y] = x.vs.take (k + 1)) := by show _ = _; rw [HPH.out, List.take_add_one, hx]; rfl
        have HL1' := hid (HL.out.al (.cells #[.slice aw y.ws.length cw, .slice ag y.sg.length cg] 63))
        have HRv := hid (row_nw wr #[.slice aw y.ws.length cw, .slice ag y.sg.length cg] 63 rfl)
        obtain ⟨asv, csv, hsv⟩ : ∃ a c, sv = .slice a phs.length c := by
          rcases HL.out.own.2 with ⟨rfl, hn⟩ | ⟨g, cap, cur, rfl, _⟩
          · exact ⟨none, 0, by rw [hn]⟩
          · exact ⟨_, cap, rfl⟩
        subst hsv
        clear d0 d1 rw0 rs0 hel hel1 hel2 hx hbel HL HPH
        go_upto_region 13 with fail
        generalize wr.alloc (.cells #[.slice aw y.ws.length cw, .slice ag y.sg.length cg] 63) = W1 at *
        generalize wr.heap.size = nv at *
        have hL := HL1'.out
        have hrv := HRv.out
        have r0 := hrv.cell 0 (x := .slice aw y.ws.length cw) rfl
        have r1 := hrv.cell 1 (x := .slice ag y.sg.length cg) rfl
        have r8 := hL.row.cell 5 (x := .slice asv phs.length csv) rfl
        clear HL1' HRv e0 e1
        go_region_law (first
          | (refine step_callC rfl 42 EC (.tmp 62) #[23] rfl (.slice aw y.ws.length cw) (by simp [Act.eval]) y.ws (HQ1 W1.drew hL.drew.os.bel).out ?_; intro ad1 cc1 w6 hr6 hB6; have z1 := hL.drew.below hB6; have zv := hrv.drew.below hB6; have zr1 := zv.cell 1 (x := .slice ag y.sg.length cg) rfl; have z8 := z1.row.cell 5 (x := .slice asv phs.length csv) rfl)
          | (refine step_callC rfl 42 EC (.tmp 65) #[23] rfl (.slice ag y.sg.length cg) (by simp [Act.eval]) y.sg (HQ2 w6 z1.os.bel).out ?_; intro ad2 cc2 w7 hr7 hB7; have z2 := z1.below hB7; have zv2 := hr6.below hB7; have z28 := z2.row.cell 5 (x := .slice asv phs.length csv) rfl; have z28a := cell_al z28 (.cells #[.slice ad1 y.ws.length cc1, .slice ad2 y.sg.length cc2] 63))
          | (refine step_ap rfl (.tmp 60) (.tmp 68) 24 rfl (w.heap.size + 2) 63 Tryz.underlying24 infoVar rfl (by decide) (by decide) (.slice asv phs.length csv) phs.length (vrCs phs) ?_ (z2.al (.cells #[.slice ad1 y.ws.length cc1, .slice ad2 y.sg.length cc2] 63)).own 1 (by decide) [.slice ad1 y.ws.length cc1, .slice ad2 y.sg.length cc2] rfl ?_ w7.heap.size ?_ ?_ ?_ ?_ ?_; (focus (simp [Act.eval]; done)); (focus (simp [Value.oneCell']; done)); (focus (simp [Act.eval]; done)); (focus (intro j q hj; exact cell_nw w7 #[.slice ad1 y.ws.length cc1, .slice ad2 y.sg.length cc2] _ j (by simpa using hj))); (focus omega); (focus (have := z2.os.res.lt; simp; omega)); intro g9 c9 w9 ho9 hb9 hg9 _; have zp := RsM.push (z2.al (.cells #[.slice ad1 y.ws.length cc1, .slice ad2 y.sg.length cc2] 63)) hBlo (y, .slice ad1 y.ws.length cc1, .slice ad2 y.sg.length cc2) (zv2.below (below_al _ _)) (hr7.below (below_al _ _)) ho9 hb9 hg9; have zq := (hg9.block _ (z2.al (.cells #[.slice ad1 y.ws.length cc1, .slice ad2 y.sg.length cc2] 63)).row.lt (Ne.symm (row_own_ne2 (z2.al (.cells #[.slice ad1 y.ws.length cc1, .slice ad2 y.sg.length cc2] 63)).row (z2.al (.cells #[.slice ad1 y.ws.length cc1, .slice ad2 y.sg.length cc2] 63)).own (by decide)))).trans (z2.al (.cells #[.slice ad1 y.ws.length cc1, .slice ad2 y.sg.length cc2] 63)).row; have z98 := Row.cell zq 5 (x := .slice asv phs.length csv) rfl; have f98 := Row.frozen zq 5))
        all_goals (go_wp2_with fail; go_roundw)
        all_goals (first | (simp [intOf]; omega; done) | (refine ⟨k + 1, _, _, by omega, by go_num, zp, ?_⟩; show _ = _; rw [List.map_append]; exact HPH2.out))
      · have hki : ¬ (k : Int) < (x.vs.length : Int) := by omega
        have HX : Hid (phs.map (·.1) = x.vs) := by show _ = _; rw [HPH.out, List.take_of_length_le (by omega)]
        clear HPH HC
        obtain ⟨asv, csv, hsv⟩ : ∃ a c, sv = .slice a phs.length c := by
          rcases HL.out.own.2 with ⟨rfl, hn⟩ | ⟨g, cap, cur, rfl, _⟩
          · exact ⟨none, 0, by rw [hn]⟩
          · exact ⟨_, cap, rfl⟩
        subst hsv
        have c2n := HL.out.os.ent.cell 2 (x := .int .i64 x.pl) rfl
        have n0 := HL.out.os.ent.cell 0 (x := .int .i64 x.fr) rfl
        have n1 := HL.out.os.ent.cell 1 (x := .int .i64 x.to_) rfl
        have n3 := HL.out.os.ent.cell 3 (x := .string x.lf) rfl
        have n4 := HL.out.os.ent.cell 4 (x := .string x.ll) rfl
        have n5 := HL.out.os.ent.cell 5 (x := .int .i64 x.ln) rfl
        have HWI := hid (within_any _ _ ls ws x.fr x.to_ wr (H1 _ HL.out.os.bel).out (H3 _ HL.out.os.bel).out HL1.out (by have := HL1.out; omega))
        go_upto_if 74 with fail
        go_cut [16] from 17 to 117 (fun _ wx => Hid (RsM x (.slice au x.sup.length cu) (.slice av x.vs.length cv) w B (.slice ab x.sup.length cb) (.slice asv phs.length csv) phs (rsE ls ws ly x) wx) ∧ Hid (rsI ls la ws ly x = if ofI ls la ws (rsE ls ws ly x) ≠ 0 ∨ ntB (ofN ls la ws (rsE ls ws ly x)) x = false then 26 else 0))
        case first =>
          by_cases k5 : x.pl = 4
          · have k5b : (x.pl != 4) = false := by simp [k5]
            have HE4 : Hid (rsE ls ws ly x = ⟨ly, 0, 0, x.pos, x.sup, x.vs⟩) := by
              show _ = _; unfold rsE rsP; rw [if_neg (by omega), if_neg (by omega)]
            have HI4 : Hid (rsI ls la ws ly x = if ofI ls la ws (rsE ls ws ly x) ≠ 0 ∨ ntB (ofN ls la ws (rsE ls ws ly x)) x = false then 26 else 0) := by
              show _ = _; rw [HI2.out, if_neg (by simp [k5])]
            clear k5
            go_wp2_with fail
            go_meet
            exact ⟨by rw [HE4.out]; exact HL, HI4⟩
          · have k5b : (x.pl != 4) = true := by simp [k5]
            go_wp2_with fail
            (with_reducible refine HWI.out.mono ?_)
            rintro e w5 ⟨r, rfl, hr5, hB5⟩
            have HM5 := hid (HL.out.below hB5)
            clear n0 n1 n3 n4 n5 c2n HL HWI
            have n3 := HM5.out.os.ent.cell 3 (x := .string x.lf) rfl
            have n4 := HM5.out.os.ent.cell 4 (x := .string x.ll) rfl
            have n5 := HM5.out.os.ent.cell 5 (x := .int .i64 x.ln) rfl
            have HFI := hid (findAll_any (wWs ls ws x.fr x.to_) x.lf x.ll x.ln r w5 (HE _ HM5.out.os.bel).out hr5 (fun s hs => hz s (wWs_mem hs)) hzN.lf hzN.ll (fun _ => Nat.le_trans (wWs_len ls ws x.fr x.to_) hlen))
            have HFB := hid (findRes_bound (wWs ls ws x.fr x.to_) x.lf x.ll x.ln (by have := wWs_len ls ws x.fr x.to_; omega))
            have HFL := hid (wWs_len ls ws x.fr x.to_)
            have HAB := hid (wAt_bound ls x.fr x.to_)
            have HFD : Hid (rsF ls ws x = findRes (wWs ls ws x.fr x.to_) x.lf x.ll x.ln) := rfl
            have HPD : Hid (rsP ls ws x = if x.pl = 1 then (wAt ls x.fr x.to_ + (rsF ls ws x).1, wAt ls x.fr x.to_ + (rsF ls ws x).2.1) else if x.pl = 2 then (wAt ls x.fr x.to_ + (rsF ls ws x).2.1, wAt ls x.fr x.to_ + (rsF ls ws x).2.1) else (0, 0)) := rfl
            generalize findRes (wWs ls ws x.fr x.to_) x.lf x.ll x.ln = fr at *
            obtain ⟨ff, ft, fe⟩ := fr
            unfold findVal at HFI
            simp only at HFI HFB
            generalize wAt ls x.fr x.to_ = A at *
            generalize wWs ls ws x.fr x.to_ = wo at *
            obtain ⟨ar, cr, rfl, _⟩ := hr5.open
            clear hr5 hB5
            go_wp2_with fail
            (with_reducible refine HFI.out.mono ?_)
            rintro e w6 ⟨rfl, hB6⟩
            have HM6 := hid (HM5.out.below hB6)
            clear HM5 HFI hB6 n3 n4 n5
            by_cases k6 : fe = 0
            case neg =>
              have k6b : (fe != 0) = true := by simp [k6]
              have HZ := hid (HZZ.out 26 (by decide) (by rw [HI2.out, if_pos ⟨k5, by rw [HFD.out]; exact k6⟩]))
              have HS6 := hid HM6.out.os
              have r0 := HS6.out.res.cell 0 (x := .int .i64 0) rfl
              have r1 := HS6.out.res.cell 1 (x := .int .i64 0) rfl
              have r2 := HS6.out.res.cell 2 (x := .int .i64 0) rfl
              have r3 := HS6.out.res.cell 3 (x := .bool false) rfl
              have r4 := HS6.out.res.cell 4 (x := .slice none 0 0) rfl
              have r5 := HS6.out.res.cell 5 (x := .slice none 0 0) rfl
              have g0 := HS6.out.res.frozen 0
              have g1 := HS6.out.res.frozen 1
              have g2 := HS6.out.res.frozen 2
              have g3 := HS6.out.res.frozen 3
              have g4 := HS6.out.res.frozen 4
              have g5 := HS6.out.res.frozen 5
              go_wp2_with fail
              have q := row6 HS6.out.res (.int .i64 0) (.int .i64 0) (.int .i64 0) (.bool false) (.slice none 0 0) (.slice none 0 0)
              have hb := zsets6_bel HS6.out.bel
              have z0 := q.cell 0 (x := .int .i64 0) rfl
              have z1 := q.cell 1 (x := .int .i64 0) rfl
              have z2 := q.cell 2 (x := .int .i64 0) rfl
              have z3 := q.cell 3 (x := .bool false) rfl
              have z4 := q.cell 4 (x := .slice none 0 0) rfl
              have z5 := q.cell 5 (x := .slice none 0 0) rfl
              exact bodyPost_ret (v := .tuple #[.agg zeroE, .int .i64 26]) (by simp [results, Tryz.f17, go_sem, zeroE, z0, z1, z2, z3, z4, z5]) rfl (HZ.out _ hb)
            subst k6
            have c2n := HM6.out.os.ent.cell 2 (x := .int .i64 x.pl) rfl
            have HI3 : Hid (rsI ls la ws ly x = if ofI ls la ws (rsE ls ws ly x) ≠ 0 ∨ ntB (ofN ls la ws (rsE ls ws ly x)) x = false then 26 else 0) := by
              show _ = _; rw [HI2.out, if_neg (by rw [HFD.out]; simp)]
            have hb1 := HFB.out
            have hb2 := HFL.out
            have hb3 := HAB.out
            have hb4 := HL1.out
            have w1 : IntKind.i64.wrap (A + ff) = A + ff := IntWalk.i64_in _ (by omega)
            have w2 : IntKind.i64.wrap (A + ft) = A + ft := IntWalk.i64_in _ (by omega)
            clear hb1 hb2 hb3 hb4
            have y1 := HM6.out.row.cell 1 (x := .int .i64 0) rfl
            have y2 := HM6.out.row.cell 2 (x := .int .i64 0) rfl
            have f1 := HM6.out.row.frozen 1
            have f2 := HM6.out.row.frozen 2
            by_cases k7 : x.pl = 1
            · have k7b : (x.pl == 1) = true := by simp [k7]
              have HE4 : Hid (rsE ls ws ly x = ⟨ly, A + ff, A + ft, x.pos, x.sup, x.vs⟩) := by
                show _ = _; unfold rsE; rw [HPD.out, if_pos k7, HFD.out]
              clear k7
              go_wp2_with fail
              go_meet
              refine ⟨?_, HI3⟩
              · rw [HE4.out]; exact hid ((HM6.out.put hBlo 1 (.int .i64 (A + ff)) ⟨ly, A + ff, 0, x.pos, x.sup, x.vs⟩ rfl).put hBlo 2 (.int .i64 (A + ft)) ⟨ly, A + ff, A + ft, x.pos, x.sup, x.vs⟩ rfl)
            · have k7b : (x.pl == 1) = false := by simp [k7]
              by_cases k8 : x.pl = 2
              · have k8b : (x.pl == 2) = true := by simp [k8]
                have HE4 : Hid (rsE ls ws ly x = ⟨ly, A + ft, A + ft, x.pos, x.sup, x.vs⟩) := by
                  show _ = _; unfold rsE; rw [HPD.out, if_neg k7, if_pos k8, HFD.out]
                clear k8 k7
                go_wp2_with fail
                go_meet
                refine ⟨?_, HI3⟩
                · rw [HE4.out]; exact hid ((HM6.out.put hBlo 1 (.int .i64 (A + ft)) ⟨ly, A + ft, 0, x.pos, x.sup, x.vs⟩ rfl).put hBlo 2 (.int .i64 (A + ft)) ⟨ly, A + ft, A + ft, x.pos, x.sup, x.vs⟩ rfl)
              · have k8b : (x.pl == 2) = false := by simp [k8]
                have HE4 : Hid (rsE ls ws ly x = ⟨ly, 0, 0, x.pos, x.sup, x.vs⟩) := by
                  show _ = _; unfold rsE; rw [HPD.out, if_neg k7, if_neg k8]
                go_wp2_with fail
                go_meet
                exact ⟨by rw [HE4.out]; exact HM6, HI3⟩
        case rest =>
          obtain ⟨HM, HI3⟩ := hcut
          clear n0 n1 n3 n4 n5 c2n HL HWI HI2
          have HRD := hid (HM.out.rd (E := rsE ls ws ly x) rfl HX.out)
          have HSE : Hid (SzE (rsE ls ws ly x)) := ⟨hzN.sup, hzN.vs, by have := HOK.out.sl; show x.sup.length ≤ 65536; omega, by have := HOK.out.vl; show x.vs.length ≤ 65536; omega, fun v hv => by have h := HOK.out.vs v hv; have h1 := h.wl; have h2 := h.sl; exact ⟨by omega, by omega⟩⟩
          have HOF := hid (pof_any ls la ws (rsE ls ws ly x) _ _ _ _ _ wc (HE _ HM.out.os.bel).out (H1 _ HM.out.os.bel).out (H2 _ HM.out.os.bel).out (H3 _ HM.out.os.bel).out HRD.out hz HSE.out HL1.out HL2.out hlen)
          have e0 := HM.out.row.cell 0 (x := .int .i64 (rsE ls ws ly x).ly) rfl
          have e1 := HM.out.row.cell 1 (x := .int .i64 (rsE ls ws ly x).fr) rfl
          have e2 := HM.out.row.cell 2 (x := .int .i64 (rsE ls ws ly x).to_) rfl
          have e3 := HM.out.row.cell 3 (x := .bool (rsE ls ws ly x).pos) rfl
          have e4 := HM.out.row.cell 4 (x := .slice ab x.sup.length cb) rfl
          have e5 := HM.out.row.cell 5 (x := .slice asv phs.length csv) rfl
          unfold En.cells at HOF
          go_wp2_with fail
          (with_reducible refine HOF.out.mono ?_)
          rintro e w7 ⟨y, bu, nu, du, bv, nv, dv, rfl, hy, hB7⟩
          unfold Nt.cells
          have HY := hid hy
          have HM7 := hid (HM.out.below hB7)
          have HM8 := hid (HM7.out.al (.cells #[.int .i64 y.fr, .int .i64 y.to_, .int .i64 y.pl, .string y.lf, .string y.ll, .int .i64 y.ln, .bool y.pos, .slice bu nu du, .slice bv nv dv] 30))
          clear e0 e1 e2 e3 e4 e5 HRD HSE HOF HM hy hB7 HM7
          have HOI : Hid (rsI ls la ws ly x = if ofI ls la ws (rsE ls ws ly x) ≠ 0 ∨ ntB (ofN ls la ws (rsE ls ws ly x)) x = false then 26 else 0) := HI3
          clear HI3
          generalize ofI ls la ws (rsE ls ws ly x) = oi at *
          by_cases k9 : oi = 0
          case neg =>
            have k9b : (oi != 0) = true := by simp [k9]
            have HZ := hid (HZZ.out 26 (by decide) (by rw [HOI.out, if_pos (Or.inl k9)]))
            have HS8 := hid HM8.out.os
            have r0 := HS8.out.res.cell 0 (x := .int .i64 0) rfl
            have r1 := HS8.out.res.cell 1 (x := .int .i64 0) rfl
            have r2 := HS8.out.res.cell 2 (x := .int .i64 0) rfl
            have r3 := HS8.out.res.cell 3 (x := .bool false) rfl
            have r4 := HS8.out.res.cell 4 (x := .slice none 0 0) rfl
            have r5 := HS8.out.res.cell 5 (x := .slice none 0 0) rfl
            have g0 := HS8.out.res.frozen 0
            have g1 := HS8.out.res.frozen 1
            have g2 := HS8.out.res.frozen 2
            have g3 := HS8.out.res.frozen 3
            have g4 := HS8.out.res.frozen 4
            have g5 := HS8.out.res.frozen 5
            go_wp2_with fail
            have q := row6 HS8.out.res (.int .i64 0) (.int .i64 0) (.int .i64 0) (.bool false) (.slice none 0 0) (.slice none 0 0)
            have hb := zsets6_bel HS8.out.bel
            have z0 := q.cell 0 (x := .int .i64 0) rfl
            have z1 := q.cell 1 (x := .int .i64 0) rfl
            have z2 := q.cell 2 (x := .int .i64 0) rfl
            have z3 := q.cell 3 (x := .bool false) rfl
            have z4 := q.cell 4 (x := .slice none 0 0) rfl
            have z5 := q.cell 5 (x := .slice none 0 0) rfl
            exact bodyPost_ret (v := .tuple #[.agg zeroE, .int .i64 26]) (by simp [results, Tryz.f17, go_sem, zeroE, z0, z1, z2, z3, z4, z5]) rfl (HZ.out _ hb)
          subst k9
          have HYE : Hid (ofN ls la ws (rsE ls ws ly x) = y) := (HY.out rfl).1.symm
          have HYR : Hid (OwN w7 (.slice bu nu du) (.slice bv nv dv) y) := by have h := HY.out rfl; show OwN _ _ _ _; rw [h.1]; exact h.2
          clear HY
          have HSM := hid (psame_any y x _ _ _ _ (w7.alloc (.cells #[.int .i64 y.fr, .int .i64 y.to_, .int .i64 y.pl, .string y.lf, .string y.ll, .int .i64 y.ln, .bool y.pos, .slice bu nu du, .slice bv nv dv] 30)) (HYR.out.rd.below (below_al _ _)) (HR _ HM8.out.os.bel).out)
          unfold Nt.cells at HSM
          have HRW := hid (row_nw w7 #[.int .i64 y.fr, .int .i64 y.to_, .int .i64 y.pl, .string y.lf, .string y.ll, .int .i64 y.ln, .bool y.pos, .slice bu nu du, .slice bv nv dv] 30 rfl)
          have m0 := HRW.out.cell 0 (x := .int .i64 y.fr) rfl
          have m1 := HRW.out.cell 1 (x := .int .i64 y.to_) rfl
          have m2 := HRW.out.cell 2 (x := .int .i64 y.pl) rfl
          have m3 := HRW.out.cell 3 (x := .string y.lf) rfl
          have m4 := HRW.out.cell 4 (x := .string y.ll) rfl
          have m5 := HRW.out.cell 5 (x := .int .i64 y.ln) rfl
          have m6 := HRW.out.cell 6 (x := .bool y.pos) rfl
          have m7 := HRW.out.cell 7 (x := .slice bu nu du) rfl
          have m8 := HRW.out.cell 8 (x := .slice bv nv dv) rfl
          have b0 := HM8.out.os.ent.cell 0 (x := .int .i64 x.fr) rfl
          have b1 := HM8.out.os.ent.cell 1 (x := .int .i64 x.to_) rfl
          have b2 := HM8.out.os.ent.cell 2 (x := .int .i64 x.pl) rfl
          have b3 := HM8.out.os.ent.cell 3 (x := .string x.lf) rfl
          have b4 := HM8.out.os.ent.cell 4 (x := .string x.ll) rfl
          have b5 := HM8.out.os.ent.cell 5 (x := .int .i64 x.ln) rfl
          have b6 := HM8.out.os.ent.cell 6 (x := .bool x.pos) rfl
          have b7 := HM8.out.os.ent.cell 7 (x := .slice au x.sup.length cu) rfl
          have b8 := HM8.out.os.ent.cell 8 (x := .slice av x.vs.length cv) rfl
          go_wp2_with fail
          (with_reducible refine HSM.out.mono ?_)
          rintro e w8 ⟨rfl, hB8⟩
          have HM9 := hid (HM8.out.below hB8)
          clear m0 m1 m2 m3 m4 m5 m6 m7 m8 b0 b1 b2 b3 b4 b5 b6 b7 b8 HSM HRW HM8 HYR hB8
          cases k10 : ntB y x
          case false =>
            have HZ := hid (HZZ.out 26 (by decide) (by rw [HOI.out, if_pos (Or.inr (by rw [HYE.out]; exact k10))]))
            have HS9 := hid HM9.out.os
            clear k10
            have r0 := HS9.out.res.cell 0 (x := .int .i64 0) rfl
            have r1 := HS9.out.res.cell 1 (x := .int .i64 0) rfl
            have r2 := HS9.out.res.cell 2 (x := .int .i64 0) rfl
            have r3 := HS9.out.res.cell 3 (x := .bool false) rfl
            have r4 := HS9.out.res.cell 4 (x := .slice none 0 0) rfl
            have r5 := HS9.out.res.cell 5 (x := .slice none 0 0) rfl
            have g0 := HS9.out.res.frozen 0
            have g1 := HS9.out.res.frozen 1
            have g2 := HS9.out.res.frozen 2
            have g3 := HS9.out.res.frozen 3
            have g4 := HS9.out.res.frozen 4
            have g5 := HS9.out.res.frozen 5
            go_wp2_with fail
            have q := row6 HS9.out.res (.int .i64 0) (.int .i64 0) (.int .i64 0) (.bool false) (.slice none 0 0) (.slice none 0 0)
            have hb := zsets6_bel HS9.out.bel
            have z0 := q.cell 0 (x := .int .i64 0) rfl
            have z1 := q.cell 1 (x := .int .i64 0) rfl
            have z2 := q.cell 2 (x := .int .i64 0) rfl
            have z3 := q.cell 3 (x := .bool false) rfl
            have z4 := q.cell 4 (x := .slice none 0 0) rfl
            have z5 := q.cell 5 (x := .slice none 0 0) rfl
            exact bodyPost_ret (v := .tuple #[.agg zeroE, .int .i64 26]) (by simp [results, Tryz.f17, go_sem, zeroE, z0, z1, z2, z3, z4, z5]) rfl (HZ.out _ hb)
          have HI5 : Hid (rsI ls la ws ly x = 0) := by show _ = _; rw [HOI.out, if_neg (by rw [HYE.out, k10]; simp)]
          have HN5 : Hid (rsN ls la ws ly x = rsE ls ws ly x) := by show _ = _; rw [HNN.out, if_pos HI5.out]
          have HOE : Hid (OwE w8 (.slice ab x.sup.length cb) (.slice asv phs.length csv) (rsE ls ws ly x)) := ⟨HM9.out.sup, _, phs, HM9.out.own, HM9.out.rds, HX.out⟩
          clear k10 HOI HYE HZZ HNN
          have e0 := HM9.out.row.cell 0 (x := .int .i64 (rsE ls ws ly x).ly) rfl
          have e1 := HM9.out.row.cell 1 (x := .int .i64 (rsE ls ws ly x).fr) rfl
          have e2 := HM9.out.row.cell 2 (x := .int .i64 (rsE ls ws ly x).to_) rfl
          have e3 := HM9.out.row.cell 3 (x := .bool (rsE ls ws ly x).pos) rfl
          have e4 := HM9.out.row.cell 4 (x := .slice ab x.sup.length cb) rfl
          have e5 := HM9.out.row.cell 5 (x := .slice asv phs.length csv) rfl
          have r0 := HM9.out.os.res.cell 0 (x := .int .i64 0) rfl
          have r1 := HM9.out.os.res.cell 1 (x := .int .i64 0) rfl
          have r2 := HM9.out.os.res.cell 2 (x := .int .i64 0) rfl
          have r3 := HM9.out.os.res.cell 3 (x := .bool false) rfl
          have r4 := HM9.out.os.res.cell 4 (x := .slice none 0 0) rfl
          have r5 := HM9.out.os.res.cell 5 (x := .slice none 0 0) rfl
          have g0 := HM9.out.os.res.frozen 0
          have g1 := HM9.out.os.res.frozen 1
          have g2 := HM9.out.os.res.frozen 2
          have g3 := HM9.out.os.res.frozen 3
          have g4 := HM9.out.os.res.frozen 4
          have g5 := HM9.out.os.res.frozen 5
          generalize rsE ls ws ly x = E at *
          go_wp2_with fail
          have q := row6 HM9.out.os.res (.int .i64 E.ly) (.int .i64 E.fr) (.int .i64 E.to_) (.bool E.pos) (.slice ab x.sup.length cb) (.slice asv phs.length csv)
          have hq := HOE.out.set6 HM9.out.os.res E
          have hb := bel_set6 HM9.out.os.bel (B := w.heap.size + 1) (Nat.le_succ _) E (.slice ab x.sup.length cb) (.slice asv phs.length csv)
          have z0 := q.cell 0 (x := .int .i64 E.ly) rfl
          have z1 := q.cell 1 (x := .int .i64 E.fr) rfl
          have z2 := q.cell 2 (x := .int .i64 E.to_) rfl
          have z3 := q.cell 3 (x := .bool E.pos) rfl
          have z4 := q.cell 4 (x := .slice ab x.sup.length cb) rfl
          have z5 := q.cell 5 (x := .slice asv phs.length csv) rfl
          exact bodyPost_ret (v := .tuple #[.agg (E.cells (.slice ab x.sup.length cb) (.slice asv phs.length csv)), .int .i64 0]) (by simp [results, Tryz.f17, go_sem, En.cells, z0, z1, z2, z3, z4, z5]) rfl ⟨ab, _, cb, asv, _, csv, by rw [HN5.out, HI5.out], by rw [HN5.out]; exact hq.rd, hb⟩
end Go.Proofs.YtjhdeoniafahbaaGreatDoor
