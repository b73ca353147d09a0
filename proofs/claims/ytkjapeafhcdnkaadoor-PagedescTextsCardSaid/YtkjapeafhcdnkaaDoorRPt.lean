/-
  The reference's print.
-/
import Derived.Test.YtkjapeafhcdnkaaDoorRDc
import Derived.Deep.DeepCutAuto
import Derived.Deep.RegionHeld3
import Derived.Lib.AppendStr
import Derived.Lib.UnsafeStr
namespace Go.Proofs.YtkjapeafhcdnkaaDoor
open Go.RowKit

/-- append of a string's bytes, at a step of a region that draws its order. -/
theorem step_append_str {P : Program} {ops : Array Oper} {o : Oper} {a : Act} {w : World} {K : Act → World → Prop} {Q : Exit → Act → World → Prop} {E : Prop} (hgd : o.guard = none) (sl x : Operand) (t u : TypeId)
    (ho : o.op = .call { callee := .builtin .append, args := #[sl, x], argTypes := #[t, u] })
    (base : Nat) (e : TypeId) (ht : P.underlying t = some (.slice e)) (hu : P.underlying u = some .string) (hi : (P.info? e).map (fun i => (i.zero, i.size, i.bytes)) = some (some (.int .u8 0), 1, 1))
    (v : Value) (n : Nat) (xs : List Value) (hs : a.eval sl = v) (s : ByteArray) (hx : a.eval x = .string s) (hown : w.ownsRow base e 1 v n xs)
    (hbytes : n + s.size ≤ 140737488355328) (hbase : base ≤ w.heap.size)
    (h : ∀ v' w', w'.ownsRow base e 1 v' (n + s.size) (xs ++ Lib.strCells s) → w.grownBy w' v.ownBlock → Below base w w' → K (a.put o.dst v') w') :
    if Region.wanted o (yielded ops a.tmps) = true then Oper.wp P o a w K Q else E := by
  obtain ⟨i, h1, h2, h3, h4⟩ := info_parts hi
  have hw : Region.wanted o (yielded ops a.tmps) = true := by simp [Region.wanted, hgd]
  rw [if_pos hw]
  obtain ⟨v', w', hr, g2, g3, _⟩ := Lib.run_append_own_string (P := P) w base t u o.type e i ht hu h1 h2 h3 h4 v n xs hown s (by unfold maxLen; omega) hbytes hbase
  unfold Oper.wp execOp
  simp only [ho, resolve, invoke, builtin, Sem.run_bind, Sem.run_pure, Result.andThen_ok, List.map_toArray, List.map_cons, List.map_nil, hs, hx, hr]
  exact h v' w' g2 g3 ((Below.refl _ _).grown g3 hbase (fun k hk => (hown.lt k hk).1))
theorem wpList_apstr {P : Program} {ops : Array Oper} {rest : List Oper} {o : Oper} {a : Act} {w : World} {Q : Exit → Act → World → Prop} (hgd : o.guard = none) (sl x : Operand) (t u : TypeId)
    (ho : o.op = .call { callee := .builtin .append, args := #[sl, x], argTypes := #[t, u] })
    (base : Nat) (e : TypeId) (ht : P.underlying t = some (.slice e)) (hu : P.underlying u = some .string) (hi : (P.info? e).map (fun i => (i.zero, i.size, i.bytes)) = some (some (.int .u8 0), 1, 1))
    (v : Value) (n : Nat) (xs : List Value) (hs : a.eval sl = v) (s : ByteArray) (hx : a.eval x = .string s) (hown : w.ownsRow base e 1 v n xs)
    (hbytes : n + s.size ≤ 140737488355328) (hbase : base ≤ w.heap.size)
    (h : ∀ v' w', w'.ownsRow base e 1 v' (n + s.size) (xs ++ Lib.strCells s) → w.grownBy w' v.ownBlock → Below base w w' → wpList P ops Q rest (a.put o.dst v') w') :
    wpList P ops Q (o :: rest) a w := by
  obtain ⟨i, h1, h2, h3, h4⟩ := info_parts hi
  exact Lib.wpList_append_own_string w hgd sl x t u ho base e i ht hu h1 h2 h3 h4 v n xs hs hown s hx (by unfold maxLen; omega) hbytes hbase
    (fun v' w' g2 g3 _ => h v' w' g2 g3 ((Below.refl _ _).grown g3 hbase (fun k hk => (hown.lt k hk).1)))
theorem kw_len' (k : Nat) (h1 : 1 ≤ k) (h2 : k ≤ 6) : (kwB k).size ≤ 7 := by
  have : k = 1 ∨ k = 2 ∨ k = 3 ∨ k = 4 ∨ k = 5 ∨ k = 6 := by omega
  rcases this with rfl | rfl | rfl | rfl | rfl | rfl <;> decide +kernel
theorem row_dr0 {W : World} {B : Nat} {l : Array Value} {t : TypeId} (h : Row W B l t) : Row W.drew B l t := h
theorem infoU8 : (Tryd.prog.info? 5).map (fun i => (i.zero, i.size, i.bytes)) = some (some (.int .u8 0), 1, 1) := by kernel_rfl
/-- Six cells of a block stay where another block is appended to. -/
theorem keep6 {W w9 : World} {Q : Nat} {row : Option Nat} {c0 c1 c2 c3 c4 c5 : Value}
    (h : W.cell? ⟨Q, 0, none⟩ = some c0 ∧ W.cell? ⟨Q, 1, none⟩ = some c1 ∧ W.cell? ⟨Q, 2, none⟩ = some c2 ∧ W.cell? ⟨Q, 3, none⟩ = some c3 ∧ W.cell? ⟨Q, 4, none⟩ = some c4 ∧ W.cell? ⟨Q, 5, none⟩ = some c5)
    (hg : W.grownBy w9 row) (hlt : Q < W.heap.size) (hne : some Q ≠ row) :
    w9.cell? ⟨Q, 0, none⟩ = some c0 ∧ w9.cell? ⟨Q, 1, none⟩ = some c1 ∧ w9.cell? ⟨Q, 2, none⟩ = some c2 ∧ w9.cell? ⟨Q, 3, none⟩ = some c3 ∧ w9.cell? ⟨Q, 4, none⟩ = some c4 ∧ w9.cell? ⟨Q, 5, none⟩ = some c5 := by
  refine ⟨?_, ?_, ?_, ?_, ?_, ?_⟩
  · rw [hg.cell_far ⟨Q, 0, none⟩ hlt hne]; exact h.1
  · rw [hg.cell_far ⟨Q, 1, none⟩ hlt hne]; exact h.2.1
  · rw [hg.cell_far ⟨Q, 2, none⟩ hlt hne]; exact h.2.2.1
  · rw [hg.cell_far ⟨Q, 3, none⟩ hlt hne]; exact h.2.2.2.1
  · rw [hg.cell_far ⟨Q, 4, none⟩ hlt hne]; exact h.2.2.2.2.1
  · rw [hg.cell_far ⟨Q, 5, none⟩ hlt hne]; exact h.2.2.2.2.2
theorem keep7 {W w9 : World} {Q B k : Nat} {row : Option Nat} {c0 c1 c2 c3 c4 c5 c6 : Value}
    (h : W.cell? ⟨Q, 0, none⟩ = some c0 ∧ W.cell? ⟨Q, 1, none⟩ = some c1 ∧ W.cell? ⟨Q, 2, none⟩ = some c2 ∧ W.cell? ⟨Q, 3, none⟩ = some c3 ∧ W.cell? ⟨Q, 4, none⟩ = some c4 ∧ W.cell? ⟨Q, 5, none⟩ = some c5 ∧ W.cell? ⟨B, k, none⟩ = some c6)
    (hg : W.grownBy w9 row) (hlt : Q < W.heap.size) (hne : some Q ≠ row) (hlt2 : B < W.heap.size) (hne2 : some B ≠ row) :
    w9.cell? ⟨Q, 0, none⟩ = some c0 ∧ w9.cell? ⟨Q, 1, none⟩ = some c1 ∧ w9.cell? ⟨Q, 2, none⟩ = some c2 ∧ w9.cell? ⟨Q, 3, none⟩ = some c3 ∧ w9.cell? ⟨Q, 4, none⟩ = some c4 ∧ w9.cell? ⟨Q, 5, none⟩ = some c5 ∧ w9.cell? ⟨B, k, none⟩ = some c6 := by
  obtain ⟨k0, k1, k2, k3, k4, k5⟩ := keep6 ⟨h.1, h.2.1, h.2.2.1, h.2.2.2.1, h.2.2.2.2.1, h.2.2.2.2.2.1⟩ hg hlt hne
  refine ⟨k0, k1, k2, k3, k4, k5, ?_⟩
  rw [hg.cell_far ⟨B, k, none⟩ hlt2 hne2]; exact h.2.2.2.2.2.2
theorem ne_own {W : World} {base n s : Nat} {e : TypeId} {v : Value} {xs : List Value} (h : W.ownsRow base e s v n xs) : some W.heap.size ≠ v.ownBlock := fun e => absurd (h.lt _ e.symm).2 (Nat.lt_irrefl _)
theorem cell_dr0 {W : World} {p : Addr} {x : Value} (h : W.cell? p = some x) : W.drew.cell? p = some x := h
theorem wpAnyH_mono {P : Program} {md : Region.Mode} {ops : Array Oper} {Q : Exit → Act → World → Prop} {S S' : World → Prop} (hs : ∀ w, S' w → S w) :
    ∀ (fuel : Nat) (listed : Array Bool) (a : Act) (w : World), wpAnyH P md ops Q S' fuel listed a w → wpAnyH P md ops Q S fuel listed a w
  | 0, _, _, _, h => h
  | fuel + 1, _, _, _, h => ⟨h.1, fun i hi => wpOp_mono (fun a' w' h' => ⟨hs _ h'.1, wpAnyH_mono hs fuel _ a' w' h'.2⟩) (h.2 i hi)⟩
theorem own_snoc {W : World} {base n : Nat} {v : Value} {A : List UInt8} {s : ByteArray} (hn : n = A.length) (h : W.ownsRow base 5 1 v (n + s.size) (Lib.byteCells A ++ Lib.strCells s)) {L : List UInt8} (hL : s.data.toList = L) :
    W.ownsRow base 5 1 v (A ++ L).length (Lib.byteCells (A ++ L)) := by
  subst hn; subst hL
  rw [Lib.byteCells_append, List.length_append, data_size, ← Lib.strCells_eq]; exact h

set_option maxRecDepth 100000 in
set_option maxHeartbeats 4000000 in
theorem rprint_any (v : Value) (l : List Pg) (w : World) (hr : RdPg w v l) (hf : firstP l = 0) (htot : (printL l).length ≤ 1000000) :
    Calls Tryd.prog 54 #[v] w fun e w' => ∃ u, e = .returned u ∧ w'.ownsRow w.heap.size 5 1 u (printL l).length (Lib.byteCells (printL l)) ∧ Below w.heap.size w w' := by
  have HALL := hid (firstP_all l hf)
  have HTT : Hid (∀ k p j, l[k]? = some p → (printL (l.take k) ++ headL p.num ++ bxsL (p.bx.take j)).length ≤ 1000000) := fun k p j hp => by
    have h1 : printL l = printL (l.take k) ++ (pageL p ++ printL (l.drop (k + 1))) := by
      have hlt := (List.getElem?_eq_some_iff.1 hp).1
      have e : l.drop k = p :: l.drop (k + 1) := by
        rw [List.drop_eq_getElem_cons hlt, (List.getElem?_eq_some_iff.1 hp).2]
      conv => lhs; rw [← List.take_append_drop k l, print_app, e]
      rfl
    have h2 := congrArg List.length h1
    have h3 := flat_le boxL p.bx j
    have h4 : (pageL p).length = (headL p.num).length + (bxsL p.bx).length := by unfold pageL; rw [List.length_append]
    have h5 : (bxsL (p.bx.take j)).length ≤ (bxsL p.bx).length := h3
    simp only [List.length_append] at h2 ⊢
    omega
  obtain ⟨a, cap, rfl, hlc, hcm, hcell⟩ := hr.open
  have HC := hid hcell
  have HOW1 : Hid ((w.alloc (.cells #[] 5)).ownsRow w.heap.size 5 1 (.slice (some ⟨w.heap.size, 0, none⟩) 0 0) 0 []) := World.ownsRow_made w #[] 0 (Nat.le_refl _) (Nat.zero_le _) rfl
  have HB1 := hid (below_al w (.cells #[] 5))
  clear hcell hr hf htot
  go_enter Tryd.func54, Tryd.ntmps54
  go_wp2_with fail
  generalize w.alloc (.cells #[] 5) = w1 at *
  go_loopw [3, 4] (fun va i wr => ∃ k : Nat, k ≤ l.length ∧ i = .int .i64 k ∧ (∃ A, Hid (A = printL (l.take k)) ∧ Hid (wr.ownsRow w.heap.size 5 1 va A.length (Lib.byteCells A))) ∧ Hid (Below w.heap.size w wr)) (fun _ i _ => l.length - (intOf i).toNat)
  case atStart => exact ⟨0, Nat.zero_le _, rfl, ⟨[], rfl, HOW1.out⟩, HB1.out⟩
  case round =>
    obtain ⟨k, hk, rfl, ⟨A, HA, HOW⟩, HB⟩ := hrel
    by_cases hlt : k < l.length
    · obtain ⟨p, b, off, u, hp, rfl, c0, c1, hu⟩ := HC.out k hlt
      obtain ⟨au, cu, rfl, hul, hum, hucell⟩ := hu.open
      have HU := hid hucell
      have hki : (k : Int) < (l.length : Int) := by omega
      have d0 := Below.keeps HB.out _ _ c0
      have HC1 := hid c1
      have HP := hid hp
      obtain ⟨g1, g2, _, g4⟩ := pg_good (HALL.out p (List.mem_of_getElem? hp))
      obtain ⟨num, bx⟩ := p
      simp only at g1 g2 d0
      obtain ⟨nn, rfl⟩ : ∃ nn : Nat, num = nn := ⟨num.toNat, by omega⟩
      have HDEC := hid (rdec_any nn (by omega) wr)
      have HG4 := hid g4
      have hil := ito_size (n := (nn : Int)) (by omega) (by omega)
      have HIT : (printL (l.take k) ++ headL (nn : Int) ++ bxsL (bx.take 0)).length ≤ 1000000 := HTT.out k _ 0 hp
      have hAl : A.length + (headL nn).length ≤ 1000000 := by
        rw [List.length_append, List.length_append, ← HA.out] at HIT
        omega
      have hsz1 : ¬ 9223372036854775807 < 5 + (itoaB (nn : Int)).size := by omega
      have hsz2 : ¬ 9223372036854775807 < 5 + (itoaB (nn : Int)).size + 1 := by omega
      have HHD := hid (head_data (nn : Int))
      have hhs : A.length + ((⟨#[112, 97, 103, 101, 32]⟩ ++ itoaB (nn : Int)) ++ ⟨#[10]⟩ : ByteArray).size ≤ 140737488355328 := by
        rw [← data_size, HHD.out]; omega
      clear hucell hu hp c0 c1 g4 HIT
      go_wp2_with fail
      refine HDEC.out.mono ?_
      rintro e w2 ⟨rfl, rfl⟩
      clear HDEC
      go_wp2_with (at_builtin; refine wpList_apstr rfl _ _ 70 9 rfl w.heap.size 5 Tryd.underlying70 Tryd.underlying9 infoU8 _ _ _ rfl _ rfl HOW.out hhs HB.out.size ?_; intro v' w3 hown2 hg2 hb2)
      have HOW2 := hid (own_snoc rfl hown2 HHD.out)
      have HB2 := hid (HB.out.trans hb2)
      have HBT : Hid (∀ j, (A ++ headL nn ++ bxsL (bx.take j)).length ≤ 1000000) := fun j => by
        have h := HTT.out k _ j HP.out
        rw [← HA.out] at h; exact h
      have HNX : Hid (A ++ headL nn ++ bxsL bx = printL (l.take (k + 1))) := by
        show _ = _
        rw [HA.out, List.take_add_one, HP.out]
        simp [printL, pageL]
      clear HHD hown2 hg2 hb2 HOW HB hsz1 hsz2 hhs hil hAl HTT HP d0
      go_wp2_with fail
      go_loopw [3, 5] (fun va q wi => ∃ j : Nat, j ≤ bx.length ∧ q = .int .i64 j ∧ (∃ B, Hid (B = A ++ headL nn ++ bxsL (bx.take j)) ∧ Hid (wi.ownsRow w.heap.size 5 1 va B.length (Lib.byteCells B))) ∧ Hid (Below w.heap.size w wi)) (fun _ q _ => bx.length - (intOf q).toNat)
      case atStart => exact ⟨0, Nat.zero_le _, rfl, ⟨_, by show _ = _; simp [bxsL], HOW2.out⟩, HB2.out⟩
      case round =>
        clear HOW2 HB2
        obtain ⟨j, hj, rfl, ⟨B, HBB, HOWB⟩, HBw⟩ := hrel
        have c1 := Below.keeps HBw.out _ _ HC1.out
        by_cases hjt : j < bx.length
        · obtain ⟨x, b2, o2, hx, rfl, d0, d1, d2, d3, d4, d5⟩ := HU.out j hjt
          have hji : (j : Int) < (bx.length : Int) := by omega
          have hbx := HG4.out x (List.mem_of_getElem? hx)
          obtain ⟨kk, hkk, k1, k2⟩ := kind_nat hbx
          obtain ⟨_, _, x1, x2, y1, y2, w1', w2', b1, b3, _, ht, _⟩ := bx_good hbx
          have HBLEN : Hid (B.length + (boxL x).length ≤ 1000000) := by
            have h := HBT.out (j + 1)
            have e : bxsL (bx.take (j + 1)) = bxsL (bx.take j) ++ boxL x := flat_snoc boxL bx j x hx
            rw [e, ← List.append_assoc, List.length_append, ← HBB.out] at h
            exact h
          have HB3 : Hid (B ++ boxL x = A ++ headL nn ++ bxsL (bx.take (j + 1))) := by
            show _ = _
            have e : bxsL (bx.take (j + 1)) = bxsL (bx.take j) ++ boxL x := flat_snoc boxL bx j x hx
            rw [e, ← List.append_assoc, HBB.out]
          clear hbx hx
          obtain ⟨kind, ax, ay, wd, blk, text⟩ := x
          simp only at hkk x1 x2 y1 y2 w1' w2' b1 b3 ht d0 d1 d2 d3 d4 d5
          subst hkk
          obtain ⟨n1, rfl⟩ : ∃ n : Nat, ax = n := ⟨ax.toNat, by omega⟩
          obtain ⟨n2, rfl⟩ : ∃ n : Nat, ay = n := ⟨ay.toNat, by omega⟩
          obtain ⟨n3, rfl⟩ : ∃ n : Nat, wd = n := ⟨wd.toNat, by omega⟩
          obtain ⟨n4, rfl⟩ : ∃ n : Nat, blk = n := ⟨blk.toNat, by omega⟩
          have e0 := Below.keeps HBw.out _ _ d0
          have e1 := Below.keeps HBw.out _ _ d1
          have e2 := Below.keeps HBw.out _ _ d2
          have e3 := Below.keeps HBw.out _ _ d3
          have e4 := Below.keeps HBw.out _ _ d4
          have e5 := Below.keeps HBw.out _ _ d5
          have HD1 := fun w' => hid (rdec_any n1 (by omega) w')
          have HD2 := fun w' => hid (rdec_any n2 (by omega) w')
          have HD3 := fun w' => hid (rdec_any n3 (by omega) w')
          have HD4 := fun w' => hid (rdec_any n4 (by omega) w')
          have z1 := ito_size (n := (n1 : Int)) (by omega) (by omega)
          have z2 := ito_size (n := (n2 : Int)) (by omega) (by omega)
          have z3 := ito_size (n := (n3 : Int)) (by omega) (by omega)
          have z4 := ito_size (n := (n4 : Int)) (by omega) (by omega)
          have HBO : Hid (((((((((((((kwB kk ++ ⟨#[32]⟩) ++ itoaB n1) ++ ⟨#[32]⟩) ++ itoaB n2) ++ ⟨#[32]⟩) ++ itoaB n3) ++ ⟨#[32]⟩) ++ itoaB n4) ++ ⟨#[124]⟩) ++ text) ++ ⟨#[10]⟩ : ByteArray).data.toList = boxL ⟨kk, n1, n2, n3, n4, text⟩)) := by
            show _ = _
            unfold boxL numL itoL; simp
          have HKA := hid (kw_at k1 k2)
          have hkz : (kwB kk).size ≤ 10 := by
            have := kw_len' kk k1 k2
            omega
          generalize itoaB (n1 : Int) = I1 at *
          generalize itoaB (n2 : Int) = I2 at *
          generalize itoaB (n3 : Int) = I3 at *
          generalize itoaB (n4 : Int) = I4 at *
          generalize kwB (kk : Int) = KW at *
          generalize boxL ⟨kk, n1, n2, n3, n4, text⟩ = BL at *
          have s1 : ¬ 9223372036854775807 < KW.size + 1 := by omega
          have s2 : ¬ 9223372036854775807 < KW.size + 1 + I1.size := by omega
          have s3 : ¬ 9223372036854775807 < KW.size + 1 + I1.size + 1 := by omega
          have s4 : ¬ 9223372036854775807 < KW.size + 1 + I1.size + 1 + I2.size := by omega
          have s5 : ¬ 9223372036854775807 < KW.size + 1 + I1.size + 1 + I2.size + 1 := by omega
          have s6 : ¬ 9223372036854775807 < KW.size + 1 + I1.size + 1 + I2.size + 1 + I3.size := by omega
          have s7 : ¬ 9223372036854775807 < KW.size + 1 + I1.size + 1 + I2.size + 1 + I3.size + 1 := by omega
          have s8 : ¬ 9223372036854775807 < KW.size + 1 + I1.size + 1 + I2.size + 1 + I3.size + 1 + I4.size := by omega
          have s9 : ¬ 9223372036854775807 < KW.size + 1 + I1.size + 1 + I2.size + 1 + I3.size + 1 + I4.size + 1 := by omega
          have s10 : ¬ 9223372036854775807 < KW.size + 1 + I1.size + 1 + I2.size + 1 + I3.size + 1 + I4.size + 1 + text.size := by omega
          have s11 : ¬ 9223372036854775807 < KW.size + 1 + I1.size + 1 + I2.size + 1 + I3.size + 1 + I4.size + 1 + text.size + 1 := by omega
          have hk0 : (0 : Int) ≤ (kk : Int) := by omega
          have hk7 : (kk : Int) < 7 := by omega
          have HLEN : Hid (B.length + (((((((((((KW ++ ⟨#[32]⟩) ++ I1) ++ ⟨#[32]⟩) ++ I2) ++ ⟨#[32]⟩) ++ I3) ++ ⟨#[32]⟩) ++ I4) ++ ⟨#[124]⟩) ++ text) ++ ⟨#[10]⟩ : ByteArray).size ≤ 140737488355328) := by
            show _ ≤ _
            rw [← data_size, HBO.out]
            have := HBLEN.out
            omega
          clear d0 d1 d2 d3 d4 d5 z1 z2 z3 z4 hkz x1 x2 y1 y2 w1' w2' b1 b3 ht HBLEN
          have HQ := hid (row_nw wr #[.int .i64 kk, .int .i64 n1, .int .i64 n2, .int .i64 n3, .int .i64 n4, .string text] 42 rfl)
          have HOW6 := hid (HOWB.out.alloc (.cells #[.int .i64 kk, .int .i64 n1, .int .i64 n2, .int .i64 n3, .int .i64 n4, .string text] 42))
          have HB6 := hid (below_tr HBw.out (below_al wr (.cells #[.int .i64 kk, .int .i64 n1, .int .i64 n2, .int .i64 n3, .int .i64 n4, .string text] 42)))
          have HQN := hid (ne_own HOWB.out)
          go_upto_region 10 with fail
          generalize wr.alloc (.cells #[.int .i64 kk, .int .i64 n1, .int .i64 n2, .int .i64 n3, .int .i64 n4, .string text] 42) = w6 at *
          generalize wr.heap.size = Q at *
          have HQ7 := hid (row_dr0 (HQ.out.al (.cells kwA 9)))
          have HQlt := hid HQ7.out.lt
          have HQc := hid (And.intro (HQ7.out.cell 0 rfl) (And.intro (HQ7.out.cell 1 rfl) (And.intro (HQ7.out.cell 2 rfl) (And.intro (HQ7.out.cell 3 rfl) (And.intro (HQ7.out.cell 4 rfl) (HQ7.out.cell 5 rfl))))))
          have HOW7 := hid ((HOW6.out.alloc (.cells kwA 9)).drew)
          have HB7 := hid ((below_tr HB6.out (below_al w6 (.cells kwA 9))).drew)
          have z1 := cell_dr0 (cell_nw w6 kwA 9 kk HKA.out)
          have H7lt : Hid (w6.heap.size < (w6.alloc (.cells kwA 9)).drew.heap.size) := World.block_lt_of_cell? _ _ z1
          have H7N := hid (ne_own HOW6.out)
          have q0 := HQ.out.cell 0 rfl
          have q1 := HQ.out.cell 1 rfl
          have q2 := HQ.out.cell 2 rfl
          have q3 := HQ.out.cell 3 rfl
          have q4 := HQ.out.cell 4 rfl
          have q5 := HQ.out.cell 5 rfl
          clear e0 e1 e2 e3 e4 e5 c1 HKA
          -- BEGIN genrpt.py
          refine wp_region_held_drew (S := fun w' => w'.cell? ⟨Q, 0, none⟩ = some (.int .i64 kk) ∧ w'.cell? ⟨Q, 1, none⟩ = some (.int .i64 n1) ∧ w'.cell? ⟨Q, 2, none⟩ = some (.int .i64 n2) ∧ w'.cell? ⟨Q, 3, none⟩ = some (.int .i64 n3) ∧ w'.cell? ⟨Q, 4, none⟩ = some (.int .i64 n4) ∧ w'.cell? ⟨Q, 5, none⟩ = some (.string text)) (by kernel_rfl) ⟨q0, q1, q2, q3, q4, q5⟩ (fun hHeld => ?_)
          refine wpAnyH_take (i := 0) (v := ?v1) rfl (by kernel_rfl) (by kernel_rfl) (by kernel_rfl) (fun _ _ _ h => h) (Or.inl ⟨by rfl, ?hy1⟩) (by assumption) ?rest1
          case hy1 => (intro w hSw; (try dsimp only at hSw); go_simp; try (with_reducible rfl))
          simp only [Act.put, List.getElem_toArray, List.getElem_cons_zero, List.setIfInBounds_toArray, List.set_cons_zero, List.set_cons_succ]
          refine wpAnyH_take (i := 2) (v := ?v2) rfl (by kernel_rfl) (by kernel_rfl) (by kernel_rfl) (fun _ _ _ h => h) (Or.inl ⟨by rfl, ?hy2⟩) (by assumption) ?rest2
          case hy2 => (intro w hSw; (try dsimp only at hSw); go_simp; try (with_reducible rfl))
          simp only [Act.put, List.getElem_toArray, List.getElem_cons_succ, List.getElem_cons_zero, List.setIfInBounds_toArray, List.set_cons_zero, List.set_cons_succ]
          refine wpAnyH_take (i := 3) (v := ?v3) rfl (by kernel_rfl) (by kernel_rfl) (by kernel_rfl) (fun _ _ _ h => h) (Or.inl ⟨by rfl, ?hy3⟩) (by assumption) ?rest3
          case hy3 => (intro w hSw; (try dsimp only at hSw); go_simp; try (with_reducible rfl))
          simp only [Act.put, List.getElem_toArray, List.getElem_cons_succ, List.getElem_cons_zero, List.setIfInBounds_toArray, List.set_cons_zero, List.set_cons_succ]
          refine wpAnyH_take (i := 7) (v := ?v4) rfl (by kernel_rfl) (by kernel_rfl) (by kernel_rfl) (fun _ _ _ h => h) (Or.inl ⟨by rfl, ?hy4⟩) (by assumption) ?rest4
          case hy4 => (intro w hSw; (try dsimp only at hSw); go_simp; try (with_reducible rfl))
          simp only [Act.put, List.getElem_toArray, List.getElem_cons_succ, List.getElem_cons_zero, List.setIfInBounds_toArray, List.set_cons_zero, List.set_cons_succ]
          refine wpAnyH_take (i := 8) (v := ?v5) rfl (by kernel_rfl) (by kernel_rfl) (by kernel_rfl) (fun _ _ _ h => h) (Or.inl ⟨by rfl, ?hy5⟩) (by assumption) ?rest5
          case hy5 => (intro w hSw; (try dsimp only at hSw); go_simp; try (with_reducible rfl))
          simp only [Act.put, List.getElem_toArray, List.getElem_cons_succ, List.getElem_cons_zero, List.setIfInBounds_toArray, List.set_cons_zero, List.set_cons_succ]
          refine wpAnyH_take (i := 12) (v := ?v6) rfl (by kernel_rfl) (by kernel_rfl) (by kernel_rfl) (fun _ _ _ h => h) (Or.inl ⟨by rfl, ?hy6⟩) (by assumption) ?rest6
          case hy6 => (intro w hSw; (try dsimp only at hSw); go_simp; try (with_reducible rfl))
          simp only [Act.put, List.getElem_toArray, List.getElem_cons_succ, List.getElem_cons_zero, List.setIfInBounds_toArray, List.set_cons_zero, List.set_cons_succ]
          refine wpAnyH_take (i := 13) (v := ?v7) rfl (by kernel_rfl) (by kernel_rfl) (by kernel_rfl) (fun _ _ _ h => h) (Or.inl ⟨by rfl, ?hy7⟩) (by assumption) ?rest7
          case hy7 => (intro w hSw; (try dsimp only at hSw); go_simp; try (with_reducible rfl))
          simp only [Act.put, List.getElem_toArray, List.getElem_cons_succ, List.getElem_cons_zero, List.setIfInBounds_toArray, List.set_cons_zero, List.set_cons_succ]
          refine wpAnyH_take (i := 17) (v := ?v8) rfl (by kernel_rfl) (by kernel_rfl) (by kernel_rfl) (fun _ _ _ h => h) (Or.inl ⟨by rfl, ?hy8⟩) (by assumption) ?rest8
          case hy8 => (intro w hSw; (try dsimp only at hSw); go_simp; try (with_reducible rfl))
          simp only [Act.put, List.getElem_toArray, List.getElem_cons_succ, List.getElem_cons_zero, List.setIfInBounds_toArray, List.set_cons_zero, List.set_cons_succ]
          refine wpAnyH_take (i := 18) (v := ?v9) rfl (by kernel_rfl) (by kernel_rfl) (by kernel_rfl) (fun _ _ _ h => h) (Or.inl ⟨by rfl, ?hy9⟩) (by assumption) ?rest9
          case hy9 => (intro w hSw; (try dsimp only at hSw); go_simp; try (with_reducible rfl))
          simp only [Act.put, List.getElem_toArray, List.getElem_cons_succ, List.getElem_cons_zero, List.setIfInBounds_toArray, List.set_cons_zero, List.set_cons_succ]
          refine wpAnyH_take (i := 22) (v := ?v10) rfl (by kernel_rfl) (by kernel_rfl) (by kernel_rfl) (fun _ _ _ h => h) (Or.inl ⟨by rfl, ?hy10⟩) (by assumption) ?rest10
          case hy10 => (intro w hSw; (try dsimp only at hSw); go_simp; try (with_reducible rfl))
          simp only [Act.put, List.getElem_toArray, List.getElem_cons_succ, List.getElem_cons_zero, List.setIfInBounds_toArray, List.set_cons_zero, List.set_cons_succ]
          refine wpAnyH_take (i := 23) (v := ?v11) rfl (by kernel_rfl) (by kernel_rfl) (by kernel_rfl) (fun _ _ _ h => h) (Or.inl ⟨by rfl, ?hy11⟩) (by assumption) ?rest11
          case hy11 => (intro w hSw; (try dsimp only at hSw); go_simp; try (with_reducible rfl))
          simp only [Act.put, List.getElem_toArray, List.getElem_cons_succ, List.getElem_cons_zero, List.setIfInBounds_toArray, List.set_cons_zero, List.set_cons_succ]
          refine wpAnyH_take (i := 27) (v := ?v12) rfl (by kernel_rfl) (by kernel_rfl) (by kernel_rfl) (fun _ _ _ h => h) (Or.inl ⟨by rfl, ?hy12⟩) (by assumption) ?rest12
          case hy12 => (intro w hSw; (try dsimp only at hSw); go_simp; try (with_reducible rfl))
          simp only [Act.put, List.getElem_toArray, List.getElem_cons_succ, List.getElem_cons_zero, List.setIfInBounds_toArray, List.set_cons_zero, List.set_cons_succ]
          refine wpAnyH_take (i := 28) (v := ?v13) rfl (by kernel_rfl) (by kernel_rfl) (by kernel_rfl) (fun _ _ _ h => h) (Or.inl ⟨by rfl, ?hy13⟩) (by assumption) ?rest13
          case hy13 => (intro w hSw; (try dsimp only at hSw); go_simp; try (with_reducible rfl))
          simp only [Act.put, List.getElem_toArray, List.getElem_cons_succ, List.getElem_cons_zero, List.setIfInBounds_toArray, List.set_cons_zero, List.set_cons_succ]
          refine wpAnyH_ready (rs := [1]) (by kernel_rfl) (by simp) (AllReadyH.cons rfl (fun K hK => ?_) AllReadyH.nil)
          go_simp
          go_at_call 79
          refine (rwords_any _).mono ?_; rintro e w5 ⟨rfl, rfl⟩
          try go_wp2_with fail
          refine hK.out _ _ HQc.out (fun _ => ?_)
          clear hK K
          try simp only [Act.put, List.getElem_toArray, List.getElem_cons_succ, List.getElem_cons_zero, List.setIfInBounds_toArray, List.set_cons_zero, List.set_cons_succ]
          refine wpAnyH_mono (S' := fun w' => w'.cell? ⟨Q, 0, none⟩ = some (.int .i64 kk) ∧ w'.cell? ⟨Q, 1, none⟩ = some (.int .i64 n1) ∧ w'.cell? ⟨Q, 2, none⟩ = some (.int .i64 n2) ∧ w'.cell? ⟨Q, 3, none⟩ = some (.int .i64 n3) ∧ w'.cell? ⟨Q, 4, none⟩ = some (.int .i64 n4) ∧ w'.cell? ⟨Q, 5, none⟩ = some (.string text) ∧ w'.cell? ⟨w6.heap.size, kk, none⟩ = some (.string KW)) (fun _ h => ⟨h.1, h.2.1, h.2.2.1, h.2.2.2.1, h.2.2.2.2.1, h.2.2.2.2.2.1⟩) _ _ _ _ ?_
          have HH7 : (fun w' : World => w'.cell? ⟨Q, 0, none⟩ = some (.int .i64 kk) ∧ w'.cell? ⟨Q, 1, none⟩ = some (.int .i64 n1) ∧ w'.cell? ⟨Q, 2, none⟩ = some (.int .i64 n2) ∧ w'.cell? ⟨Q, 3, none⟩ = some (.int .i64 n3) ∧ w'.cell? ⟨Q, 4, none⟩ = some (.int .i64 n4) ∧ w'.cell? ⟨Q, 5, none⟩ = some (.string text) ∧ w'.cell? ⟨w6.heap.size, kk, none⟩ = some (.string KW)) (w6.alloc (.cells kwA 9)).drew := ⟨HQc.out.1, HQc.out.2.1, HQc.out.2.2.1, HQc.out.2.2.2.1, HQc.out.2.2.2.2.1, HQc.out.2.2.2.2.2, z1⟩
          clear hHeld
          refine wpAnyH_take (i := 4) (v := ?v14) rfl (by kernel_rfl) (by kernel_rfl) (by kernel_rfl) (fun _ _ _ h => h) (Or.inl ⟨by rfl, ?hy14⟩) (by assumption) ?rest14
          case hy14 => (intro w hSw; (try dsimp only at hSw); go_simp; try (with_reducible rfl))
          simp only [Act.put, List.getElem_toArray, List.getElem_cons_succ, List.getElem_cons_zero, List.setIfInBounds_toArray, List.set_cons_zero, List.set_cons_succ]
          refine wpAnyH_take (i := 5) (v := ?v15) rfl (by kernel_rfl) (by kernel_rfl) (by kernel_rfl) (fun _ _ _ h => h) (Or.inl ⟨by rfl, ?hy15⟩) (by assumption) ?rest15
          case hy15 => (intro w hSw; (try dsimp only at hSw); go_simp; try (with_reducible rfl))
          simp only [Act.put, List.getElem_toArray, List.getElem_cons_succ, List.getElem_cons_zero, List.setIfInBounds_toArray, List.set_cons_zero, List.set_cons_succ]
          refine wpAnyH_take (i := 6) (v := ?v16) rfl (by kernel_rfl) (by kernel_rfl) (by kernel_rfl) (fun _ _ _ h => h) (Or.inl ⟨by rfl, ?hy16⟩) (by assumption) ?rest16
          case hy16 => (intro w hSw; (try dsimp only at hSw); go_simp; try (with_reducible rfl))
          simp only [Act.put, List.getElem_toArray, List.getElem_cons_succ, List.getElem_cons_zero, List.setIfInBounds_toArray, List.set_cons_zero, List.set_cons_succ]
          refine wpAnyH_ready (rs := [9]) (by kernel_rfl) (by simp) (AllReadyH.cons rfl (fun K hK => ?_) AllReadyH.nil)
          go_simp
          go_at_call 78
          refine (HD1 _).out.mono ?_; rintro e w5 ⟨rfl, rfl⟩
          try go_wp2_with fail
          refine hK.out _ _ HH7 (fun _ => ?_)
          clear hK K
          try simp only [Act.put, List.getElem_toArray, List.getElem_cons_succ, List.getElem_cons_zero, List.setIfInBounds_toArray, List.set_cons_zero, List.set_cons_succ]
          refine wpAnyH_take (i := 10) (v := ?v17) rfl (by kernel_rfl) (by kernel_rfl) (by kernel_rfl) (fun _ _ _ h => h) (Or.inl ⟨by rfl, ?hy17⟩) (by assumption) ?rest17
          case hy17 => (intro w hSw; (try dsimp only at hSw); go_simp; try (with_reducible rfl))
          simp only [Act.put, List.getElem_toArray, List.getElem_cons_succ, List.getElem_cons_zero, List.setIfInBounds_toArray, List.set_cons_zero, List.set_cons_succ]
          refine wpAnyH_take (i := 11) (v := ?v18) rfl (by kernel_rfl) (by kernel_rfl) (by kernel_rfl) (fun _ _ _ h => h) (Or.inl ⟨by rfl, ?hy18⟩) (by assumption) ?rest18
          case hy18 => (intro w hSw; (try dsimp only at hSw); go_simp; try (with_reducible rfl))
          simp only [Act.put, List.getElem_toArray, List.getElem_cons_succ, List.getElem_cons_zero, List.setIfInBounds_toArray, List.set_cons_zero, List.set_cons_succ]
          refine wpAnyH_ready (rs := [14]) (by kernel_rfl) (by simp) (AllReadyH.cons rfl (fun K hK => ?_) AllReadyH.nil)
          go_simp
          go_at_call 78
          refine (HD2 _).out.mono ?_; rintro e w5 ⟨rfl, rfl⟩
          try go_wp2_with fail
          refine hK.out _ _ HH7 (fun _ => ?_)
          clear hK K
          try simp only [Act.put, List.getElem_toArray, List.getElem_cons_succ, List.getElem_cons_zero, List.setIfInBounds_toArray, List.set_cons_zero, List.set_cons_succ]
          refine wpAnyH_take (i := 15) (v := ?v19) rfl (by kernel_rfl) (by kernel_rfl) (by kernel_rfl) (fun _ _ _ h => h) (Or.inl ⟨by rfl, ?hy19⟩) (by assumption) ?rest19
          case hy19 => (intro w hSw; (try dsimp only at hSw); go_simp; try (with_reducible rfl))
          simp only [Act.put, List.getElem_toArray, List.getElem_cons_succ, List.getElem_cons_zero, List.setIfInBounds_toArray, List.set_cons_zero, List.set_cons_succ]
          refine wpAnyH_take (i := 16) (v := ?v20) rfl (by kernel_rfl) (by kernel_rfl) (by kernel_rfl) (fun _ _ _ h => h) (Or.inl ⟨by rfl, ?hy20⟩) (by assumption) ?rest20
          case hy20 => (intro w hSw; (try dsimp only at hSw); go_simp; try (with_reducible rfl))
          simp only [Act.put, List.getElem_toArray, List.getElem_cons_succ, List.getElem_cons_zero, List.setIfInBounds_toArray, List.set_cons_zero, List.set_cons_succ]
          refine wpAnyH_ready (rs := [19]) (by kernel_rfl) (by simp) (AllReadyH.cons rfl (fun K hK => ?_) AllReadyH.nil)
          go_simp
          go_at_call 78
          refine (HD3 _).out.mono ?_; rintro e w5 ⟨rfl, rfl⟩
          try go_wp2_with fail
          refine hK.out _ _ HH7 (fun _ => ?_)
          clear hK K
          try simp only [Act.put, List.getElem_toArray, List.getElem_cons_succ, List.getElem_cons_zero, List.setIfInBounds_toArray, List.set_cons_zero, List.set_cons_succ]
          refine wpAnyH_take (i := 20) (v := ?v21) rfl (by kernel_rfl) (by kernel_rfl) (by kernel_rfl) (fun _ _ _ h => h) (Or.inl ⟨by rfl, ?hy21⟩) (by assumption) ?rest21
          case hy21 => (intro w hSw; (try dsimp only at hSw); go_simp; try (with_reducible rfl))
          simp only [Act.put, List.getElem_toArray, List.getElem_cons_succ, List.getElem_cons_zero, List.setIfInBounds_toArray, List.set_cons_zero, List.set_cons_succ]
          refine wpAnyH_take (i := 21) (v := ?v22) rfl (by kernel_rfl) (by kernel_rfl) (by kernel_rfl) (fun _ _ _ h => h) (Or.inl ⟨by rfl, ?hy22⟩) (by assumption) ?rest22
          case hy22 => (intro w hSw; (try dsimp only at hSw); go_simp; try (with_reducible rfl))
          simp only [Act.put, List.getElem_toArray, List.getElem_cons_succ, List.getElem_cons_zero, List.setIfInBounds_toArray, List.set_cons_zero, List.set_cons_succ]
          refine wpAnyH_ready (rs := [24]) (by kernel_rfl) (by simp) (AllReadyH.cons rfl (fun K hK => ?_) AllReadyH.nil)
          go_simp
          go_at_call 78
          refine (HD4 _).out.mono ?_; rintro e w5 ⟨rfl, rfl⟩
          try go_wp2_with fail
          refine hK.out _ _ HH7 (fun _ => ?_)
          clear hK K
          try simp only [Act.put, List.getElem_toArray, List.getElem_cons_succ, List.getElem_cons_zero, List.setIfInBounds_toArray, List.set_cons_zero, List.set_cons_succ]
          refine wpAnyH_take (i := 25) (v := ?v23) rfl (by kernel_rfl) (by kernel_rfl) (by kernel_rfl) (fun _ _ _ h => h) (Or.inl ⟨by rfl, ?hy23⟩) (by assumption) ?rest23
          case hy23 => (intro w hSw; (try dsimp only at hSw); go_simp; try (with_reducible rfl))
          simp only [Act.put, List.getElem_toArray, List.getElem_cons_succ, List.getElem_cons_zero, List.setIfInBounds_toArray, List.set_cons_zero, List.set_cons_succ]
          refine wpAnyH_take (i := 26) (v := ?v24) rfl (by kernel_rfl) (by kernel_rfl) (by kernel_rfl) (fun _ _ _ h => h) (Or.inl ⟨by rfl, ?hy24⟩) (by assumption) ?rest24
          case hy24 => (intro w hSw; (try dsimp only at hSw); go_simp; try (with_reducible rfl))
          simp only [Act.put, List.getElem_toArray, List.getElem_cons_succ, List.getElem_cons_zero, List.setIfInBounds_toArray, List.set_cons_zero, List.set_cons_succ]
          refine wpAnyH_take (i := 29) (v := ?v25) rfl (by kernel_rfl) (by kernel_rfl) (by kernel_rfl) (fun _ _ _ h => h) (Or.inl ⟨by rfl, ?hy25⟩) (by assumption) ?rest25
          case hy25 => (intro w hSw; (try dsimp only at hSw); go_simp; try (with_reducible rfl))
          simp only [Act.put, List.getElem_toArray, List.getElem_cons_succ, List.getElem_cons_zero, List.setIfInBounds_toArray, List.set_cons_zero, List.set_cons_succ]
          refine wpAnyH_take (i := 30) (v := ?v26) rfl (by kernel_rfl) (by kernel_rfl) (by kernel_rfl) (fun _ _ _ h => h) (Or.inl ⟨by rfl, ?hy26⟩) (by assumption) ?rest26
          case hy26 => (intro w hSw; (try dsimp only at hSw); go_simp; try (with_reducible rfl))
          simp only [Act.put, List.getElem_toArray, List.getElem_cons_succ, List.getElem_cons_zero, List.setIfInBounds_toArray, List.set_cons_zero, List.set_cons_succ]
          refine wpAnyH_ready (rs := [31]) (by kernel_rfl) (by simp) (AllReadyH.cons rfl (fun K hK => ?_) AllReadyH.nil)
          refine step_append_str rfl _ _ 70 9 rfl w.heap.size 5 Tryd.underlying70 Tryd.underlying9 infoU8 _ _ _ rfl _ rfl HOW7.out HLEN.out HB7.out.size ?_
          intro v9 w9 hown9 hg9 hb9
          have HH9 : (fun w' : World => w'.cell? ⟨Q, 0, none⟩ = some (.int .i64 kk) ∧ w'.cell? ⟨Q, 1, none⟩ = some (.int .i64 n1) ∧ w'.cell? ⟨Q, 2, none⟩ = some (.int .i64 n2) ∧ w'.cell? ⟨Q, 3, none⟩ = some (.int .i64 n3) ∧ w'.cell? ⟨Q, 4, none⟩ = some (.int .i64 n4) ∧ w'.cell? ⟨Q, 5, none⟩ = some (.string text) ∧ w'.cell? ⟨w6.heap.size, kk, none⟩ = some (.string KW)) w9 := keep7 HH7 hg9 HQlt.out HQN.out H7lt.out H7N.out
          refine hK.out _ _ HH9 (fun _ => ?_)
          clear hK K
          try simp only [Act.put, List.getElem_toArray, List.getElem_cons_succ, List.getElem_cons_zero, List.setIfInBounds_toArray, List.set_cons_zero, List.set_cons_succ]
          refine wpAnyH_take (i := 32) (v := ?v27) rfl (by kernel_rfl) (by kernel_rfl) (by kernel_rfl) (fun _ _ _ h => h) (Or.inl ⟨by rfl, ?hy27⟩) (by assumption) ?rest27
          case hy27 => (intro w hSw; (try dsimp only at hSw); go_simp; try (with_reducible rfl))
          simp only [Act.put, List.getElem_toArray, List.getElem_cons_succ, List.getElem_cons_zero, List.setIfInBounds_toArray, List.set_cons_zero, List.set_cons_succ]
          refine wpAnyH_done (by kernel_rfl) ?_ _
          -- END genrpt.py
          all_goals (go_wp2_with fail; go_roundw)
          all_goals first
            | exact ⟨j + 1, by omega, by go_num, ⟨_, HB3.out, own_snoc rfl hown9 HBO.out⟩, HB7.out.trans hb9⟩
            | (simp [intOf]; omega)
        · have hji : ¬ (j : Int) < (bx.length : Int) := by omega
          have HB4 : Hid (B = printL (l.take (k + 1))) := by
            have h := HBB.out
            rw [List.take_of_length_le (by omega), HNX.out] at h; exact h
          go_wp2_with fail
          go_roundw
          case rel => exact ⟨k + 1, by omega, by go_num, ⟨_, HB4.out, HOWB.out⟩, HBw.out⟩
          case measure => simp [intOf]; omega
    · have hki : ¬ (k : Int) < (l.length : Int) := by omega
      have HR : Hid (A = printL l) := by
        have h := HA.out
        rw [List.take_of_length_le (by omega)] at h; exact h
      go_wp2_with fail
      go_ret
      exact ⟨_, rfl, by rw [← HR.out]; exact HOW.out, HB.out⟩
end Go.Proofs.YtkjapeafhcdnkaaDoor
