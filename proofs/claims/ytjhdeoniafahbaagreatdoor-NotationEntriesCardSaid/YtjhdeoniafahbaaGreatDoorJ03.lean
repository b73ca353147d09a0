/-
  Joined: Clo Stp Dec.
-/
import Derived.Test.YtjhdeoniafahbaaGreatDoorClone
import Derived.Test.YtjhdeoniafahbaaGreatDoorJ01
import Derived.Deep.RegionLaw
import Derived.Test.YtjhdeoniafahbaaGreatDoorConv
import Derived.Lib.SmallJoins
import Derived.Lib.AppendIntMem
import Derived.Lib.AtoiErrMem
import Derived.Lib.AtoiAllCases
import Derived.Lib.Bytes2
import Derived.Lib.Strings
/-
  slices.Clone of strings: a contract over lists.
-/
namespace Go.Proofs.YtjhdeoniafahbaaGreatDoor
open Go.RowKit

theorem cloneS_any (v : Value) (l : List ByteArray) (w : World) (hr : RdS w v l) (hl : l.length ≤ 100000) :
    Calls Tryz.prog 42 #[v] w fun e w' => ∃ v', e = .returned v' ∧ RdS w' v' l ∧ Below w.heap.size w w' := by
  obtain ⟨a, cap, rfl, hlc, hcm, hcell⟩ := hr.open
  cases l with
  | nil =>
    cases a with
    | none =>
      refine (Tryz.slices_Clone_string_nil 0 cap w).mono ?_
      rintro e w' ⟨rfl, rfl⟩
      exact ⟨_, rfl, Rd.nil _, Below.refl _ _⟩
    | some a =>
      refine (Tryz.slices_Clone_string_zero a cap w).mono ?_
      rintro e w' ⟨v', rfl, h1, _, h2⟩
      exact ⟨_, rfl, Rd.of_own (l := []) h1, h2⟩
  | cons x l =>
    obtain ⟨y, b, off, hy, rfl, hc⟩ := hcell 0 (by simp)
    refine (Tryz.slices_Clone_string b off (x :: l).length cap (x :: l) w (Nat.le_refl _) (by omega) (fun j hj => ?_)).mono ?_
    · obtain ⟨z, b', off', hz, e, hcz⟩ := hcell j hj
      cases e
      rw [hcz, List.getD_eq_getElem?_getD, hz]; rfl
    · rintro e w' ⟨v', rfl, h1, _, h2⟩
      rw [List.take_length] at h1
      exact ⟨_, rfl, Rd.of_own h1, h2⟩
/-- A list of strings in a row of the call's own. -/
def OwS (W : World) (v : Value) (l : List ByteArray) : Prop := W.ownsRow 0 9 1 v l.length (l.map Value.string)
theorem own_zero {W : World} {base size n : Nat} {e : TypeId} {v : Value} {xs : List Value} (h : W.ownsRow base e size v n xs) : W.ownsRow 0 e size v n xs := by
  refine ⟨h.1, ?_⟩
  rcases h.2 with h | ⟨g, cap, cur, h1, h2, h3⟩
  · exact .inl h
  · exact .inr ⟨g, cap, cur, h1, Nat.zero_le _, h3⟩
theorem OwS.rd {W : World} {v : Value} {l : List ByteArray} (h : OwS W v l) : RdS W v l := Rd.of_own h
theorem OwS.below {W W' : World} {v : Value} {l : List ByteArray} (h : OwS W v l) (hb : Below W.heap.size W W') : OwS W' v l :=
  h.kept (row := none) ⟨hb.os, hb.tape, hb.output, hb.size, fun k hk _ => hb.block k hk⟩ (by cases v.ownBlock <;> simp)
theorem OwS.form {W : World} {v : Value} {l : List ByteArray} (h : OwS W v l) : ∃ ad c, v = .slice ad l.length c := by
  rcases h.2 with ⟨rfl, hn⟩ | ⟨g, cap, cur, rfl, _⟩
  · exact ⟨none, 0, by rw [hn]⟩
  · exact ⟨_, cap, rfl⟩
theorem OwS.nil (W : World) : OwS W (.slice none 0 0) [] := World.ownsRow_nil _ _ _ _
/-- Two rows of different types lie in different blocks. -/
theorem own_two {W : World} {b1 b2 s1 s2 n1 n2 : Nat} {e1 e2 : TypeId} {v1 v2 : Value} {x1 x2 : List Value} (h1 : W.ownsRow b1 e1 s1 v1 n1 x1) (h2 : W.ownsRow b2 e2 s2 v2 n2 x2) (hte : e1 ≠ e2) : v1.ownBlock = none ∨ v1.ownBlock ≠ v2.ownBlock := by
  rcases h1.2 with ⟨rfl, _⟩ | ⟨g, cap, cur, rfl, _, hh, _⟩
  · exact .inl rfl
  · refine .inr ?_
    rcases h2.2 with ⟨rfl, _⟩ | ⟨g2, cap2, cur2, rfl, _, hh2, _⟩
    · simp [Value.ownBlock]
    · intro e
      have : g = g2 := by simpa [Value.ownBlock] using e
      subst this
      rw [hh] at hh2
      injection hh2 with hh2
      injection hh2 with _ q
      exact hte q
theorem OwS.grown {W W' : World} {v v2 : Value} {l : List ByteArray} {b s n : Nat} {e : TypeId} {xs : List Value} (h : OwS W v l) (h2 : W.ownsRow b e s v2 n xs) (hte : 9 ≠ e) (hg : W.grownBy W' v2.ownBlock) : OwS W' v l := h.kept hg (own_two h h2 hte)
theorem own_setR {W : World} {base : Nat} {e : TypeId} {s n : Nat} {v : Value} {xs : List Value} (h : W.ownsRow base e s v n xs) (p : Addr) (u : Value) (hp : v.ownBlock ≠ some p.block) : (W.setCell p u).ownsRow base e s v n xs := by
  refine h.kept (row := some p.block) ⟨rfl, rfl, rfl, by simp [World.setCell], fun k _ hk => Below.heap_setCell _ _ _ _ (by rintro rfl; exact hk rfl)⟩ (.inr hp)
theorem cloneF_any (v : Value) (l : List ByteArray) (w : World) (hr : RdS w v l) (hl : l.length ≤ 100000) :
    Calls Tryz.prog 42 #[v] w fun e w' => ∃ ad c, e = .returned (.slice ad l.length c) ∧ OwS w' (.slice ad l.length c) l ∧ Below w.heap.size w w' := by
  have hown : ∀ (w' : World) (v' : Value) (m : List ByteArray), w'.ownsRow w.heap.size 9 1 v' m.length (m.map Value.string) → ∃ ad c, v' = .slice ad m.length c ∧ OwS w' (.slice ad m.length c) m := by
    intro w' v' m ho
    have h0 : OwS w' v' m := own_zero ho
    obtain ⟨ad, c, rfl⟩ := h0.form
    exact ⟨ad, c, rfl, h0⟩
  obtain ⟨a, cap, rfl, hlc, hcm, hcell⟩ := hr.open
  cases l with
  | nil =>
    cases a with
    | none =>
      refine (Tryz.slices_Clone_string_nil 0 cap w).mono ?_
      rintro e w' ⟨rfl, rfl⟩
      exact ⟨none, 0, rfl, OwS.nil _, Below.refl _ _⟩
    | some a =>
      refine (Tryz.slices_Clone_string_zero a cap w).mono ?_
      rintro e w' ⟨v', rfl, h1, _, h2⟩
      obtain ⟨ad, c, rfl, h3⟩ := hown w' v' [] h1
      exact ⟨ad, c, rfl, h3, h2⟩
  | cons x l =>
    obtain ⟨y, b, off, hy, rfl, hc⟩ := hcell 0 (by simp)
    refine (Tryz.slices_Clone_string b off (x :: l).length cap (x :: l) w (Nat.le_refl _) (by omega) (fun j hj => ?_)).mono ?_
    · obtain ⟨z, b', off', hz, e, hcz⟩ := hcell j hj
      cases e
      rw [hcz, List.getD_eq_getElem?_getD, hz]; rfl
    · rintro e w' ⟨v', rfl, h1, _, h2⟩
      rw [List.take_length] at h1
      obtain ⟨ad, c, rfl, h3⟩ := hown w' v' (x :: l) h1
      exact ⟨ad, c, rfl, h3, h2⟩
end Go.Proofs.YtjhdeoniafahbaaGreatDoor

/-
  Steps of a region that draws its order: a call by its contract, an append of one element or two to an own row.
-/
namespace Go.Proofs.YtjhdeoniafahbaaGreatDoor
open Go.RowKit

theorem step_call1 {P : Program} {ops : Array Oper} {o : Oper} {a : Act} {w : World} {K : Act → World → Prop} {Q : Exit → Act → World → Prop} {E : Prop}
    (hg : o.guard = none) (f : Nat) (ef : ∀ args w, (callFunc f args).run P w = .ok (.enter f args) w) (x : Operand) (ts : Array TypeId) (hop : o.op = Op.call { callee := Callee.value (Operand.func f), args := #[x], argTypes := ts }) (v : Value) (hx : a.eval x = v)
    {R : Value → World → Prop} (hc : Calls P f #[v] w fun e w' => ∃ r, e = .returned r ∧ R r w') (hK : ∀ r w', R r w' → K (a.put o.dst r) w') :
    if Region.wanted o (yielded ops a.tmps) = true then Oper.wp P o a w K Q else E := by
  have hw : Region.wanted o (yielded ops a.tmps) = true := by simp [Region.wanted, hg]
  rw [if_pos hw]
  have hrun : (execOp a.eval o).run P w = .ok (.enter f #[v]) w := by
    simp [execOp, hop, resolve, invoke, go_sem, ef]
    rw [← hx]
    cases x <;> first | rfl | simp [go_sem]
  unfold Oper.wp
  rw [hrun, Oper.upon_enter]
  refine hc.mono ?_
  rintro e w' ⟨r, rfl, hr⟩
  exact hK r w' hr
theorem step_callB {P : Program} {ops : Array Oper} {o : Oper} {a : Act} {w : World} {K : Act → World → Prop} {Q : Exit → Act → World → Prop} {E : Prop}
    (hg : o.guard = none) (f : Nat) (ef : ∀ args w, (callFunc f args).run P w = .ok (.enter f args) w) (x : Operand) (ts : Array TypeId) (hop : o.op = Op.call { callee := Callee.value (Operand.func f), args := #[x], argTypes := ts }) (v : Value) (hx : a.eval x = v) (r : Value)
    (hc : Calls P f #[v] w fun e w' => e = .returned r ∧ Below w.heap.size w w') (hK : ∀ w', Below w.heap.size w w' → K (a.put o.dst r) w') :
    if Region.wanted o (yielded ops a.tmps) = true then Oper.wp P o a w K Q else E :=
  step_call1 hg f ef x ts hop v hx (R := fun r' w' => r' = r ∧ Below w.heap.size w w') (hc.mono fun e w' h => ⟨r, h.1, rfl, h.2⟩) fun r' w' h => by rw [h.1]; exact hK w' h.2
/-- A call that gives a list of strings in a row of its own. -/
theorem step_callC {P : Program} {ops : Array Oper} {o : Oper} {a : Act} {w : World} {K : Act → World → Prop} {Q : Exit → Act → World → Prop} {E : Prop}
    (hg : o.guard = none) (f : Nat) (ef : ∀ args w, (callFunc f args).run P w = .ok (.enter f args) w) (x : Operand) (ts : Array TypeId) (hop : o.op = Op.call { callee := Callee.value (Operand.func f), args := #[x], argTypes := ts }) (v : Value) (hx : a.eval x = v) (l : List ByteArray)
    (hc : Calls P f #[v] w fun e w' => ∃ ad c, e = .returned (.slice ad l.length c) ∧ OwS w' (.slice ad l.length c) l ∧ Below w.heap.size w w')
    (hK : ∀ (ad : Option Addr) (c : Nat) (w' : World), OwS w' (.slice ad l.length c) l → Below w.heap.size w w' → K (a.put o.dst (.slice ad l.length c)) w') :
    if Region.wanted o (yielded ops a.tmps) = true then Oper.wp P o a w K Q else E :=
  step_call1 hg f ef x ts hop v hx (R := fun r' w' => ∃ ad c, r' = .slice ad l.length c ∧ OwS w' (.slice ad l.length c) l ∧ Below w.heap.size w w') (hc.mono fun e w' ⟨ad, c, h1, h2⟩ => ⟨_, h1, ad, c, rfl, h2⟩) fun r' w' ⟨ad, c, h1, h2, h3⟩ => by
    subst h1
    exact hK ad c w' h2 h3
theorem step_call0 {P : Program} {ops : Array Oper} {o : Oper} {a : Act} {w : World} {K : Act → World → Prop} {Q : Exit → Act → World → Prop} {E : Prop}
    (hg : o.guard = none) (f : Nat) (ef : ∀ args w, (callFunc f args).run P w = .ok (.enter f args) w) (ts : Array TypeId) (hop : o.op = Op.call { callee := Callee.value (Operand.func f), args := #[], argTypes := ts })
    {R : Value → World → Prop} (hc : Calls P f #[] w fun e w' => ∃ r, e = .returned r ∧ R r w') (hK : ∀ r w', R r w' → K (a.put o.dst r) w') :
    if Region.wanted o (yielded ops a.tmps) = true then Oper.wp P o a w K Q else E := by
  have hw : Region.wanted o (yielded ops a.tmps) = true := by simp [Region.wanted, hg]
  rw [if_pos hw]
  have hrun : (execOp a.eval o).run P w = .ok (.enter f #[]) w := by
    simp [execOp, hop, resolve, invoke, go_sem, ef]
  unfold Oper.wp
  rw [hrun, Oper.upon_enter]
  refine hc.mono ?_
  rintro e w' ⟨r, rfl, hr⟩
  exact hK r w' hr
theorem step_ap {P : Program} {ops : Array Oper} {o : Oper} {a : Act} {W : World} {K : Act → World → Prop} {Q : Exit → Act → World → Prop} {E : Prop}
    (hgd : o.guard = none) (s x : Operand) (t : TypeId) (ho : o.op = .call { callee := .builtin .append, args := #[s, x], argTypes := #[t, t] })
    (base : Nat) (e : TypeId) {z : Value} {size bytes : Nat} (ht : P.underlying t = some (.slice e)) (hi : (P.info? e).map (fun i => (i.zero, i.size, i.bytes)) = some (some z, size, bytes))
    (hzs : z.cells.size = size) (hsz : 0 < size) (hby : bytes ≤ 64)
    (v : Value) (n : Nat) (xs : List Value) (hs : a.eval s = v) (hown : W.ownsRow base e size v n xs) (m : Nat) (hm : 0 < m) (news : List Value) (hl : news.length = m * size) (h1 : ∀ u ∈ news, u.oneCell' = true)
    (N : Nat) (hx : a.eval x = .slice (some ⟨N, 0, none⟩) m m) (hc : ∀ j u, news[j]? = some u → W.cell? ⟨N, j, none⟩ = some u) (hn : n + m ≤ 4294967296) (hbase : base ≤ W.heap.size)
    (h : ∀ g cap w', w'.ownsRow base e size (.slice (some ⟨g, 0, none⟩) (n + m) cap) (n + m) (xs ++ news) → Below base W w' → W.grownBy w' v.ownBlock → (v.ownBlock = some g ∨ W.heap.size ≤ g) →
      K (a.put o.dst (.slice (some ⟨g, 0, none⟩) (n + m) cap)) w') :
    if Region.wanted o (yielded ops a.tmps) = true then Oper.wp P o a W K Q else E := by
  have hw : Region.wanted o (yielded ops a.tmps) = true := by simp [Region.wanted, hgd]
  rw [if_pos hw]
  obtain ⟨i, hi1, hi2, hi3, hi4⟩ := info_parts hi
  have hbb : (n + m) * bytes ≤ 140737488355328 := by
    have : (n + m) * bytes ≤ 4294967296 * 64 := Nat.mul_le_mul hn hby
    omega
  obtain ⟨g, cap, w', hr, ho', hg', hat, hlt⟩ := run_append_lies (P := P) W t o.type base e i z size bytes ht hi1 hi2 hi3 hi4 hzs hsz v n xs hown ⟨N, 0, none⟩ m m news hl
    (by
      intro j u hj
      have hadd : (⟨N, 0, none⟩ : Addr).add j = ⟨N, j, none⟩ := by unfold Addr.add; split <;> simp_all
      rw [hadd]; exact hc j u hj) h1 hm (by unfold maxLen; omega) hbb hbase W.heap.size rfl
  unfold Oper.wp execOp
  simp only [ho, resolve, invoke, builtin, Sem.run_bind, Sem.run_pure, Result.andThen_ok, List.map_toArray, List.map_cons, List.map_nil, hs, hx, hr]
  exact h g cap w' ho' ((Below.refl _ _).grown hg' hbase (fun k hk => (hown.lt k hk).1)) hg' (hat.imp id (fun h => by omega))
end Go.Proofs.YtjhdeoniafahbaaGreatDoor

/-
  lemma.decimal, strings.CutPrefix, strings.CutSuffix; what the walks ask of the world.
-/
namespace Go.Proofs.YtjhdeoniafahbaaGreatDoor
open Go.RowKit

/-- What the world must hold: the two errors of strconv, and its table of powers. -/
structure Env (w : World) : Prop where
  e1 : ∃ t p, w.cell? ⟨1, 0, none⟩ = some (.iface t p)
  e2 : ∃ t p, w.cell? ⟨2, 0, none⟩ = some (.iface t p)
  tab : Lib.TabIs Tryz.prog w "internal/strconv.uint64pow10" .u64 Lib.pow10Tab
theorem Env.below {w w' : World} (h : Env w) (hb : Below w.heap.size w w') : Env w' := by
  obtain ⟨⟨t1, p1, h1⟩, ⟨t2, p2, h2⟩, h3⟩ := h
  exact ⟨⟨t1, p1, Below.keeps hb _ _ h1⟩, ⟨t2, p2, Below.keeps hb _ _ h2⟩, Go.Joins.tab_stays (g := 3) (by kernel_rfl) h3 hb (Nat.le_refl _)⟩

def itoaB (v : Int) : ByteArray := ⟨(Lib.itoa v).toArray⟩
def decV (s : ByteArray) : Int := match Lib.atoiAll s.data.toList with
  | .ok v => v
  | .range => Lib.atoiSat s.data.toList
  | _ => 0
def decB (s : ByteArray) : Bool := match Lib.atoiAll s.data.toList with
  | .ok v => decide (1 ≤ v) && decide (s.size ≤ 9) && decide (itoaB v = s)
  | _ => false

theorem itoa_b (v : Int) (w : World) (he : Env w) (h0 : -9223372036854775808 ≤ v) (h1 : v ≤ 9223372036854775807) :
    Calls Tryz.prog 90 #[.int .i64 v] w fun e w' => e = .returned (.string (itoaB v)) ∧ Below w.heap.size w w' :=
  (Tryz.strconv_Itoa v h0 h1 w he.tab).mono fun e w' ⟨h, k, os, hw⟩ => ⟨h, by rw [hw]; exact Lib.below_grow _ w (Nat.le_refl _) k os⟩

set_option maxHeartbeats 1000000 in
theorem decimal_any (s : ByteArray) (w : World) (he : Env w) (hs : s.size ≤ 1048576) :
    Calls Tryz.prog 123 #[.string s] w fun e w' => e = .returned (.tuple #[.int .i64 (decV s), .bool (decB s)]) ∧ Below w.heap.size w w' := by
  cases hA : Lib.atoiAll s.data.toList with
  | ok v =>
    have hv := Lib.atoiAll_bounds hA
    have HV : Hid (decV s = v) := by unfold Hid decV; rw [hA]
    have HB : Hid (decB s = (decide (1 ≤ v) && decide (s.size ≤ 9) && decide (itoaB v = s))) := by unfold Hid decB; rw [hA]
    have HA := hid (Tryz.strconv_Atoi_ok s (by omega) v hA w)
    have HI := fun w' (h : Below w.heap.size w w') => hid (itoa_b v w' (he.below h) (by omega) (by omega))
    have hb := ba_beq (itoaB v) s
    have h0 : ∀ w', (w' = w ∨ ∃ t, w' = Lib.bytesWorld w 5 t) → Below w.heap.size w w' := by
      rintro w' (rfl | ⟨t, rfl⟩)
      · exact Below.refl _ _
      · exact Lib.bytesWorld_below _ _ _
    clear hA
    generalize itoaB v = iv at *
    by_cases h1 : 1 ≤ v
    · by_cases h9 : s.size ≤ 9
      · go_enter Tryz.func123, Tryz.ntmps123
        go_wp2_with fail
        refine HA.out.mono ?_
        rintro e w1 ⟨rfl, hw1⟩
        have HB1 := hid (h0 _ hw1)
        clear hw1
        have h9' : (s.size : Int) ≤ 9 := by omega
        go_wp2_with fail
        refine (HI _ HB1.out).out.mono ?_
        rintro e w2 ⟨rfl, hB2⟩
        go_wp2
        go_ret2
        exact ⟨by rw [HV.out, HB.out, decide_eq_true h1, decide_eq_true h9]; simp, below_tr HB1.out hB2⟩
      · go_enter Tryz.func123, Tryz.ntmps123
        go_wp2_with fail
        refine HA.out.mono ?_
        rintro e w1 ⟨rfl, hw1⟩
        have HB1 := hid (h0 _ hw1)
        clear hw1
        have h9' : ¬ (s.size : Int) ≤ 9 := by omega
        go_wp2
        go_ret2
        exact ⟨by rw [HV.out, HB.out, decide_eq_false h9]; simp, HB1.out⟩
    · go_enter Tryz.func123, Tryz.ntmps123
      go_wp2_with fail
      refine HA.out.mono ?_
      rintro e w1 ⟨rfl, hw1⟩
      have HB1 := hid (h0 _ hw1)
      clear hw1
      go_wp2
      go_ret2
      exact ⟨by rw [HV.out, HB.out, decide_eq_false (by omega)]; simp, HB1.out⟩
  | range =>
    have HV : Hid (decV s = Lib.atoiSat s.data.toList) := by unfold Hid decV; rw [hA]
    have HB : Hid (decB s = false) := by unfold Hid decB; rw [hA]
    obtain ⟨t, p, h1⟩ := he.e2
    have HA := hid (Tryz.strconv_Atoi_range s (by omega) hA (.iface t p) w h1 (.inr ⟨_, _, rfl⟩))
    clear hA h1
    generalize Lib.atoiSat s.data.toList = sv at *
    go_enter Tryz.func123, Tryz.ntmps123
    go_wp2_with fail
    refine HA.out.mono ?_
    rintro e w1 ⟨N, rfl, _, _, hB⟩
    go_wp2
    go_ret2
    exact ⟨by rw [HV.out, HB.out]; rfl, hB⟩
  | _ =>
    have HV : Hid (decV s = 0) := by unfold Hid decV; rw [hA]
    have HB : Hid (decB s = false) := by unfold Hid decB; rw [hA]
    obtain ⟨t, p, h1⟩ := he.e1
    have HA := hid (Tryz.strconv_Atoi_bad s (by omega) (by rw [hA]; intro v h; cases h) (by rw [hA]; intro h; cases h) (.iface t p) w h1 (.inr ⟨_, _, rfl⟩))
    clear hA h1
    go_enter Tryz.func123, Tryz.ntmps123
    go_wp2_with fail
    refine HA.out.mono ?_
    rintro e w1 ⟨N, rfl, _, _, hB⟩
    go_wp2
    go_ret2
    exact ⟨by rw [HV.out, HB.out]; rfl, hB⟩

def cutPB (s p : ByteArray) : Bool := Lib.hasPrefix s.data.toList p.data.toList
def cutPS (s p : ByteArray) : ByteArray := if cutPB s p = true then s.extract p.size s.size else s
set_option maxHeartbeats 1000000 in
theorem cutP_in (s p : ByteArray) (w : World) (_ : s.size ≤ 1048576) :
    Calls Tryz.prog 146 #[.string s, .string p] w fun e w' => e = .returned (.tuple #[.string (cutPS s p), .bool (cutPB s p)]) ∧ w = w' := by
  have HP := fun w' => hid (Tryz.stringslite_HasPrefix s p w')
  cases hp : Lib.hasPrefix s.data.toList p.data.toList with
  | true =>
    have hle : p.size ≤ s.size := by
      have := Lib.hasPrefix_le hp
      simpa using this
    have HS : Hid (cutPS s p = s.extract p.size s.size) := by unfold Hid cutPS cutPB; rw [hp]; rfl
    have HB : Hid (cutPB s p = true) := hp
    rw [hp] at HP
    clear hp
    go_enter Tryz.func146, Tryz.ntmps146
    go_wp2_with (go_at_call 145; refine (HP _).out.mono ?_; rintro e w' ⟨rfl, rfl⟩)
    go_ret2
    exact ⟨by rw [HS.out, HB.out]; rfl, rfl⟩
  | false =>
    have HS : Hid (cutPS s p = s) := by unfold Hid cutPS cutPB; rw [hp]; rfl
    have HB : Hid (cutPB s p = false) := hp
    rw [hp] at HP
    clear hp
    go_enter Tryz.func146, Tryz.ntmps146
    go_wp2_with (go_at_call 145; refine (HP _).out.mono ?_; rintro e w' ⟨rfl, rfl⟩)
    go_ret2
    exact ⟨by rw [HS.out, HB.out]; rfl, rfl⟩
set_option maxHeartbeats 1000000 in
theorem cutP_any (s p : ByteArray) (w : World) (hs : s.size ≤ 1048576) :
    Calls Tryz.prog 122 #[.string s, .string p] w fun e w' => e = .returned (.tuple #[.string (cutPS s p), .bool (cutPB s p)]) ∧ w = w' := by
  have H := hid (cutP_in s p w hs)
  generalize cutPS s p = a at *
  generalize cutPB s p = b at *
  go_enter Tryz.func122, Tryz.ntmps122
  go_wp2_with (go_at_call 146; refine H.out.mono ?_; rintro e w' ⟨rfl, rfl⟩)
  go_ret2
  exact ⟨rfl, rfl⟩

def cutXB (s p : ByteArray) : Bool := Lib.hasSuffix s.data.toList p.data.toList
def cutXS (s p : ByteArray) : ByteArray := if cutXB s p = true then s.extract 0 (s.size - p.size) else s
set_option maxHeartbeats 1000000 in
theorem cutX_in (s p : ByteArray) (w : World) (hs : s.size ≤ 1048576) :
    Calls Tryz.prog 137 #[.string s, .string p] w fun e w' => e = .returned (.tuple #[.string (cutXS s p), .bool (cutXB s p)]) ∧ w = w' := by
  have HP := fun w' => hid (Tryz.stringslite_HasSuffix s p w' (by omega))
  cases hp : Lib.hasSuffix s.data.toList p.data.toList with
  | true =>
    have hle : p.size ≤ s.size := by
      have := Lib.hasSuffix_le hp
      simpa using this
    have HS : Hid (cutXS s p = s.extract 0 (s.size - p.size)) := by unfold Hid cutXS cutXB; rw [hp]; rfl
    have HB : Hid (cutXB s p = true) := hp
    rw [hp] at HP
    clear hp
    go_enter Tryz.func137, Tryz.ntmps137
    go_wp2_with (go_at_call 164; refine (HP _).out.mono ?_; rintro e w' ⟨rfl, rfl⟩)
    go_ret2
    exact ⟨by rw [HS.out, HB.out]; rfl, rfl⟩
  | false =>
    have HS : Hid (cutXS s p = s) := by unfold Hid cutXS cutXB; rw [hp]; rfl
    have HB : Hid (cutXB s p = false) := hp
    rw [hp] at HP
    clear hp
    go_enter Tryz.func137, Tryz.ntmps137
    go_wp2_with (go_at_call 164; refine (HP _).out.mono ?_; rintro e w' ⟨rfl, rfl⟩)
    go_ret2
    exact ⟨by rw [HS.out, HB.out]; rfl, rfl⟩
set_option maxHeartbeats 1000000 in
theorem cutX_any (s p : ByteArray) (w : World) (hs : s.size ≤ 1048576) :
    Calls Tryz.prog 116 #[.string s, .string p] w fun e w' => e = .returned (.tuple #[.string (cutXS s p), .bool (cutXB s p)]) ∧ w = w' := by
  have H := hid (cutX_in s p w hs)
  generalize cutXS s p = a at *
  generalize cutXB s p = b at *
  go_enter Tryz.func116, Tryz.ntmps116
  go_wp2_with (go_at_call 137; refine H.out.mono ?_; rintro e w' ⟨rfl, rfl⟩)
  go_ret2
  exact ⟨rfl, rfl⟩
end Go.Proofs.YtjhdeoniafahbaaGreatDoor
