/-
  Joined: Tg52 CcI Tog.
-/
import Derived.Test.YtlneimjenjpbnaaAl52
import Derived.Test.YtlneimjenjpbnaaFnI
import Derived.BigQuiet
import Derived.Test.YtlneimjenjpbnaaOwM
import Derived.Lib.AppendZerosOnto
import Derived.Lib.SliceRun
import Derived.Lib.Walk
import Derived.Deep.Slices
import Derived.Shelf.RegionOpenPlain
import Derived.Deep.RegionHeld3
import Derived.Deep.RegionWith
/-
  facing.Together: the two functions that it hands on.
-/
namespace Go.Proofs.Ytlneimjenjpbnaa
open Go.RowKit

theorem tog1_any (u : Value) (x : List Int) (w : World) (hu : RdI w u x) :
    Calls Try.prog 25 #[u] w fun e w' => e = .returned (.bool (decide (x.length ≠ 2))) ∧ Below w.heap.size w w' := by
  obtain ⟨a, c, rfl, _, _, _⟩ := hu.open
  clear hu
  by_cases h2 : x.length = 2
  · have i1 : ((x.length : Int) != 2) = false := by rw [h2]; rfl
    have i2 : ((x.length : Int) == 2) = true := by rw [h2]; rfl
    have HV : Hid (decide (x.length ≠ 2) = false) := by show _ = _; simp [h2]
    clear h2
    generalize decide (x.length ≠ 2) = r at *
    go_enter Try.func25, Try.ntmps25
    go_wp2_with fail
    go_ret
    exact ⟨by rw [HV.out]; rfl, Below.refl _ _⟩
  · have i1 : ((x.length : Int) != 2) = true := bne_iff_ne.2 (by omega)
    have i2 : ((x.length : Int) == 2) = false := beq_eq_false_iff_ne.2 (by omega)
    have HV : Hid (decide (x.length ≠ 2) = true) := by show _ = _; simp [h2]
    clear h2
    generalize decide (x.length ≠ 2) = r at *
    go_enter Try.func25, Try.ntmps25
    go_wp2_with fail
    go_ret
    exact ⟨by rw [HV.out]; rfl, Below.refl _ _⟩
theorem tog2_any (u v : Value) (x y : List Int) (side b1 b2 : Nat) (w : World) (hu : RdI w u x) (hv : RdI w v y) (hx : x.length = 2) (hy : y.length = 2) (hs : side < 2)
    (k1 : w.cell? ⟨b1, 0, none⟩ = some (.int .i64 side)) (k2 : w.cell? ⟨b2, 0, none⟩ = some v) :
    Calls Try.prog 27 #[u, .pointer (some ⟨b1, 0, none⟩), .pointer (some ⟨b2, 0, none⟩)] w fun e w' => e = .returned (.bool (decide (y.getD side 0 < x.getD side 0))) ∧ Below w.heap.size w w' := by
  obtain ⟨bx, ox, cx, rfl, hcx, x0, x1⟩ := two_rd hu hx
  obtain ⟨by', oy, cy, rfl, hcy, y0, y1⟩ := two_rd hv hy
  have dx : w.cell? ⟨bx, ox + side, none⟩ = some (.int .i64 (x.getD side 0)) := by
    rcases (show side = 0 ∨ side = 1 by omega) with rfl | rfl
    · exact x0
    · exact x1
  have dy : w.cell? ⟨by', oy + side, none⟩ = some (.int .i64 (y.getD side 0)) := by
    rcases (show side = 0 ∨ side = 1 by omega) with rfl | rfl
    · exact y0
    · exact y1
  have s0 : (0 : Int) ≤ (side : Int) := by omega
  have s1 : (side : Int) < 2 := by omega
  clear hu hv hx hy x0 x1 y0 y1
  generalize x.getD side 0 = a at *
  generalize y.getD side 0 = c at *
  go_enter Try.func27, Try.ntmps27
  go_wp2_with fail
  go_quiet (fail)
  go_wp2_with fail
  go_ret
  exact ⟨rfl, below_drewN (Below.refl _ _) _⟩
end Go.Proofs.Ytlneimjenjpbnaa

/-
  slices.Grow of nothing, slices.Concat: rows of slices of numbers. Printed by gencci.py.
-/
namespace Go.Proofs.Ytlneimjenjpbnaa
open Go.RowKit Go.Lib

theorem run_append_none {P : Program} {w : World} (base : Nat) (t ty e : TypeId) (i : TypeInfo) (size c : Nat) (ht : P.underlying t = some (.slice e)) (hi : P.info? e = some i)
    (v : Value) (n : Nat) (xs : List Value) (hown : w.ownsRow base e size v n xs) : (Builtin.append_ #[t, t] ty #[v, .slice none 0 c]).run P w = .ok v w := by
  rcases hown.2 with ⟨rfl, rfl⟩ | ⟨g, cap, cur, rfl, _, _, hnc, _⟩
  · simp [Builtin.append_, run_underlying ht, sizeOf, typeInfo, hi, Builtin.lenOf, Builtin.firstCells]
  · simp [Builtin.append_, run_underlying ht, sizeOf, typeInfo, hi, Builtin.lenOf, Builtin.firstCells, hnc, storeCells]
/-- A slice and its cells in a row. -/
structure Src where
  v : Value
  n : Nat
  fl : List Value
def SrcOk (sz : Nat) (W : World) (s : Src) : Prop :=
  ∃ a cap, s.v = .slice a s.n cap ∧ s.n ≤ cap ∧ cap ≤ 9223372036854775807 ∧ s.fl.length = s.n * sz ∧ (∀ u ∈ s.fl, u.oneCell' = true) ∧ (∀ ad, a = some ad → ∀ j u, s.fl[j]? = some u → W.cell? (ad.add j) = some u) ∧ (a = none → s.n = 0)
def srN (vs : List Src) (k : Nat) : Nat := ((vs.take k).map Src.n).sum
def srF (vs : List Src) (k : Nat) : List Value := (vs.take k).flatMap Src.fl
theorem srN_succ (vs : List Src) (k : Nat) (p : Src) (h : vs[k]? = some p) : srN vs (k + 1) = srN vs k + p.n := by
  unfold srN
  rw [List.take_add_one, h]; simp
theorem srF_succ (vs : List Src) (k : Nat) (p : Src) (h : vs[k]? = some p) : srF vs (k + 1) = srF vs k ++ p.fl := by
  unfold srF
  rw [List.take_add_one, h]; simp

set_option maxHeartbeats 2000000 in
set_option maxRecDepth 100000 in
theorem growI_any (n : Nat) (w : World) (hn : n ≤ 100000) :
    Calls Try.prog 41 #[.slice none 0 0, .int .i64 n] w fun e w' => ∃ v, e = .returned v ∧ w'.ownsRow w.heap.size 22 1 v 0 [] ∧ Below w.heap.size w w' := by
  by_cases h0 : n = 0
  · subst h0
    go_enter Try.func41, Try.ntmps41
    go_wp2
    go_ret
    exact ⟨_, rfl, World.ownsRow_nil _ _ _ _, Below.refl _ _⟩
  · obtain ⟨i0, hi1, hi2, hi3, hi4⟩ := info_parts infoSlP
    have hG := grownCap_ge w n 0 22
    have hGm := grownCap_le_maxLen w n 0 22 (by unfold maxLen; omega)
    have hrz : ∀ ty, (Builtin.append_ #[23, 3] ty #[.slice none 0 0, .int .i64 (n : Int)]).run Try.prog w =
        .ok (.slice (some ⟨w.heap.size, 0, none⟩) n (grownCap w n 0 22)) (w.drew.alloc (.cells (#[] ++ Builtin.zeroCells (Value.slice none 0 0).cells n ++ Builtin.zeroCells (Value.slice none 0 0).cells (grownCap w n 0 22 - n)) 22)) := fun ty => by
      have h := Lib.run_append_grow_zeros (P := Try.prog) w 23 3 ty 22 i0 _ .i64 .i64 Try.underlying23 Try.underlying3 hi1 hi2 none 0 0 [] (run_firstCells_none w.drew i0.size 0 0 0) n (by omega) (by omega) (by omega) (by omega)
        (by rw [hi4]; omega) (growslice_fits (by omega) (by rw [hi4]; omega))
      simpa using h
    generalize grownCap w n 0 22 = G at *
    have hsz : (#[] ++ Builtin.zeroCells (Value.slice none 0 0).cells n ++ Builtin.zeroCells (Value.slice none 0 0).cells (G - n)).size = G * 1 := by
      simp [size_zeroCells, Value.cells]; omega
    generalize #[] ++ Builtin.zeroCells (Value.slice none 0 0).cells n ++ Builtin.zeroCells (Value.slice none 0 0).cells (G - n) = cur at *
    have hown : (w.drew.alloc (.cells cur 22)).ownsRow w.heap.size 22 1 (.slice (some ⟨w.heap.size, 0, none⟩) 0 G) 0 [] := World.ownsRow_made w.drew cur G (Nat.le_refl _) hGm hsz
    have hBz : Below w.heap.size w (w.drew.alloc (.cells cur 22)) := ((Below.refl _ w).drew).alloc (Nat.le_refl _) _
    have hG63 : G ≤ 9223372036854775807 := by unfold maxLen at hGm; omega
    clear hsz hi1 hi2 hi3 hi4 hGm
    go_enter Try.func41, Try.ntmps41
    go_wp2_with (at_builtin; refine Lib.wpList_append_run _ rfl _ _ _ _ rfl _ _ rfl rfl _ _ (hrz _) ?_)
    go_ret
    exact ⟨_, rfl, hown, hBz⟩

set_option maxHeartbeats 4000000 in
set_option maxRecDepth 100000 in
theorem concatI_any (B : Nat) (vs : List Src) (w : World) (hcell : ∀ j p, vs[j]? = some p → w.cell? ⟨B, j, none⟩ = some p.v ∧ SrcOk 1 w p) (hm : vs.length ≤ 10) (hlen : ∀ p ∈ vs, p.n ≤ 10000) :
    Calls Try.prog 24 #[.slice (some ⟨B, 0, none⟩) vs.length vs.length] w fun e w' => ∃ r, e = .returned r ∧ w'.ownsRow w.heap.size 22 1 r (srN vs vs.length) (srF vs vs.length) ∧ Below w.heap.size w w' := by
  have HCell := hid hcell; clear hcell
  have HLen := hid hlen; clear hlen
  obtain ⟨i0, hi1, hi2, hi3, hi4⟩ := info_parts infoSlP
  have HI := hid (And.intro hi1 (And.intro hi2 (And.intro hi3 hi4)))
  clear hi1 hi2 hi3 hi4
  go_enter Try.func24, Try.ntmps24
  go_wp2_with fail
  go_loopw [3, 11] (fun s i wr => ∃ k : Nat, k ≤ vs.length ∧ i = .int .i64 k ∧ (∃ z : Nat, s = .int .i64 z ∧ Hid (z = srN vs k) ∧ z ≤ k * 10000) ∧ Below w.heap.size w wr) (fun _ i _ => vs.length - (Go.RowKit.intOf i).toNat)
  case atStart => exact ⟨0, by omega, rfl, ⟨0, rfl, rfl, by omega⟩, Below.refl _ _⟩
  case round =>
    obtain ⟨k, hk, rfl, ⟨z, rfl, HZ, hz⟩, hB⟩ := hrel
    by_cases hlt : k < vs.length
    · have hvk : vs[k]? = some vs[k] := List.getElem?_eq_getElem hlt
      obtain ⟨hc0, hg0⟩ := HCell.out k _ hvk
      have hl20 := HLen.out _ (List.mem_of_getElem? hvk)
      have HS := hid (srN_succ vs k _ hvk)
      generalize vs[k] = p at *
      obtain ⟨v, l, fl⟩ := p
      obtain ⟨a, cap, hev, hlc, hcm, _⟩ := hg0
      dsimp only at hc0 hl20 HS hlc hev
      subst hev
      have hc := Below.keeps hB _ _ hc0
      clear hvk hc0
      go_wp2
      go_roundw
      case rel => exact ⟨k + 1, by omega, by go_num, ⟨z + l, by go_num, by rw [HS.out, HZ.out]; rfl, by omega⟩, hB⟩
      case measure => simp [Go.RowKit.intOf]; omega
    · obtain rfl : k = vs.length := by omega
      have hGr := hid (fun w' => growI_any z w' (by omega))
      go_wp2_with fail
      refine (hGr.out _).mono ?_
      rintro e w1 ⟨o, rfl, hown1, hB1⟩
      have HBo := hid hB
      clear hB hlt
      have hBow := below_tr HBo.out hB1
      go_wp2_with fail
      clear hk hz HZ hGr
      have hown0 : w1.ownsRow w.heap.size 22 1 o 0 [] := by
        refine ⟨hown1.1, ?_⟩
        rcases hown1.2 with h2 | ⟨g, cap, cur, h1, h2, h3⟩
        · exact .inl h2
        · exact .inr ⟨g, cap, cur, h1, Nat.le_trans HBo.out.size h2, h3⟩
      obtain ⟨wo, rfl⟩ : ∃ wo : World, wo = wr := ⟨_, rfl⟩
      go_loopw [6, 27] (fun o i wr => ∃ k : Nat, k ≤ vs.length ∧ i = .int .i64 k ∧ (∃ (z : Nat) (fl : List Value), Hid (z = srN vs k) ∧ Hid (fl = srF vs k) ∧ z ≤ k * 10000 ∧ wr.ownsRow w.heap.size 22 1 o z fl) ∧ Below w.heap.size w wr) (fun _ i _ => vs.length - (Go.RowKit.intOf i).toNat)
      case atStart => exact ⟨0, by omega, rfl, ⟨0, [], rfl, rfl, by omega, hown0⟩, hBow⟩
      case round =>
        clear hown1 hB1 hBow hown0
        obtain ⟨k, hk, rfl, ⟨z, fo, HZ, HF, hz, hown⟩, hB⟩ := hrel
        by_cases hlt : k < vs.length
        · have hvk : vs[k]? = some vs[k] := List.getElem?_eq_getElem hlt
          obtain ⟨hc0, hg0⟩ := HCell.out k _ hvk
          have hl20 := HLen.out _ (List.mem_of_getElem? hvk)
          have HS := hid (srN_succ vs k _ hvk)
          have HG := hid (srF_succ vs k _ hvk)
          generalize vs[k] = p at *
          obtain ⟨v, l, fl⟩ := p
          obtain ⟨a, cap, hev, hlc, hcm, hfl, hone, hcs, hnn⟩ := hg0
          dsimp only at hc0 hl20 HS HG hlc hfl hone hcs hnn hev
          subst hev
          have hc := Below.keeps hB _ _ hc0
          have HONE := hid hone
          have HCS := hid hcs
          have HFL := hid hfl
          clear hvk hc0 hone hcs hfl
          cases a with
          | none =>
            obtain rfl : l = 0 := hnn rfl
            have hfl0 : fl = [] := List.eq_nil_of_length_eq_zero (by have h := HFL.out; omega)
            subst hfl0
            have hrn := fun ty => run_append_none (P := Try.prog) (w := wr) w.heap.size 23 ty 22 i0 1 cap Try.underlying23 HI.out.1 _ _ _ hown
            go_wp2_with (at_builtin; refine Lib.wpList_append_run _ rfl _ _ _ _ rfl _ _ rfl rfl _ _ (hrn _) ?_)
            go_roundw
            case rel => exact ⟨k + 1, by omega, by go_num, ⟨z, fo, (by have h1 := HS.out; have h2 := HZ.out; show z = _; omega), (by have h1 := HG.out; rw [List.append_nil] at h1; show fo = _; rw [h1, HF.out]), by omega, hown⟩, hB⟩
            case measure => simp [Go.RowKit.intOf]; omega
          | some ad =>
            go_wp2_with (at_builtin; refine wpList_append_own _ rfl _ _ 23 rfl w.heap.size 22 i0 _ 1 24 Try.underlying23 HI.out.1 HI.out.2.1 HI.out.2.2.1 HI.out.2.2.2 rfl (by decide) _ _ _ rfl hown ad l cap fl rfl HFL.out (fun j u h => Below.keeps hB _ _ (HCS.out ad rfl j u h)) HONE.out (by unfold maxLen; omega) (by omega) hB.size ?_; intro v' w4 hown' hgr _)
            go_roundw
            case rel => exact ⟨k + 1, by omega, by go_num, ⟨z + l, fo ++ fl, by rw [HS.out, HZ.out]; rfl, by rw [HG.out, HF.out]; rfl, by omega, hown'⟩, hB.grown hgr hB.size (fun b hb => (hown.lt b hb).1)⟩
            case measure => simp [Go.RowKit.intOf]; omega
        · obtain rfl : k = vs.length := by omega
          have HRES : Hid (wr.ownsRow w.heap.size 22 1 u6 (srN vs vs.length) (srF vs vs.length)) := by
            rw [← HZ.out, ← HF.out]; exact hown
          clear hown HZ HF
          go_wp2
          go_ret
          exact ⟨_, rfl, HRES.out, hB⟩

theorem RdM.src {W : World} {v : Value} {M : List (List Int)} (h : RdM W v M) : ∃ us : List Value, us.length = M.length ∧ (∀ (i : Nat) (u : Value) (row : List Int), us[i]? = some u → M[i]? = some row → RdI W u row) ∧ SrcOk 1 W ⟨v, M.length, us⟩ := by
  obtain ⟨a, cap, rfl, h2, h3, hc⟩ := h.open
  have hex : ∀ i, i < M.length → ∃ u : Value, ∃ row, M[i]? = some row ∧ RdI W u row ∧ ∃ ad, a = some ad ∧ W.cell? (ad.add i) = some u := by
    intro i hi
    obtain ⟨row, b, off, u, hx, rfl, h1, h4⟩ := hc i hi
    refine ⟨u, row, hx, h4, _, rfl, ?_⟩
    rw [Go.WideShapes.add_plain]
    exact h1
  haveI : Inhabited Value := ⟨.bool false⟩
  obtain ⟨f, hf⟩ := Go.Deep.choose_lt hex
  have hat : ∀ i p, ((List.range M.length).map f)[i]? = some p → i < M.length ∧ p = f i := by
    intro i p hp
    have hi : i < M.length := by have := (List.getElem?_eq_some_iff.1 hp).1; simpa using this
    simp only [List.getElem?_map, List.getElem?_range hi, Option.map_some, Option.some.injEq] at hp
    exact ⟨hi, hp.symm⟩
  refine ⟨(List.range M.length).map f, by simp, fun i u row hu hrow => ?_, a, cap, rfl, h2, h3, by simp, ?_, ?_, ?_⟩
  · obtain ⟨hi, rfl⟩ := hat i u hu
    obtain ⟨row', h4, h5, _⟩ := hf i hi
    rw [hrow] at h4
    cases h4
    exact h5
  · intro u hu
    obtain ⟨i, hi, rfl⟩ := List.mem_map.1 hu
    obtain ⟨row', _, h5, _⟩ := hf i (List.mem_range.1 hi)
    obtain ⟨a', c', e, _⟩ := h5
    rw [e]; rfl
  · intro ad ea j u hu
    obtain ⟨hj, rfl⟩ := hat j u hu
    obtain ⟨row', _, _, ad', e', h6⟩ := hf j hj
    rw [ea] at e'
    cases e'
    exact h6
  · intro ea
    cases hM : M.length with
    | zero => rfl
    | succ k =>
      obtain ⟨row', _, _, ad', e', _⟩ := hf 0 (by omega)
      rw [ea] at e'; cases e'
theorem concat2M (B : Nat) (v1 v2 : Value) (l1 l2 : List (List Int)) (w : World) (h1 : w.cell? ⟨B, 0, none⟩ = some v1) (h2 : w.cell? ⟨B, 1, none⟩ = some v2) (r1 : RdM w v1 l1) (r2 : RdM w v2 l2) (k1 : l1.length ≤ 10000) (k2 : l2.length ≤ 10000) :
    Calls Try.prog 24 #[.slice (some ⟨B, 0, none⟩) 2 2] w fun e w' => ∃ r, e = .returned r ∧ RdM w' r (l1 ++ l2) ∧ Below w.heap.size w w' := by
  obtain ⟨u1, e1, b1, s1⟩ := r1.src
  obtain ⟨u2, e2, b2, s2⟩ := r2.src
  refine (concatI_any B [⟨v1, l1.length, u1⟩, ⟨v2, l2.length, u2⟩] w ?_ (by simp) ?_).mono ?_
  · intro j p hj
    rcases j with _ | _ | j
    · obtain rfl := Option.some.inj hj; exact ⟨h1, s1⟩
    · obtain rfl := Option.some.inj hj; exact ⟨h2, s2⟩
    · cases hj
  · intro p hp
    simp only [List.mem_cons, List.not_mem_nil, or_false] at hp
    rcases hp with rfl | rfl
    · exact k1
    · exact k2
  · rintro e w' ⟨r, rfl, hown, hB⟩
    refine ⟨r, rfl, ?_, hB⟩
    have h := hown
    simp only [srN, srF, List.length_cons, List.length_nil, Nat.zero_add, Nat.reduceAdd, List.take_succ_cons, List.take_zero, List.map_cons, List.map_nil, List.sum_cons, List.sum_nil, Nat.add_zero, List.flatMap_cons, List.flatMap_nil, List.append_nil] at h
    have hl : l1.length + l2.length = (u1 ++ u2).length := by rw [List.length_append, e1, e2]
    rw [hl] at h
    have h' : w'.ownsRow w.heap.size 22 1 r (u1 ++ u2).length ((u1 ++ u2).map id) := by rw [List.map_id]; exact h
    obtain ⟨a, cap, q1, q2, q3, q4⟩ := Rd.of_own (enc := id) h'
    refine ⟨a, cap, by rw [q1, List.length_append, List.length_append, e1, e2], by rw [List.length_append]; rw [← hl] at q2; exact q2, q3, fun i row hi => ?_⟩
    have hlt : i < (u1 ++ u2).length := by rw [← hl, ← List.length_append]; exact (List.getElem?_eq_some_iff.1 hi).1
    obtain ⟨b, off, rfl, hc⟩ := q4 i (u1 ++ u2)[i] (List.getElem?_eq_getElem hlt)
    refine ⟨b, off, (u1 ++ u2)[i], rfl, hc, ?_⟩
    by_cases hi1 : i < u1.length
    · have h5 := hi
      rw [List.getElem?_append_left (by omega)] at h5
      exact (b1 i _ row (by rw [List.getElem_append_left hi1]; exact List.getElem?_eq_getElem hi1) h5).below hB
    · have h5 := hi
      rw [List.getElem?_append_right (by omega)] at h5
      have hi2 : i - u1.length < u2.length := by rw [List.length_append] at hlt; omega
      exact (b2 (i - l1.length) _ row (by rw [List.getElem_append_right (by omega), ← e1]; exact List.getElem?_eq_getElem hi2) h5).below hB
end Go.Proofs.Ytlneimjenjpbnaa

/-
  facing.Together, where all rows are of two.
-/
namespace Go.Proofs.Ytlneimjenjpbnaa
open Go.RowKit

def togI (E : List (List Int)) (a : List Int) (k : Nat) : Int := fIdx (fun x => decide (a.getD k 0 < x.getD k 0)) E
def togO (E : List (List Int)) (a : List Int) : Bool := !(decide (togI E a 0 < 0)) && decide (togI E a 0 = togI E a 1)
def togB (E A : List (List Int)) : Bool := A.all (togO E)
theorem tog_set (E : List (List Int)) (a : List Int) {s : Nat} (hs : s < 2) : (#[.int .i64 (if 0 < s then togI E a 0 else 0), .int .i64 (if 1 < s then togI E a 1 else 0)] : Array Value).setIfInBounds s (.int .i64 (togI E a s)) = #[.int .i64 (if 0 < s + 1 then togI E a 0 else 0), .int .i64 (if 1 < s + 1 then togI E a 1 else 0)] := by
  rcases (show s = 0 ∨ s = 1 by omega) with rfl | rfl <;> simp
set_option maxRecDepth 100000 in
set_option maxHeartbeats 4000000 in
theorem tog_any (E A : List (List Int)) (ve va : Value) (w : World) (hE : RdM w ve E) (hA : RdM w va A) (e2 : ∀ x ∈ E, x.length = 2) (a2 : ∀ x ∈ A, x.length = 2) (kE : E.length ≤ 10000) (kA : A.length ≤ 10000) :
    Calls Try.prog 11 #[ve, va] w fun e w' => e = .returned (.tuple #[.bool (togB E A), .int .i64 0]) ∧ Below w.heap.size w w' := by
  have HE := hid hE
  have HA := hid hA
  have H2 := hid e2
  have HA2 := hid a2
  obtain ⟨ae, ce, rfl, _, _, _⟩ := hE.open
  obtain ⟨aa, ca, rfl, _, _, _⟩ := hA.open
  clear hE hA e2 a2
  have HB0 := hid (below_al w (.cells #[.slice ae E.length ce, .slice aa A.length ca] 23))
  have HR0 := hid (row_nw w #[.slice ae E.length ce, .slice aa A.length ca] 23 rfl)
  go_enter Try.func11, Try.ntmps11
  go_wp2_with fail
  refine (concat2M w.heap.size (.slice ae E.length ce) (.slice aa A.length ca) E A _ (HR0.out.cell 0 rfl) (HR0.out.cell 1 rfl) (HE.out.below HB0.out) (HA.out.below HB0.out) kE kA).mono ?_
  rintro e w2 ⟨v, rfl, hv, hb2⟩
  have HB2 := hid (below_tr HB0.out hb2)
  have HV := hid hv
  have HC := hid (containsFuncM_any 25 (fun args w => by rfl) #[] (fun x => decide (x.length ≠ 2)) v (E ++ A) w2 hv (fun u x W' _ hu _ => tog1_any u x W' hu))
  have hany : ((E ++ A).any fun x => decide (x.length ≠ 2)) = false := by
    rw [List.any_eq_false]
    intro x hx
    rcases List.mem_append.1 hx with h | h
    · simp [H2.out x h]
    · simp [HA2.out x h]
  rw [hany] at HC
  clear hany hb2 hv HR0 HB0
  go_wp2_with fail
  (with_reducible refine HC.out.mono ?_)
  rintro e w3 ⟨rfl, hb3⟩
  have HB3 := hid (below_tr HB2.out hb3)
  clear hb3 HC HV HB2
  go_wp2_with fail
  go_loopw [17] (fun i wr => ∃ k : Nat, k ≤ A.length ∧ i = .int .i64 k ∧ Hid (∀ a ∈ A.take k, togO E a = true) ∧ Hid (Below w.heap.size w wr)) (fun i _ => A.length - (intOf i).toNat)
  case atStart => exact ⟨0, Nat.zero_le _, rfl, fun a ha => by simp at ha, HB3.out⟩
  case round =>
    obtain ⟨w1, rfl⟩ : ∃ w1 : World, w1 = wr := ⟨_, rfl⟩
    obtain ⟨k, hk, rfl, HK, HB⟩ := hrel
    clear HB3
    by_cases hlt : k < A.length
    · obtain ⟨_, _, hee, _, _, hcell⟩ := HA.out.open
      cases hee
      obtain ⟨a, b, off, u, hx, rfl, cu0, hu⟩ := hcell k hlt
      have cu := Below.keeps HB.out _ _ cu0
      clear cu0
      have hki : (k : Int) < (A.length : Int) := by omega
      have ha2 := HA2.out a (List.mem_of_getElem? hx)
      have HX := hid hx
      have HU := hid hu
      obtain ⟨au, cu', hue, _, _, _⟩ := hu.open
      rw [ha2] at hue
      subst hue
      have HL2 := hid ha2
      clear ha2
      have HR7 := hid ((row_nw w1 #[.slice au 2 cu'] 22 rfl).al (.cells #[.int .i64 0, .int .i64 0] 66))
      have HR8 := hid (row_nw (w1.alloc (.cells #[.slice au 2 cu'] 22)) #[.int .i64 0, .int .i64 0] 66 (n := w1.heap.size + 1) (by simp))
      have HB8 : Hid (Below w1.heap.size w1 ((w1.alloc (.cells #[.slice au 2 cu'] 22)).alloc (.cells #[.int .i64 0, .int .i64 0] 66))) := below_tr (below_al _ _) (below_al _ _)
      have HU2 : Hid (RdI w (.slice au 2 cu') a) := HU.out
      clear hcell hx hu
      go_wp2_with fail
      generalize (w1.alloc (.cells #[.slice au 2 cu'] 22)).alloc (.cells #[.int .i64 0, .int .i64 0] 66) = w8 at *
      generalize hz7 : w1.heap.size = Z7 at *
      have HB9 : Hid (Below w.heap.size w w8) := by have h := HB8.out; rw [← hz7] at h; exact below_tr HB.out h
      have HZ7 : Hid (w.heap.size ≤ Z7) := by have h := HB.out.size; rw [hz7] at h; exact h
      clear hz7 cu HB8
      go_loopw [21] (fun q wi => ∃ s : Nat, s ≤ 2 ∧ q = .int .i64 s ∧ Hid (Row wi Z7 #[.slice au 2 cu'] 22) ∧ Hid (Row wi (Z7 + 1) #[.int .i64 (if 0 < s then togI E a 0 else 0), .int .i64 (if 1 < s then togI E a 1 else 0)] 66) ∧ Hid (Below w.heap.size w wi)) (fun q _ => 2 - (intOf q).toNat)
      case atStart => exact ⟨0, by omega, rfl, HR7.out, HR8.out, HB9.out⟩
      case round =>
        obtain ⟨s, hs, rfl, H7, H8, HBi⟩ := hrel
        clear HR7 HR8 HB9
        by_cases hs2 : s < 2
        · have hsi : (s : Int) < 2 := by omega
          have hs0 : (0 : Int) ≤ (s : Int) := by omega
          have HR9 := hid (row_nw wr #[.int .i64 (s : Int)] 3 rfl)
          have hb9 := below_al wr (.cells #[.int .i64 (s : Int)] 3)
          have H79 := hid (H7.out.below hb9)
          have H89 := hid (H8.out.below hb9)
          have HB10 := hid (below_tr HBi.out hb9)
          clear hb9 H7 H8 HBi
          go_upto_region 10 with fail
          generalize wr.alloc (.cells #[.int .i64 (s : Int)] 3) = w9 at *
          generalize wr.heap.size = Z9 at *
          have HIX : Hid (∀ W', Below w9.heap.size w9 W' → Calls Try.prog 26 #[.slice ae E.length ce, .func (.func 27) #[] #[.pointer (some ⟨Z9, 0, none⟩), .pointer (some ⟨Z7, 0, none⟩)]] W' fun e w'' => e = .returned (.int .i64 (togI E a s)) ∧ Below W'.heap.size W' w'') := fun W' hb =>
            indexFuncM_any 27 (fun args w => by rfl) #[.pointer (some ⟨Z9, 0, none⟩), .pointer (some ⟨Z7, 0, none⟩)] (fun x => decide (a.getD s 0 < x.getD s 0)) (.slice ae E.length ce) E W' ((HE.out.below HB10.out).below hb) (fun u x W'' hx hu hb2 =>
              tog2_any u (.slice au 2 cu') x a s Z9 Z7 W'' hu (((HU2.out.below HB10.out).below hb).below hb2) (H2.out x hx) HL2.out hs2 (((HR9.out.below hb).below hb2).cell 0 rfl) (((H79.out.below hb).below hb2).cell 0 rfl))
          obtain ⟨y, hy⟩ : ∃ y, (#[.int .i64 (if 0 < s then togI E a 0 else 0), .int .i64 (if 1 < s then togI E a 1 else 0)] : Array Value)[s]? = some y := ⟨_, Array.getElem?_eq_getElem (by simpa using hs2)⟩
          have HSh : Hid (∀ w', Below w9.heap.size w9 w' → w'.cell? ⟨Z9, 0, none⟩ = some (.int .i64 (s : Int)) ∧ (w'.cell? ⟨Z7 + 1, s, none⟩ = some y ∧ w'.frozen? ⟨Z7 + 1, s, none⟩ = false) ∧ Below w9.heap.size w9 w') := fun w' hb =>
            ⟨(HR9.out.below hb).cell 0 rfl, ⟨(H89.out.below hb).cell s hy, (H89.out.below hb).frozen s⟩, hb⟩
          have hB3 := Below.refl w9.heap.size w9
          have HY := hid hy
          clear hy
          have k9 := HR9.out.cell 0 (x := .int .i64 (s : Int)) rfl
          go_region_with (go_at_call 26; (with_reducible refine (HIX.out _ (Below.refl _ _).drew).mono ?_); rintro e wz ⟨rfl, hBz⟩; have zs := below_tr (Below.refl w9.heap.size w9).drew hBz; have q9 := (HSh.out _ zs).1; have q8 := (HSh.out _ zs).2.1.1; have f8 := (HSh.out _ zs).2.1.2)
          all_goals go_wp2_with fail
          all_goals go_roundw
          all_goals first
            | (simp [intOf]; omega; done)
            | (refine ⟨s + 1, by omega, by go_num, ?_, ?_, ?_⟩
               · exact (H79.out.below zs).other _ _ (by simp)
               · have h := (H89.out.below zs).set s (.int .i64 (togI E a s))
                 rw [tog_set E a hs2] at h
                 exact h
               · exact (below_tr HB10.out zs).setCell (by have := HZ7.out; simp; omega) _)
        · obtain rfl : s = 2 := by omega
          have x0 := H8.out.cell 0 (x := .int .i64 (togI E a 0)) rfl
          have x1 := H8.out.cell 1 (x := .int .i64 (togI E a 1)) rfl
          have hsi : ¬ ((2 : Nat) : Int) < 2 := by omega
          have HTK : Hid (∀ y ∈ A.take (k + 1), togO E a = true → togO E y = true) := fun y hy h => by
            rw [List.take_add_one, HX.out] at hy
            rcases List.mem_append.1 hy with h1 | h1
            · exact HK.out y h1
            · simp at h1; rw [h1]; exact h
          have HBF : Hid (togO E a = false → togB E A = false) := fun h => by
            unfold togB
            rw [List.all_eq_false]
            exact ⟨a, List.mem_of_getElem? HX.out, by rw [h]; simp⟩
          have HTO : Hid (togO E a = (!(decide (togI E a 0 < 0)) && decide (togI E a 0 = togI E a 1))) := rfl
          generalize togI E a 0 = i0 at *
          generalize togI E a 1 = i1 at *
          by_cases k0 : i0 < 0
          · have HF := hid (HBF.out (by rw [HTO.out, decide_eq_true k0]; rfl))
            go_wp2_with fail
            exact bodyPost_ret (results_tmp2 rfl _ _ _) rfl ⟨by rw [HF.out]; rfl, HBi.out⟩
          · by_cases k1 : i0 = i1
            · have j1 : (i0 != i1) = false := by rw [k1]; simp
              have j2 : (i0 == i1) = true := by rw [k1]; simp
              have HT2 : Hid (∀ y ∈ A.take (k + 1), togO E y = true) := fun y hy => HTK.out y hy (by rw [HTO.out, decide_eq_false k0, decide_eq_true k1]; rfl)
              clear k1 HTK HBF HTO
              go_wp2_with fail
              go_roundw
              case rel => exact ⟨k + 1, by omega, by go_num, HT2.out, HBi.out⟩
              case measure => simp [intOf]; omega
            · have j1 : (i0 != i1) = true := bne_iff_ne.2 k1
              have j2 : (i0 == i1) = false := beq_eq_false_iff_ne.2 k1
              have HF := hid (HBF.out (by rw [HTO.out, decide_eq_false k1]; simp))
              clear HTK HBF HTO
              go_wp2_with fail
              exact bodyPost_ret (results_tmp2 rfl _ _ _) rfl ⟨by rw [HF.out]; rfl, HBi.out⟩
    · have hki : ¬ (k : Int) < (A.length : Int) := by omega
      have HT : Hid (togB E A = true) := by
        have h := HK.out
        rw [List.take_of_length_le (by omega)] at h
        exact List.all_eq_true.2 h
      go_wp2_with fail
      exact bodyPost_ret (results_tmp2 rfl _ _ _) rfl ⟨by rw [HT.out]; rfl, HB.out⟩
end Go.Proofs.Ytlneimjenjpbnaa
