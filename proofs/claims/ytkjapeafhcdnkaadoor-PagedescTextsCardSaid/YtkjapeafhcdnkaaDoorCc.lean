/-
  slices.Grow of nothing, slices.Concat: rows of pages, rows of boxes. Printed by gencc.py.
-/
import Derived.Test.YtkjapeafhcdnkaaDoorMov
import Derived.Lib.AppendZerosOnto
import Derived.Lib.SliceRun
import Derived.Lib.Walk
import Derived.Deep.Slices
import Derived.Shelf.RegionOpenPlain
namespace Go.Proofs.YtkjapeafhcdnkaaDoor
open Go.RowKit Go.Lib

theorem run_append_none {P : Program} {w : World} (base : Nat) (t ty e : TypeId) (i : TypeInfo) (size c : Nat) (ht : P.underlying t = some (.slice e)) (hi : P.info? e = some i)
    (v : Value) (n : Nat) (xs : List Value) (hown : w.ownsRow base e size v n xs) : (Builtin.append_ #[t, t] ty #[v, .slice none 0 c]).run P w = .ok v w := by
  rcases hown.2 with ⟨rfl, rfl⟩ | ⟨g, cap, cur, rfl, _, _, hnc, _⟩
  · simp [Builtin.append_, run_underlying ht, sizeOf, typeInfo, hi, Builtin.lenOf, Builtin.firstCells]
  · simp [Builtin.append_, run_underlying ht, sizeOf, typeInfo, hi, Builtin.lenOf, Builtin.firstCells, hnc, storeCells]
/-- A slice and its cells in a row. -/
structure Src where
  v : Value
  n : Nat
  fl : List Value
def SrcOk (sz : Nat) (W : World) (s : Src) : Prop :=
  ∃ a cap, s.v = .slice a s.n cap ∧ s.n ≤ cap ∧ cap ≤ 9223372036854775807 ∧ s.fl.length = s.n * sz ∧ (∀ u ∈ s.fl, u.oneCell' = true) ∧ (∀ ad, a = some ad → ∀ j u, s.fl[j]? = some u → W.cell? (ad.add j) = some u) ∧ (a = none → s.n = 0)
def srN (vs : List Src) (k : Nat) : Nat := ((vs.take k).map Src.n).sum
def srF (vs : List Src) (k : Nat) : List Value := (vs.take k).flatMap Src.fl
theorem srN_succ (vs : List Src) (k : Nat) (p : Src) (h : vs[k]? = some p) : srN vs (k + 1) = srN vs k + p.n := by
  unfold srN
  rw [List.take_add_one, h]; simp
theorem srF_succ (vs : List Src) (k : Nat) (p : Src) (h : vs[k]? = some p) : srF vs (k + 1) = srF vs k ++ p.fl := by
  unfold srF
  rw [List.take_add_one, h]; simp

set_option maxHeartbeats 2000000 in
set_option maxRecDepth 100000 in
theorem growP_any (n : Nat) (w : World) (hn : n ≤ 100000) :
    Calls Tryd.prog 58 #[.slice none 0 0, .int .i64 n] w fun e w' => ∃ v, e = .returned v ∧ w'.ownsRow w.heap.size 34 2 v 0 [] ∧ Below w.heap.size w w' := by
  by_cases h0 : n = 0
  · subst h0
    go_enter Tryd.func58, Tryd.ntmps58
    go_wp2
    go_ret
    exact ⟨_, rfl, World.ownsRow_nil _ _ _ _, Below.refl _ _⟩
  · obtain ⟨i0, hi1, hi2, hi3, hi4⟩ := info_parts infoPg
    have hG := grownCap_ge w n 0 34
    have hGm := grownCap_le_maxLen w n 0 34 (by unfold maxLen; omega)
    have hrz : ∀ ty, (Builtin.append_ #[22, 3] ty #[.slice none 0 0, .int .i64 (n : Int)]).run Tryd.prog w =
        .ok (.slice (some ⟨w.heap.size, 0, none⟩) n (grownCap w n 0 34)) (w.drew.alloc (.cells (#[] ++ Builtin.zeroCells (Value.agg #[.int .i64 0, .slice none 0 0]).cells n ++ Builtin.zeroCells (Value.agg #[.int .i64 0, .slice none 0 0]).cells (grownCap w n 0 34 - n)) 34)) := fun ty => by
      have h := Lib.run_append_grow_zeros (P := Tryd.prog) w 22 3 ty 34 i0 _ .i64 .i64 Tryd.underlying22 Tryd.underlying3 hi1 hi2 none 0 0 [] (run_firstCells_none w.drew i0.size 0 0 0) n (by omega) (by omega) (by omega) (by omega)
        (by rw [hi4]; omega) (growslice_fits (by omega) (by rw [hi4]; omega))
      simpa using h
    generalize grownCap w n 0 34 = G at *
    have hsz : (#[] ++ Builtin.zeroCells (Value.agg #[.int .i64 0, .slice none 0 0]).cells n ++ Builtin.zeroCells (Value.agg #[.int .i64 0, .slice none 0 0]).cells (G - n)).size = G * 2 := by
      simp [size_zeroCells, Value.cells]; omega
    generalize #[] ++ Builtin.zeroCells (Value.agg #[.int .i64 0, .slice none 0 0]).cells n ++ Builtin.zeroCells (Value.agg #[.int .i64 0, .slice none 0 0]).cells (G - n) = cur at *
    have hown : (w.drew.alloc (.cells cur 34)).ownsRow w.heap.size 34 2 (.slice (some ⟨w.heap.size, 0, none⟩) 0 G) 0 [] := World.ownsRow_made w.drew cur G (Nat.le_refl _) hGm hsz
    have hBz : Below w.heap.size w (w.drew.alloc (.cells cur 34)) := ((Below.refl _ w).drew).alloc (Nat.le_refl _) _
    have hG63 : G ≤ 9223372036854775807 := by unfold maxLen at hGm; omega
    clear hsz hi1 hi2 hi3 hi4 hGm
    go_enter Tryd.func58, Tryd.ntmps58
    go_wp2_with (at_builtin; refine Lib.wpList_append_run _ rfl _ _ _ _ rfl _ _ rfl rfl _ _ (hrz _) ?_)
    go_ret
    exact ⟨_, rfl, hown, hBz⟩

set_option maxHeartbeats 4000000 in
set_option maxRecDepth 100000 in
theorem concatP_any (B : Nat) (vs : List Src) (w : World) (hcell : ∀ j p, vs[j]? = some p → w.cell? ⟨B, j, none⟩ = some p.v ∧ SrcOk 2 w p) (hm : vs.length ≤ 10) (hlen : ∀ p ∈ vs, p.n ≤ 10000) :
    Calls Tryd.prog 27 #[.slice (some ⟨B, 0, none⟩) vs.length vs.length] w fun e w' => ∃ r, e = .returned r ∧ w'.ownsRow w.heap.size 34 2 r (srN vs vs.length) (srF vs vs.length) ∧ Below w.heap.size w w' := by
  have HCell := hid hcell; clear hcell
  have HLen := hid hlen; clear hlen
  obtain ⟨i0, hi1, hi2, hi3, hi4⟩ := info_parts infoPg
  have HI := hid (And.intro hi1 (And.intro hi2 (And.intro hi3 hi4)))
  clear hi1 hi2 hi3 hi4
  go_enter Tryd.func27, Tryd.ntmps27
  go_wp2_with fail
  go_loopw [3, 11] (fun s i wr => ∃ k : Nat, k ≤ vs.length ∧ i = .int .i64 k ∧ (∃ z : Nat, s = .int .i64 z ∧ Hid (z = srN vs k) ∧ z ≤ k * 10000) ∧ Below w.heap.size w wr) (fun _ i _ => vs.length - (intOf i).toNat)
  case atStart => exact ⟨0, by omega, rfl, ⟨0, rfl, rfl, by omega⟩, Below.refl _ _⟩
  case round =>
    obtain ⟨k, hk, rfl, ⟨z, rfl, HZ, hz⟩, hB⟩ := hrel
    by_cases hlt : k < vs.length
    · have hvk : vs[k]? = some vs[k] := List.getElem?_eq_getElem hlt
      obtain ⟨hc0, hg0⟩ := HCell.out k _ hvk
      have hl20 := HLen.out _ (List.mem_of_getElem? hvk)
      have HS := hid (srN_succ vs k _ hvk)
      generalize vs[k] = p at *
      obtain ⟨v, l, fl⟩ := p
      obtain ⟨a, cap, hev, hlc, hcm, _⟩ := hg0
      dsimp only at hc0 hl20 HS hlc hev
      subst hev
      have hc := Below.keeps hB _ _ hc0
      clear hvk hc0
      go_wp2
      go_roundw
      case rel => exact ⟨k + 1, by omega, by go_num, ⟨z + l, by go_num, by rw [HS.out, HZ.out]; rfl, by omega⟩, hB⟩
      case measure => simp [intOf]; omega
    · obtain rfl : k = vs.length := by omega
      have hGr := hid (fun w' => growP_any z w' (by omega))
      go_wp2_with fail
      refine (hGr.out _).mono ?_
      rintro e w1 ⟨o, rfl, hown1, hB1⟩
      have HBo := hid hB
      clear hB hlt
      have hBow := below_tr HBo.out hB1
      go_wp2_with fail
      clear hk hz HZ hGr
      have hown0 : w1.ownsRow w.heap.size 34 2 o 0 [] := by
        refine ⟨hown1.1, ?_⟩
        rcases hown1.2 with h2 | ⟨g, cap, cur, h1, h2, h3⟩
        · exact .inl h2
        · exact .inr ⟨g, cap, cur, h1, Nat.le_trans HBo.out.size h2, h3⟩
      obtain ⟨wo, rfl⟩ : ∃ wo : World, wo = wr := ⟨_, rfl⟩
      go_loopw [6, 27] (fun o i wr => ∃ k : Nat, k ≤ vs.length ∧ i = .int .i64 k ∧ (∃ (z : Nat) (fl : List Value), Hid (z = srN vs k) ∧ Hid (fl = srF vs k) ∧ z ≤ k * 10000 ∧ wr.ownsRow w.heap.size 34 2 o z fl) ∧ Below w.heap.size w wr) (fun _ i _ => vs.length - (intOf i).toNat)
      case atStart => exact ⟨0, by omega, rfl, ⟨0, [], rfl, rfl, by omega, hown0⟩, hBow⟩
      case round =>
        clear hown1 hB1 hBow hown0
        obtain ⟨k, hk, rfl, ⟨z, fo, HZ, HF, hz, hown⟩, hB⟩ := hrel
        by_cases hlt : k < vs.length
        · have hvk : vs[k]? = some vs[k] := List.getElem?_eq_getElem hlt
          obtain ⟨hc0, hg0⟩ := HCell.out k _ hvk
          have hl20 := HLen.out _ (List.mem_of_getElem? hvk)
          have HS := hid (srN_succ vs k _ hvk)
          have HG := hid (srF_succ vs k _ hvk)
          generalize vs[k] = p at *
          obtain ⟨v, l, fl⟩ := p
          obtain ⟨a, cap, hev, hlc, hcm, hfl, hone, hcs, hnn⟩ := hg0
          dsimp only at hc0 hl20 HS HG hlc hfl hone hcs hnn hev
          subst hev
          have hc := Below.keeps hB _ _ hc0
          have HONE := hid hone
          have HCS := hid hcs
          have HFL := hid hfl
          clear hvk hc0 hone hcs hfl
          cases a with
          | none =>
            obtain rfl : l = 0 := hnn rfl
            have hfl0 : fl = [] := List.eq_nil_of_length_eq_zero (by have h := HFL.out; omega)
            subst hfl0
            have hrn := fun ty => run_append_none (P := Tryd.prog) (w := wr) w.heap.size 22 ty 34 i0 2 cap Tryd.underlying22 HI.out.1 _ _ _ hown
            go_wp2_with (at_builtin; refine Lib.wpList_append_run _ rfl _ _ _ _ rfl _ _ rfl rfl _ _ (hrn _) ?_)
            go_roundw
            case rel => exact ⟨k + 1, by omega, by go_num, ⟨z, fo, (by have h1 := HS.out; have h2 := HZ.out; show z = _; omega), (by have h1 := HG.out; rw [List.append_nil] at h1; show fo = _; rw [h1, HF.out]), by omega, hown⟩, hB⟩
            case measure => simp [intOf]; omega
          | some ad =>
            go_wp2_with (at_builtin; refine wpList_append_own _ rfl _ _ 22 rfl w.heap.size 34 i0 _ 2 32 Tryd.underlying22 HI.out.1 HI.out.2.1 HI.out.2.2.1 HI.out.2.2.2 rfl (by decide) _ _ _ rfl hown ad l cap fl rfl HFL.out (fun j u h => Below.keeps hB _ _ (HCS.out ad rfl j u h)) HONE.out (by unfold maxLen; omega) (by omega) hB.size ?_; intro v' w4 hown' hgr _)
            go_roundw
            case rel => exact ⟨k + 1, by omega, by go_num, ⟨z + l, fo ++ fl, by rw [HS.out, HZ.out]; rfl, by rw [HG.out, HF.out]; rfl, by omega, hown'⟩, hB.grown hgr hB.size (fun b hb => (hown.lt b hb).1)⟩
            case measure => simp [intOf]; omega
        · obtain rfl : k = vs.length := by omega
          have HRES : Hid (wr.ownsRow w.heap.size 34 2 u6 (srN vs vs.length) (srF vs vs.length)) := by
            rw [← HZ.out, ← HF.out]; exact hown
          clear hown HZ HF
          go_wp2
          go_ret
          exact ⟨_, rfl, HRES.out, hB⟩

set_option maxHeartbeats 2000000 in
set_option maxRecDepth 100000 in
theorem growB_any (n : Nat) (w : World) (hn : n ≤ 100000) :
    Calls Tryd.prog 65 #[.slice none 0 0, .int .i64 n] w fun e w' => ∃ v, e = .returned v ∧ w'.ownsRow w.heap.size 42 6 v 0 [] ∧ Below w.heap.size w w' := by
  by_cases h0 : n = 0
  · subst h0
    go_enter Tryd.func65, Tryd.ntmps65
    go_wp2
    go_ret
    exact ⟨_, rfl, World.ownsRow_nil _ _ _ _, Below.refl _ _⟩
  · obtain ⟨i0, hi1, hi2, hi3, hi4⟩ := info_parts infoBx
    have hG := grownCap_ge w n 0 42
    have hGm := grownCap_le_maxLen w n 0 42 (by unfold maxLen; omega)
    have hrz : ∀ ty, (Builtin.append_ #[32, 3] ty #[.slice none 0 0, .int .i64 (n : Int)]).run Tryd.prog w =
        .ok (.slice (some ⟨w.heap.size, 0, none⟩) n (grownCap w n 0 42)) (w.drew.alloc (.cells (#[] ++ Builtin.zeroCells (Value.agg #[.int .i64 0, .int .i64 0, .int .i64 0, .int .i64 0, .int .i64 0, .string ⟨#[]⟩]).cells n ++ Builtin.zeroCells (Value.agg #[.int .i64 0, .int .i64 0, .int .i64 0, .int .i64 0, .int .i64 0, .string ⟨#[]⟩]).cells (grownCap w n 0 42 - n)) 42)) := fun ty => by
      have h := Lib.run_append_grow_zeros (P := Tryd.prog) w 32 3 ty 42 i0 _ .i64 .i64 Tryd.underlying32 Tryd.underlying3 hi1 hi2 none 0 0 [] (run_firstCells_none w.drew i0.size 0 0 0) n (by omega) (by omega) (by omega) (by omega)
        (by rw [hi4]; omega) (growslice_fits (by omega) (by rw [hi4]; omega))
      simpa using h
    generalize grownCap w n 0 42 = G at *
    have hsz : (#[] ++ Builtin.zeroCells (Value.agg #[.int .i64 0, .int .i64 0, .int .i64 0, .int .i64 0, .int .i64 0, .string ⟨#[]⟩]).cells n ++ Builtin.zeroCells (Value.agg #[.int .i64 0, .int .i64 0, .int .i64 0, .int .i64 0, .int .i64 0, .string ⟨#[]⟩]).cells (G - n)).size = G * 6 := by
      simp [size_zeroCells, Value.cells]; omega
    generalize #[] ++ Builtin.zeroCells (Value.agg #[.int .i64 0, .int .i64 0, .int .i64 0, .int .i64 0, .int .i64 0, .string ⟨#[]⟩]).cells n ++ Builtin.zeroCells (Value.agg #[.int .i64 0, .int .i64 0, .int .i64 0, .int .i64 0, .int .i64 0, .string ⟨#[]⟩]).cells (G - n) = cur at *
    have hown : (w.drew.alloc (.cells cur 42)).ownsRow w.heap.size 42 6 (.slice (some ⟨w.heap.size, 0, none⟩) 0 G) 0 [] := World.ownsRow_made w.drew cur G (Nat.le_refl _) hGm hsz
    have hBz : Below w.heap.size w (w.drew.alloc (.cells cur 42)) := ((Below.refl _ w).drew).alloc (Nat.le_refl _) _
    have hG63 : G ≤ 9223372036854775807 := by unfold maxLen at hGm; omega
    clear hsz hi1 hi2 hi3 hi4 hGm
    go_enter Tryd.func65, Tryd.ntmps65
    go_wp2_with (at_builtin; refine Lib.wpList_append_run _ rfl _ _ _ _ rfl _ _ rfl rfl _ _ (hrz _) ?_)
    go_ret
    exact ⟨_, rfl, hown, hBz⟩

set_option maxHeartbeats 4000000 in
set_option maxRecDepth 100000 in
theorem concatB_any (B : Nat) (vs : List Src) (w : World) (hcell : ∀ j p, vs[j]? = some p → w.cell? ⟨B, j, none⟩ = some p.v ∧ SrcOk 6 w p) (hm : vs.length ≤ 10) (hlen : ∀ p ∈ vs, p.n ≤ 10000) :
    Calls Tryd.prog 34 #[.slice (some ⟨B, 0, none⟩) vs.length vs.length] w fun e w' => ∃ r, e = .returned r ∧ w'.ownsRow w.heap.size 42 6 r (srN vs vs.length) (srF vs vs.length) ∧ Below w.heap.size w w' := by
  have HCell := hid hcell; clear hcell
  have HLen := hid hlen; clear hlen
  obtain ⟨i0, hi1, hi2, hi3, hi4⟩ := info_parts infoBx
  have HI := hid (And.intro hi1 (And.intro hi2 (And.intro hi3 hi4)))
  clear hi1 hi2 hi3 hi4
  go_enter Tryd.func34, Tryd.ntmps34
  go_wp2_with fail
  go_loopw [3, 11] (fun s i wr => ∃ k : Nat, k ≤ vs.length ∧ i = .int .i64 k ∧ (∃ z : Nat, s = .int .i64 z ∧ Hid (z = srN vs k) ∧ z ≤ k * 10000) ∧ Below w.heap.size w wr) (fun _ i _ => vs.length - (intOf i).toNat)
  case atStart => exact ⟨0, by omega, rfl, ⟨0, rfl, rfl, by omega⟩, Below.refl _ _⟩
  case round =>
    obtain ⟨k, hk, rfl, ⟨z, rfl, HZ, hz⟩, hB⟩ := hrel
    by_cases hlt : k < vs.length
    · have hvk : vs[k]? = some vs[k] := List.getElem?_eq_getElem hlt
      obtain ⟨hc0, hg0⟩ := HCell.out k _ hvk
      have hl20 := HLen.out _ (List.mem_of_getElem? hvk)
      have HS := hid (srN_succ vs k _ hvk)
      generalize vs[k] = p at *
      obtain ⟨v, l, fl⟩ := p
      obtain ⟨a, cap, hev, hlc, hcm, _⟩ := hg0
      dsimp only at hc0 hl20 HS hlc hev
      subst hev
      have hc := Below.keeps hB _ _ hc0
      clear hvk hc0
      go_wp2
      go_roundw
      case rel => exact ⟨k + 1, by omega, by go_num, ⟨z + l, by go_num, by rw [HS.out, HZ.out]; rfl, by omega⟩, hB⟩
      case measure => simp [intOf]; omega
    · obtain rfl : k = vs.length := by omega
      have hGr := hid (fun w' => growB_any z w' (by omega))
      go_wp2_with fail
      refine (hGr.out _).mono ?_
      rintro e w1 ⟨o, rfl, hown1, hB1⟩
      have HBo := hid hB
      clear hB hlt
      have hBow := below_tr HBo.out hB1
      go_wp2_with fail
      clear hk hz HZ hGr
      have hown0 : w1.ownsRow w.heap.size 42 6 o 0 [] := by
        refine ⟨hown1.1, ?_⟩
        rcases hown1.2 with h2 | ⟨g, cap, cur, h1, h2, h3⟩
        · exact .inl h2
        · exact .inr ⟨g, cap, cur, h1, Nat.le_trans HBo.out.size h2, h3⟩
      obtain ⟨wo, rfl⟩ : ∃ wo : World, wo = wr := ⟨_, rfl⟩
      go_loopw [6, 27] (fun o i wr => ∃ k : Nat, k ≤ vs.length ∧ i = .int .i64 k ∧ (∃ (z : Nat) (fl : List Value), Hid (z = srN vs k) ∧ Hid (fl = srF vs k) ∧ z ≤ k * 10000 ∧ wr.ownsRow w.heap.size 42 6 o z fl) ∧ Below w.heap.size w wr) (fun _ i _ => vs.length - (intOf i).toNat)
      case atStart => exact ⟨0, by omega, rfl, ⟨0, [], rfl, rfl, by omega, hown0⟩, hBow⟩
      case round =>
        clear hown1 hB1 hBow hown0
        obtain ⟨k, hk, rfl, ⟨z, fo, HZ, HF, hz, hown⟩, hB⟩ := hrel
        by_cases hlt : k < vs.length
        · have hvk : vs[k]? = some vs[k] := List.getElem?_eq_getElem hlt
          obtain ⟨hc0, hg0⟩ := HCell.out k _ hvk
          have hl20 := HLen.out _ (List.mem_of_getElem? hvk)
          have HS := hid (srN_succ vs k _ hvk)
          have HG := hid (srF_succ vs k _ hvk)
          generalize vs[k] = p at *
          obtain ⟨v, l, fl⟩ := p
          obtain ⟨a, cap, hev, hlc, hcm, hfl, hone, hcs, hnn⟩ := hg0
          dsimp only at hc0 hl20 HS HG hlc hfl hone hcs hnn hev
          subst hev
          have hc := Below.keeps hB _ _ hc0
          have HONE := hid hone
          have HCS := hid hcs
          have HFL := hid hfl
          clear hvk hc0 hone hcs hfl
          cases a with
          | none =>
            obtain rfl : l = 0 := hnn rfl
            have hfl0 : fl = [] := List.eq_nil_of_length_eq_zero (by have h := HFL.out; omega)
            subst hfl0
            have hrn := fun ty => run_append_none (P := Tryd.prog) (w := wr) w.heap.size 32 ty 42 i0 6 cap Tryd.underlying32 HI.out.1 _ _ _ hown
            go_wp2_with (at_builtin; refine Lib.wpList_append_run _ rfl _ _ _ _ rfl _ _ rfl rfl _ _ (hrn _) ?_)
            go_roundw
            case rel => exact ⟨k + 1, by omega, by go_num, ⟨z, fo, (by have h1 := HS.out; have h2 := HZ.out; show z = _; omega), (by have h1 := HG.out; rw [List.append_nil] at h1; show fo = _; rw [h1, HF.out]), by omega, hown⟩, hB⟩
            case measure => simp [intOf]; omega
          | some ad =>
            go_wp2_with (at_builtin; refine wpList_append_own _ rfl _ _ 32 rfl w.heap.size 42 i0 _ 6 56 Tryd.underlying32 HI.out.1 HI.out.2.1 HI.out.2.2.1 HI.out.2.2.2 rfl (by decide) _ _ _ rfl hown ad l cap fl rfl HFL.out (fun j u h => Below.keeps hB _ _ (HCS.out ad rfl j u h)) HONE.out (by unfold maxLen; omega) (by omega) hB.size ?_; intro v' w4 hown' hgr _)
            go_roundw
            case rel => exact ⟨k + 1, by omega, by go_num, ⟨z + l, fo ++ fl, by rw [HS.out, HZ.out]; rfl, by rw [HG.out, HF.out]; rfl, by omega, hown'⟩, hB.grown hgr hB.size (fun b hb => (hown.lt b hb).1)⟩
            case measure => simp [intOf]; omega
        · obtain rfl : k = vs.length := by omega
          have HRES : Hid (wr.ownsRow w.heap.size 42 6 u6 (srN vs vs.length) (srF vs vs.length)) := by
            rw [← HZ.out, ← HF.out]; exact hown
          clear hown HZ HF
          go_wp2
          go_ret
          exact ⟨_, rfl, HRES.out, hB⟩

theorem srcOk_B {W : World} {v : Value} {l : List Bx} (h : RdB W v l) : SrcOk 6 W ⟨v, l.length, boxCs l⟩ := by
  obtain ⟨a, cap, e, h2, h3, h4⟩ := h.open
  refine ⟨a, cap, e, h2, h3, boxCs_len l, boxCs_one l, fun ad ea j u hu => ?_, fun ea => ?_⟩
  · have hj := (List.getElem?_eq_some_iff.1 hu).1
    rw [boxCs_len] at hj
    obtain ⟨x, b, off, _, e2, _⟩ := h4 0 (by omega)
    rw [ea] at e2; cases e2
    subst ea
    rw [Go.WideShapes.add_plain]
    rw [e] at h
    exact h.flat j u hu
  · cases l with
    | nil => rfl
    | cons x r =>
      obtain ⟨y, b, off, _, e2, _⟩ := h4 0 (by simp)
      rw [ea] at e2; cases e2
/-- The cells of pages, in order. -/
theorem RdPg.pairs {W : World} {v : Value} {l : List Pg} (h : RdPg W v l) : ∃ ms : List (Pg × Value), ms.map (·.1) = l ∧ (∀ p ∈ ms, RdB W p.2 p.1.bx) ∧ SrcOk 2 W ⟨v, l.length, pgCs ms⟩ := by
  obtain ⟨a, cap, rfl, h2, h3, hc⟩ := h.open
  have hex : ∀ i, i < l.length → ∃ p : Pg × Value, l[i]? = some p.1 ∧ RdB W p.2 p.1.bx ∧ ∃ ad, a = some ad ∧ W.cell? (ad.add (i * 2)) = some (.int .i64 p.1.num) ∧ W.cell? (ad.add (i * 2 + 1)) = some p.2 := by
    intro i hi
    obtain ⟨x, b, off, m, hx, rfl, h1, h2, h3⟩ := hc i hi
    refine ⟨(x, m), hx, h3, _, rfl, ?_⟩
    rw [Go.WideShapes.add_plain, Go.WideShapes.add_plain]
    exact ⟨h1, by rw [← Nat.add_assoc]; exact h2⟩
  haveI : Inhabited (Pg × Value) := ⟨(⟨0, []⟩, .bool false)⟩
  obtain ⟨f, hf⟩ := Go.Deep.choose_lt hex
  have hat : ∀ i p, ((List.range l.length).map f)[i]? = some p → i < l.length ∧ p = f i := by
    intro i p hp
    have hi : i < l.length := by have := (List.getElem?_eq_some_iff.1 hp).1; simpa using this
    simp only [List.getElem?_map, List.getElem?_range hi, Option.map_some, Option.some.injEq] at hp
    exact ⟨hi, hp.symm⟩
  have hone : ∀ p ∈ (List.range l.length).map f, RdB W p.2 p.1.bx := by
    intro p hp
    obtain ⟨i, hi, rfl⟩ := List.mem_map.1 hp
    exact (hf i (List.mem_range.1 hi)).2.1
  refine ⟨(List.range l.length).map f, ?_, hone, a, cap, rfl, h2, h3, by rw [pgCs_len]; simp, ?_, ?_, ?_⟩
  · apply List.ext_getElem?
    intro i
    by_cases hi : i < l.length
    · rw [(hf i hi).1]; simp [hi]
    · simp [hi]
  · intro u hu
    obtain ⟨p, hp, hm⟩ := List.mem_flatMap.1 hu
    obtain ⟨a', cap', e, _⟩ := hone p hp
    simp only [List.mem_cons, List.not_mem_nil, or_false] at hm
    rcases hm with rfl | rfl
    · rfl
    · rw [e]; rfl
  · intro ad ea j u hu
    have hj := (List.getElem?_eq_some_iff.1 hu).1
    rw [pgCs_len, List.length_map, List.length_range] at hj
    have key : ∀ (ms : List (Pg × Value)) (i r : Nat) (p : Pg × Value), ms[i]? = some p → r < 2 → (pgCs ms)[i * 2 + r]? = [Value.int .i64 p.1.num, p.2][r]? := by
      intro ms
      induction ms with
      | nil => intro i r p h; simp at h
      | cons a l ih =>
        intro i r p h hr
        have e : pgCs (a :: l) = [.int .i64 a.1.num, a.2] ++ pgCs l := rfl
        cases i with
        | zero =>
          have : a = p := by simpa using h
          subst this
          rw [e, List.getElem?_append_left (by simp; omega)]; simp
        | succ i =>
          rw [e, List.getElem?_append_right (by simp; omega)]
          rw [show (i + 1) * 2 + r - [Value.int .i64 a.1.num, a.2].length = i * 2 + r by simp; omega]
          exact ih i r p (by simpa using h) hr
    have hi : j / 2 < l.length := by omega
    have hp : ((List.range l.length).map f)[j / 2]? = some (f (j / 2)) := by simp [hi]
    have h5 := key _ (j / 2) (j % 2) _ hp (by omega)
    rw [show j / 2 * 2 + j % 2 = j by omega, hu] at h5
    obtain ⟨ad', ea', q1, q2⟩ := (hf (j / 2) hi).2.2
    rw [ea] at ea'; cases ea'
    have h2 : j % 2 < 2 := by omega
    rw [show j = j / 2 * 2 + j % 2 by omega]
    generalize f (j / 2) = p at *
    generalize j % 2 = r at *
    match r, h2 with
    | 0, _ => rw [h5]; exact q1
    | 1, _ => rw [h5]; exact q2
  · intro ea
    cases hl : l.length with
    | zero => rfl
    | succ n =>
      obtain ⟨ad', ea', _⟩ := (hf 0 (by omega)).2.2
      rw [ea] at ea'; cases ea'
theorem RdPg.of_own {W : World} {base : Nat} {v : Value} (phs : List (Pg × Value)) (h2 : W.ownsRow base 34 2 v phs.length (pgCs phs)) (hb : ∀ p ∈ phs, RdB W p.2 p.1.bx) : RdPg W v (phs.map (·.1)) := by
  rcases h2.2 with ⟨rfl, hn⟩ | ⟨g, cap, cur, rfl, hb', hh, hc, hm, hs, ht⟩
  · have : phs = [] := List.eq_nil_of_length_eq_zero hn
    subst this
    exact RdPg.nil W
  · refine ⟨some ⟨g, 0, none⟩, cap, by rw [List.length_map], by rw [List.length_map]; exact hc, hm, fun i p hp => ?_⟩
    rw [List.getElem?_map, Option.map_eq_some_iff] at hp
    obtain ⟨ph, hph, rfl⟩ := hp
    have hi := (List.getElem?_eq_some_iff.1 hph).1
    have hat : ∀ j, j < 2 → W.cell? ⟨g, i * 2 + j, none⟩ = [Value.int .i64 ph.1.num, ph.2][j]? := by
      intro j hj
      rw [World.ownsRow.cellAt h2 (i * 2 + j) (by omega)]
      clear hs ht h2 hc hb
      have key : ∀ (l : List (Pg × Value)) (i : Nat), l[i]? = some ph → (pgCs l)[i * 2 + j]? = [Value.int .i64 ph.1.num, ph.2][j]? := by
        intro l
        induction l with
        | nil => intro i h; simp at h
        | cons a r ih =>
          intro i h
          have e : pgCs (a :: r) = [.int .i64 a.1.num, a.2] ++ pgCs r := rfl
          cases i with
          | zero =>
            have : a = ph := by simpa using h
            subst this
            rw [e, List.getElem?_append_left (by simp; omega)]; simp
          | succ i =>
            rw [e, List.getElem?_append_right (by simp; omega)]
            rw [show (i + 1) * 2 + j - [Value.int .i64 a.1.num, a.2].length = i * 2 + j by simp; omega]
            exact ih i (by simpa using h)
      exact key phs i hph
    refine ⟨g, 0, ph.2, rfl, by rw [Nat.zero_add]; exact hat 0 (by omega), by rw [Nat.zero_add]; exact hat 1 (by omega), hb ph (List.mem_of_getElem? hph)⟩

theorem concat2P (B : Nat) (v1 v2 : Value) (l1 l2 : List Pg) (w : World) (h1 : w.cell? ⟨B, 0, none⟩ = some v1) (h2 : w.cell? ⟨B, 1, none⟩ = some v2) (r1 : RdPg w v1 l1) (r2 : RdPg w v2 l2) (k1 : l1.length ≤ 10000) (k2 : l2.length ≤ 10000) :
    Calls Tryd.prog 27 #[.slice (some ⟨B, 0, none⟩) 2 2] w fun e w' => ∃ r, e = .returned r ∧ RdPg w' r (l1 ++ l2) ∧ Below w.heap.size w w' := by
  obtain ⟨m1, e1, b1, s1⟩ := r1.pairs
  obtain ⟨m2, e2, b2, s2⟩ := r2.pairs
  refine (concatP_any B [⟨v1, l1.length, pgCs m1⟩, ⟨v2, l2.length, pgCs m2⟩] w ?_ (by simp) ?_).mono ?_
  · intro j p hj
    rcases j with _ | _ | j
    · obtain rfl := Option.some.inj hj; exact ⟨h1, s1⟩
    · obtain rfl := Option.some.inj hj; exact ⟨h2, s2⟩
    · cases hj
  · intro p hp
    simp only [List.mem_cons, List.not_mem_nil, or_false] at hp
    rcases hp with rfl | rfl
    · exact k1
    · exact k2
  · rintro e w' ⟨r, rfl, hown, hB⟩
    refine ⟨r, rfl, ?_, hB⟩
    have hl1 : l1.length = m1.length := by rw [← e1, List.length_map]
    have hl2 : l2.length = m2.length := by rw [← e2, List.length_map]
    have h := RdPg.of_own (m1 ++ m2) (by
      have h := hown
      simp only [srN, srF, List.length_cons, List.length_nil, Nat.zero_add, Nat.reduceAdd, List.take_succ_cons, List.take_zero, List.map_cons, List.map_nil, List.sum_cons, List.sum_nil, Nat.add_zero, List.flatMap_cons, List.flatMap_nil, List.append_nil] at h
      rw [hl1, hl2] at h
      rw [List.length_append, show pgCs (m1 ++ m2) = pgCs m1 ++ pgCs m2 by simp [pgCs]]
      exact h) (fun p hp => by
      rcases List.mem_append.1 hp with hp | hp
      · exact (b1 p hp).below hB
      · exact (b2 p hp).below hB)
    rw [List.map_append, e1, e2] at h
    exact h
theorem concat2B (B : Nat) (v1 v2 : Value) (l1 l2 : List Bx) (w : World) (h1 : w.cell? ⟨B, 0, none⟩ = some v1) (h2 : w.cell? ⟨B, 1, none⟩ = some v2) (r1 : RdB w v1 l1) (r2 : RdB w v2 l2) (k1 : l1.length ≤ 10000) (k2 : l2.length ≤ 10000) :
    Calls Tryd.prog 34 #[.slice (some ⟨B, 0, none⟩) 2 2] w fun e w' => ∃ r, e = .returned r ∧ RdB w' r (l1 ++ l2) ∧ Below w.heap.size w w' := by
  refine (concatB_any B [⟨v1, l1.length, boxCs l1⟩, ⟨v2, l2.length, boxCs l2⟩] w ?_ (by simp) ?_).mono ?_
  · intro j p hj
    rcases j with _ | _ | j
    · obtain rfl := Option.some.inj hj; exact ⟨h1, srcOk_B r1⟩
    · obtain rfl := Option.some.inj hj; exact ⟨h2, srcOk_B r2⟩
    · cases hj
  · intro p hp
    simp only [List.mem_cons, List.not_mem_nil, or_false] at hp
    rcases hp with rfl | rfl
    · exact k1
    · exact k2
  · rintro e w' ⟨r, rfl, hown, hB⟩
    refine ⟨r, rfl, ?_, hB⟩
    refine RdB.of_own (base := w.heap.size) ?_
    have h := hown
    simp only [srN, srF, List.length_cons, List.length_nil, Nat.zero_add, Nat.reduceAdd, List.take_succ_cons, List.take_zero, List.map_cons, List.map_nil, List.sum_cons, List.sum_nil, Nat.add_zero, List.flatMap_cons, List.flatMap_nil, List.append_nil] at h
    rw [List.length_append, show boxCs (l1 ++ l2) = boxCs l1 ++ boxCs l2 by simp [boxCs]]
    exact h
end Go.Proofs.YtkjapeafhcdnkaaDoor
