/-
  slices.Grow of nothing, slices.Concat of lists of numbers and of texts.
-/
import Derived.Test.YtalpgilncohkbaaClus
import Derived.Lib.AppendZerosOnto
import Derived.Lib.SliceRun
import Derived.Lib.Walk
import Derived.Deep.Slices
import Derived.Shelf.RegionOpenPlain
namespace Go.Proofs.Ytalpgilncohkbaa
open Go.RowKit

def sumT {α : Type} (vs : List (Value × List α)) (k : Nat) : Nat := ((vs.take k).map fun p => p.2.length).sum
def catT {α : Type} (vs : List (Value × List α)) (k : Nat) : List α := (vs.take k).flatMap (·.2)
theorem sumT_succ {α : Type} (vs : List (Value × List α)) (k : Nat) (p : Value × List α) (h : vs[k]? = some p) : sumT vs (k + 1) = sumT vs k + p.2.length := by
  unfold sumT
  rw [List.take_add_one, h]; simp
theorem catT_succ {α : Type} (vs : List (Value × List α)) (k : Nat) (p : Value × List α) (h : vs[k]? = some p) : catT vs (k + 1) = catT vs k ++ p.2 := by
  unfold catT
  rw [List.take_add_one, h]; simp
theorem Rd.cellsAt {α : Type} {enc : α → Value} {W : World} {ad : Addr} {n cap : Nat} {l : List α} (h : Rd enc W (.slice (some ad) n cap) l) : ∀ j u, (l.map enc)[j]? = some u → W.cell? (ad.add j) = some u := by
  intro j u hu
  obtain ⟨a, cap', e, _, _, hc⟩ := h.open
  cases e
  rw [List.getElem?_map] at hu
  cases hx : l[j]? with
  | none => rw [hx] at hu; cases hu
  | some x =>
    rw [hx] at hu
    obtain ⟨y, b, off, hy, e, hcl⟩ := hc j (List.getElem?_eq_some_iff.1 hx).1
    rw [hx] at hy
    cases hy
    cases e
    cases hu
    rw [Go.WideShapes.add_plain]
    exact hcl

theorem infoCI : (Try.prog.info? 3).map (fun i => (i.zero, i.size, i.bytes)) = some (some (.int .i64 0), 1, 8) := by kernel_rfl
theorem infoCS : (Try.prog.info? 9).map (fun i => (i.zero, i.size, i.bytes)) = some (some (.string ⟨#[]⟩), 1, 16) := by kernel_rfl
set_option maxHeartbeats 2000000 in
set_option maxRecDepth 100000 in
theorem growS_any (n : Nat) (w : World) (hn : n ≤ 1000) :
    Calls Try.prog 68 #[.slice none 0 0, .int .i64 n] w fun e w' => ∃ v, e = .returned v ∧ w'.ownsRow w.heap.size 9 1 v 0 [] ∧ Below w.heap.size w w' := by
  by_cases h0 : n = 0
  · subst h0
    go_enter Try.func68, Try.ntmps68
    go_wp2
    go_ret
    exact ⟨_, rfl, World.ownsRow_nil _ _ _ _, Below.refl _ _⟩
  · obtain ⟨i0, hi1, hi2, hi3, hi4⟩ := info_parts infoCS
    have hG := grownCap_ge w n 0 9
    have hGm := grownCap_le_maxLen w n 0 9 (by unfold maxLen; omega)
    have hrz : ∀ ty, (Builtin.append_ #[23, 3] ty #[.slice none 0 0, .int .i64 (n : Int)]).run Try.prog w =
        .ok (.slice (some ⟨w.heap.size, 0, none⟩) n (grownCap w n 0 9)) (w.drew.alloc (.cells (#[] ++ Builtin.zeroCells (Value.cells (.string ⟨#[]⟩)) n ++ Builtin.zeroCells (Value.cells (.string ⟨#[]⟩)) (grownCap w n 0 9 - n)) 9)) := fun ty => by
      have h := Lib.run_append_grow_zeros (P := Try.prog) w 23 3 ty 9 i0 _ .i64 .i64 Try.underlying23 Try.underlying3 hi1 hi2 none 0 0 [] (run_firstCells_none w.drew i0.size 0 0 0) n (by omega) (by omega) (by omega) (by omega)
        (by rw [hi4]; omega) (growslice_fits (by omega) (by rw [hi4]; omega))
      simpa using h
    generalize grownCap w n 0 9 = G at *
    have hsz : (#[] ++ Builtin.zeroCells (Value.cells (.string ⟨#[]⟩)) n ++ Builtin.zeroCells (Value.cells (.string ⟨#[]⟩)) (G - n)).size = G * 1 := by
      simp [size_zeroCells, Value.cells]; omega
    generalize #[] ++ Builtin.zeroCells (Value.cells (.string ⟨#[]⟩)) n ++ Builtin.zeroCells (Value.cells (.string ⟨#[]⟩)) (G - n) = cur at *
    have hown : (w.drew.alloc (.cells cur 9)).ownsRow w.heap.size 9 1 (.slice (some ⟨w.heap.size, 0, none⟩) 0 G) 0 [] := World.ownsRow_made w.drew cur G (Nat.le_refl _) hGm hsz
    have hBz : Below w.heap.size w (w.drew.alloc (.cells cur 9)) := ((Below.refl _ w).drew).alloc (Nat.le_refl _) _
    have hG63 : G ≤ 9223372036854775807 := by unfold maxLen at hGm; omega
    clear hsz hi1 hi2 hi3 hi4 hGm
    go_enter Try.func68, Try.ntmps68
    go_wp2_with (at_builtin; refine Lib.wpList_append_run _ rfl _ _ _ _ rfl _ _ rfl rfl _ _ (hrz _) ?_)
    go_ret
    exact ⟨_, rfl, hown, hBz⟩

set_option maxHeartbeats 4000000 in
set_option maxRecDepth 100000 in
theorem concatS_any (B : Nat) (vs : List (Value × List ByteArray)) (w : World) (hcell : ∀ j p, vs[j]? = some p → w.cell? ⟨B, j, none⟩ = some p.1 ∧ Rd (Value.string) w p.1 p.2) (hm : vs.length ≤ 10) (hlen : ∀ p ∈ vs, p.2.length ≤ 20) (hnil : ∀ p ∈ vs, ∀ n cap, p.1 = .slice none n cap → cap = 0) :
    Calls Try.prog 51 #[.slice (some ⟨B, 0, none⟩) vs.length vs.length] w fun e w' => ∃ r, e = .returned r ∧ Rd (Value.string) w' r (catT vs vs.length) ∧ Below w.heap.size w w' := by
  have HCell := hid hcell; clear hcell
  have HLen := hid hlen; clear hlen
  have HNil := hid hnil; clear hnil
  obtain ⟨i0, hi1, hi2, hi3, hi4⟩ := info_parts infoCS
  have HI := hid (And.intro hi1 (And.intro hi2 (And.intro hi3 hi4)))
  clear hi1 hi2 hi3 hi4
  go_enter Try.func51, Try.ntmps51
  go_wp2_with fail
  go_loopw [3, 11] (fun s i wr => ∃ k : Nat, k ≤ vs.length ∧ i = .int .i64 k ∧ (∃ z : Nat, s = .int .i64 z ∧ Hid (z = sumT vs k) ∧ z ≤ k * 20) ∧ Below w.heap.size w wr) (fun _ i _ => vs.length - (intOf i).toNat)
  case atStart => exact ⟨0, by omega, rfl, ⟨0, rfl, rfl, by omega⟩, Below.refl _ _⟩
  case round =>
    obtain ⟨k, hk, rfl, ⟨z, rfl, HZ, hz⟩, hB⟩ := hrel
    by_cases hlt : k < vs.length
    · have hvk : vs[k]? = some vs[k] := List.getElem?_eq_getElem hlt
      obtain ⟨hc0, hg0⟩ := HCell.out k _ hvk
      have hl20 := HLen.out _ (List.mem_of_getElem? hvk)
      have HS := hid (sumT_succ vs k _ hvk)
      generalize vs[k] = p at *
      obtain ⟨v, l⟩ := p
      dsimp only at hc0 hg0 hl20 HS
      obtain ⟨a, cap, rfl, hlc, hcm, _⟩ := hg0.open
      have hc := Below.keeps hB _ _ hc0
      clear hvk hc0
      go_wp2
      go_roundw
      case rel => exact ⟨k + 1, by omega, by go_num, ⟨z + l.length, by go_num, by rw [HS.out, HZ.out]; rfl, by omega⟩, hB⟩
      case measure => simp [intOf]; omega
    · obtain rfl : k = vs.length := by omega
      have hGr := hid (fun w' => growS_any z w' (by omega))
      go_wp2_with fail
      refine (hGr.out _).mono ?_
      rintro e w1 ⟨o, rfl, hown1, hB1⟩
      have HBo := hid hB
      clear hB hlt
      have hBow := below_tr HBo.out hB1
      go_wp2_with fail
      clear hk hz HZ hGr
      obtain ⟨wo, rfl⟩ : ∃ wo : World, wo = wr := ⟨_, rfl⟩
      go_loopw [6, 27] (fun o i wr => ∃ (k : Nat) (ks : List ByteArray), k ≤ vs.length ∧ i = .int .i64 k ∧ Hid (ks = catT vs k) ∧ ks.length ≤ k * 20 ∧ wr.ownsRow wo.heap.size 9 1 o ks.length (ks.map (Value.string)) ∧
          Below wo.heap.size wo wr) (fun _ i _ => vs.length - (intOf i).toNat)
      case atStart => exact ⟨0, [], by omega, rfl, rfl, by simp, hown1, hB1⟩
      case round =>
        clear hown1 hB1 hBow
        obtain ⟨k, ks, hk, rfl, HK, hkl, hown, hB⟩ := hrel
        by_cases hlt : k < vs.length
        · have hvk : vs[k]? = some vs[k] := List.getElem?_eq_getElem hlt
          obtain ⟨hc0, hg0⟩ := HCell.out k _ hvk
          have hl20 := HLen.out _ (List.mem_of_getElem? hvk)
          have hnl := HNil.out _ (List.mem_of_getElem? hvk)
          have HS := hid (catT_succ vs k _ hvk)
          generalize vs[k] = p at *
          obtain ⟨v, l⟩ := p
          dsimp only at hc0 hg0 hl20 HS hnl
          obtain ⟨a, cap, rfl, hlc, hcm, hcz⟩ := hg0.open
          have hBw := below_tr HBo.out hB
          have hc := Below.keeps hBw _ _ hc0
          have HG0 := hid hg0
          clear hvk hc0 hg0 hcz
          cases a with
          | none =>
            obtain rfl : cap = 0 := hnl _ _ rfl
            have hl0 : l.length = 0 := by omega
            have hl00 : l = [] := List.eq_nil_of_length_eq_zero hl0
            subst hl00
            have hrn := fun ty => run_append_owned_none (P := Try.prog) (w := wr) wo.heap.size 23 ty 9 i0 1 Try.underlying23 HI.out.1 _ _ _ hown
            go_wp2_with (at_builtin; refine Lib.wpList_append_run _ rfl _ _ _ _ rfl _ _ rfl rfl _ _ (hrn _) ?_)
            go_roundw
            case rel => exact ⟨k + 1, ks, by omega, by go_num, by rw [HS.out, List.append_nil]; exact HK.out, by omega, hown, hB⟩
            case measure => simp [intOf]; omega
          | some ad =>
            have HCA := hid HG0.out.cellsAt
            go_wp2_with (at_builtin; refine wpList_append_own _ rfl _ _ 23 rfl wo.heap.size 9 i0 _ 1 16 Try.underlying23 HI.out.1 HI.out.2.1 HI.out.2.2.1 HI.out.2.2.2 rfl (by decide) _ _ _ rfl hown ad l.length cap (l.map (Value.string)) rfl (by rw [List.length_map, Nat.mul_one]) (fun j u h => Below.keeps hBw _ _ (HCA.out j u h)) (fun u hu => by obtain ⟨x, _, rfl⟩ := List.mem_map.1 hu; rfl) (by unfold maxLen; omega) (by omega) hB.size ?_; intro v' w4 hown' hgr _)
            go_roundw
            case rel =>
              refine ⟨k + 1, ks ++ l, by omega, by go_num, ?_, by rw [List.length_append]; omega, ?_, hB.grown hgr hB.size (fun b hb => (hown.lt b hb).1)⟩
              · rw [HK.out, HS.out]; rfl
              · rw [List.length_append, List.map_append]; exact hown'
            case measure => simp [intOf]; omega
        · obtain rfl : k = vs.length := by omega
          have hBw := below_tr HBo.out hB
          have hrz := Rd.of_own hown
          go_wp2
          go_ret
          exact ⟨_, rfl, by rw [← HK.out]; exact hrz, hBw⟩
end Go.Proofs.Ytalpgilncohkbaa
