/-
  The comparison of notes: by the numbers of two lists, one after the other.
-/
import Derived.Test.YtajhkfmhoihjfaaDoorSl2
import Derived.Test.YtajhkfmhoihjfaaDoorBox
import Derived.Test.YtajhkfmhoihjfaaDoorLit
import Derived.Deep.RegionHeld3
import Derived.BigRegion
import Derived.BigQuiet
import Derived.Deep.QuietTactic
namespace Go.Proofs.YtajhkfmhoihjfaaDoor
open Go.RowKit

def orI (x y : Int) : Int := if x = 0 then y else x
theorem orI_one {x : Int} (y : Int) (h : ¬ x = 0) : orI x y = x := if_neg h
set_option maxHeartbeats 1000000 in
theorem or2_any (v : Value) (x y : Int) (w : World) (hr : RdI w v [x, y]) :
    Calls Tryd.prog 69 #[v] w fun e w' => e = .returned (.int .i64 (orI x y)) ∧ w = w' := by
  obtain ⟨a, cap, rfl, hlc, hcm, hcell⟩ := hr.open
  obtain ⟨x0, b, off, e0, rfl, hc0⟩ := hcell 0 (by simp)
  obtain ⟨x1, b', off', e1, eb, hc1⟩ := hcell 1 (by simp)
  cases eb
  obtain rfl : x = x0 := by simpa using e0
  obtain rfl : y = x1 := by simpa using e1
  clear hcell e0 e1
  simp only [List.length_cons, List.length_nil, Nat.zero_add, Nat.reduceAdd, Nat.add_zero] at *
  by_cases hx : x = 0
  · subst hx
    have H0 : Hid (orI 0 y = y) := rfl
    by_cases hy : y = 0
    · subst hy
      go_enter Tryd.func69, Tryd.ntmps69
      go_wp2
      refine wp_loop_rounds 3 ?_
      rw [rounds_succ]
      go_wp2
      rw [rounds_succ]
      go_wp2
      rw [rounds_succ]
      go_wp2
      go_ret
      exact ⟨ret_int H0.out.symm, rfl⟩
    · have hyb : (y == 0) = false := by simpa using hy
      go_enter Tryd.func69, Tryd.ntmps69
      go_wp2
      refine wp_loop_rounds 3 ?_
      rw [rounds_succ]
      go_wp2
      rw [rounds_succ]
      go_wp2
      go_ret
      exact ⟨ret_int H0.out.symm, rfl⟩
  · have H0 := hid (orI_one y hx)
    have hxb : (x == 0) = false := by simpa using hx
    go_enter Tryd.func69, Tryd.ntmps69
    go_wp2
    refine wp_loop_rounds 3 ?_
    rw [rounds_succ]
    go_wp2
    go_ret
    exact ⟨ret_int H0.out.symm, rfl⟩

/-- The comparison by one list: its box and what it reads. -/
def ByAt (W : World) (b : Nat) (l : List Int) : Prop := ∃ v, W.cell? ⟨b, 0, none⟩ = some v ∧ RdI W v l
theorem ByAt.below {W W' : World} {b : Nat} {l : List Int} (h : ByAt W b l) (hb : Below W.heap.size W W') : ByAt W' b l := by
  obtain ⟨v, h1, h2⟩ := h
  exact ⟨v, Below.keeps hb _ _ h1, h2.below hb⟩

set_option maxHeartbeats 1000000 in
theorem by1_any (b : Nat) (l : List Int) (i k : Nat) (x y : Int) (w : World) (hb : ByAt w b l) (hi : l[i]? = some x) (hk : l[k]? = some y) :
    Calls Tryd.prog 70 #[.int .i64 i, .int .i64 k, .pointer (some ⟨b, 0, none⟩)] w fun e w' => e = .returned (.int .i64 (cmpI x y)) ∧ Below w.heap.size w w' := by
  obtain ⟨v, hc, hr⟩ := hb
  obtain ⟨a, cap, rfl, hlc, hcm, hcell⟩ := hr.open
  have hil := (List.getElem?_eq_some_iff.1 hi).1
  have hkl := (List.getElem?_eq_some_iff.1 hk).1
  obtain ⟨x0, b0, off, e0, rfl, hc0⟩ := hcell i hil
  obtain ⟨x1, b', off', e1, eb, hc1⟩ := hcell k hkl
  cases eb
  rw [hi] at e0; cases e0
  rw [hk] at e1; cases e1
  clear hcell hi hk
  have hili : (i : Int) < (l.length : Int) := by omega
  have hkli : (k : Int) < (l.length : Int) := by omega
  go_enter Tryd.func70, Tryd.ntmps70
  go_wp2
  go_quiet ((go_at_call 71; exact Calls.quiet_of_same ((cmpInt_any _ _ _).mono fun _ _ h => ⟨h.1, h.2.symm⟩)))
  go_wp2
  go_ret
  exact ⟨rfl, below_drewN (Below.refl _ _) _⟩

/-- .. at two places, and what comes of it. -/
def ByR (W : World) (b i k : Nat) (r : Int) : Prop := ∃ l x y, ByAt W b l ∧ l[i]? = some x ∧ l[k]? = some y ∧ r = cmpI x y
theorem ByR.below {W W' : World} {b i k : Nat} {r : Int} (h : ByR W b i k r) (hb : Below W.heap.size W W') : ByR W' b i k r := by
  obtain ⟨l, x, y, h1, h2⟩ := h
  exact ⟨l, x, y, h1.below hb, h2⟩
theorem by1r_any (b i k : Nat) (r : Int) (w : World) (h : ByR w b i k r) :
    Calls Tryd.prog 70 #[.int .i64 i, .int .i64 k, .pointer (some ⟨b, 0, none⟩)] w fun e w' => e = .returned (.int .i64 r) ∧ Below w.heap.size w w' := by
  obtain ⟨l, x, y, h1, h2, h3, rfl⟩ := h
  exact by1_any b l i k x y w h1 h2 h3

/-- First by one list, then by the other. -/
def cmp2 (l1 l2 : List Int) (i k : Nat) : Int := if cmpI (l1.getD i 0) (l1.getD k 0) = 0 then cmpI (l2.getD i 0) (l2.getD k 0) else cmpI (l1.getD i 0) (l1.getD k 0)
structure CmpW (W : World) (p2 p3 b1 b2 : Nat) (l1 l2 : List Int) : Prop where
  c2 : W.cell? ⟨p2, 0, none⟩ = some (.func (.func 70) #[] #[.pointer (some ⟨b1, 0, none⟩)])
  c3 : W.cell? ⟨p3, 0, none⟩ = some (.func (.func 70) #[] #[.pointer (some ⟨b2, 0, none⟩)])
  d1 : ByAt W b1 l1
  d2 : ByAt W b2 l2
theorem CmpW.below {W W' : World} {p2 p3 b1 b2 : Nat} {l1 l2 : List Int} (h : CmpW W p2 p3 b1 b2 l1 l2) (hb : Below W.heap.size W W') : CmpW W' p2 p3 b1 b2 l1 l2 :=
  ⟨Below.keeps hb _ _ h.c2, Below.keeps hb _ _ h.c3, h.d1.below hb, h.d2.below hb⟩

set_option maxHeartbeats 1000000 in
set_option maxRecDepth 100000 in
theorem then1_any (p2 p3 b1 b2 : Nat) (l1 l2 : List Int) (i k : Nat) (w : World) (h : CmpW w p2 p3 b1 b2 l1 l2) (hi : i < l1.length) (hk : k < l1.length) (hi2 : i < l2.length) (hk2 : k < l2.length) :
    Calls Tryd.prog 68 #[.int .i64 i, .int .i64 k, .pointer (some ⟨p2, 0, none⟩), .pointer (some ⟨p3, 0, none⟩)] w fun e w' => e = .returned (.int .i64 (cmp2 l1 l2 i k)) ∧ Below w.heap.size w w' := by
  obtain ⟨c2, c3, d1, d2⟩ := h
  have HE : Hid (cmp2 l1 l2 i k = orI (cmpI (l1.getD i 0) (l1.getD k 0)) (cmpI (l2.getD i 0) (l2.getD k 0))) := rfl
  have r1 : ByR w b1 i k (cmpI (l1.getD i 0) (l1.getD k 0)) := ⟨l1, _, _, d1, by simp [hi], by simp [hk], rfl⟩
  have r2 : ByR w b2 i k (cmpI (l2.getD i 0) (l2.getD k 0)) := ⟨l2, _, _, d2, by simp [hi2], by simp [hk2], rfl⟩
  clear hi hk hi2 hk2 d1 d2
  generalize cmpI (l1.getD i 0) (l1.getD k 0) = x at *
  generalize cmpI (l2.getD i 0) (l2.getD k 0) = y at *
  generalize cmp2 l1 l2 i k = z at *
  go_enter Tryd.func68, Tryd.ntmps68
  go_wp2
  go_region_held3 (fun w' => w'.cell? ⟨p2, 0, none⟩ = some (.func (.func 70) #[] #[.pointer (some ⟨b1, 0, none⟩)]) ∧ w'.cell? ⟨p3, 0, none⟩ = some (.func (.func 70) #[] #[.pointer (some ⟨b2, 0, none⟩)]) ∧ ByR w' b1 i k x ∧ ByR w' b2 i k y ∧ Below w.heap.size w w')
    ((refine ⟨?_, ?_, ?_, ?_, ?_⟩ <;> first | assumption | (exact Below.refl _ _) | (exact Below.drew (by assumption)) | (exact (Below.refl _ _).drew) | (exact ByR.below (by assumption) (below_al _ _)) | (exact below_tr (by assumption) (below_al _ _)) | (exact cell_al (by assumption) _) | go_keep))
    (first
      | (go_at_call 70; go_split_ands; refine (by1r_any _ _ _ _ _ (by assumption)).mono ?_; rintro e w3 ⟨rfl, hB'⟩; have k1 := Below.keeps hB' _ _ (by assumption : World.cell? _ ⟨p2, 0, none⟩ = some _); have k2 := Below.keeps hB' _ _ (by assumption : World.cell? _ ⟨p3, 0, none⟩ = some _); have k3 : ByR w3 b1 i k x := ByR.below (by assumption) hB'; have k4 : ByR w3 b2 i k y := ByR.below (by assumption) hB'; have k5 := below_tr (by assumption : Below w.heap.size w _) hB')
      | (go_at_call 69; go_split_ands; refine (or2_any _ x y _ (Rd.lit _ [x, y] _ _ 2 rfl rfl (by decide))).mono ?_; rintro e w3 ⟨rfl, rfl⟩))
  all_goals go_split_ands
  all_goals
    go_wp2
    go_ret
    exact ⟨ret_int HE.out.symm, by assumption⟩
end Go.Proofs.YtajhkfmhoihjfaaDoor
