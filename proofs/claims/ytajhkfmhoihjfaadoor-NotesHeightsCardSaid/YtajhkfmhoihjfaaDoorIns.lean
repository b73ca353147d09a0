/-
  slices.SortStableFunc at 12 elements or fewer, by the comparison of notes: insertion.
-/
import Derived.Test.YtajhkfmhoihjfaaDoorSrt
namespace Go.Proofs.YtajhkfmhoihjfaaDoor
open Go.RowKit

/-- x goes in from the right, ahead of all that it stands ahead of. -/
def insR {α : Type} (lt : α → α → Bool) (l : List α) (x : α) : List α := (l.reverse.dropWhile (lt x)).reverse ++ x :: (l.reverse.takeWhile (lt x)).reverse
theorem insR_at {α : Type} {lt : α → α → Bool} {x : α} (A Bq : List α) (h1 : ∀ y ∈ Bq, lt x y = true) (h2 : ∀ y, A.getLast? = some y → lt x y = false) : insR lt (A ++ Bq) x = A ++ x :: Bq := by
  have h1' : ∀ y ∈ Bq.reverse, lt x y = true := fun y hy => h1 y (List.mem_reverse.1 hy)
  have e1 : (A.reverse).takeWhile (lt x) = [] ∧ (A.reverse).dropWhile (lt x) = A.reverse := by
    cases hA : A.reverse with
    | nil => exact ⟨rfl, rfl⟩
    | cons y r =>
      have hy : lt x y = false := h2 y (by rw [← List.head?_reverse, hA]; rfl)
      rw [List.takeWhile_cons, List.dropWhile_cons, hy]
      exact ⟨rfl, rfl⟩
  unfold insR
  rw [List.reverse_append, List.takeWhile_append_of_pos h1', List.dropWhile_append_of_pos h1', e1.1, e1.2]
  simp
def srtL {α : Type} (lt : α → α → Bool) (l : List α) : List α := l.foldl (insR lt) []
theorem srtL_snoc {α : Type} (lt : α → α → Bool) (l : List α) (x : α) : srtL lt (l ++ [x]) = insR lt (srtL lt l) x := by
  unfold srtL
  rw [List.foldl_append]; rfl
theorem insR_perm {α : Type} (lt : α → α → Bool) (l : List α) (x : α) : List.Perm (insR lt l x) (l ++ [x]) := by
  unfold insR
  have e : l = (l.reverse.dropWhile (lt x)).reverse ++ (l.reverse.takeWhile (lt x)).reverse := by
    rw [← List.reverse_append, List.takeWhile_append_dropWhile, List.reverse_reverse]
  generalize (l.reverse.dropWhile (lt x)).reverse = a at *
  generalize (l.reverse.takeWhile (lt x)).reverse = b at *
  subst e
  rw [List.append_assoc]
  exact List.Perm.append_left a (List.perm_append_comm (l₁ := [x]) (l₂ := b))
theorem srtL_perm {α : Type} (lt : α → α → Bool) (l : List α) : List.Perm (srtL lt l) l := by
  suffices h : ∀ (l acc : List α), List.Perm (l.foldl (insR lt) acc) (acc ++ l) from h l []
  intro l
  induction l with
  | nil => intro acc; simp
  | cons x r ih =>
    intro acc
    rw [List.foldl_cons]
    refine (ih _).trans ?_
    have h := (insR_perm lt acc x).append_right r
    rw [List.append_assoc] at h
    exact h

/-- Block B begins with these numbers. -/
def RowN (W : World) (B : Nat) (L : List Nat) : Prop := ∃ cur, W.heap[B]? = some (.cells cur 3 (0, 0)) ∧ ∀ (i x : Nat), L[i]? = some x → cur[i]? = some (Value.int .i64 (x : Int))
theorem RowN.cell {W : World} {B : Nat} {L : List Nat} (h : RowN W B L) {i x : Nat} (hx : L[i]? = some x) : W.cell? ⟨B, i, none⟩ = some (.int .i64 (x : Int)) := by
  obtain ⟨cur, h1, h2⟩ := h
  rw [cell_of_row W B i cur _ _ h1]
  exact h2 i x hx
theorem RowN.frozen {W : World} {B : Nat} {L : List Nat} (h : RowN W B L) (i : Nat) : W.frozen? ⟨B, i, none⟩ = false := by
  obtain ⟨cur, h1, _⟩ := h
  unfold World.frozen?
  rw [h1]; simp
theorem RowN.lt {W : World} {B : Nat} {L : List Nat} (h : RowN W B L) : B < W.heap.size := by
  obtain ⟨cur, h1, _⟩ := h
  exact (Array.getElem?_eq_some_iff.1 h1).1
theorem RowN.below {W W' : World} {B : Nat} {L : List Nat} (h : RowN W B L) (hb : Below W.heap.size W W') : RowN W' B L := by
  have hl := h.lt
  obtain ⟨cur, h1, h2⟩ := h
  exact ⟨cur, (hb.block B hl).trans h1, h2⟩
theorem RowN.set {W : World} {B : Nat} {L : List Nat} (h : RowN W B L) (j x : Nat) : RowN (W.setCell ⟨B, j, none⟩ (.int .i64 (x : Int))) B (L.set j x) := by
  obtain ⟨cur, h1, h2⟩ := h
  have hl := (Array.getElem?_eq_some_iff.1 h1).1
  refine ⟨cur.setIfInBounds j (.int .i64 (x : Int)), ?_, fun i y hy => ?_⟩
  · exact Go.heap_setCell_same W B j cur _ _ h1
  · rw [List.getElem?_set] at hy
    by_cases e : j = i
    · subst e
      rw [if_pos rfl] at hy
      split at hy
      · cases hy
        rename_i hlt
        have h3 := h2 j L[j] (by simp [hlt])
        have h4 := (Array.getElem?_eq_some_iff.1 h3).1
        rw [Array.getElem?_setIfInBounds]
        simp [h4]
      · cases hy
    · rw [if_neg e] at hy
      rw [Array.getElem?_setIfInBounds_ne e]
      exact h2 i y hy
theorem set_swap (A R : List Nat) (x y : Nat) : ((A ++ y :: x :: R).set (A.length + 1) y).set A.length x = A ++ x :: y :: R := by
  rw [List.set_append_right _ _ (by omega), List.set_append_right _ _ (by omega)]
  simp
theorem grown_set2 (W : World) (B j k : Nat) (u v : Value) : W.grownBy ((W.setCell ⟨B, j, none⟩ u).setCell ⟨B, k, none⟩ v).drew (some B) := by
  have h : ∀ (W : World) (j : Nat) (u : Value), W.grownBy (W.setCell ⟨B, j, none⟩ u) (some B) := fun W j u =>
    ⟨rfl, rfl, rfl, by simp [World.setCell], fun k _ hne => Below.heap_setCell _ _ _ _ (by simpa using fun e => hne (by rw [e]))⟩
  have h2 := (h W j u).trans (h _ k v)
  exact ⟨h2.os, h2.tape, h2.output, h2.size, h2.block⟩
theorem grown_below {W0 W W' : World} {B : Nat} (h : W0.grownBy W (some B)) (hb : Below W.heap.size W W') : W0.grownBy W' (some B) :=
  h.trans ⟨hb.os, hb.tape, hb.output, hb.size, fun k hk _ => hb.block k hk⟩
theorem getLast?_cases (A : List Nat) : A = [] ∨ ∃ A' y, A = A' ++ [y] := by
  cases h : A.reverse with
  | nil => left; simpa using h
  | cons y r =>
    right
    refine ⟨r.reverse, y, ?_⟩
    have := congrArg List.reverse h
    simpa using this

/-- The comparison as a test. -/
def ltN (l1 l2 : List Int) (i k : Nat) : Bool := decide (cmp2 l1 l2 i k < 0)

theorem ltN_eq {l1 l2 : List Int} {i k : Nat} (h : cmp2 l1 l2 i k < 0) : ltN l1 l2 i k = true := decide_eq_true h
theorem ltN_ne {l1 l2 : List Int} {i k : Nat} (h : ¬ cmp2 l1 l2 i k < 0) : ltN l1 l2 i k = false := decide_eq_false h

set_option maxHeartbeats 4000000 in
set_option maxRecDepth 100000 in
theorem insort_any (p2 p3 : Nat) (l1 l2 : List Int) (B cap : Nat) (L : List Nat) (w : World) (hL : L.length ≤ 4096) (hcap : L.length ≤ cap) (hcap2 : cap ≤ maxLen) (hrow : RowN w B L)
    (hcmp : ∀ W', w.grownBy W' (some B) → ∀ x y : Nat, x ∈ L → y ∈ L → Calls Tryd.prog 68 #[.int .i64 x, .int .i64 y, .pointer (some ⟨p2, 0, none⟩), .pointer (some ⟨p3, 0, none⟩)] W' fun e w' => e = .returned (.int .i64 (cmp2 l1 l2 x y)) ∧ Below W'.heap.size W' w') :
    Calls Tryd.prog 86 #[.slice (some ⟨B, 0, none⟩) L.length cap, .int .i64 0, .int .i64 L.length, .func (.func 68) #[] #[.pointer (some ⟨p2, 0, none⟩), .pointer (some ⟨p3, 0, none⟩)]] w fun e w' => e = .returned (.tuple #[]) ∧
      RowN w' B (srtL (ltN l1 l2) L) ∧ w.grownBy w' (some B) := by
  unfold maxLen at hcap2
  have HC := hid hcmp; clear hcmp
  have HR := hid hrow; clear hrow
  have HS : Hid (∀ k x, L[k]? = some x → srtL (ltN l1 l2) (L.take (k + 1)) = insR (ltN l1 l2) (srtL (ltN l1 l2) (L.take k)) x) := fun k x hx => by
    rw [List.take_add_one, hx]; exact srtL_snoc _ _ _
  have HG0 : Hid (w.grownBy w (some B)) := ⟨rfl, rfl, rfl, Nat.le_refl _, fun _ _ _ => rfl⟩
  go_enter Tryd.func86, Tryd.ntmps86
  go_wp2
  go_loopw [8] (fun i wr => ∃ k : Nat, 0 < k ∧ k ≤ L.length + 1 ∧ i = .int .i64 k ∧ Hid (RowN wr B (srtL (ltN l1 l2) (L.take k) ++ L.drop k)) ∧ Hid (w.grownBy wr (some B))) (fun i _ => L.length + 1 - (intOf i).toNat)
  case atStart =>
    refine ⟨1, by omega, by omega, rfl, ?_, HG0.out⟩
    have e : srtL (ltN l1 l2) (L.take 1) ++ L.drop 1 = L := by
      cases L with
      | nil => rfl
      | cons x r => rfl
    rw [e]; exact HR
  case round =>
    obtain ⟨k, hk0, hk, rfl, HW, HG⟩ := hrel
    clear HR HG0
    by_cases hlt : k < L.length
    · obtain ⟨x, hx⟩ : ∃ x, L[k]? = some x := ⟨L[k], by simp [hlt]⟩
      have hxm := List.mem_of_getElem? hx
      have HX := hid hx
      have HSk := hid (HS.out k x hx)
      have hlen : (srtL (ltN l1 l2) (L.take k)).length = k := by rw [(srtL_perm _ _).length_eq, List.length_take]; omega
      have HD : Hid (L.drop k = x :: L.drop (k + 1)) := by
        obtain ⟨_, he⟩ := List.getElem?_eq_some_iff.1 hx
        show _ = _
        rw [List.drop_eq_getElem_cons hlt, he]
      have HM : Hid (∀ y ∈ srtL (ltN l1 l2) (L.take k), y ∈ L) := fun y hy => List.mem_of_mem_take ((srtL_perm _ _).mem_iff.1 hy)
      clear hx
      generalize hS : srtL (ltN l1 l2) (L.take k) = S at *
      clear hS
      obtain ⟨S2, hS2⟩ : ∃ S2, srtL (ltN l1 l2) (L.take (k + 1)) = S2 := ⟨_, rfl⟩
      obtain ⟨R, hR⟩ : ∃ R, L.drop (k + 1) = R := ⟨_, rfl⟩
      rw [hS2] at HSk
      rw [HD.out, hR] at HW
      have HS2 := hid hS2
      have HRR := hid hR
      clear hS2 hR
      have HLN := hid hlen
      clear HS hlen HD
      have hli : (k : Int) < (L.length : Int) := by omega
      go_wp2
      obtain ⟨wo, rfl⟩ : ∃ wo : World, wo = wr := ⟨_, rfl⟩
      go_loopw [9] (fun j wi => ∃ (q : Nat) (Al Bl : List Nat), j = .int .i64 q ∧ q ≤ k ∧ Hid (Al.length = q) ∧ Hid (S = Al ++ Bl) ∧ Hid (∀ y ∈ Bl, ltN l1 l2 x y = true) ∧ Hid (RowN wi B (Al ++ x :: (Bl ++ R))) ∧ Hid (w.grownBy wi (some B))) (fun j _ => (intOf j).toNat)
      case atStart => exact ⟨k, S, [], rfl, Nat.le_refl _, HLN.out, by simp [Hid], by simp [Hid], by simpa using HW, HG⟩
      case round =>
        clear HW HG HLN
        obtain ⟨q, Al, Bl, rfl, hqk, HQ, HSA, HB, HW, HG⟩ := hrel
        rcases getLast?_cases Al with rfl | ⟨Am, y, rfl⟩
        · have hq0 : q = 0 := HQ.out.symm
          subst hq0
          have HSE : Hid (S2 = x :: Bl) := by rw [HSk.out, HSA.out]; exact insR_at [] Bl HB.out (fun y hy => by cases hy)
          have hd : decide ((0 : Int) > 0) = false := rfl
          go_wp2
          go_quiet (fail)
          have HG2 := hid (grown_below HG.out (below_drewN (Below.refl wr.heap.size wr) nq))
          have HW2 := hid (HW.out.below (below_drewN (Below.refl wr.heap.size wr) nq))
          go_wp2
          go_roundw
          case rel => exact ⟨k + 1, by omega, by omega, by go_num, by rw [HS2.out, HRR.out, HSE.out]; exact HW2.out, HG2.out⟩
          case measure => simp [intOf]; omega
        · obtain ⟨m, rfl⟩ : ∃ m, q = m + 1 := ⟨Am.length, by rw [← HQ.out]; simp⟩
          have hm : Am.length = m := by have := HQ.out; simp at this; exact this
          have hcx : wr.cell? ⟨B, m + 1, none⟩ = some (.int .i64 (x : Int)) := HW.out.cell (by rw [List.getElem?_append_right (by simp; omega)]; simp [hm])
          have hcy : wr.cell? ⟨B, m, none⟩ = some (.int .i64 (y : Int)) := HW.out.cell (by rw [List.append_assoc, List.getElem?_append_right (by omega)]; simp [hm])
          have hym : y ∈ L := HM.out y (by rw [HSA.out]; simp)
          have HM2 := hid hm
          clear hm
          have HCW := fun W' (h : Below wr.heap.size wr W') => hid (HC.out W' (grown_below HG.out h) x y hxm hym)
          have f1 : (0 : Int) < (m : Int) + 1 := by omega
          have f2 : decide ((m : Int) + 1 > 0) = true := decide_eq_true (by omega)
          have f3 : IntKind.i64.wrap (m : Int) = (m : Int) := IntWalk.i64_in _ (by omega)
          have f4 : ((m : Int) + 1).toNat = m + 1 := by omega
          have f5 : (m : Int) + 1 < (L.length : Int) := by omega
          have f6 : (m : Int) < (L.length : Int) := by omega
          have f7 : (0 : Int) ≤ (m : Int) + 1 := by omega
          obtain ⟨c, hc⟩ : ∃ c, c = cmp2 l1 l2 x y := ⟨_, rfl⟩
          rw [← hc] at HCW
          have HCC := hid hc
          clear hc
          by_cases hc0 : c < 0
          · have f8 : decide (c < 0) = true := decide_eq_true hc0
            go_wp2
            go_region_held3 (fun w' => w'.cell? ⟨B, m + 1, none⟩ = some (.int .i64 (x : Int)) ∧ w'.cell? ⟨B, m, none⟩ = some (.int .i64 (y : Int)) ∧ Below wr.heap.size wr w')
              ((refine ⟨?_, ?_, ?_⟩ <;> first | assumption | (exact Below.refl _ _) | (exact Below.drew (by assumption)) | (exact (Below.refl _ _).drew) | go_keep))
              (first
                | (go_at_call 68; go_split_ands; refine (HCW _ (by assumption)).out.mono ?_; rintro e w3 ⟨rfl, hB'⟩; have k1 := Below.keeps hB' _ _ (by assumption : World.cell? _ ⟨B, m + 1, none⟩ = some _); have k2 := Below.keeps hB' _ _ (by assumption : World.cell? _ ⟨B, m, none⟩ = some _); have k3 := below_tr (by assumption : Below wr.heap.size wr _) hB'))
            all_goals go_split_ands
            have HG3 := hid (grown_below HG.out k3)
            have hw3 := HW.out.below k3
            have HW3 := hid hw3
            have f9 := hw3.frozen (m + 1)
            have f10 := hw3.frozen m
            have f11 : (w3.setCell ⟨B, m + 1, none⟩ (.int .i64 (y : Int))).cell? ⟨B, m, none⟩ = some (.int .i64 (y : Int)) := (World.cell?_setCell_other _ _ _ _ (by intro e; simp at e)).trans k2
            clear hw3 HCW HG HW k3
            go_wp2
            go_region
            have HW4 : Hid (RowN ((w3.setCell ⟨B, m + 1, none⟩ (.int .i64 (y : Int))).setCell ⟨B, m, none⟩ (.int .i64 (x : Int))).drew B (Am ++ x :: ((y :: Bl) ++ R))) := by
              have h := (HW3.out.set (m + 1) y).set m x
              rw [List.append_assoc, List.singleton_append, ← HM2.out, set_swap] at h
              rw [← HM2.out]
              exact h
            have HG4 := hid (HG3.out.trans (grown_set2 w3 B (m + 1) m (.int .i64 (y : Int)) (.int .i64 (x : Int))))
            have HSA2 : Hid (S = Am ++ (y :: Bl)) := by rw [HSA.out]; exact List.append_assoc Am [y] Bl
            have HB2 : Hid (∀ z ∈ y :: Bl, ltN l1 l2 x z = true) := fun z hz => by
              rcases List.mem_cons.1 hz with rfl | hz
              · exact ltN_eq (by rw [← HCC.out]; exact hc0)
              · exact HB.out z hz
            clear k1 k2 f9 f10 f11 HG3 HW3
            generalize ((w3.setCell ⟨B, m + 1, none⟩ (.int .i64 (y : Int))).setCell ⟨B, m, none⟩ (.int .i64 (x : Int))).drew = w4 at *
            go_wp2
            go_roundw
            case rel => exact ⟨m, Am, y :: Bl, by go_num, by omega, HM2.out, HSA2.out, HB2.out, HW4.out, HG4.out⟩
            case measure => simp [intOf]
          · have f8 : decide (c < 0) = false := decide_eq_false hc0
            have f8' : 0 ≤ c := by omega
            go_wp2
            go_region_held3 (fun w' => w'.cell? ⟨B, m + 1, none⟩ = some (.int .i64 (x : Int)) ∧ w'.cell? ⟨B, m, none⟩ = some (.int .i64 (y : Int)) ∧ Below wr.heap.size wr w')
              ((refine ⟨?_, ?_, ?_⟩ <;> first | assumption | (exact Below.refl _ _) | (exact Below.drew (by assumption)) | (exact (Below.refl _ _).drew) | go_keep))
              (first
                | (go_at_call 68; go_split_ands; refine (HCW _ (by assumption)).out.mono ?_; rintro e w3 ⟨rfl, hB'⟩; have k1 := Below.keeps hB' _ _ (by assumption : World.cell? _ ⟨B, m + 1, none⟩ = some _); have k2 := Below.keeps hB' _ _ (by assumption : World.cell? _ ⟨B, m, none⟩ = some _); have k3 := below_tr (by assumption : Below wr.heap.size wr _) hB'))
            all_goals go_split_ands
            have HG3 := hid (grown_below HG.out k3)
            have HSE : Hid (S2 = (Am ++ [y]) ++ x :: Bl) := by
              rw [HSk.out, HSA.out]
              exact insR_at (Am ++ [y]) Bl HB.out (fun z hz => by
                have : y = z := by simpa using hz
                subst this
                exact ltN_ne (by rw [← HCC.out]; omega))
            have HW3 : Hid (RowN w3 B (S2 ++ R)) := by
              rw [HSE.out, List.append_assoc]
              exact HW.out.below k3
            clear HCW HG HW k3 k1 k2
            go_wp2
            go_roundw
            case rel => exact ⟨k + 1, by omega, by omega, by go_num, by rw [HS2.out, HRR.out]; exact HW3.out, HG3.out⟩
            case measure => simp [intOf]; omega
    · have HW2 : Hid (RowN wr B (srtL (ltN l1 l2) L)) := by
        have h := HW.out
        rw [List.take_of_length_le (by omega), List.drop_of_length_le (by omega), List.append_nil] at h
        exact h
      go_wp2
      go_end0
      exact ⟨rfl, HW2.out, HG.out⟩

set_option maxHeartbeats 1000000 in
set_option maxRecDepth 100000 in
theorem stable_any (p2 p3 : Nat) (l1 l2 : List Int) (B cap : Nat) (L : List Nat) (w : World) (hL : L.length ≤ 12) (hcap : L.length ≤ cap) (hcap2 : cap ≤ maxLen) (hrow : RowN w B L)
    (hcmp : ∀ W', w.grownBy W' (some B) → ∀ x y : Nat, x ∈ L → y ∈ L → Calls Tryd.prog 68 #[.int .i64 x, .int .i64 y, .pointer (some ⟨p2, 0, none⟩), .pointer (some ⟨p3, 0, none⟩)] W' fun e w' => e = .returned (.int .i64 (cmp2 l1 l2 x y)) ∧ Below W'.heap.size W' w') :
    Calls Tryd.prog 67 #[.slice (some ⟨B, 0, none⟩) L.length cap, .int .i64 L.length, .func (.func 68) #[] #[.pointer (some ⟨p2, 0, none⟩), .pointer (some ⟨p3, 0, none⟩)]] w fun e w' => e = .returned (.tuple #[]) ∧
      RowN w' B (srtL (ltN l1 l2) L) ∧ w.grownBy w' (some B) := by
  have H := hid (insort_any p2 p3 l1 l2 B cap L w (by omega) hcap hcap2 hrow hcmp)
  clear hcmp hrow
  have h1 : ¬ (20 : Int) ≤ (L.length : Int) := by omega
  have h2 : ¬ (20 : Int) < (L.length : Int) := by omega
  go_enter Tryd.func67, Tryd.ntmps67
  go_wp2
  refine wp_loop_rounds 1 ?_
  rw [rounds_succ]
  go_wp2_with fail
  refine H.out.mono ?_
  rintro e w1 ⟨rfl, hw, hg⟩
  have HW := hid hw
  have HG := hid hg
  clear hw hg H
  go_wp2
  refine wp_loop_rounds 1 ?_
  rw [rounds_succ]
  go_wp2
  go_end0
  exact ⟨rfl, HW.out, HG.out⟩

set_option maxHeartbeats 1000000 in
set_option maxRecDepth 100000 in
theorem sortStable_any (p2 p3 : Nat) (l1 l2 : List Int) (B cap : Nat) (L : List Nat) (w : World) (hL : L.length ≤ 12) (hcap : L.length ≤ cap) (hcap2 : cap ≤ maxLen) (hrow : RowN w B L)
    (hcmp : ∀ W', w.grownBy W' (some B) → ∀ x y : Nat, x ∈ L → y ∈ L → Calls Tryd.prog 68 #[.int .i64 x, .int .i64 y, .pointer (some ⟨p2, 0, none⟩), .pointer (some ⟨p3, 0, none⟩)] W' fun e w' => e = .returned (.int .i64 (cmp2 l1 l2 x y)) ∧ Below W'.heap.size W' w') :
    Calls Tryd.prog 49 #[.slice (some ⟨B, 0, none⟩) L.length cap, .func (.func 68) #[] #[.pointer (some ⟨p2, 0, none⟩), .pointer (some ⟨p3, 0, none⟩)]] w fun e w' => e = .returned (.tuple #[]) ∧
      RowN w' B (srtL (ltN l1 l2) L) ∧ w.grownBy w' (some B) := by
  have H := hid (stable_any p2 p3 l1 l2 B cap L w hL hcap hcap2 hrow hcmp)
  clear hcmp hrow
  go_enter Tryd.func49, Tryd.ntmps49
  go_wp2_with fail
  refine H.out.mono ?_
  rintro e w1 ⟨rfl, hw, hg⟩
  have HW := hid hw
  have HG := hid hg
  clear hw hg H
  go_wp2
  go_end0
  exact ⟨rfl, HW.out, HG.out⟩
end Go.Proofs.YtajhkfmhoihjfaaDoor
