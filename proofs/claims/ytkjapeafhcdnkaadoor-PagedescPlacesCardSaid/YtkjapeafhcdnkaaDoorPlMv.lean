/-
  Plain: what moving boxes does to their checks, their meetings and their bounds; Bounds of a page without boxes.
-/
import Derived.Test.YtkjapeafhcdnkaaDoorMov
import Derived.Test.YtkjapeafhcdnkaaDoorBnd53
namespace Go.Proofs.YtkjapeafhcdnkaaDoor
open Go.RowKit

theorem box_mv {dx dy : Int} {b : Bx} (h : boxI b = 0) (ho : mvOk dx dy b = true) : boxI (mvB dx dy b) = 0 := by
  obtain ⟨k1, k2, x1, x2, y1, y2, w1, w2, b1, b2, hk, ht, hc⟩ := bx_good h
  unfold mvOk at ho
  rw [Bool.and_eq_true] at ho
  obtain ⟨o1, o2⟩ := ho
  have hw : lenB b.wd = true := by unfold lenB; simp; omega
  unfold boxI mvB
  rw [if_neg (by simp only; omega), if_neg, if_neg (by simpa using hk), if_neg (by simp only; omega), if_neg (by simp only; rw [hc]; simp)]
  simp only [o1, o2, hw]
  simp; omega
theorem pg_mv {dx dy : Int} {p : Pg} (h : pgI p = 0) (ho : p.bx.all (mvOk dx dy) = true) : pgI ⟨p.num, p.bx.map (mvB dx dy)⟩ = 0 := by
  obtain ⟨h1, h2, h3, h4⟩ := pg_good h
  unfold pgI
  rw [if_neg (by simp only; omega), if_neg (by simp only [List.length_map]; omega)]
  apply firstE_none
  intro y hy
  obtain ⟨b, hb, rfl⟩ := List.mem_map.1 hy
  exact box_mv (h4 b hb) (List.all_eq_true.1 ho b hb)
theorem mv_back (dx dy : Int) (l : List Bx) : (l.map (mvB dx dy)).map (mvB (-dx) (-dy)) = l := by
  rw [List.map_map]
  have : (mvB (-dx) (-dy)) ∘ (mvB dx dy) = id := by
    funext b
    obtain ⟨k, x, y, wd, bl, t⟩ := b
    simp only [Function.comp, mvB, id]
    congr 1 <;> omega
  rw [this, List.map_id]
theorem mv_backOk {dx dy : Int} {l : List Bx} (h : ∀ b ∈ l, boxI b = 0) : (l.map (mvB dx dy)).all (mvOk (-dx) (-dy)) = true := by
  rw [List.all_eq_true]
  intro y hy
  obtain ⟨b, hb, rfl⟩ := List.mem_map.1 hy
  obtain ⟨k1, k2, x1, x2, y1, y2, _⟩ := bx_good (h b hb)
  unfold mvOk mvB lenB
  simp; omega
theorem meetB_mv (h dx dy : Int) (a b : Bx) : meetB h (mvB dx dy a) (mvB dx dy b) = meetB h a b := by
  unfold meetB mvB
  simp only
  congr 1
  · exact decide_eq_decide.2 (by omega)
  · exact decide_eq_decide.2 (by omega)
theorem meetAt_mv (h dx dy : Int) (l : List Bx) (i j : Nat) : meetAt h (l.map (mvB dx dy)) i j = meetAt h l i j := by
  unfold meetAt
  rw [List.getElem?_map, List.getElem?_map]
  cases l[i]? <;> cases l[j]? <;> simp [meetB_mv]
theorem ovRow_mv (h dx dy : Int) (l : List Bx) (i : Nat) : ∀ m, ovRow h (l.map (mvB dx dy)) i m = ovRow h l i m
  | 0 => rfl
  | m + 1 => by rw [ovRow, ovRow, ovRow_mv h dx dy l i m, meetAt_mv]
theorem ovAll_mv (h dx dy : Int) (l : List Bx) : ∀ k, ovAll h (l.map (mvB dx dy)) k = ovAll h l k
  | 0 => rfl
  | k + 1 => by rw [ovAll, ovAll, ovAll_mv h dx dy l k, ovRow_mv, List.length_map]
theorem fX_mv (dx dy : Int) : ∀ (l : List Bx) (a : Int), fX (a + dx) (l.map (mvB dx dy)) = fX a l + dx
  | [], a => rfl
  | b :: r, a => by
    have h := fX_mv dx dy r (min a b.x)
    show fX (min (a + dx) (b.x + dx)) (r.map (mvB dx dy)) = fX (min a b.x) r + dx
    rw [← h]; congr 1; omega
theorem fY_mv (dx dy : Int) : ∀ (l : List Bx) (a : Int), fY (a + dy) (l.map (mvB dx dy)) = fY a l + dy
  | [], a => rfl
  | b :: r, a => by
    have h := fY_mv dx dy r (min a b.y)
    show fY (min (a + dy) (b.y + dy)) (r.map (mvB dx dy)) = fY (min a b.y) r + dy
    rw [← h]; congr 1; omega
theorem fR_mv (dx dy : Int) : ∀ (l : List Bx) (a : Int), fR (a + dx) (l.map (mvB dx dy)) = fR a l + dx
  | [], a => rfl
  | b :: r, a => by
    have h := fR_mv dx dy r (max a (b.x + b.wd))
    show fR (max (a + dx) (b.x + dx + b.wd)) (r.map (mvB dx dy)) = fR (max a (b.x + b.wd)) r + dx
    rw [← h]; congr 1; omega
theorem fD_mv (dx dy : Int) : ∀ (l : List Bx) (a : Int), fD (a + dy) (l.map (mvB dx dy)) = fD a l + dy
  | [], a => rfl
  | b :: r, a => by
    have h := fD_mv dx dy r (max a b.y)
    show fD (max (a + dy) (b.y + dy)) (r.map (mvB dx dy)) = fD (max a b.y) r + dy
    rw [← h]; congr 1; omega
theorem szB_mv {dx dy : Int} {l : List Bx} (h : SzB l) : SzB (l.map (mvB dx dy)) := by
  intro y hy
  obtain ⟨b, hb, rfl⟩ := List.mem_map.1 hy
  exact h b hb

set_option maxRecDepth 100000 in
set_option maxHeartbeats 1000000 in
theorem bounds_none (p : Pg) (v : Value) (w : World) (hr : RdB w v p.bx) (hz : SzB p.bx) (hg : pgI p = 0) (h0 : p.bx = []) :
    Calls Tryd.prog 21 #[.agg #[.int .i64 p.num, v]] w fun e w' => e = .returned (.tuple #[.int .i64 0, .int .i64 0, .int .i64 0, .int .i64 0, .int .i64 5]) ∧ Below w.heap.size w w' := by
  obtain ⟨num, l⟩ := p
  simp only at hr hz h0 ⊢
  subst h0
  have hb0 := below_al w (.cells #[.int .i64 num, v] 34)
  have hro := row_nw w #[.int .i64 num, v] 34 rfl
  have HCK := hid (pcheck_any ⟨num, []⟩ v _ (hr.below hb0) hz)
  rw [hg] at HCK
  obtain ⟨ad, cap, rfl, hlc, hcm, hcell⟩ := (hr.below hb0).open
  have HRO := hid hro
  simp only [List.length_nil] at *
  clear hcell hr hro hg
  go_enter Tryd.func21, Tryd.ntmps21
  go_wp2_with fail
  generalize w.alloc (.cells #[.int .i64 num, .slice ad 0 cap] 34) = w0 at *
  refine HCK.out.mono ?_
  rintro e w1 ⟨rfl, hB1⟩
  have pg1 := (HRO.out.below hB1).cell 1 rfl
  clear HCK
  go_wp2_with fail
  exact bodyPost_ret (results_tmp5 rfl _ _ _) rfl ⟨rfl, below_tr hb0 hB1⟩
end Go.Proofs.YtkjapeafhcdnkaaDoor
