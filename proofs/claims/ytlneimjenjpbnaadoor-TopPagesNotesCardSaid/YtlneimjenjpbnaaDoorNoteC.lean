/-
  notes.set: the lines of a note, as an iterator; the plain lines.
-/
import Derived.Test.YtlneimjenjpbnaaDoorJ01
import Derived.Test.YtlneimjenjpbnaaDoorClus
import Derived.Test.YtlneimjenjpbnaaDoorNoteB
import Derived.Shelf.Abstract
import Derived.Shelf.RegionOpen
import Derived.Sort.CutIn
import Derived.IntWalk
import Derived.Deep.RegionHeld3
import Derived.StillTailTactics
namespace Go.Proofs.YtlneimjenjpbnaaDoor
open Go.RowKit Go.Shelf
attribute [local go_sem] Oper.semAt_some

/-- The width of a word. -/
def wd (st : St) (x : ByteArray) : Int := st.letter * (clN x : Int)
/-- The lines: room and width of the line at hand, its words, and the words to come. -/
def goL (st : St) : Int → Int → List ByteArray → List ByteArray → List (List ByteArray)
  | _, _, cur, [] => [cur]
  | room, wdt, cur, x :: r => if room < wdt + (wd st x + st.sp) then cur :: goL st (st.width - st.letter) (wd st x) [x] r else goL st room (wdt + (wd st x + st.sp)) (cur ++ [x]) r
def restL (st : St) (room : Int) : List ByteArray → List (List ByteArray)
  | [] => []
  | x :: r => goL st room (wd st x) [x] r
def setL (st : St) (ws : List ByteArray) : List (List ByteArray) := restL st st.width ws

/-- The state of the inner loop: q words are taken. -/
def LineAt (st : St) (room : Int) (ws : List ByteArray) (wdt : Int) (q : Nat) : Prop :=
  (q = 0 ∧ wdt = 0) ∨ (0 < q ∧ restL st room ws = goL st room wdt (ws.take q) (ws.drop q))
theorem LineAt.first {st : St} {room : Int} {ws : List ByteArray} {x : ByteArray} (h : ws[0]? = some x) : LineAt st room ws (wd st x) 1 := by
  cases ws with
  | nil => cases h
  | cons y r =>
    obtain rfl : y = x := by simpa using h
    exact .inr ⟨by omega, rfl⟩
theorem LineAt.next {st : St} {room : Int} {ws : List ByteArray} {wdt : Int} {q : Nat} {x : ByteArray} (h : LineAt st room ws wdt q) (h0 : 0 < q) (hx : ws[q]? = some x) (hr : ¬ room < wdt + (wd st x + st.sp)) : LineAt st room ws (wdt + (wd st x + st.sp)) (q + 1) := by
  obtain ⟨hk, he⟩ := List.getElem?_eq_some_iff.1 hx
  rcases h with ⟨h1, _⟩ | ⟨_, h1⟩
  · omega
  · refine .inr ⟨by omega, ?_⟩
    rw [h1, List.drop_eq_getElem_cons hk, he, goL, if_neg hr, List.take_add_one, hx]
    rfl
theorem LineAt.stop {st : St} {room : Int} {ws : List ByteArray} {wdt : Int} {q : Nat} {x : ByteArray} (h : LineAt st room ws wdt q) (h0 : 0 < q) (hx : ws[q]? = some x) (hr : room < wdt + (wd st x + st.sp)) :
    restL st room ws = ws.take q :: restL st (st.width - st.letter) (ws.drop q) := by
  obtain ⟨hk, he⟩ := List.getElem?_eq_some_iff.1 hx
  rcases h with ⟨h1, _⟩ | ⟨_, h1⟩
  · omega
  · rw [h1, List.drop_eq_getElem_cons hk, he, goL, if_pos hr]; rfl
theorem LineAt.done {st : St} {room : Int} {ws : List ByteArray} {wdt : Int} (h : LineAt st room ws wdt ws.length) (h0 : 0 < ws.length) : restL st room ws = ws.take ws.length :: restL st (st.width - st.letter) (ws.drop ws.length) := by
  rcases h with ⟨h1, _⟩ | ⟨_, h1⟩
  · omega
  · rw [h1, List.drop_of_length_le (Nat.le_refl _)]; rfl

theorem style_ok {st : St} (h : styleI st = 0) : (0 ≤ st.width ∧ st.width ≤ 1073741824) ∧ (0 ≤ st.letter ∧ st.letter ≤ 1073741824) ∧ (0 ≤ st.sp ∧ st.sp ≤ 1073741824) ∧ (0 ≤ st.nh ∧ st.nh ≤ 1073741824) := by
  unfold styleI at h
  split at h
  · rename_i hh
    obtain ⟨h1, h2, h3, h4⟩ := hh
    unfold okL at h1 h2 h3 h4
    simp only [Bool.and_eq_true, decide_eq_true_eq] at h1 h2 h3 h4
    exact ⟨h1, h2, h3, h4⟩
  · cases h

/-- How long the slice in a box is. -/
def boxLen (W : World) (B : Nat) : Nat := match W.cell? ⟨B, 0, none⟩ with | some (.slice _ n _) => n | _ => 0
theorem boxLen_eq {W : World} {B : Nat} {a : Option Addr} {n c : Nat} (h : W.cell? ⟨B, 0, none⟩ = some (.slice a n c)) : boxLen W B = n := by unfold boxLen; rw [h]

/-- It goes on, and leaves just this. -/
def onNormal (A : Act) (V : World) : Exit → Act → World → Prop
  | .normal, a', w' => a' = A ∧ w' = V
  | _, _, _ => False
theorem onNormal.elim {A : Act} {V : World} {Q : Exit → Act → World → Prop} (h : Q .normal A V) : ∀ e a' w', onNormal A V e a' w' → Q e a' w' := by
  intro e a' w' hn
  cases e with
  | normal => obtain ⟨rfl, rfl⟩ := hn; exact h
  | _ => exact False.elim hn

/-- A place among L words: where a line begins, and how many it has. -/
abbrev Pl (L : Nat) := {p : Nat × Nat // p.1 + p.2 ≤ L ∧ 0 < p.2}
def pieceOf (ws : List ByteArray) (p : Pl ws.length) : List ByteArray := (ws.drop p.1.1).take p.1.2
def lineV (b off cap : Nat) {L : Nat} (p : Pl L) : Value := .slice (some ⟨b, off + p.1.1, none⟩) p.1.2 (cap - p.1.1)

set_option maxHeartbeats 1000000 in
set_option maxRecDepth 100000 in
theorem nset_any (st : St) (v : Value) (l : List ByteArray) (w : World) (hr : RdS w v l) :
    Calls Tryd.prog 35 #[.agg st.cells, v] w fun e w' => e = .returned (.func (.func 44) #[] #[.pointer (some ⟨w.heap.size, 0, none⟩), .pointer (some ⟨w.heap.size + 1, 0, none⟩)]) ∧ (w.alloc (.cells st.cells 25)).alloc (.cells #[v] 23) = w' := by
  obtain ⟨a, cap, rfl, _, _, _⟩ := hr.open
  unfold St.cells
  go_enter Tryd.func35, Tryd.ntmps35
  go_wp2
  go_ret
  exact ⟨rfl, rfl⟩

set_option maxRecDepth 100000 in
set_option maxHeartbeats 8000000 in
theorem set1_in (n : Nat) (hn : 1 ≤ n) (st : St) (ws : List ByteArray) (b off cap B1 B2 : Nat) (hst : styleI st = 0) (hws : ∀ x ∈ ws, x.size ≤ 65536) (hwl : ws.length ≤ 65537) (hlc : ws.length ≤ cap)
    (n₁ Bo : Nat) (h1n : B1 < n₁) (h2n : B2 < n₁) (hbn : b < n₁) (h1o : B1 ≠ Bo) (h2o : B2 ≠ Bo) (hbo : b ≠ Bo) (h12 : B1 ≠ B2) (hb2 : b ≠ B2)
    (l : Nat) (J : List (Pl ws.length) → World → Prop) (w : World) (hJA : AbidesFrom w.heap.size J) (hJS : ∀ pre W1 v, J pre W1 → J pre (W1.setCell ⟨B2, 0, none⟩ v))
    (hY : ∀ pre x W, J pre W → pre.length < ws.length → YieldAt Fence.wide (n - 1) Tryd.prog l #[lineV b off cap x] W fun e W' => e = .returned (.bool true) ∧ J (pre ++ [x]) W' ∧ KpX n₁ Bo Bo W W')
    (hst1 : w.heap[B1]? = some (.cells st.cells 25 (0, 0))) (hbx2 : Boxed w B2 23 (.slice (some ⟨b, off, none⟩) ws.length cap)) (hrw : RdS w (.slice (some ⟨b, off, none⟩) ws.length cap) ws) (h0 : J [] w) :
    CallsIn Fence.wide n Tryd.prog 44 #[.func (.yield l) #[] #[], .pointer (some ⟨B1, 0, none⟩), .pointer (some ⟨B2, 0, none⟩)] w fun e W' => (∃ v, e = .returned v) ∧
      ∃ xs : List (Pl ws.length), xs.map (pieceOf ws) = setL st ws ∧ J xs W' := by
  obtain ⟨kw, kl, ks', kn⟩ := style_ok hst
  have hcell0 : ∀ W : World, W.heap[B1]? = some (.cells st.cells 25 (0, 0)) → W.cell? ⟨B1, 0, none⟩ = some (.int .i64 st.width) := fun W h => by rw [cell_of_row W B1 0 _ _ _ h]; rfl
  have hcell5 : ∀ W : World, W.heap[B1]? = some (.cells st.cells 25 (0, 0)) → W.cell? ⟨B1, 5, none⟩ = some (.int .i64 st.sp) := fun W h => by rw [cell_of_row W B1 5 _ _ _ h]; rfl
  have hcell8 : ∀ W : World, W.heap[B1]? = some (.cells st.cells 25 (0, 0)) → W.cell? ⟨B1, 8, none⟩ = some (.int .i64 st.letter) := fun W h => by rw [cell_of_row W B1 8 _ _ _ h]; rfl
  have HC0 := hid hcell0; have HC5 := hid hcell5; have HC8 := hid hcell8
  clear hcell0 hcell5 hcell8
  have HY := hid hY; clear hY
  have HJA := hid hJA; clear hJA
  have HJS := hid hJS; clear hJS
  have HWS := hid hws; clear hws
  have hst0 := HC0.out _ hst1
  refine callsIn_of_wp Tryd.func44 rfl trivial ?_ rfl
  simp only [Tryd.ntmps44, List.size_toArray, List.length_cons, List.length_nil, Nat.reduceAdd, Nat.reduceSub, Array.replicate_succ, Array.replicate_zero, List.push_toArray, List.append_toArray, List.nil_append, List.cons_append]
  gi_wp2
  gi_loopw [4] (fun rm wr => ∃ (j m c : Nat) (pre : List (Pl ws.length)) (room : Int) (A : Option Addr), Hid (j + m = ws.length) ∧ Hid (j + c = cap) ∧ m ≤ c ∧ m ≤ 65537 ∧ rm = .int .i64 room ∧ Hid (pre.map (pieceOf ws) ++ restL st room (ws.drop j) = setL st ws) ∧
      (-1073741824 ≤ room ∧ room ≤ 1073741824) ∧ Hid (pre.length ≤ j) ∧ J pre wr ∧ w.heap.size ≤ wr.heap.size ∧ Hid (wr.heap[B1]? = some (.cells st.cells 25 (0, 0))) ∧ Boxed wr B2 23 (.slice A m c) ∧ (0 < m → A = some ⟨b, off + j, none⟩) ∧ RdS wr (.slice (some ⟨b, off, none⟩) ws.length cap) ws)
    (fun _ wr => boxLen wr B2)
  case atStart => exact ⟨0, ws.length, cap, [], st.width, _, Nat.zero_add _, Nat.zero_add _, hlc, hwl, rfl, by simp [Hid, setL], by omega, Nat.le_refl 0, h0, Nat.le_refl _, hst1, hbx2, fun _ => rfl, hrw⟩
  case round =>
    obtain ⟨j, m, c, pre, room, A, HM, HCc, hmc, hm65, rfl, HP, hroom, HL, hJ, hsz, HST, hbx, hA, hrr⟩ := hrel
    have hcb := hbx.cell
    by_cases hm0 : 0 < m
    · obtain rfl := hA hm0
      have hjl : j < ws.length := by have := HM.out; omega
      clear hA hst0 hst1 hbx2 hrw h0
      have hmi : (0 : Int) < (m : Int) := by omega
      gi_wp2
      obtain ⟨wo, rfl⟩ : ∃ wo : World, wo = wr := ⟨_, rfl⟩
      refine wpIn_wide.2 ?_
      go_loopw [5, 6, 17] (fun nn wv i wi => ∃ (q : Nat) (wdt : Int), q ≤ m ∧ i = .int .i64 q ∧ nn = .int .i64 q ∧ wv = .int .i64 wdt ∧ Hid (LineAt st room (ws.drop j) wdt q) ∧ 0 ≤ wdt ∧ wdt ≤ q * 70369817919488 ∧ Below wo.heap.size wo wi) (fun _ _ i _ => m - (intOf i).toNat)
      case atStart => exact ⟨0, 0, by omega, rfl, rfl, rfl, .inl ⟨rfl, rfl⟩, by omega, by omega, Below.refl _ _⟩
      case round =>
        obtain ⟨q, wdt, hq, rfl, rfl, rfl, HQ, hw0, hwq, hB⟩ := hrel
        have hsti := (hB.block B1 (Array.getElem?_eq_some_iff.1 HST.out).1).trans HST.out
        have hc0 := HC0.out _ hsti
        have hc5 := HC5.out _ hsti
        have hc8 := HC8.out _ hsti
        by_cases hqm : q < m
        · obtain ⟨_, _, e1, _, _, hcell⟩ := hrr.open
          cases e1
          obtain ⟨x, bx, ox, hx, e2, hcx0⟩ := hcell (j + q) (by have := HM.out; omega)
          cases e2
          have hcx := Below.keeps hB _ _ hcx0
          rw [← Nat.add_assoc] at hcx
          have HX := hid hx
          have hxs := HWS.out x (List.mem_of_getElem? hx)
          clear hx hcx0 hcell
          have HCl := fun w' => hid (clus_any x w' (by omega))
          have hcl := clN_le x
          have hwd : 0 ≤ st.letter * (clN x : Int) ∧ st.letter * (clN x : Int) ≤ 70368744177664 := by
            refine ⟨Int.mul_nonneg kl.1 (by omega), ?_⟩
            have h1 : st.letter * (clN x : Int) ≤ 1073741824 * (clN x : Int) := Int.mul_le_mul_of_nonneg_right kl.2 (by omega)
            omega
          obtain ⟨W, hW⟩ : ∃ W, st.letter * (clN x : Int) = W := ⟨_, rfl⟩
          rw [hW] at hwd
          have HWD : Hid (wd st x = W) := hW
          have hwrW : IntKind.i64.wrap W = W := IntWalk.i64_in _ (by omega)
          go_wp2_with fail
          go_region_held3 (fun w' => w'.cell? ⟨B1, 8, none⟩ = some (.int .i64 st.letter) ∧ Below wr.heap.size wr w')
            ((refine ⟨?_, ?_⟩ <;> first | assumption | (exact Below.refl _ _) | (exact Below.drew (by assumption)) | (exact (Below.refl _ _).drew) | go_keep))
            (first
              | (go_at_call 45; go_split_ands; refine (HCl _).out.mono ?_; rintro e w3 ⟨v', ks, rfl, hks, hkl, hB'⟩; obtain ⟨a', cap', rfl, _, _, _⟩ := hks.open; rw [hkl]; have k1 : w3.cell? ⟨B1, 8, none⟩ = some (.int .i64 st.letter) := Below.keeps hB' _ _ (by assumption); have k2 : Below wr.heap.size wr w3 := below_tr (by assumption) hB'))
          all_goals go_split_ands
          all_goals
            by_cases hq0 : q = 0
            · subst hq0
              have hwt : wdt = 0 := by
                rcases HQ.out with ⟨_, h⟩ | ⟨h, _⟩
                · exact h
                · omega
              subst hwt
              have HQ2 : Hid (LineAt st room (ws.drop j) W 1) := by
                have h := LineAt.first (st := st) (room := room) (ws := ws.drop j) (x := x) (by rw [List.getElem?_drop]; exact HX.out)
                rwa [HWD.out] at h
              go_wp2
              go_roundw
              case rel => exact ⟨1, W, by omega, by go_num, by go_num, by go_num, HQ2.out, by omega, by omega, below_tr hB k2⟩
              case measure => simp [intOf]; omega
            · have hq1 : 0 < q := by omega
              have hqi : (0 : Int) < (q : Int) := by omega
              have hc5w := Below.keeps k2 _ _ hc5
              have hBw := below_tr hB k2
              have hqb : (q : Int) * 70369817919488 ≤ 4611826785713455616 := by omega
              have ww1 : wrap64 (W + st.sp) = W + st.sp := IntWalk.wrap64_in _ (by omega)
              have ww2 : wrap64 (wdt + (W + st.sp)) = wdt + (W + st.sp) := IntWalk.wrap64_in _ (by omega)
              by_cases hbr : room < wdt + (W + st.sp)
              · have HQB : Hid (restL st room (ws.drop j) = (ws.drop j).take q :: restL st (st.width - st.letter) ((ws.drop j).drop q)) := HQ.out.stop hq1 (by rw [List.getElem?_drop]; exact HX.out) (by rw [HWD.out]; exact hbr)
                clear HX hxs hcl hW HWD hcx hc8 hc0 hc5 hsti
                have hcq : ¬ c = q := by omega
                have hbxw : Boxed w3 B2 23 (.slice (some ⟨b, off + j, none⟩) m c) := (hBw.block B2 hbx.lt).trans hbx
                have hcbw := hbxw.cell
                have hJw : J pre w3 := HJA.out _ _ _ none hJ ⟨hBw.os, hBw.tape, hBw.output, hBw.size, fun k hk _ => hBw.block k hk⟩ (fun r e => by cases e)
                have hrw2 := hrr.below hBw
                have hstw := (hBw.block B1 (Array.getElem?_eq_some_iff.1 HST.out).1).trans HST.out
                have hpq : ((j, q) : Nat × Nat).1 + ((j, q) : Nat × Nat).2 ≤ ws.length ∧ 0 < ((j, q) : Nat × Nat).2 := ⟨by have := HM.out; dsimp only; omega, hq1⟩
                obtain ⟨pl, hpl⟩ : ∃ pl : Pl ws.length, pl = ⟨(j, q), hpq⟩ := ⟨_, rfl⟩
                have HYk := hid (HY.out pre pl w3 hJw (by have := HL.out; omega))
                rw [show lineV b off cap pl = .slice (some ⟨b, off + j, none⟩) q c by rw [hpl]; unfold lineV; dsimp only; rw [show cap - j = c by have := HCc.out; omega]] at HYk
                have HPL : Hid (pieceOf ws pl = (ws.drop j).take q) := by rw [hpl]; rfl
                clear hpl
                obtain ⟨fn, tmps, assign, body, hy, hR⟩ := HYk.out
                try dsimp only at hy
                have r1 : (0 : Int) ≤ (q : Int) := by omega
                have r2 : (q : Int) ≤ (c : Int) := by omega
                have r3 : q ≤ c := by omega
                have r4 : (q : Int) ≤ (m : Int) := by omega
                go_upto_region 12 with fail
                gi_wp2_with fail
                refine hR.mono ?_
                rintro e W3 ⟨rfl, hJ3, hk3⟩
                have hbx3 : Boxed W3 B2 23 (.slice (some ⟨b, off + j, none⟩) m c) := (hk3.2 B2 h2n h2o h2o).trans hbxw
                have hst3 := (hk3.2 B1 h1n h1o h1o).trans hstw
                have hrr3 : RdS W3 (.slice (some ⟨b, off, none⟩) ws.length cap) ws := hrw2.blk (fun k hk => by cases hk; exact hk3.2 b hbn hbo hbo)
                have hcb3 := hbx3.cell
                have hfb3 := hbx3.frozen
                have hc03 := HC0.out _ hst3
                have hc83 := HC8.out _ hst3
                have hsz3 : w.heap.size ≤ W3.heap.size := Nat.le_trans hsz (Nat.le_trans hBw.size hk3.1)
                have hwl2 : IntKind.i64.wrap (st.width - st.letter) = st.width - st.letter := IntWalk.i64_in _ (by omega)
                have hmx2 : Tryd.prog.follows .mixedOrders = true := by kernel_rfl
                clear hbxw hJw hrw2 hstw hk3 hcbw hy hR HYk
                gi_upto_region 13 with fail
                have hBd := (Below.refl W3.heap.size W3).drew
                have hbxd : Boxed W3.drew B2 23 (.slice (some ⟨b, off + j, none⟩) m c) := hbx3
                have hbx4 : Boxed (W3.setCell ⟨B2, 0, none⟩ (.slice (some ⟨b, off + j + q, none⟩) (m - q) (c - q))).drew B2 23 (.slice (some ⟨b, off + j + q, none⟩) (m - q) (c - q)) := hbxd.set _
                have HST4 : Hid ((W3.setCell ⟨B2, 0, none⟩ (.slice (some ⟨b, off + j + q, none⟩) (m - q) (c - q))).drew.heap[B1]? = some (.cells st.cells 25 (0, 0))) := (Below.heap_setCell _ _ _ _ (by simpa using h12)).trans hst3
                have hJd : J (pre ++ [pl]) W3.drew := HJA.out _ _ _ none hJ3 ⟨hBd.os, hBd.tape, hBd.output, hBd.size, fun k hk _ => hBd.block k hk⟩ (fun r e => by cases e)
                have hJ4 : J (pre ++ [pl]) (W3.setCell ⟨B2, 0, none⟩ (.slice (some ⟨b, off + j + q, none⟩) (m - q) (c - q))).drew := HJS.out _ _ (.slice (some ⟨b, off + j + q, none⟩) (m - q) (c - q)) hJd
                have hrr4 := (hrr3.below hBd).blk (W' := (W3.setCell ⟨B2, 0, none⟩ (.slice (some ⟨b, off + j + q, none⟩) (m - q) (c - q))).drew) (fun k hk => by cases hk; exact Below.heap_setCell _ _ _ _ (by simpa using hb2))
                have hsz4 : w.heap.size ≤ (W3.setCell ⟨B2, 0, none⟩ (.slice (some ⟨b, off + j + q, none⟩) (m - q) (c - q))).drew.heap.size := by
                  have h := hBd.size
                  show w.heap.size ≤ (Array.modify _ _ _).size
                  rw [Array.size_modify]
                  exact hsz3
                have hcn4 := hbx4.cell
                have HP4 : Hid ((pre ++ [pl]).map (pieceOf ws) ++ restL st (st.width - st.letter) (ws.drop (j + q)) = setL st ws) := by
                  rw [List.map_append, List.map_singleton, HPL.out, List.append_assoc, List.singleton_append, ← List.drop_drop, ← HQB.out]; exact HP.out
                clear hJ3 hrr3 hsz3 hbx3 hst3 hbxd hJd hBd
                gi_upto_region 13 with fail
                refine wpIn_wide.2 ?_
                refine' Code.wp_mono (Q := onNormal _ (W3.setCell ⟨B2, 0, none⟩ (.slice (some ⟨b, off + j + q, none⟩) (m - q) (c - q))).drew) (onNormal.elim ?post) ?reg
                case reg =>
                  go_region_with (fail)
                  all_goals exact ⟨rfl, rfl⟩
                case post =>
                generalize (W3.setCell ⟨B2, 0, none⟩ (.slice (some ⟨b, off + j + q, none⟩) (m - q) (c - q))).drew = V at *
                simp only [Act.put, List.getElem_toArray, List.getElem_cons_succ, List.getElem_cons_zero, List.setIfInBounds_toArray, List.set_cons_zero, List.set_cons_succ]
                go_wp2
                go_roundw
                case rel => exact ⟨j + q, (m - q), (c - q), pre ++ [pl], st.width - st.letter, _, by have := HM.out; unfold Hid; omega, by have := HCc.out; unfold Hid; omega, by omega, by omega, rfl, HP4.out, by omega, by have := HL.out; unfold Hid; rw [List.length_append, List.length_singleton]; omega, hJ4, hsz4, HST4.out, hbx4, fun _ => by rw [Nat.add_assoc], hrr4⟩
                case measure =>
                  rw [boxLen_eq hcn4, boxLen_eq hcb]; omega
              · have HQ2 : Hid (LineAt st room (ws.drop j) (wdt + (W + st.sp)) (q + 1)) := by
                  have h := HQ.out.next hq1 (x := x) (by rw [List.getElem?_drop]; exact HX.out) (by rw [HWD.out]; exact hbr)
                  rwa [HWD.out] at h
                go_wp2
                go_roundw
                case rel => exact ⟨q + 1, wdt + (W + st.sp), by omega, by go_num, by go_num, by go_num, HQ2.out, by omega, by omega, hBw⟩
                case measure => simp [intOf]; omega
        · have hqe : q = m := by omega
          have hq1 : 0 < q := by omega
          have hlen : (ws.drop j).length = q := by rw [List.length_drop]; have := HM.out; omega
          have HQB : Hid (restL st room (ws.drop j) = (ws.drop j).take q :: restL st (st.width - st.letter) ((ws.drop j).drop q)) := by
            have h := LineAt.done (st := st) (room := room) (ws := ws.drop j) (wdt := wdt) (by rw [hlen]; exact HQ.out) (by omega)
            rw [hlen] at h; exact h
          have hBw := hB
          clear hlen hc0 hc5 hc8 hsti
          by_cases hcq : c = q
          · subst hcq
            subst hqe
            have hbxw : Boxed wr B2 23 (.slice (some ⟨b, off + j, none⟩) c c) := (hBw.block B2 hbx.lt).trans hbx
            have hcbw := hbxw.cell
            have hJw : J pre wr := HJA.out _ _ _ none hJ ⟨hBw.os, hBw.tape, hBw.output, hBw.size, fun k hk _ => hBw.block k hk⟩ (fun r e => by cases e)
            have hrw2 := hrr.below hBw
            have hstw := (hBw.block B1 (Array.getElem?_eq_some_iff.1 HST.out).1).trans HST.out
            have hpq : ((j, c) : Nat × Nat).1 + ((j, c) : Nat × Nat).2 ≤ ws.length ∧ 0 < ((j, c) : Nat × Nat).2 := ⟨by have := HM.out; dsimp only; omega, hq1⟩
            obtain ⟨pl, hpl⟩ : ∃ pl : Pl ws.length, pl = ⟨(j, c), hpq⟩ := ⟨_, rfl⟩
            have HYk := hid (HY.out pre pl wr hJw (by have := HL.out; omega))
            rw [show lineV b off cap pl = .slice (some ⟨b, off + j, none⟩) c c by rw [hpl]; unfold lineV; dsimp only; rw [show cap - j = c by have := HCc.out; omega]] at HYk
            have HPL : Hid (pieceOf ws pl = (ws.drop j).take c) := by rw [hpl]; rfl
            clear hpl
            obtain ⟨fn, tmps, assign, body, hy, hR⟩ := HYk.out
            try dsimp only at hy
            have r1 : (0 : Int) ≤ (c : Int) := by omega
            have r2 : (c : Int) ≤ (c : Int) := by omega
            have r3 : c ≤ c := by omega
            have r4 : (c : Int) ≤ (c : Int) := by omega
            go_upto_region 12 with fail
            gi_wp2_with fail
            refine hR.mono ?_
            rintro e W3 ⟨rfl, hJ3, hk3⟩
            have hbx3 : Boxed W3 B2 23 (.slice (some ⟨b, off + j, none⟩) c c) := (hk3.2 B2 h2n h2o h2o).trans hbxw
            have hst3 := (hk3.2 B1 h1n h1o h1o).trans hstw
            have hrr3 : RdS W3 (.slice (some ⟨b, off, none⟩) ws.length cap) ws := hrw2.blk (fun k hk => by cases hk; exact hk3.2 b hbn hbo hbo)
            have hcb3 := hbx3.cell
            have hfb3 := hbx3.frozen
            have hc03 := HC0.out _ hst3
            have hc83 := HC8.out _ hst3
            have hsz3 : w.heap.size ≤ W3.heap.size := Nat.le_trans hsz (Nat.le_trans hBw.size hk3.1)
            have hwl2 : IntKind.i64.wrap (st.width - st.letter) = st.width - st.letter := IntWalk.i64_in _ (by omega)
            have hmx2 : Tryd.prog.follows .mixedOrders = true := by kernel_rfl
            clear hbxw hJw hrw2 hstw hk3 hcbw hy hR HYk
            gi_upto_region 13 with fail
            have hBd := (Below.refl W3.heap.size W3).drew
            have hbxd : Boxed W3.drew B2 23 (.slice (some ⟨b, off + j, none⟩) c c) := hbx3
            have hbx4 : Boxed (W3.setCell ⟨B2, 0, none⟩ (.slice (some ⟨b, off + j, none⟩) 0 0)).drew B2 23 (.slice (some ⟨b, off + j, none⟩) 0 0) := hbxd.set _
            have HST4 : Hid ((W3.setCell ⟨B2, 0, none⟩ (.slice (some ⟨b, off + j, none⟩) 0 0)).drew.heap[B1]? = some (.cells st.cells 25 (0, 0))) := (Below.heap_setCell _ _ _ _ (by simpa using h12)).trans hst3
            have hJd : J (pre ++ [pl]) W3.drew := HJA.out _ _ _ none hJ3 ⟨hBd.os, hBd.tape, hBd.output, hBd.size, fun k hk _ => hBd.block k hk⟩ (fun r e => by cases e)
            have hJ4 : J (pre ++ [pl]) (W3.setCell ⟨B2, 0, none⟩ (.slice (some ⟨b, off + j, none⟩) 0 0)).drew := HJS.out _ _ (.slice (some ⟨b, off + j, none⟩) 0 0) hJd
            have hrr4 := (hrr3.below hBd).blk (W' := (W3.setCell ⟨B2, 0, none⟩ (.slice (some ⟨b, off + j, none⟩) 0 0)).drew) (fun k hk => by cases hk; exact Below.heap_setCell _ _ _ _ (by simpa using hb2))
            have hsz4 : w.heap.size ≤ (W3.setCell ⟨B2, 0, none⟩ (.slice (some ⟨b, off + j, none⟩) 0 0)).drew.heap.size := by
              have h := hBd.size
              show w.heap.size ≤ (Array.modify _ _ _).size
              rw [Array.size_modify]
              exact hsz3
            have hcn4 := hbx4.cell
            have HP4 : Hid ((pre ++ [pl]).map (pieceOf ws) ++ restL st (st.width - st.letter) (ws.drop (j + c)) = setL st ws) := by
              rw [List.map_append, List.map_singleton, HPL.out, List.append_assoc, List.singleton_append, ← List.drop_drop, ← HQB.out]; exact HP.out
            clear hJ3 hrr3 hsz3 hbx3 hst3 hbxd hJd hBd
            gi_upto_region 13 with fail
            refine wpIn_wide.2 ?_
            refine' Code.wp_mono (Q := onNormal _ (W3.setCell ⟨B2, 0, none⟩ (.slice (some ⟨b, off + j, none⟩) 0 0)).drew) (onNormal.elim ?post) ?reg
            case reg =>
              go_region_with (fail)
              all_goals exact ⟨rfl, rfl⟩
            case post =>
            generalize (W3.setCell ⟨B2, 0, none⟩ (.slice (some ⟨b, off + j, none⟩) 0 0)).drew = V at *
            simp only [Act.put, List.getElem_toArray, List.getElem_cons_succ, List.getElem_cons_zero, List.setIfInBounds_toArray, List.set_cons_zero, List.set_cons_succ]
            go_wp2
            go_roundw
            case rel => exact ⟨j + c, 0, 0, pre ++ [pl], st.width - st.letter, _, by have := HM.out; unfold Hid; omega, by have := HCc.out; unfold Hid; omega, by omega, by omega, rfl, HP4.out, by omega, by have := HL.out; unfold Hid; rw [List.length_append, List.length_singleton]; omega, hJ4, hsz4, HST4.out, hbx4, fun h => absurd h (by omega), hrr4⟩
            case measure =>
              rw [boxLen_eq hcn4, boxLen_eq hcb]; omega
          · clear hqe
            have hbxw : Boxed wr B2 23 (.slice (some ⟨b, off + j, none⟩) m c) := (hBw.block B2 hbx.lt).trans hbx
            have hcbw := hbxw.cell
            have hJw : J pre wr := HJA.out _ _ _ none hJ ⟨hBw.os, hBw.tape, hBw.output, hBw.size, fun k hk _ => hBw.block k hk⟩ (fun r e => by cases e)
            have hrw2 := hrr.below hBw
            have hstw := (hBw.block B1 (Array.getElem?_eq_some_iff.1 HST.out).1).trans HST.out
            have hpq : ((j, q) : Nat × Nat).1 + ((j, q) : Nat × Nat).2 ≤ ws.length ∧ 0 < ((j, q) : Nat × Nat).2 := ⟨by have := HM.out; dsimp only; omega, hq1⟩
            obtain ⟨pl, hpl⟩ : ∃ pl : Pl ws.length, pl = ⟨(j, q), hpq⟩ := ⟨_, rfl⟩
            have HYk := hid (HY.out pre pl wr hJw (by have := HL.out; omega))
            rw [show lineV b off cap pl = .slice (some ⟨b, off + j, none⟩) q c by rw [hpl]; unfold lineV; dsimp only; rw [show cap - j = c by have := HCc.out; omega]] at HYk
            have HPL : Hid (pieceOf ws pl = (ws.drop j).take q) := by rw [hpl]; rfl
            clear hpl
            obtain ⟨fn, tmps, assign, body, hy, hR⟩ := HYk.out
            try dsimp only at hy
            have r1 : (0 : Int) ≤ (q : Int) := by omega
            have r2 : (q : Int) ≤ (c : Int) := by omega
            have r3 : q ≤ c := by omega
            have r4 : (q : Int) ≤ (m : Int) := by omega
            go_upto_region 12 with fail
            gi_wp2_with fail
            refine hR.mono ?_
            rintro e W3 ⟨rfl, hJ3, hk3⟩
            have hbx3 : Boxed W3 B2 23 (.slice (some ⟨b, off + j, none⟩) m c) := (hk3.2 B2 h2n h2o h2o).trans hbxw
            have hst3 := (hk3.2 B1 h1n h1o h1o).trans hstw
            have hrr3 : RdS W3 (.slice (some ⟨b, off, none⟩) ws.length cap) ws := hrw2.blk (fun k hk => by cases hk; exact hk3.2 b hbn hbo hbo)
            have hcb3 := hbx3.cell
            have hfb3 := hbx3.frozen
            have hc03 := HC0.out _ hst3
            have hc83 := HC8.out _ hst3
            have hsz3 : w.heap.size ≤ W3.heap.size := Nat.le_trans hsz (Nat.le_trans hBw.size hk3.1)
            have hwl2 : IntKind.i64.wrap (st.width - st.letter) = st.width - st.letter := IntWalk.i64_in _ (by omega)
            have hmx2 : Tryd.prog.follows .mixedOrders = true := by kernel_rfl
            clear hbxw hJw hrw2 hstw hk3 hcbw hy hR HYk
            gi_upto_region 13 with fail
            have hBd := (Below.refl W3.heap.size W3).drew
            have hbxd : Boxed W3.drew B2 23 (.slice (some ⟨b, off + j, none⟩) m c) := hbx3
            have hbx4 : Boxed (W3.setCell ⟨B2, 0, none⟩ (.slice (some ⟨b, off + j + q, none⟩) (m - q) (c - q))).drew B2 23 (.slice (some ⟨b, off + j + q, none⟩) (m - q) (c - q)) := hbxd.set _
            have HST4 : Hid ((W3.setCell ⟨B2, 0, none⟩ (.slice (some ⟨b, off + j + q, none⟩) (m - q) (c - q))).drew.heap[B1]? = some (.cells st.cells 25 (0, 0))) := (Below.heap_setCell _ _ _ _ (by simpa using h12)).trans hst3
            have hJd : J (pre ++ [pl]) W3.drew := HJA.out _ _ _ none hJ3 ⟨hBd.os, hBd.tape, hBd.output, hBd.size, fun k hk _ => hBd.block k hk⟩ (fun r e => by cases e)
            have hJ4 : J (pre ++ [pl]) (W3.setCell ⟨B2, 0, none⟩ (.slice (some ⟨b, off + j + q, none⟩) (m - q) (c - q))).drew := HJS.out _ _ (.slice (some ⟨b, off + j + q, none⟩) (m - q) (c - q)) hJd
            have hrr4 := (hrr3.below hBd).blk (W' := (W3.setCell ⟨B2, 0, none⟩ (.slice (some ⟨b, off + j + q, none⟩) (m - q) (c - q))).drew) (fun k hk => by cases hk; exact Below.heap_setCell _ _ _ _ (by simpa using hb2))
            have hsz4 : w.heap.size ≤ (W3.setCell ⟨B2, 0, none⟩ (.slice (some ⟨b, off + j + q, none⟩) (m - q) (c - q))).drew.heap.size := by
              have h := hBd.size
              show w.heap.size ≤ (Array.modify _ _ _).size
              rw [Array.size_modify]
              exact hsz3
            have hcn4 := hbx4.cell
            have HP4 : Hid ((pre ++ [pl]).map (pieceOf ws) ++ restL st (st.width - st.letter) (ws.drop (j + q)) = setL st ws) := by
              rw [List.map_append, List.map_singleton, HPL.out, List.append_assoc, List.singleton_append, ← List.drop_drop, ← HQB.out]; exact HP.out
            clear hJ3 hrr3 hsz3 hbx3 hst3 hbxd hJd hBd
            gi_upto_region 13 with fail
            refine wpIn_wide.2 ?_
            refine' Code.wp_mono (Q := onNormal _ (W3.setCell ⟨B2, 0, none⟩ (.slice (some ⟨b, off + j + q, none⟩) (m - q) (c - q))).drew) (onNormal.elim ?post) ?reg
            case reg =>
              go_region_with (fail)
              all_goals exact ⟨rfl, rfl⟩
            case post =>
            generalize (W3.setCell ⟨B2, 0, none⟩ (.slice (some ⟨b, off + j + q, none⟩) (m - q) (c - q))).drew = V at *
            simp only [Act.put, List.getElem_toArray, List.getElem_cons_succ, List.getElem_cons_zero, List.setIfInBounds_toArray, List.set_cons_zero, List.set_cons_succ]
            go_wp2
            go_roundw
            case rel => exact ⟨j + q, (m - q), (c - q), pre ++ [pl], st.width - st.letter, _, by have := HM.out; unfold Hid; omega, by have := HCc.out; unfold Hid; omega, by omega, by omega, rfl, HP4.out, by omega, by have := HL.out; unfold Hid; rw [List.length_append, List.length_singleton]; omega, hJ4, hsz4, HST4.out, hbx4, fun _ => by rw [Nat.add_assoc], hrr4⟩
            case measure =>
              rw [boxLen_eq hcn4, boxLen_eq hcb]; omega
    · obtain rfl : m = 0 := by omega
      have HD : Hid (pre.map (pieceOf ws) = setL st ws) := by
        have h := HP.out
        rw [List.drop_of_length_le (by have := HM.out; omega)] at h
        exact hid (by simpa [restL] using h)
      clear HP hA
      gi_wp2
      go_end0
      exact ⟨⟨_, rfl⟩, pre, HD.out, hJ⟩
end Go.Proofs.YtlneimjenjpbnaaDoor
