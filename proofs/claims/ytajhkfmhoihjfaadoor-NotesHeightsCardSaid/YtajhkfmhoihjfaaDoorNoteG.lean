/-
  The reference: Set, Height, Join.
-/
import Derived.Test.YtajhkfmhoihjfaaDoorNoteF
import Derived.Test.YtajhkfmhoihjfaaDoorRclus
import Derived.Test.YtajhkfmhoihjfaaDoorLawA
import Derived.Deep.RegionHeld3
import Derived.BigRegion
namespace Go.Proofs.YtajhkfmhoihjfaaDoor
open Go.RowKit Go.Shelf

theorem joinB_snoc {l : List ByteArray} (h : l ≠ []) (x : ByteArray) : (joinB l ++ ⟨#[32]⟩) ++ x = joinB (l ++ [x]) := by
  apply ba_ext
  unfold joinB
  rw [List.map_append, List.map_singleton, join_append (by simpa using h) (by simp), Lib.join_one]
  simp [ByteArray.data_append]
theorem joinB_one (x : ByteArray) : joinB [x] = x := by
  apply ba_ext
  unfold joinB
  simp [Lib.join_one]

/-- Where the reference stands behind k words (k > 0): the lines that are closed, the words of the last one, and what it holds. -/
structure RAt (st : St) (ws : List ByteArray) (k : Nat) (A : List ByteArray) (y : ByteArray) (room wdt : Int) : Prop where
  ex : ∃ L cur, A = L.map joinB ∧ cur ≠ [] ∧ y = joinB cur ∧ L ++ goL st room wdt cur (ws.drop k) = setL st ws
theorem RAt.start {st : St} {ws : List ByteArray} {x : ByteArray} (hx : ws[0]? = some x) : RAt st ws 1 [] x st.width (wd st x) := by
  cases ws with
  | nil => cases hx
  | cons y r =>
    obtain rfl : y = x := by simpa using hx
    exact ⟨[], [y], rfl, by simp, (joinB_one y).symm, rfl⟩
theorem RAt.on {st : St} {ws : List ByteArray} {k : Nat} {A : List ByteArray} {y x : ByteArray} {room wdt : Int} (h : RAt st ws k A y room wdt) (hx : ws[k]? = some x) (hr : ¬ room < wdt + (wd st x + st.sp)) : RAt st ws (k + 1) A ((y ++ ⟨#[32]⟩) ++ x) room (wdt + (wd st x + st.sp)) := by
  obtain ⟨L, cur, h1, h2, h3, h4⟩ := h
  obtain ⟨hk, he⟩ := List.getElem?_eq_some_iff.1 hx
  refine ⟨L, cur ++ [x], h1, by simp, by rw [h3]; exact joinB_snoc h2 x, ?_⟩
  rw [← h4, List.drop_eq_getElem_cons hk, he, goL, if_neg hr]
theorem RAt.cut {st : St} {ws : List ByteArray} {k : Nat} {A : List ByteArray} {y x : ByteArray} {room wdt : Int} (h : RAt st ws k A y room wdt) (hx : ws[k]? = some x) (hr : room < wdt + (wd st x + st.sp)) : RAt st ws (k + 1) (A ++ [y]) x (st.width - st.letter) (wd st x) := by
  obtain ⟨L, cur, h1, h2, h3, h4⟩ := h
  obtain ⟨hk, he⟩ := List.getElem?_eq_some_iff.1 hx
  refine ⟨L ++ [cur], [x], by rw [List.map_append, h1, h3]; rfl, by simp, (joinB_one x).symm, ?_⟩
  rw [← h4, List.drop_eq_getElem_cons hk, he, goL, if_pos hr, List.append_assoc]; rfl
theorem RAt.done {st : St} {ws : List ByteArray} {A : List ByteArray} {y : ByteArray} {room wdt : Int} (h : RAt st ws ws.length A y room wdt) : A ++ [y] = (setL st ws).map joinB := by
  obtain ⟨L, cur, h1, h2, h3, h4⟩ := h
  rw [List.drop_of_length_le (Nat.le_refl _)] at h4
  rw [← h4, goL, List.map_append, h1, h3]; rfl

theorem infoStrG : (Tryd.prog.info? 9).map (fun i => (i.zero, i.size, i.bytes)) = some (some (.string ⟨#[]⟩), 1, 16) := by kernel_rfl

theorem st_facts' {st : St} {W : World} {B : Nat} (h : W.heap[B]? = some (.cells st.cells 25 (0, 0))) :
    W.cell? ⟨B, 0, none⟩ = some (.int .i64 st.width) ∧ W.cell? ⟨B, 1, none⟩ = some (.int .i64 st.lh) ∧ W.cell? ⟨B, 2, none⟩ = some (.int .i64 st.nh) ∧ W.cell? ⟨B, 3, none⟩ = some (.int .i64 st.ph) ∧
    W.cell? ⟨B, 4, none⟩ = some (.int .i64 st.gap) ∧ W.cell? ⟨B, 5, none⟩ = some (.int .i64 st.sp) ∧ W.cell? ⟨B, 6, none⟩ = some (.int .i64 st.stretch) ∧ W.cell? ⟨B, 7, none⟩ = some (.int .i64 st.shrink) ∧
    W.cell? ⟨B, 8, none⟩ = some (.int .i64 st.letter) ∧ W.cell? ⟨B, 9, none⟩ = some (.int .i64 st.hyphen) ∧ W.cell? ⟨B, 10, none⟩ = some (.int .i64 st.every) ∧
    W.cell? ⟨B, 11, none⟩ = some (.slice st.pos.1 st.pos.2.1 st.pos.2.2) ∧ W.cell? ⟨B, 12, none⟩ = some (.slice st.lay.1 st.lay.2.1 st.lay.2.2) :=
  ⟨cell_st h 0 rfl, cell_st h 1 rfl, cell_st h 2 rfl, cell_st h 3 rfl, cell_st h 4 rfl, cell_st h 5 rfl, cell_st h 6 rfl, cell_st h 7 rfl, cell_st h 8 rfl, cell_st h 9 rfl, cell_st h 10 rfl, cell_st h 11 rfl, cell_st h 12 rfl⟩

set_option maxHeartbeats 4000000 in
set_option maxRecDepth 100000 in
theorem rset_any (st : St) (s : ByteArray) (w : World) :
    Calls Tryd.prog 16 #[.agg st.cells, .string s] w fun e w' => ∃ v, e = .returned (.tuple #[v, .int .i64 (setI st s)]) ∧ RdS w' v (setR st s) ∧ Below w.heap.size w w' := by
  have HS := fun w' => hid (rstyle_any st w')
  have hb0 := below_al w (.cells st.cells 25)
  have HT := fun w' => hid (rntext_any s w')
  have hnw := World.alloc_heap_new w (.cells st.cells 25)
  have hlt0 : w.heap.size < (w.alloc (.cells st.cells 25)).heap.size := by simp
  by_cases h0 : styleI st = 0
  · rw [h0] at HS
    by_cases hn : noteI s = 0
    · have HI : Hid (setI st s = 0) := by unfold setI; rw [if_neg (by omega)]; exact hn
      have HR : Hid (setR st s = (setL st (splitS s)).map joinB) := by unfold setR; rw [HI.out]; rfl
      have hnl : noteL s = splitS s := by unfold noteL; rw [if_pos hn]
      rw [hn, hnl] at HT
      obtain ⟨kw, kl, ks', kn⟩ := style_ok h0
      have hwl : (splitS s).length ≤ 65537 := by have h1 := splitS_len s; have h2 := noteI_size hn; omega
      have hws : ∀ x ∈ splitS s, x.size ≤ 65536 := fun x hx => Nat.le_trans (splitS_size s x hx) (noteI_size hn)
      have hne : 0 < (splitS s).length := by rw [splitS_count]; omega
      have HWS := hid hws
      clear hws hn hnl h0
      generalize splitS s = ws at *
      have HST0 := hid hnw
      have HLT0 := hid hlt0
      have HB0 := hid hb0
      clear hnw hlt0 hb0
      unfold St.cells at HS
      have HS' := HS (w.alloc (.cells st.cells 25))
      unfold St.cells at HS'
      obtain ⟨SC, hSC⟩ : ∃ SC, SC = st.cells := ⟨_, rfl⟩
      unfold St.cells
      go_enter Tryd.func16, Tryd.ntmps16
      go_wp2_with fail
      refine HS'.out.mono ?_
      rintro e w1 ⟨rfl, hB1⟩
      change Below (w.alloc (.cells st.cells 25)).heap.size (w.alloc (.cells st.cells 25)) w1 at hB1
      have HST1 := hid ((hB1.block w.heap.size HLT0.out).trans HST0.out)
      have HLT1 : Hid (w.heap.size < w1.heap.size) := Nat.lt_of_lt_of_le HLT0.out hB1.size
      have HB1 := hid (below_tr HB0.out hB1)
      clear hB1 HST0 HLT0 HB0 HS HS' hSC
      go_wp2_with fail
      refine (HT _).out.mono ?_
      rintro e w2 ⟨v2, rfl, hr2, hB2⟩
      obtain ⟨a2, cap2, rfl, hlc2, hcm2, hcell2⟩ := hr2.open
      have HST2 := hid ((hB2.block w.heap.size HLT1.out).trans HST1.out)
      have HLT2 : Hid (w.heap.size < w2.heap.size) := Nat.lt_of_lt_of_le HLT1.out hB2.size
      have HB2 := hid (below_tr HB1.out hB2)
      have HC2 := hid hcell2
      clear hB2 HST1 HLT1 HB1 HT hr2 hcell2
      have hst2 := HST2.out
      have f0 : w2.cell? ⟨w.heap.size, 0, none⟩ = some (.int .i64 st.width) := cell_st hst2 0 rfl
      have f0' := cell_al f0 (.cells #[] 9)
      clear hst2
      go_wp2
      obtain ⟨W2, hW2⟩ : ∃ W2, W2 = w2.alloc (.cells #[] 9) := ⟨_, rfl⟩
      have HB3 : Hid (Below w2.heap.size w2 W2) := by rw [hW2]; exact below_al _ _
      have HOWN0 : Hid (W2.ownsRow w2.heap.size 9 1 (.slice (some ⟨w2.heap.size, 0, none⟩) 0 0) 0 []) := by rw [hW2]; exact World.ownsRow_made w2 #[] 0 (Nat.le_refl _) (by unfold maxLen; omega) rfl
      clear f0 f0'
      go_loopw [9, 10, 11, 12] (fun ov rm wv i wr => ∃ (k : Nat) (A : List ByteArray) (y : ByteArray) (room wdt : Int), k ≤ ws.length ∧ i = .int .i64 k ∧ rm = .int .i64 room ∧ wv = .int .i64 wdt ∧
          ((k = 0 ∧ room = st.width ∧ wdt = 0 ∧ wr.ownsRow w2.heap.size 9 1 ov 0 []) ∨ (0 < k ∧ Hid (RAt st ws k A y room wdt) ∧ A.length + 1 ≤ k ∧ y.size ≤ k * 65537 ∧ wr.ownsRow w2.heap.size 9 1 ov (A.length + 1) ((A ++ [y]).map Value.string))) ∧
          (-1073741824 ≤ room ∧ room ≤ 1073741824) ∧ 0 ≤ wdt ∧ wdt ≤ k * 70369817919488 ∧ Hid (Below w2.heap.size w2 wr)) (fun _ _ _ i _ => ws.length - (intOf i).toNat)
      case atStart => exact ⟨0, [], ⟨#[]⟩, st.width, 0, by omega, rfl, rfl, rfl, .inl ⟨rfl, rfl, rfl, by rw [← hW2]; exact HOWN0.out⟩, by omega, by omega, by omega, by rw [← hW2]; exact HB3.out⟩
      case round =>
        obtain ⟨k, A, y, room, wdt, hk, rfl, rfl, rfl, hcase, hroom, hw0, hw1, HB⟩ := hrel
        have hst := (HB.out.block w.heap.size HLT2.out).trans HST2.out
        obtain ⟨f0, f1, f2, f3, f4, f5, f6, f7, f8, f9, f10, f11, f12⟩ := st_facts' hst
        by_cases hkn : k < ws.length
        · obtain ⟨x, b5, o5, hx, rfl, hc0⟩ := HC2.out k hkn
          have hc := Below.keeps HB.out _ _ hc0
          have hxs := HWS.out x (List.mem_of_getElem? hx)
          have HX := hid hx
          have HCl := fun w' => hid (rclus_any x w' (by omega))
          have hcl := clN_le x
          have hwd : 0 ≤ st.letter * (clN x : Int) ∧ st.letter * (clN x : Int) ≤ 70368744177664 := by
            refine ⟨Int.mul_nonneg kl.1 (by omega), ?_⟩
            have h1 : st.letter * (clN x : Int) ≤ 1073741824 * (clN x : Int) := Int.mul_le_mul_of_nonneg_right kl.2 (by omega)
            omega
          obtain ⟨W, hW⟩ : ∃ W, st.letter * (clN x : Int) = W := ⟨_, rfl⟩
          rw [hW] at hwd
          have HWD : Hid (wd st x = W) := hW
          have hwrW : IntKind.i64.wrap W = W := IntWalk.i64_in _ (by omega)
          have HST3 := hid hst
          clear hx hc0 hst
          rcases hcase with ⟨hk0, rfl, rfl, hown⟩ | ⟨hk0, HR2, hAk, hys, hown⟩
          · have HRA : Hid (RAt st ws 1 [] x st.width W) := by
              have hxk := HX.out
              rw [hk0] at hxk
              have h := RAt.start (st := st) hxk
              rwa [HWD.out] at h
            have hk0i : ¬ (0 : Int) < (k : Int) := by omega
            have HK0 := hid hk0
            clear hk0
            go_wp2_with fail
            go_region_held3 (fun w' => w'.cell? ⟨w.heap.size, 8, none⟩ = some (.int .i64 st.letter) ∧ w'.cell? ⟨b5, o5 + k, none⟩ = some (.string x) ∧ Below wr.heap.size wr w')
              ((refine ⟨?_, ?_, ?_⟩ <;> first | assumption | (exact Below.refl _ _) | (exact Below.drew (by assumption)) | (exact (Below.refl _ _).drew) | go_keep))
              (first
                | (go_at_call 42; go_split_ands; refine (HCl _).out.mono ?_; rintro e w3 ⟨v', ks, rfl, hks, hkl, hB'⟩; obtain ⟨a', cap', rfl, _, _, _⟩ := hks.open; rw [hkl]; have k1 : w3.cell? ⟨w.heap.size, 8, none⟩ = some (.int .i64 st.letter) := Below.keeps hB' _ _ (by assumption); have k3 := Below.keeps hB' _ _ (by assumption : World.cell? _ ⟨b5, o5 + k, none⟩ = some _); have k2 : Below wr.heap.size wr w3 := below_tr (by assumption) hB'))
            all_goals go_split_ands
            have hown3 := own_below hown k2
            have HB3w := hid (HB.out.trans (k2.mono HB.out.size))
            have HSZ3 := hid HB3w.out.size
            clear k1 k2 k3 hown HB
            go_wp2_with (at_builtin; refine wpList_ap2 rfl _ _ 23 rfl w2.heap.size 9 Tryd.underlying23 infoStrG rfl (by decide) (by decide) _ _ _ rfl hown3 [.string x] rfl (by simp [Value.oneCell']) rfl (by simp) (by omega) HSZ3.out ?_; intro g9 cap9 w9 hown9 hb9 _ _ _; have HB9 := hid (HB3w.out.trans hb9))
            go_roundw
            case rel => exact ⟨1, [], x, st.width, W, by omega, by rw [HK0.out]; rfl, rfl, rfl, .inr ⟨by omega, HRA.out, by simp, by omega, hown9⟩, by omega, by omega, by omega, HB9.out⟩
            case measure => simp [intOf]; omega
          · have hk0i : (0 : Int) < (k : Int) := by omega
            have hkb : (k : Int) * 70369817919488 ≤ 4611826785713455616 := by omega
            have ww1 : wrap64 (wdt + st.sp) = wdt + st.sp := IntWalk.wrap64_in _ (by omega)
            have ww2 : wrap64 (wdt + st.sp + W) = wdt + st.sp + W := IntWalk.wrap64_in _ (by omega)
            by_cases hfit : wdt + st.sp + W ≤ room
            · have HRA : Hid (RAt st ws (k + 1) A ((y ++ ⟨#[32]⟩) ++ x) room (wdt + st.sp + W)) := by
                have h := HR2.out.on HX.out (by rw [HWD.out]; omega)
                rwa [HWD.out, show wdt + (W + st.sp) = wdt + st.sp + W by omega] at h
              go_wp2_with fail
              go_region_held3 (fun w' => w'.cell? ⟨w.heap.size, 8, none⟩ = some (.int .i64 st.letter) ∧ w'.cell? ⟨b5, o5 + k, none⟩ = some (.string x) ∧ Below wr.heap.size wr w')
                ((refine ⟨?_, ?_, ?_⟩ <;> first | assumption | (exact Below.refl _ _) | (exact Below.drew (by assumption)) | (exact (Below.refl _ _).drew) | go_keep))
                (first
                  | (go_at_call 42; go_split_ands; refine (HCl _).out.mono ?_; rintro e w3 ⟨v', ks, rfl, hks, hkl, hB'⟩; obtain ⟨a', cap', rfl, _, _, _⟩ := hks.open; rw [hkl]; have k1 : w3.cell? ⟨w.heap.size, 8, none⟩ = some (.int .i64 st.letter) := Below.keeps hB' _ _ (by assumption); have k3 := Below.keeps hB' _ _ (by assumption : World.cell? _ ⟨b5, o5 + k, none⟩ = some _); have k2 : Below wr.heap.size wr w3 := below_tr (by assumption) hB'))
              all_goals go_split_ands
              have hown3 := own_below hown k2
              have HB3w := hid (HB.out.trans (k2.mono HB.out.size))
              have HST4 := hid ((k2.block w.heap.size (Nat.lt_of_lt_of_le HLT2.out HB.out.size)).trans HST3.out)
              clear f0 f1 f2 f3 f4 f5 f6 f7 f8 f9 f10 f11 f12
              obtain ⟨f0, f1, f2, f3, f4, f5, f6, f7, f8, f9, f10, f11, f12⟩ := st_facts' HST4.out
              clear hc k1 k2 hown HB
              rcases hown3.2 with ⟨_, hn0⟩ | ⟨g, cap, cur, rfl, hgb, hh, hgc, hgm, hgs, hgt⟩
              · omega
              have hcy : w3.cell? ⟨g, A.length, none⟩ = some (.string y) := by
                have h := hown3.cells rfl A.length (.string y) (by simp)
                have hadd : (⟨g, 0, none⟩ : Addr).add A.length = ⟨g, A.length, none⟩ := by unfold Addr.add; split <;> simp_all
                rwa [hadd] at h
              have hfy := hown3.frozenAt A.length
              have hst4 := hown3.stored A.length (.string ((y ++ ⟨#[32]⟩) ++ x))
              have HOWN5 : Hid ((w3.setCell ⟨g, A.length, none⟩ (.string ((y ++ ⟨#[32]⟩) ++ x))).drew.ownsRow w2.heap.size 9 1 (.slice (some ⟨g, 0, none⟩) (A.length + 1) cap) (A.length + 1) ((A ++ [(y ++ ⟨#[32]⟩) ++ x]).map Value.string)) := by
                have h := hst4.1
                rw [show ((A ++ [y]).map Value.string).set A.length (.string ((y ++ ⟨#[32]⟩) ++ x)) = (A ++ [(y ++ ⟨#[32]⟩) ++ x]).map Value.string by simp [List.set_append_right]] at h
                exact h.drew
              have HB5 : Hid (Below w2.heap.size w2 (w3.setCell ⟨g, A.length, none⟩ (.string ((y ++ ⟨#[32]⟩) ++ x))).drew) := (HB3w.out.setCell (p := ⟨g, A.length, none⟩) hgb _).drew
              have HST5 : Hid ((w3.setCell ⟨g, A.length, none⟩ (.string ((y ++ ⟨#[32]⟩) ++ x))).drew.heap[w.heap.size]? = some (.cells st.cells 25 (0, 0))) := (Below.heap_setCell _ _ _ _ (by have := HLT2.out; dsimp only; omega)).trans HST4.out
              have hsz : ((y ++ (⟨#[32]⟩ : ByteArray)) ++ x).size ≤ (k + 1) * 65537 := by
                rw [ByteArray.size_append, ByteArray.size_append]
                have : (ByteArray.mk #[32]).size = 1 := rfl
                omega
              have z1 : y.size ≤ 4295098369 := by omega
              have z2 : ¬ 9223372036854775807 < y.size + 1 := by omega
              have z3 : ¬ 9223372036854775807 < y.size + 1 + x.size := by omega
              have z4 : IntKind.i64.wrap (A.length : Int) = (A.length : Int) := IntWalk.i64_in _ (by omega)
              have z5 : (A.length : Int) < (A.length : Int) + 1 := by omega
              have HSZ := hid hsz
              clear hst4 hown3 hh hgs hgt hgb hsz
              go_wp2_with fail
              go_region
              all_goals
                generalize (w3.setCell ⟨g, A.length, none⟩ (.string ((y ++ ⟨#[32]⟩) ++ x))).drew = w5 at *
                obtain ⟨e0, e1, e2, e3, e4, e5, e6, e7, e8, e9, e10, e11, e12⟩ := st_facts' HST5.out
                clear z2 z3 z4 z5 hcy hfy k3
                go_wp2
                go_roundw
                case rel => exact ⟨k + 1, A, (y ++ ⟨#[32]⟩) ++ x, room, wdt + st.sp + W, by omega, by go_num, rfl, by go_num, .inr ⟨by omega, HRA.out, by omega, HSZ.out, HOWN5.out⟩, by omega, by omega, by omega, HB5.out⟩
                case measure => simp [intOf]; omega
            · have HRA : Hid (RAt st ws (k + 1) (A ++ [y]) x (st.width - st.letter) W) := by
                have h := HR2.out.cut HX.out (by rw [HWD.out]; omega)
                rwa [HWD.out] at h
              have ww3 : wrap64 (st.width - st.letter) = st.width - st.letter := IntWalk.wrap64_in _ (by omega)
              have hAl : (A ++ [y]).length = A.length + 1 := by simp
              have HAL := hid hAl
              clear hAl
              go_wp2_with fail
              go_region_held3 (fun w' => w'.cell? ⟨w.heap.size, 8, none⟩ = some (.int .i64 st.letter) ∧ w'.cell? ⟨b5, o5 + k, none⟩ = some (.string x) ∧ Below wr.heap.size wr w')
                ((refine ⟨?_, ?_, ?_⟩ <;> first | assumption | (exact Below.refl _ _) | (exact Below.drew (by assumption)) | (exact (Below.refl _ _).drew) | go_keep))
                (first
                  | (go_at_call 42; go_split_ands; refine (HCl _).out.mono ?_; rintro e w3 ⟨v', ks, rfl, hks, hkl, hB'⟩; obtain ⟨a', cap', rfl, _, _, _⟩ := hks.open; rw [hkl]; have k1 : w3.cell? ⟨w.heap.size, 8, none⟩ = some (.int .i64 st.letter) := Below.keeps hB' _ _ (by assumption); have k3 := Below.keeps hB' _ _ (by assumption : World.cell? _ ⟨b5, o5 + k, none⟩ = some _); have k2 : Below wr.heap.size wr w3 := below_tr (by assumption) hB'))
              all_goals go_split_ands
              have hown3 := own_below hown k2
              have HB3w := hid (HB.out.trans (k2.mono HB.out.size))
              have HST4 := hid ((k2.block w.heap.size (Nat.lt_of_lt_of_le HLT2.out HB.out.size)).trans HST3.out)
              clear f0 f1 f2 f3 f4 f5 f6 f7 f8 f9 f10 f11 f12
              obtain ⟨f0, f1, f2, f3, f4, f5, f6, f7, f8, f9, f10, f11, f12⟩ := st_facts' HST4.out
              have HSZ3 := hid HB3w.out.size
              clear hc k1 k2 hown HB
              go_wp2_with (at_builtin; refine wpList_ap2 rfl _ _ 23 rfl w2.heap.size 9 Tryd.underlying23 infoStrG rfl (by decide) (by decide) _ _ _ rfl hown3 [.string x] rfl (by simp [Value.oneCell']) rfl (by simp) (by omega) HSZ3.out ?_; intro g9 cap9 w9 hown9 hb9 _ _ _; have HB9 := hid (HB3w.out.trans hb9))
              go_roundw
              case rel => exact ⟨k + 1, A ++ [y], x, st.width - st.letter, W, by omega, by go_num, rfl, rfl, .inr ⟨by omega, HRA.out, by rw [HAL.out]; omega, by omega, by rw [HAL.out, List.map_append]; exact hown9⟩, by omega, by omega, by omega, HB9.out⟩
              case measure => simp [intOf]; omega
        · rcases hcase with ⟨hk0, _, _, _⟩ | ⟨hk0, HR2, hAk, hys, hown⟩
          · omega
          · obtain rfl : k = ws.length := by omega
            have hd := HR2.out.done
            have hr := Rd.of_own (l := A ++ [y]) (enc := Value.string) (by rw [List.length_append, List.length_singleton]; exact hown)
            rw [hd] at hr
            obtain ⟨a9, cap9, rfl, _, _, _⟩ := hr.open
            have HRD := hid hr
            have HBE := hid (below_tr HB2.out HB.out)
            clear hown hr hd f0 f1 f2 f3 f4 f5 f6 f7 f8 f9 f10 f11 f12 hst
            go_wp2
            go_ret2
            exact ⟨_, by rw [HI.out]; rfl, by rw [HR.out]; exact HRD.out, HBE.out⟩
    · have HI : Hid (setI st s = noteI s) := by unfold setI; rw [if_neg (by omega)]; rfl
      have HR : Hid (setR st s = []) := by unfold setR; rw [HI.out, if_neg hn]; rfl
      have hb : (noteI s == 0) = false := by simpa using hn
      generalize noteI s = ni at *
      unfold St.cells at *
      go_enter Tryd.func16, Tryd.ntmps16
      go_wp2_with fail
      refine (HS _).out.mono ?_
      rintro e w1 ⟨rfl, hB1⟩
      have HB1 := hid (below_tr hb0 hB1)
      clear hB1 hb0 HS hnw hlt0
      go_wp2_with fail
      refine (HT _).out.mono ?_
      rintro e w2 ⟨v2, rfl, hr2, hB2⟩
      obtain ⟨a2, cap2, rfl, hlc2, hcm2, _⟩ := hr2.open
      have HB2 := hid (below_tr HB1.out hB2)
      clear hB2 hr2
      go_wp2
      go_ret2
      exact ⟨_, by rw [HI.out]; rfl, by rw [HR.out]; exact Rd.nil _, HB2.out⟩
  · have HI : Hid (setI st s = styleI st) := by unfold setI; rw [if_pos h0]; rfl
    have HR : Hid (setR st s = []) := by unfold setR; rw [HI.out, if_neg h0]; rfl
    have hb : (styleI st == 0) = false := by simpa using h0
    clear HT
    generalize styleI st = se at *
    unfold St.cells at *
    go_enter Tryd.func16, Tryd.ntmps16
    go_wp2_with fail
    refine (HS _).out.mono ?_
    rintro e w1 ⟨rfl, hB1⟩
    have HB1 := hid (below_tr hb0 hB1)
    clear hB1 hb0 HS hnw hlt0
    go_wp2
    go_ret2
    exact ⟨_, by rw [HI.out]; rfl, by rw [HR.out]; exact Rd.nil _, HB1.out⟩
end Go.Proofs.YtajhkfmhoihjfaaDoor
