/-
  The reference's Clusters: how many there are.
-/
import Derived.Test.YtajhkfmhoihjfaaDoorClus
import Derived.StillTailTactics
import Derived.IntWalk
import Derived.Laws.OwnMore
namespace Go.Proofs.YtajhkfmhoihjfaaDoor
open Go.RowKit

theorem count_take_succ {l : List Bool} {k : Nat} {b : Bool} (h : l[k]? = some b) : (l.take (k + 1)).count false = (l.take k).count false + if b = true then 0 else 1 := by
  rw [List.take_add_one, h, List.count_append]
  cases b <;> rfl

set_option maxRecDepth 100000 in
set_option maxHeartbeats 4000000 in
theorem rclus_any (s : ByteArray) (w : World) (hs : s.size ≤ 1048576) :
    Calls Tryd.prog 42 #[.string s] w fun e w' => ∃ v ks, e = .returned v ∧ RdS w' v ks ∧ ks.length = clN s ∧ Below w.heap.size w w' := by
  have hrl : (rightL s.data.toList).length = s.size := by rw [rightL_len]; rfl
  have HR := fun w' => hid (right_any s w' hs)
  have HN := hid (clN_right s)
  have hb0 := below_al w (.cells #[] 9)
  go_enter Tryd.func42, Tryd.ntmps42
  go_wp2_with fail
  refine (HR _).out.mono ?_
  rintro e w1 ⟨v, rfl, hrv, hB1⟩
  have HB1 := hid (below_tr hb0 hB1)
  have hown0 := (World.ownsRow_made (base := w.heap.size) (e := 9) (size := 1) w #[] 0 (Nat.le_refl _) (by unfold maxLen; omega) rfl)
  have hown1 := own_below hown0 hB1
  have hrow1 := (hB1.block w.heap.size (by simp)).trans (World.alloc_heap_new w (.cells #[] 9))
  clear HR hb0 hB1 hown0
  obtain ⟨av, capv, rfl, hlv, hcv, _⟩ := hrv.open
  have HZ := hid (fun c h => rightL_zero s.data.toList c h)
  generalize rightL s.data.toList = R at *
  have hap0 : Apart R (.slice av R.length capv) (.slice (some ⟨w.heap.size, 0, none⟩) 0 0) := by
    intro hne b hb e
    obtain ⟨_, _, e1, _, _, hc⟩ := hrv.open
    cases e1
    obtain ⟨x, b', off, _, rfl, hx⟩ := hc 0 (List.length_pos_iff.2 hne)
    have e2 : b' = b := Option.some.inj hb
    have e3 : w.heap.size = b := Option.some.inj e
    subst e2
    rw [← e3, cell_of_row _ w.heap.size _ _ _ _ hrow1] at hx
    simp at hx
  clear hrow1
  go_wp2_with fail
  go_loopw [3, 5] (fun o i wr => ∃ (k : Nat) (ks : List ByteArray), k ≤ s.size ∧ i = .int .i64 k ∧ Hid (ks.length = (R.take k).count false) ∧ Hid (∀ x ∈ ks, x.size ≤ k) ∧ ks.length ≤ k ∧ Hid (0 < k → 0 < ks.length) ∧
      wr.ownsRow w.heap.size 9 1 o ks.length (ks.map Value.string) ∧ Rd Value.bool wr (.slice av R.length capv) R ∧ Apart R (.slice av R.length capv) o ∧ Below w.heap.size w wr) (fun _ i _ => s.size - (intOf i).toNat)
  case atStart => exact ⟨0, [], by omega, rfl, by simp [Hid], by simp [Hid], by simp, fun h => absurd h (by omega), hown1, hrv, hap0, HB1.out⟩
  case round =>
    clear hap0 hrv hown1
    obtain ⟨k, ks, hk, rfl, HL, HX, hkl, HP, hown, hrv, hap, hB⟩ := hrel
    by_cases hlt : k < s.size
    · obtain ⟨_, _, e1, _, _, hcellv⟩ := hrv.open
      cases e1
      obtain ⟨b, bv, ov, hbk, rfl, hcb⟩ := hcellv k (by omega)
      have HC := hid (count_take_succ hbk)
      clear hcellv
      have hE : (s.extract k (k + 1)).size = 1 := by rw [ByteArray.size_extract]; omega
      have q1 : (k : Int) + 1 ≤ (s.size : Int) := by omega
      cases b with
      | true =>
        have h0 : 0 < k := by
          rcases k with _ | k
          · have := HZ.out s[0] (byte_at s 0 hlt)
            rw [this] at hbk; cases hbk
          · omega
        have hp := HP.out h0
        obtain ⟨m, hm⟩ : ∃ m, ks.length = m + 1 := ⟨ks.length - 1, by omega⟩
        rw [hm] at hown
        obtain ⟨g, capg, rfl⟩ := ownsRow_succ hown
        have hmx : ks[m]? = some ks[m] := List.getElem?_eq_getElem (by omega)
        have hcell := hown.cellAt m (by omega)
        rw [List.getElem?_map, hmx] at hcell
        have hcell : wr.cell? ⟨g, m, none⟩ = some (.string ks[m]) := hcell
        have hfz := hown.frozenAt m
        have hxs := HX.out _ (List.mem_of_getElem? hmx)
        have hgb := (hown.lt g rfl).1
        have HX2 : Hid (∀ x ∈ ks.set m (ks[m] ++ s.extract k (k + 1)), x.size ≤ k + 1) := by
          intro x hx
          rcases List.mem_or_eq_of_mem_set hx with h | h
          · have := HX.out x h; omega
          · rw [h, ByteArray.size_append]; omega
        have HSet : Hid ((ks.map Value.string).set m (.string (ks[m] ++ s.extract k (k + 1))) = (ks.set m (ks[m] ++ s.extract k (k + 1))).map Value.string) := by rw [List.map_set]; rfl
        clear hbk
        generalize hx0 : ks[m] = x0 at *
        have f1 : IntKind.i64.wrap (m : Int) = (m : Int) := by rw [IntWalk.i64_in _ (by omega)]
        have f2 : IntKind.i64.wrap ((k : Int) + 1) = (k : Int) + 1 := by rw [IntWalk.i64_in _ (by omega)]
        have f3 : (0 : Int) ≤ (m : Int) := by omega
        have f4 : (m : Int) < (m : Int) + 1 := by omega
        have f5 : (0 : Int) ≤ (k : Int) + 1 := by omega
        have f6 : (k : Int) ≤ (k : Int) + 1 := by omega
        have f7 : ((k : Int) + 1).toNat = k + 1 := by omega
        have g1 : x0.size + 1 ≤ 9223372036854775807 := by omega
        have g2 : ¬ 9223372036854775807 < x0.size + 1 := by omega
        go_wp2
        go_still_tail 17, (by kernel_rfl)
        change wpList _ _ _ _ _ wr.drew
        have hownd := hown.drew
        have hcd : wr.drew.cell? ⟨g, m, none⟩ = some (.string x0) := hcell
        have hfd : wr.drew.frozen? ⟨g, m, none⟩ = false := hfz
        have hrvd := hrv.below (Below.refl wr.heap.size wr).drew
        have hBd := hB.drew
        clear hcell hfz hrv hB hown hcb
        generalize wr.drew = wd at *
        have HST := hid (hownd.stored m (.string (x0 ++ s.extract k (k + 1))))
        have hrv2 := hrvd.grown2 HST.out.2 (fun hne b hb => hap hne b hb)
        have hB2 := hBd.setCell (p := ⟨g, m, none⟩) hgb (.string (x0 ++ s.extract k (k + 1)))
        clear hownd hrvd hBd
        go_wp2
        go_roundw
        case rel =>
          refine ⟨k + 1, ks.set m (x0 ++ s.extract k (k + 1)), by omega, by go_num, by rw [HC.out, ← HL.out]; simp [Hid], HX2.out, by rw [List.length_set]; omega, fun _ => by rw [List.length_set]; omega, ?_, hrv2, hap, hB2⟩
          rw [List.length_set, hm, ← HSet.out]
          exact HST.out.1
        case measure => simp [intOf]; omega
      | false =>
        clear hbk
        go_wp2_with (at_builtin; refine wpList_ap2 rfl _ _ 23 rfl w.heap.size 9 Tryd.underlying23 infoStr' rfl (by decide) (by decide) _ _ _ rfl hown [.string (s.extract k (k + 1))] rfl (by simp [Value.oneCell']) rfl (by simp) (by omega) hB.size ?_; intro gB capB w3 hown3 hb1 hgr hat hg3)
        go_roundw
        case rel =>
          refine ⟨k + 1, ks ++ [s.extract k (k + 1)], by omega, by go_num, by rw [HC.out, ← HL.out]; simp [Hid], ?_, by rw [List.length_append, List.length_singleton]; omega, fun _ => by simp, by simpa using hown3, hrv.grown2 hgr (fun hne b hb => hap hne b hb), hap.app hrv hat, hB.trans hb1⟩
          intro x hx
          rcases List.mem_append.1 hx with h | h
          · have := HX.out x h; omega
          · rw [List.mem_singleton] at h; rw [h]; omega
        case measure => simp [intOf]; omega
    · obtain rfl : k = s.size := by omega
      have HL2 : Hid (ks.length = clN s) := by rw [HL.out, List.take_of_length_le (by omega)]; exact HN.out
      have hr := Rd.of_own (enc := Value.string) hown
      go_wp2
      go_ret
      exact ⟨_, _, rfl, hr, HL2.out, hB⟩
end Go.Proofs.YtajhkfmhoihjfaaDoor
