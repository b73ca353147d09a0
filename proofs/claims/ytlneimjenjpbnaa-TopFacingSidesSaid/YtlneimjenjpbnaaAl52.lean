/-
  top52Alone: the page ends of one side.
-/
import Derived.Test.YtlneimjenjpbnaaFck
import Derived.Test.YtlneimjenjpbnaaNsm
namespace Go.Proofs.Ytlneimjenjpbnaa
open Go.RowKit

def spM (l : List (Nat × Nat)) : List (List Int) := l.map fun x => [(x.1 : Int), (x.2 : Int)]
def sdF (k : Nat) (x : Nat × Nat) : Nat := if k = 0 then x.1 else x.2
set_option maxRecDepth 100000 in
set_option maxHeartbeats 4000000 in
theorem alone_any (l : List (Nat × Nat)) (ve : Value) (side : Nat) (w : World) (hs : side < 2) (hr : RdM w ve (spM l)) (hl : l.length ≤ 1000000) :
    Calls Try.prog 8 #[ve, .int .i64 side] w fun e w' => ∃ v, e = .returned v ∧ RdI w' v ((aloneF 0 (l.map (sdF side))).map Int.ofNat) ∧ Below w.heap.size w w' := by
  have HRD := hid hr
  have hsl : (spM l).length = l.length := by unfold spM; simp
  obtain ⟨a2, c2, hv, hl2, hm2, _⟩ := hr.open
  rw [hsl] at hv
  subst hv
  obtain ⟨R, hR⟩ : ∃ R, R = aloneF 0 (l.map (sdF side)) := ⟨_, rfl⟩
  rw [← hR]
  have HRR := hid hR
  clear hr hR hsl
  go_enter Try.func8, Try.ntmps8
  go_wp2_with fail
  go_loopw [5, 6, 11] (fun v u i wr => ∃ (k last : Nat) (out : List Nat), k ≤ l.length ∧ out.length ≤ k ∧ i = .int .i64 k ∧ u = .int .i64 last ∧ wr.ownsRow w.heap.size 3 1 v out.length (out.map fun x => Value.int .i64 ((x : Nat) : Int)) ∧ Hid (out ++ aloneF last ((l.drop k).map (sdF side)) = R) ∧ Below w.heap.size w wr) (fun _ _ i _ => l.length - (intOf i).toNat)
  case atStart => exact ⟨0, 0, [], Nat.zero_le _, Nat.le_refl _, rfl, rfl, World.ownsRow_nil _ _ _ _, by rw [List.nil_append, List.drop_zero, HRR.out]; exact rfl, Below.refl _ _⟩
  case round =>
    obtain ⟨k, last, out, hk, hol, rfl, rfl, hown, HK, hB⟩ := hrel
    by_cases hlt : k < l.length
    · obtain ⟨a3, c3, he, _, _, hcell⟩ := (HRD.out.below hB).open
      have hx : (spM l)[k]? = some [((l[k]).1 : Int), ((l[k]).2 : Int)] := by unfold spM; simp [hlt]
      obtain ⟨row, b, off, u, hrow, rfl, cu, hu⟩ := hcell k (by unfold spM; simpa using hlt)
      rw [hx] at hrow
      cases hrow
      rw [show (spM l).length = l.length by unfold spM; simp] at he
      cases he
      obtain ⟨bu, ou, cu', rfl, hcu2, d0, d1⟩ := two_rd hu rfl
      have hd : l.drop k = l[k] :: l.drop (k + 1) := List.drop_eq_getElem_cons hlt
      have dS : wr.cell? ⟨bu, ou + side, none⟩ = some (.int .i64 ((sdF side l[k] : Nat) : Int)) := by
        unfold sdF
        by_cases h0 : side = 0
        · subst h0
          rw [if_pos rfl]
          exact d0
        · obtain rfl : side = 1 := by omega
          rw [if_neg (by decide)]
          exact d1
      have HK2 : Hid (out ++ (if last < sdF side l[k] then sdF side l[k] :: aloneF (sdF side l[k]) ((l.drop (k + 1)).map (sdF side)) else aloneF last ((l.drop (k + 1)).map (sdF side))) = R) := by
        have h := HK.out
        rw [hd, List.map_cons, aloneF] at h
        exact h
      have hki : (k : Int) < (l.length : Int) := by omega
      have s0 : (0 : Int) ≤ (side : Int) := by omega
      have s1 : (side : Int) < 2 := by omega
      clear hcell hx hu hd HK d0 d1
      generalize sdF side l[k] = x at *
      by_cases hlx : last < x
      · have hxi : (last : Int) < (x : Int) := by omega
        have HK3 : Hid ((out ++ [x]) ++ aloneF x ((l.drop (k + 1)).map (sdF side)) = R) := by
          have h := HK2.out
          rw [if_pos hlx] at h
          rw [List.append_assoc]
          exact h
        clear HK2
        go_wp2_with (at_builtin; refine wpList_ap2 rfl _ _ 22 rfl w.heap.size 3 Try.underlying22 infoIntP rfl (by decide) (by decide) _ _ _ rfl hown [.int .i64 (x : Int)] rfl (by simp [Value.oneCell']) rfl (by simp) (by omega) hB.size ?_; intro g1 cap1 w9 hown' hb1 hgr hat _; clear hgr hat)
        go_roundw
        case rel => exact ⟨k + 1, x, out ++ [x], by omega, by simp; omega, by go_num, rfl, by simpa using hown', HK3.out, hB.trans hb1⟩
        case measure => simp [intOf]; omega
      · have hxi : ¬ (last : Int) < (x : Int) := by omega
        have HK3 : Hid (out ++ aloneF last ((l.drop (k + 1)).map (sdF side)) = R) := by
          have h := HK2.out
          rw [if_neg hlx] at h
          exact h
        clear HK2
        go_wp2_with fail
        go_roundw
        case rel => exact ⟨k + 1, last, out, by omega, by omega, by go_num, rfl, hown, HK3.out, hB⟩
        case measure => simp [intOf]; omega
    · have hki : ¬ (k : Int) < (l.length : Int) := by omega
      have HD : Hid (out = R) := by
        have h := HK.out
        rw [List.drop_of_length_le (by omega), List.map_nil, aloneF, List.append_nil] at h
        exact h
      have HV := hid (Rd.of_own (enc := fun x : Nat => Value.int .i64 (x : Int)) hown)
      clear HK hown
      go_wp2_with fail
      go_ret
      refine ⟨_, rfl, ?_, hB⟩
      obtain ⟨a', c', e1, e2, e3, e4⟩ := HV.out
      rw [← HD.out]
      refine ⟨a', c', by rw [List.length_map]; exact e1, by rw [List.length_map]; exact e2, e3, fun i x hx => ?_⟩
      rw [List.getElem?_map] at hx
      obtain ⟨y, hy, rfl⟩ := Option.map_eq_some_iff.1 hx
      exact e4 i y hy
end Go.Proofs.Ytlneimjenjpbnaa
