/-
  P50.6: the walk of NotesOrder.
-/
import Derived.Test.YtajhkfmhoihjfaaDoorPlO
import Derived.Test.YtajhkfmhoihjfaaDoorAwk
namespace Go.Proofs.YtajhkfmhoihjfaaDoor
open Go.RowKit Go.Shelf

theorem natI_get {L : List Nat} {i k : Nat} (h : L[i]? = some k) : (natI L)[i]? = some (k : Int) := by
  unfold natI; rw [List.getElem?_map, h]; rfl
theorem natI_any {L : List Nat} {k : Nat} (h : k ∉ L) : ((natI L).any fun x => decide ((k : Int) = x)) = false := by
  rw [List.any_eq_false]
  intro x hx
  unfold natI at hx
  obtain ⟨y, hy, rfl⟩ := List.mem_map.1 hx
  simp only [decide_eq_true_eq]
  intro e
  exact h (by rw [show k = y by omega]; exact hy)
theorem natI_take (L : List Nat) (i : Nat) : (natI L).take i = natI (L.take i) := by unfold natI; rw [List.map_take]

set_option maxHeartbeats 4000000 in
set_option maxRecDepth 100000 in
theorem lorder_any (v1 v2 : Value) (l1 l2 : List Int) (m : Int) (w : World) (hr1 : RdI w v1 l1) (hr2 : RdI w v2 l2) (hm : w.cell? ⟨0, 0, none⟩ = some (.int .i64 m)) :
    Calls Tryd.prog 8 #[v1, v2] w fun e w' => e = .returned (.bool true) ∧ Below w.heap.size w w' := by
  obtain ⟨a1, cap1, rfl, hc1, hm1, hcell1⟩ := hr1.open
  obtain ⟨a2, cap2, rfl, hc2, hm2, hcell2⟩ := hr2.open
  by_cases h12 : 12 < l1.length
  · have q1 : (12 : Int) < (l1.length : Int) := by omega
    go_enter Tryd.func8, Tryd.ntmps8
    go_wp2_with fail
    refine (awake_any m _ hm).mono ?_
    rintro e w2 ⟨rfl, hB2⟩
    go_wp2
    go_ret
    exact ⟨rfl, hB2⟩
  have q1 : ¬ (12 : Int) < (l1.length : Int) := by omega
  by_cases heq : l1.length = l2.length
  · have q3 : ((l1.length : Int) != (l2.length : Int)) = false := by simp [heq]
    have HO := hid (order_any _ _ l1 l2 w hr1 hr2 (by omega) (by omega))
    have hi : ordI l1 l2 = 0 := by unfold ordI; rw [if_pos heq]
    have hok := ord_ok heq
    have HC1 := hid hcell1
    have HC2 := hid hcell2
    have HEQ := hid heq
    have HM := hid hm
    rw [hi] at HO
    clear hi heq hm hcell1 hcell2 hr1 hr2
    generalize ordL l1 l2 = L at *
    have hlen := hok.len
    have HOK := hid hok
    have hnl : (natI L).length = L.length := List.length_map ..
    have HNL := hid hnl
    have HLEN := hid hlen
    clear hok hnl hlen
    go_enter Tryd.func8, Tryd.ntmps8
    go_wp2_with fail
    refine HO.out.mono ?_
    rintro e w3 ⟨v, rfl, hr3, hB3⟩
    obtain ⟨a3, cap3, rfl, hc3, hm3, hcell3⟩ := hr3.open
    have HR3 := hid hr3
    have HC3 := hid hcell3
    have HB3 := hid hB3
    clear hr3 hcell3 hB3 HO
    rw [HNL.out, HLEN.out] at hc3 HC3 HR3 ⊢
    have q4 : ((l1.length : Int) != (l1.length : Int)) = false := by simp
    go_wp2
    go_loopw [38] (fun i wr => ∃ k : Nat, k ≤ l1.length ∧ i = .int .i64 k ∧ Hid (Below w3.heap.size w3 wr)) (fun i _ => l1.length - (intOf i).toNat)
    case atStart => exact ⟨0, by omega, rfl, Below.refl _ _⟩
    case round =>
      obtain ⟨i, hi, rfl, HB⟩ := hrel
      by_cases hlt : i < l1.length
      · obtain ⟨k, hk⟩ : ∃ k, L[i]? = some k := ⟨L[i]'(by rw [HLEN.out]; exact hlt), by simp [HLEN.out, hlt]⟩
        have hkl := HOK.out.lt i k hk
        obtain ⟨x3, b3, o3, hx3, rfl, hc30⟩ := HC3.out i hlt
        rw [natI_get hk] at hx3
        cases hx3
        have hc3w := Below.keeps HB.out _ _ hc30
        have hkli : (k : Int) < (l1.length : Int) := by omega
        have hti : RdI wr (.slice (some ⟨b3, o3, none⟩) i cap3) (natI (L.take i)) := by
          rw [← natI_take]
          exact (HR3.out.below HB.out).take i (by rw [HNL.out, HLEN.out]; omega)
        have HCN := hid (containsI_any _ _ (k : Int) wr hti)
        rw [natI_any (HOK.out.new i k hk)] at HCN
        have HK := hid hk
        clear hk hc30 hti
        have j1 : (0 : Int) ≤ (i : Int) := by omega
        have j2 : (i : Int) ≤ (cap3 : Int) := by omega
        by_cases hi0 : i = 0
        · have hi0b : ((i : Int) == 0) = true := by simp [hi0]
          clear hi0
          go_wp2_with fail
          refine HCN.out.mono ?_
          rintro e w4 ⟨rfl, rfl⟩
          go_wp2
          go_roundw
          case rel => exact ⟨i + 1, by omega, by go_num, HB.out⟩
          case measure => simp [intOf]; omega
        · obtain ⟨p, rfl⟩ : ∃ p, i = p + 1 := ⟨i - 1, by omega⟩
          obtain ⟨j, hj⟩ : ∃ j, L[p]? = some j := ⟨L[p]'(by rw [HLEN.out]; omega), by have : p < L.length := by rw [HLEN.out]; omega
                                                                                      simp [this]⟩
          have hjl := HOK.out.lt p j hj
          obtain ⟨xj, bj, oj, hxj, ej, hcj0⟩ := HC3.out p (by omega)
          cases ej
          rw [natI_get hj] at hxj
          cases hxj
          have hcj := Below.keeps HB.out _ _ hcj0
          have hjli : (j : Int) < (l1.length : Int) := by omega
          have hkey := HOK.out.key p j k hj HK.out
          obtain ⟨xa, ba, oa, hxa, rfl, hca0⟩ := HC1.out j hjl
          obtain ⟨ya, ba', oa', hya, ea, hcb0⟩ := HC1.out k hkl
          cases ea
          have hjl2 : j < l2.length := by have := HEQ.out; omega
          have hkl2 : k < l2.length := by have := HEQ.out; omega
          obtain ⟨xb, bb, ob, hxb, rfl, hcc0⟩ := HC2.out j hjl2
          obtain ⟨yb, bb', ob', hyb, eb, hcd0⟩ := HC2.out k hkl2
          cases eb
          unfold KeyL at hkey
          rw [List.getD_eq_getElem?_getD, List.getD_eq_getElem?_getD, List.getD_eq_getElem?_getD, List.getD_eq_getElem?_getD, hxa, hya, hxb, hyb] at hkey
          simp only [Option.getD_some] at hkey
          have hBA := below_tr HB3.out HB.out
          have hca := Below.keeps hBA _ _ hca0
          have hcb := Below.keeps hBA _ _ hcb0
          have hcc := Below.keeps hBA _ _ hcc0
          have hcd := Below.keeps hBA _ _ hcd0
          have hi0b : ((p : Int) + 1 == 0) = false := by simp; omega
          have hjl2i : (j : Int) < (l2.length : Int) := by omega
          have hkl2i : (k : Int) < (l2.length : Int) := by omega
          have pw : (p : Int) + 1 - 1 = (p : Int) := by omega
          clear hj hcj0 hxa hya hxb hyb hca0 hcb0 hcc0 hcd0 hBA hi0
          have HCN2 := HCN
          clear HCN
          rcases hkey with h | ⟨h, h2 | ⟨h2, h3⟩⟩
          · have d1 : decide (xb > yb) = false := decide_eq_false (by omega)
            have d2 : (xb == yb) = false := by simp; omega
            go_wp2_with fail
            refine HCN2.out.mono ?_
            rintro e w4 ⟨rfl, rfl⟩
            clear HCN2
            go_wp2_with fail
            go_quiet (fail)
            have HBq := hid (below_tr HB.out (below_drewN (Below.refl wr.heap.size wr) nq))
            clear hca hcb hcc hcd hcj hc3w HB
            generalize wr.drewN nq = wq at *
            go_wp2
            go_roundw
            case rel => exact ⟨p + 1 + 1, by omega, by go_num, HBq.out⟩
            case measure => simp [intOf]; omega
          · subst h
            have d1 : decide (xa > ya) = false := decide_eq_false (by omega)
            have d2 : (xa == ya) = false := by simp; omega
            go_wp2_with fail
            refine HCN2.out.mono ?_
            rintro e w4 ⟨rfl, rfl⟩
            clear HCN2
            go_wp2_with fail
            go_quiet (fail)
            have HBq := hid (below_tr HB.out (below_drewN (Below.refl wr.heap.size wr) nq))
            clear hca hcb hcc hcd hcj hc3w HB
            generalize wr.drewN nq = wq at *
            go_wp2
            go_roundw
            case rel => exact ⟨p + 1 + 1, by omega, by go_num, HBq.out⟩
            case measure => simp [intOf]; omega
          · subst h
            subst h2
            have h3i : (j : Int) < (k : Int) := by omega
            go_wp2_with fail
            refine HCN2.out.mono ?_
            rintro e w4 ⟨rfl, rfl⟩
            clear HCN2
            go_wp2_with fail
            go_quiet (fail)
            have HBq := hid (below_tr HB.out (below_drewN (Below.refl wr.heap.size wr) nq))
            clear hca hcb hcc hcd hcj hc3w HB
            generalize wr.drewN nq = wq at *
            go_wp2
            go_roundw
            case rel => exact ⟨p + 1 + 1, by omega, by go_num, HBq.out⟩
            case measure => simp [intOf]; omega
      · have HBA := hid (below_tr HB3.out HB.out)
        have hm5 := Below.keeps HBA.out _ _ HM.out
        go_wp2_with fail
        refine (awake_any m _ hm5).mono ?_
        rintro e w6 ⟨rfl, hB6⟩
        have HBE := hid (below_tr HBA.out hB6)
        clear hB6
        go_wp2
        go_ret
        exact ⟨rfl, HBE.out⟩
  · have q3 : ((l1.length : Int) != (l2.length : Int)) = true := by simpa using (fun e => heq (Int.ofNat.inj e))
    go_enter Tryd.func8, Tryd.ntmps8
    go_wp2_with fail
    refine (awake_any m _ hm).mono ?_
    rintro e w2 ⟨rfl, hB2⟩
    go_wp2
    go_ret
    exact ⟨rfl, hB2⟩
end Go.Proofs.YtajhkfmhoihjfaaDoor
