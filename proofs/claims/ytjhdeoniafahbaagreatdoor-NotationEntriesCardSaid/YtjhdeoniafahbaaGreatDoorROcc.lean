/-
  The reference's occurrences.
-/
import Derived.Test.YtjhdeoniafahbaaGreatDoorLNum
namespace Go.Proofs.YtjhdeoniafahbaaGreatDoor
open Go.RowKit

theorem NumI.jump {w W : World} {oc : List (Nat × Nat)} (hin : ∀ p ∈ oc, p.1 ≤ p.2) {p : Nat × Nat} {k j : Nat} {ov av : Value} (h : NumI w oc p (k, j) ov av W) (hn : ∀ j', j ≤ j' → (k, j') ∉ oc) : NumI w oc p (k + 1, k + 1) ov av W := by
  have e : ahead oc (k + 1, k + 1) = ahead oc (k, j) := by
    unfold ahead
    refine List.filter_congr fun q hq => ?_
    have h1 := hin q hq
    have h2 : q.1 = k → q.2 < j := fun e => by
      refine Classical.byContradiction fun hc => hn q.2 (by omega) ?_
      rw [← e]; exact hq
    unfold ltB
    simp only [decide_eq_decide]
    omega
  obtain ⟨h1, h2, h3⟩ := h
  rw [← e] at h1 h2
  exact ⟨h1, h2, h3⟩

set_option maxRecDepth 100000 in
set_option maxHeartbeats 2000000 in
theorem rocc_any (ws : List ByteArray) (f l : ByteArray) (v : Value) (w : World) (hr : RdS w v ws) (hlen : ws.length ≤ 13) :
    Calls Tryz.prog 82 #[v, .string f, .string l] w fun e w' => ∃ u, e = .returned u ∧ RdP w' u (occ ws f l) ∧ Below w.heap.size w w' := by
  have hol := occ_len hlen f l
  have HS := hid (occ_sorted ws f l)
  have HIN := hid (occ_in (ws := ws) (f := f) (l := l))
  have HIN2 := hid (fun (p : Nat × Nat) (hp : p ∈ occ ws f l) => (occ_in p hp).1)
  have HM : Hid (∀ p, p ∈ occ ws f l ↔ ws[p.1]? = some f ∧ (if l.size = 0 then p.2 = p.1 else p.1 < p.2 ∧ ws[p.2]? = some l)) := fun p => mem_occ
  generalize occ ws f l = oc at *
  obtain ⟨ad, cap, rfl, hlc, hcm, hcell⟩ := hr.open
  have HC := hid hcell
  have hE := ba_isE l
  clear hcell hr hlen
  by_cases hl : l.size = 0
  · rw [decide_eq_true hl] at hE
    have HM2 : Hid (∀ k j, (k, j) ∈ oc ↔ ws[k]? = some f ∧ j = k) := fun k j => by rw [HM.out, if_pos hl]
    clear HM hl
    go_enter Tryz.func82, Tryz.ntmps82
    go_wp2_with fail
    go_loopw [7, 8] (fun ov i wr => ∃ k : Nat, k ≤ ws.length ∧ i = .int .i64 k ∧ ∃ av, NumI w oc (0, 0) (k, k) ov av wr) (fun _ i _ => ws.length - (intOf i).toNat)
    case atStart => exact ⟨0, by omega, rfl, _, NumI.start _ _ _⟩
    case round =>
      obtain ⟨k, hk, rfl, av, HI⟩ := hrel
      by_cases hlt : k < ws.length
      · obtain ⟨si, bi, oi, hsi, rfl, hci⟩ := HC.out k hlt
        obtain ⟨adv, capv, vs0, rfl, rfl, hown, htw⟩ := HI.open
        have hki : (k : Int) < (ws.length : Int) := by omega
        have dci := Below.keeps HI.bel _ _ hci
        have hln := mem_len (l := oc) (q := (k, k))
        by_cases hf : si = f
        · subst hf
          have q1 : (!si.toList == si.toList) = false := by simp
          have hm : (k, k) ∈ oc := (HM2.out k k).2 ⟨hsi, rfl⟩
          have hno : ∀ j, k + 1 ≤ j → (k, j) ∉ oc := fun j hj h => by have := ((HM2.out k j).1 h).2; omega
          have HPW := fun g cap w1 h1 h2 => hid (NumI.jump HIN2.out (NumI.push (W := wr) (g := g) (cap := cap) (w1 := w1) (p := (0, 0)) HS.out HI.bel hm hown htw h1 h2) hno)
          have hown1 := own_below hown (below_al wr (.cells #[.int .i64 (k : Int), .int .i64 (k : Int)] 3))
          have HSZ : Hid (w.heap.size ≤ (wr.alloc (.cells #[.int .i64 (k : Int), .int .i64 (k : Int)] 3)).heap.size) := hid (Nat.le_trans HI.bel.size (below_al _ _).size)
          clear hsi hci hm hno hown htw HI
          go_wp2_with (first | (at_builtin; refine wpList_ap2 rfl _ _ 112 rfl w.heap.size 22 Tryz.underlying112 infoSl43 rfl (by decide) (by decide) _ _ _ rfl hown1 [.slice (some ⟨wr.heap.size, 0, none⟩) 2 2] rfl (by simp [Value.oneCell']) rfl (by simp) (by omega) HSZ.out ?_; intro g9 cap9 w9 hown9 hb9 hg9 _ _; have HP := HPW g9 cap9 w9 hown9 hg9; clear hown1 hown9 hb9 hg9))
          go_roundw
          case rel => exact ⟨k + 1, by omega, by go_num, _, HP.out⟩
          case measure => simp [intOf]; omega
        · have q1 : (!si.toList == f.toList) = true := by rw [ba_beq]; simpa using hf
          have HQ := hid (NumI.jump HIN2.out HI (fun j _ h => hf (Option.some.inj (hsi.symm.trans ((HM2.out k j).1 h).1))))
          clear hsi hci hown htw HI
          go_wp2_with fail
          go_roundw
          case rel => exact ⟨k + 1, by omega, by go_num, _, HQ.out⟩
          case measure => simp [intOf]; omega
      · have hki : ¬ (k : Int) < (ws.length : Int) := by omega
        have hkn : k = ws.length := by omega
        rw [hkn] at HI
        have HBI := HI.bel
        obtain ⟨hrp, _⟩ := NumI.fin HIN.out HI
        have HRP := hid hrp
        clear HI hrp hkn hk
        go_wp2_with fail
        go_ret
        exact ⟨_, rfl, HRP.out, HBI⟩
  · rw [decide_eq_false hl] at hE
    have HM2 : Hid (∀ k j, (k, j) ∈ oc ↔ ws[k]? = some f ∧ k < j ∧ ws[j]? = some l) := fun k j => by rw [HM.out, if_neg hl]
    clear HM hl
    go_enter Tryz.func82, Tryz.ntmps82
    go_wp2_with fail
    go_loopw [7, 8] (fun ov i wr => ∃ k : Nat, k ≤ ws.length ∧ i = .int .i64 k ∧ ∃ av, NumI w oc (0, 0) (k, k) ov av wr) (fun _ i _ => ws.length - (intOf i).toNat)
    case atStart => exact ⟨0, by omega, rfl, _, NumI.start _ _ _⟩
    case round =>
      obtain ⟨k, hk, rfl, av, HI⟩ := hrel
      by_cases hlt : k < ws.length
      · obtain ⟨si, bi, oi, hsi, hbi, hci⟩ := HC.out k hlt
        cases hbi
        obtain ⟨adv, capv, vs0, rfl, rfl, hown, htw⟩ := HI.open
        have hki : (k : Int) < (ws.length : Int) := by omega
        have dci := Below.keeps HI.bel _ _ hci
        by_cases hf : si = f
        · subst hf
          have q1 : (!si.toList == si.toList) = false := by simp
          have HI1 := hid (HI.skip HS.out (fun h => by have := ((HM2.out k k).1 h).2.1; omega))
          have HSI := hid hsi
          clear hci hown htw HI hsi
          go_wp2_with fail
          go_loopw [7, 9] (fun ov i wi => ∃ j : Nat, k + 1 ≤ j ∧ j ≤ ws.length ∧ i = .int .i64 j ∧ ∃ av, NumI w oc (0, 0) (k, j) ov av wi) (fun _ i _ => ws.length - (intOf i).toNat)
          case atStart => exact ⟨k + 1, Nat.le_refl _, by omega, by go_num, _, HI1.out⟩
          case round =>
            clear HI1 dci
            obtain ⟨j, hkj, hj, rfl, av2, HJ⟩ := hrel
            by_cases hjl : j < ws.length
            · obtain ⟨sj, bj, oj, hsj, hbj, hcj⟩ := HC.out j hjl
              cases hbj
              obtain ⟨adw, capw, vs1, rfl, rfl, hown, htw⟩ := HJ.open
              have hji : (j : Int) < (ws.length : Int) := by omega
              have dcj := Below.keeps HJ.bel _ _ hcj
              have hln := mem_len (l := oc) (q := (k, j))
              by_cases hs : sj = l
              · subst hs
                have q2 : (sj.toList == sj.toList) = true := by simp
                have hm : (k, j) ∈ oc := (HM2.out k j).2 ⟨HSI.out, by omega, hsj⟩
                have HPW := fun g cap w1 h1 h2 => hid (NumI.push (W := wr) (g := g) (cap := cap) (w1 := w1) (p := (0, 0)) HS.out HJ.bel hm hown htw h1 h2)
                have hown1 := own_below hown (below_al wr (.cells #[.int .i64 (k : Int), .int .i64 (j : Int)] 3))
                have HSZ : Hid (w.heap.size ≤ (wr.alloc (.cells #[.int .i64 (k : Int), .int .i64 (j : Int)] 3)).heap.size) := hid (Nat.le_trans HJ.bel.size (below_al _ _).size)
                have q3 : ¬ (65536 : Int) < ((ahead oc (k, j)).length : Int) + 1 := by omega
                clear hsj hcj hm hown htw HJ
                go_wp2_with (first | (at_builtin; refine wpList_ap2 rfl _ _ 112 rfl w.heap.size 22 Tryz.underlying112 infoSl43 rfl (by decide) (by decide) _ _ _ rfl hown1 [.slice (some ⟨wr.heap.size, 0, none⟩) 2 2] rfl (by simp [Value.oneCell']) rfl (by simp) (by omega) HSZ.out ?_; intro g9 cap9 w9 hown9 hb9 hg9 _ _; have HP := HPW g9 cap9 w9 hown9 hg9; clear hown1 hown9 hb9 hg9))
                go_roundw
                case rel => exact ⟨j + 1, by omega, by omega, by go_num, _, HP.out⟩
                case measure => simp [intOf]; omega
              · have q2 : (sj.toList == l.toList) = false := by rw [ba_beq]; simpa using hs
                have HQ := hid (HJ.skip HS.out (fun h => hs (Option.some.inj (hsj.symm.trans ((HM2.out k j).1 h).2.2))))
                clear hsj hcj hown htw HJ
                go_wp2_with fail
                go_roundw
                case rel => exact ⟨j + 1, by omega, by omega, by go_num, _, HQ.out⟩
                case measure => simp [intOf]; omega
            · have hji : ¬ (j : Int) < (ws.length : Int) := by omega
              have hjn : j = ws.length := by omega
              rw [hjn] at HJ
              have HJ2 := hid (NumI.row HIN.out HJ)
              clear HJ hjn
              go_wp2_with fail
              go_roundw
              case rel => exact ⟨k + 1, by omega, by go_num, _, HJ2.out⟩
              case measure => simp [intOf]; omega
        · have q1 : (!si.toList == f.toList) = true := by rw [ba_beq]; simpa using hf
          have HQ := hid (NumI.jump HIN2.out HI (fun j _ h => hf (Option.some.inj (hsi.symm.trans ((HM2.out k j).1 h).1))))
          clear hsi hci hown htw HI
          go_wp2_with fail
          go_roundw
          case rel => exact ⟨k + 1, by omega, by go_num, _, HQ.out⟩
          case measure => simp [intOf]; omega
      · have hki : ¬ (k : Int) < (ws.length : Int) := by omega
        have hkn : k = ws.length := by omega
        rw [hkn] at HI
        have HBI := HI.bel
        obtain ⟨hrp, _⟩ := NumI.fin HIN.out HI
        have HRP := hid hrp
        clear HI hrp hkn hk
        go_wp2_with fail
        go_ret
        exact ⟨_, rfl, HRP.out, HBI⟩
end Go.Proofs.YtjhdeoniafahbaaGreatDoor
