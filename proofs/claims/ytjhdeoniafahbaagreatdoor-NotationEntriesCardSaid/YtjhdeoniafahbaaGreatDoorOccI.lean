/-
  lemma.occurrences and the function that it hands back.
-/
import Derived.Test.YtjhdeoniafahbaaGreatDoorJ01
import Derived.Test.YtjhdeoniafahbaaGreatDoorJ02
import Derived.StillTailTactics
namespace Go.Proofs.YtjhdeoniafahbaaGreatDoor
open Go.RowKit
attribute [local go_sem] Oper.semAt_some

theorem occGo_at (f l : ByteArray) (ws : List ByteArray) (k : Nat) (s : ByteArray) (h : ws[k]? = some s) :
    occGo f l k (ws.drop k) = (if s = f then (if l.size = 0 then [(k, k)] else occIn l k (k + 1) (ws.drop (k + 1))) else []) ++ occGo f l (k + 1) (ws.drop (k + 1)) := by
  obtain ⟨hk, hx⟩ := List.getElem?_eq_some_iff.1 h
  rw [List.drop_eq_getElem_cons hk, hx, occGo]
theorem occIn_at (l : ByteArray) (i : Nat) (ws : List ByteArray) (q : Nat) (s : ByteArray) (h : ws[q]? = some s) :
    occIn l i q (ws.drop q) = (if s = l then [(i, q)] else []) ++ occIn l i (q + 1) (ws.drop (q + 1)) := by
  obtain ⟨hk, hx⟩ := List.getElem?_eq_some_iff.1 h
  rw [List.drop_eq_getElem_cons hk, hx, occIn]

theorem ba_isE (l : ByteArray) : l.toList.isEmpty = decide (l.size = 0) := by
  by_cases h : l = ⟨#[]⟩
  · subst h; decide +kernel
  · have h1 : ¬ l.size = 0 := fun e => h (by cases l with | mk d => exact congrArg ByteArray.mk (Array.eq_empty_of_size_eq_zero e))
    have h2 := ba_beq l ⟨#[]⟩
    rw [show (⟨#[]⟩ : ByteArray).toList = [] by decide +kernel, decide_eq_false h] at h2
    rw [decide_eq_false h1]
    cases hl : l.toList with
    | nil => rw [hl] at h2; simp at h2
    | cons x r => rfl

/-- What the iterator reads. -/
structure OccM (Bw Bf Bl : Nat) (a : Option Addr) (cap : Nat) (ws : List ByteArray) (f l : ByteArray) (W : World) : Prop where
  cw : W.cell? ⟨Bw, 0, none⟩ = some (.slice a ws.length cap)
  cf : W.cell? ⟨Bf, 0, none⟩ = some (.string f)
  cl : W.cell? ⟨Bl, 0, none⟩ = some (.string l)
  rd : RdS W (.slice a ws.length cap) ws

theorem OccM.below {Bw Bf Bl : Nat} {a : Option Addr} {cap : Nat} {ws : List ByteArray} {f l : ByteArray} {W W' : World} (h : OccM Bw Bf Bl a cap ws f l W) (hb : Below W.heap.size W W') : OccM Bw Bf Bl a cap ws f l W' :=
  ⟨Below.keeps hb _ _ h.cw, Below.keeps hb _ _ h.cf, Below.keeps hb _ _ h.cl, h.rd.below hb⟩

set_option maxHeartbeats 1000000 in
theorem occurrences_any (a : Option Addr) (n cap : Nat) (f l : ByteArray) (w : World) :
    Calls Tryz.prog 87 #[.slice a n cap, .string f, .string l] w fun e w' => e = .returned (.func (.func 114) #[] #[.pointer (some ⟨w.heap.size, 0, none⟩), .pointer (some ⟨w.heap.size + 1, 0, none⟩), .pointer (some ⟨w.heap.size + 2, 0, none⟩)]) ∧
      ((w.alloc (.cells #[.slice a n cap] 23)).alloc (.cells #[.string f] 9)).alloc (.cells #[.string l] 9) = w' := by
  go_enter Tryz.func87, Tryz.ntmps87
  go_wp2
  go_ret
  exact ⟨rfl, rfl⟩

set_option maxRecDepth 100000 in
set_option maxHeartbeats 4000000 in
theorem occs1_in (n : Nat) (hn : 1 ≤ n) (ws : List ByteArray) (f l : ByteArray) (a : Option Addr) (cap : Nat) (Bw Bf Bl N : Nat) (hz : ws.length ≤ 1048576) (hN : (occ ws f l).length ≤ N)
    (Kp : World → World → Prop) (hK1 : ∀ A B, Kp A B → OccM Bw Bf Bl a cap ws f l A → OccM Bw Bf Bl a cap ws f l B)
    (yl : Nat) (J Jx : List (Nat × Nat) → World → Prop)
    (hY : ∀ pre x W, J pre W → pre.length < N → YieldAt Fence.wide (n - 1) Tryz.prog yl #[.int .i64 (x.1 : Int), .int .i64 (x.2 : Int)] W fun e W' =>
      (e = .returned (.bool true) ∧ J (pre ++ [x]) W' ∧ Kp W W') ∨ (e = .returned (.bool false) ∧ Jx (pre ++ [x]) W'))
    (W : World) (hJA : AbidesFrom W.heap.size J) (hM : OccM Bw Bf Bl a cap ws f l W) (h0 : J [] W) :
    CallsIn Fence.wide n Tryz.prog 114 #[.func (.yield yl) #[] #[], .pointer (some ⟨Bw, 0, none⟩), .pointer (some ⟨Bf, 0, none⟩), .pointer (some ⟨Bl, 0, none⟩)] W fun e W' => (∃ v, e = .returned v) ∧
      (J (occ ws f l) W' ∨ (∃ pre : List (Nat × Nat), (∃ r, pre ++ r = occ ws f l) ∧ Jx pre W')) := by
  have HK1 := hid hK1; clear hK1
  have HY := hid hY; clear hY
  have HJA : Hid (∀ pre W1, J pre W1 → J pre W1.drew) := fun pre W1 hj => have hBd := (Below.refl W1.heap.size W1).drew; hJA _ _ _ none hj ⟨hBd.os, hBd.tape, hBd.output, hBd.size, fun k hk _ => hBd.block k hk⟩ (fun r e => by cases e)
  clear hJA
  have hcw := hM.cw
  refine callsIn_of_wp Tryz.func114 rfl trivial ?_ rfl
  simp only [Tryz.ntmps114, List.size_toArray, List.length_cons, List.length_nil, Nat.reduceAdd, Nat.reduceSub, Array.replicate_succ, Array.replicate_zero, List.push_toArray, List.append_toArray, List.nil_append, List.cons_append]
  gi_wp2
  gi_loopw [10] (fun i wr => ∃ (k : Nat) (pre : List (Nat × Nat)), k ≤ ws.length ∧ i = .int .i64 k ∧ Hid (pre ++ occGo f l k (ws.drop k) = occ ws f l) ∧ J pre wr ∧ Hid (OccM Bw Bf Bl a cap ws f l wr)) (fun i _ => ws.length - (intOf i).toNat)
  case atStart => exact ⟨0, [], by omega, rfl, by simp [Hid, occ], h0, hM⟩
  case round =>
    rename_i wr
    obtain ⟨k, pre, hk, rfl, HP, hJ, HM⟩ := hrel
    by_cases hlt : k < ws.length
    · obtain ⟨_, _, he, _, _, hcell⟩ := HM.out.rd.open
      cases he
      obtain ⟨s, b, off, hs, rfl, hc⟩ := hcell k hlt
      have hcf := HM.out.cf
      have hcl := HM.out.cl
      have hki : (k : Int) < (ws.length : Int) := by omega
      have HA := hid (occGo_at f l ws k s hs)
      have hbf := ba_beq s f
      clear hcell hs
      by_cases hsf : s = f
      · have hb1 : (!s.toList == f.toList) = false := by rw [ba_beq]; simp [hsf]
        rw [if_pos hsf] at HA
        by_cases hl0 : l.size = 0
        · have hb2 : l.toList.isEmpty = true := by rw [ba_isE]; exact decide_eq_true hl0
          rw [if_pos hl0] at HA
          have HP2 : Hid ((pre ++ [(k, k)]) ++ occGo f l (k + 1) (ws.drop (k + 1)) = occ ws f l) := by
            show _ = _
            rw [List.append_assoc, ← HA.out]; exact HP.out
          have hpl : pre.length < N := by
            have h := congrArg List.length HP2.out
            simp only [List.length_append, List.length_singleton] at h
            omega
          obtain ⟨fn, tmps, assign, body, hy, hR⟩ := HY.out pre (k, k) wr hJ hpl
          try dsimp only at hy
          clear hbf hl0 hsf
          gi_wp2_with fail
          refine hR.mono ?_
          rintro e W3 (⟨rfl, hJ3, hk3⟩ | ⟨rfl, hJx3⟩)
          · have HM3 := hid (HK1.out _ _ hk3 HM.out)
            gi_wp2
            go_roundw
            case rel => exact ⟨k + 1, _, by omega, by go_num, HP2.out, hJ3, HM3.out⟩
            case measure => simp [intOf]; omega
          · gi_wp2
            refine bodyPost_ret (results_none rfl _ _ _) rfl ?_
            exact ⟨⟨_, rfl⟩, .inr ⟨_, ⟨_, HP2.out⟩, hJx3⟩⟩
        · have hb2 : l.toList.isEmpty = false := by rw [ba_isE]; exact decide_eq_false hl0
          rw [if_neg hl0] at HA
          have HPi : Hid (pre ++ (occIn l k (k + 1) (ws.drop (k + 1)) ++ occGo f l (k + 1) (ws.drop (k + 1))) = occ ws f l) := by
            show _ = _
            rw [← HA.out]; exact HP.out
          clear hbf hsf hl0 HA HP
          have hkb : (k : Int) + 1 ≤ 1048577 := by omega
          gi_wp2
          gi_loopw [7] (fun q wi => ∃ (j : Nat) (pre2 : List (Nat × Nat)), k + 1 ≤ j ∧ j ≤ ws.length ∧ q = .int .i64 j ∧ Hid (pre2 ++ (occIn l k j (ws.drop j) ++ occGo f l (k + 1) (ws.drop (k + 1))) = occ ws f l) ∧ J pre2 wi ∧ Hid (OccM Bw Bf Bl (some ⟨b, off, none⟩) cap ws f l wi)) (fun q _ => ws.length - (intOf q).toNat)
          case atStart => exact ⟨k + 1, pre, by omega, by omega, by go_num, HPi.out, hJ, HM.out⟩
          case round =>
            obtain ⟨j, pre2, hkj, hjl, rfl, HQ, hJi, HMi⟩ := hrel
            have hcwi := HMi.out.cw
            by_cases hlj : j < ws.length
            · obtain ⟨_, _, he, _, _, hcell⟩ := HMi.out.rd.open
              cases he
              obtain ⟨s2, b2, off2, hs2, he2, hc2⟩ := hcell j hlj
              cases he2
              have hcli := HMi.out.cl
              have hji : (j : Int) < (ws.length : Int) := by omega
              have HB := hid (occIn_at l k ws j s2 hs2)
              clear hcell hs2 hcf hcl hc hcw
              by_cases hsl : s2 = l
              · have hb3 : (s2.toList == l.toList) = true := by rw [ba_beq]; simp [hsl]
                rw [if_pos hsl] at HB
                have HQ2 : Hid ((pre2 ++ [(k, j)]) ++ (occIn l k (j + 1) (ws.drop (j + 1)) ++ occGo f l (k + 1) (ws.drop (k + 1))) = occ ws f l) := by
                  show _ = _
                  rw [← HQ.out, HB.out]; simp
                have hpl : pre2.length < N := by
                  have h := congrArg List.length HQ2.out
                  simp only [List.length_append, List.length_singleton] at h
                  omega
                obtain ⟨fn, tmps, assign, body, hy, hR⟩ := HY.out pre2 (k, j) wr.drew (HJA.out _ _ hJi) hpl
                try dsimp only at hy
                clear hsl
                gi_wp2_with fail
                have HMd : Hid (OccM Bw Bf Bl (some ⟨b, off, none⟩) cap ws f l wr.drew) := HMi.out.below (below_drewN (Below.refl _ _) 1)
                have hcwd := HMd.out.cw
                have hcld := HMd.out.cl
                have hc2d : wr.drew.cell? ⟨b, off + j, none⟩ = some (.string s2) := hc2
                clear HMi hJi hcli hcwi hc2
                --9
                refine wpIn_region_any (by kernel_rfl) ?_
                change wpAnyIn _ _ _ _ _ _ _ _ _ (World.drew _)
                generalize wr.drew = wd at *
                refine wpAnyIn_take (i := 1) (v := ?v30) rfl rfl (by kernel_rfl) (by kernel_rfl) (by kernel_rfl) (fun _ _ _ h => h) ⟨Or.inl ⟨by rfl, ?hy30⟩, fun _ => rfl⟩ ?rest30
                case hy30 => (intro w; go_simp; try (with_reducible rfl))
                simp only [Act.put, List.getElem_toArray, List.getElem_cons_succ, List.getElem_cons_zero, List.setIfInBounds_toArray, List.set_cons_zero, List.set_cons_succ]
                refine wpAnyIn_ready (rs := [0, 4]) (by kernel_rfl) (by simp) (AllReadyIn.cons rfl (fun K hK => ?_) (AllReadyIn.cons rfl (fun K hK => ?_) AllReadyIn.nil))
                · go_simp
                  refine hK _ _ ?_
                  clear hK K
                  refine wpAnyIn_take (i := 2) (v := ?v1) rfl rfl (by kernel_rfl) (by kernel_rfl) (by kernel_rfl) (fun _ _ _ h => h) ⟨Or.inl ⟨by rfl, ?hy1⟩, fun _ => rfl⟩ ?rest1
                  case hy1 => (intro w; go_simp; try (with_reducible rfl))
                  simp only [Act.put, List.getElem_toArray, List.getElem_cons_succ, List.getElem_cons_zero, List.setIfInBounds_toArray, List.set_cons_zero, List.set_cons_succ]
                  refine wpAnyIn_ready (rs := [3, 4]) (by kernel_rfl) (by simp) (AllReadyIn.cons rfl (fun K hK => ?_) (AllReadyIn.cons rfl (fun K hK => ?_) AllReadyIn.nil))
                  · go_simp
                    refine hK _ _ ?_
                    clear hK K
                    refine wpAnyIn_ready (rs := [4]) (by kernel_rfl) (by simp) (AllReadyIn.cons rfl (fun K hK => ?_) AllReadyIn.nil)
                    go_simp
                    refine hK _ _ ?_
                    clear hK K
                    refine wpAnyIn_take (i := 5) (v := ?v2) rfl rfl (by kernel_rfl) (by kernel_rfl) (by kernel_rfl) (fun _ _ _ h => h) ⟨Or.inl ⟨by rfl, ?hy2⟩, fun _ => rfl⟩ ?rest2
                    case hy2 => (intro w; go_simp; try (with_reducible rfl))
                    simp only [Act.put, List.getElem_toArray, List.getElem_cons_succ, List.getElem_cons_zero, List.setIfInBounds_toArray, List.set_cons_zero, List.set_cons_succ]
                    refine wpAnyIn_take (i := 6) (v := ?v3) rfl rfl (by kernel_rfl) (by kernel_rfl) (by kernel_rfl) (fun _ _ _ h => h) ⟨Or.inl ⟨by rfl, ?hy3⟩, fun _ => rfl⟩ ?rest3
                    case hy3 => (intro w; go_simp; try (with_reducible rfl))
                    simp only [Act.put, List.getElem_toArray, List.getElem_cons_succ, List.getElem_cons_zero, List.setIfInBounds_toArray, List.set_cons_zero, List.set_cons_succ]
                    refine wpAnyIn_take (i := 7) (v := ?v4) rfl rfl (by kernel_rfl) (by kernel_rfl) (by kernel_rfl) (fun _ _ _ h => h) ⟨Or.inl ⟨by rfl, ?hy4⟩, fun _ => rfl⟩ ?rest4
                    case hy4 => (intro w; go_simp; try (with_reducible rfl))
                    simp only [Act.put, List.getElem_toArray, List.getElem_cons_succ, List.getElem_cons_zero, List.setIfInBounds_toArray, List.set_cons_zero, List.set_cons_succ]
                    refine wpAnyIn_take (i := 8) (v := ?v5) rfl rfl (by kernel_rfl) (by kernel_rfl) (by kernel_rfl) (fun _ _ _ h => h) ⟨Or.inl ⟨by rfl, ?hy5⟩, fun _ => rfl⟩ ?rest5
                    case hy5 => (intro w; go_simp; try (with_reducible rfl))
                    simp only [Act.put, List.getElem_toArray, List.getElem_cons_succ, List.getElem_cons_zero, List.setIfInBounds_toArray, List.set_cons_zero, List.set_cons_succ]
                    refine wpAnyIn_take (i := 9) (v := ?v6) rfl rfl (by kernel_rfl) (by kernel_rfl) (by kernel_rfl) (fun _ _ _ h => h) ⟨Or.inl ⟨by rfl, ?hy6⟩, fun _ => rfl⟩ ?rest6
                    case hy6 => (intro w; go_simp; try (with_reducible rfl))
                    simp only [Act.put, List.getElem_toArray, List.getElem_cons_succ, List.getElem_cons_zero, List.setIfInBounds_toArray, List.set_cons_zero, List.set_cons_succ]
                    refine wpAnyIn_ready (rs := [10]) (by kernel_rfl) (by simp) (AllReadyIn.cons rfl (fun K hK => ?_) AllReadyIn.nil)
                    go_simp
                    refine hR.mono ?_
                    rintro e W3 (⟨rfl, hJ3, hk3⟩ | ⟨rfl, hJx3⟩)
                    · have HM3 := hid (HK1.out _ _ hk3 HMd.out)
                      refine hK _ _ ?_
                      clear hK K
                      refine wpAnyIn_take (i := 11) (v := ?v7) rfl rfl (by kernel_rfl) (by kernel_rfl) (by kernel_rfl) (fun _ _ _ h => h) ⟨Or.inl ⟨by rfl, ?hy7⟩, fun _ => rfl⟩ ?rest7
                      case hy7 => (intro w; go_simp; try (with_reducible rfl))
                      simp only [Act.put, List.getElem_toArray, List.getElem_cons_succ, List.getElem_cons_zero, List.setIfInBounds_toArray, List.set_cons_zero, List.set_cons_succ]
                      refine wpAnyIn_take (i := 12) (v := ?v8) rfl rfl (by kernel_rfl) (by kernel_rfl) (by kernel_rfl) (fun _ _ _ h => h) ⟨Or.inl ⟨by rfl, ?hy8⟩, fun _ => rfl⟩ ?rest8
                      case hy8 => (intro w; go_simp; try (with_reducible rfl))
                      simp only [Act.put, List.getElem_toArray, List.getElem_cons_succ, List.getElem_cons_zero, List.setIfInBounds_toArray, List.set_cons_zero, List.set_cons_succ]
                      refine wpAnyIn_done (by kernel_rfl) ?_ _
                      clear hy hR hc2d hcld hcwd
                      gi_wp2
                      go_roundw
                      case rel => exact ⟨j + 1, _, by omega, by omega, by go_num, HQ2.out, hJ3, HM3.out⟩
                      case measure => simp [intOf]; omega
                    · refine hK _ _ ?_
                      clear hK K
                      refine wpAnyIn_take (i := 11) (v := ?v9) rfl rfl (by kernel_rfl) (by kernel_rfl) (by kernel_rfl) (fun _ _ _ h => h) ⟨Or.inl ⟨by rfl, ?hy9⟩, fun _ => rfl⟩ ?rest9
                      case hy9 => (intro w; go_simp; try (with_reducible rfl))
                      simp only [Act.put, List.getElem_toArray, List.getElem_cons_succ, List.getElem_cons_zero, List.setIfInBounds_toArray, List.set_cons_zero, List.set_cons_succ]
                      refine wpAnyIn_take (i := 12) (v := ?v10) rfl rfl (by kernel_rfl) (by kernel_rfl) (by kernel_rfl) (fun _ _ _ h => h) ⟨Or.inl ⟨by rfl, ?hy10⟩, fun _ => rfl⟩ ?rest10
                      case hy10 => (intro w; go_simp; try (with_reducible rfl))
                      simp only [Act.put, List.getElem_toArray, List.getElem_cons_succ, List.getElem_cons_zero, List.setIfInBounds_toArray, List.set_cons_zero, List.set_cons_succ]
                      refine wpAnyIn_done (by kernel_rfl) ?_ _
                      gi_wp2
                      refine bodyPost_ret (results_none rfl _ _ _) rfl ?_
                      exact ⟨⟨_, rfl⟩, .inr ⟨_, ⟨_, HQ2.out⟩, hJx3⟩⟩
                  · go_simp
                    refine hK _ _ ?_
                    clear hK K
                    refine wpAnyIn_ready (rs := [3]) (by kernel_rfl) (by simp) (AllReadyIn.cons rfl (fun K hK => ?_) AllReadyIn.nil)
                    go_simp
                    refine hK _ _ ?_
                    clear hK K
                    refine wpAnyIn_take (i := 5) (v := ?v11) rfl rfl (by kernel_rfl) (by kernel_rfl) (by kernel_rfl) (fun _ _ _ h => h) ⟨Or.inl ⟨by rfl, ?hy11⟩, fun _ => rfl⟩ ?rest11
                    case hy11 => (intro w; go_simp; try (with_reducible rfl))
                    simp only [Act.put, List.getElem_toArray, List.getElem_cons_succ, List.getElem_cons_zero, List.setIfInBounds_toArray, List.set_cons_zero, List.set_cons_succ]
                    refine wpAnyIn_take (i := 6) (v := ?v12) rfl rfl (by kernel_rfl) (by kernel_rfl) (by kernel_rfl) (fun _ _ _ h => h) ⟨Or.inl ⟨by rfl, ?hy12⟩, fun _ => rfl⟩ ?rest12
                    case hy12 => (intro w; go_simp; try (with_reducible rfl))
                    simp only [Act.put, List.getElem_toArray, List.getElem_cons_succ, List.getElem_cons_zero, List.setIfInBounds_toArray, List.set_cons_zero, List.set_cons_succ]
                    refine wpAnyIn_take (i := 7) (v := ?v13) rfl rfl (by kernel_rfl) (by kernel_rfl) (by kernel_rfl) (fun _ _ _ h => h) ⟨Or.inl ⟨by rfl, ?hy13⟩, fun _ => rfl⟩ ?rest13
                    case hy13 => (intro w; go_simp; try (with_reducible rfl))
                    simp only [Act.put, List.getElem_toArray, List.getElem_cons_succ, List.getElem_cons_zero, List.setIfInBounds_toArray, List.set_cons_zero, List.set_cons_succ]
                    refine wpAnyIn_take (i := 8) (v := ?v14) rfl rfl (by kernel_rfl) (by kernel_rfl) (by kernel_rfl) (fun _ _ _ h => h) ⟨Or.inl ⟨by rfl, ?hy14⟩, fun _ => rfl⟩ ?rest14
                    case hy14 => (intro w; go_simp; try (with_reducible rfl))
                    simp only [Act.put, List.getElem_toArray, List.getElem_cons_succ, List.getElem_cons_zero, List.setIfInBounds_toArray, List.set_cons_zero, List.set_cons_succ]
                    refine wpAnyIn_take (i := 9) (v := ?v15) rfl rfl (by kernel_rfl) (by kernel_rfl) (by kernel_rfl) (fun _ _ _ h => h) ⟨Or.inl ⟨by rfl, ?hy15⟩, fun _ => rfl⟩ ?rest15
                    case hy15 => (intro w; go_simp; try (with_reducible rfl))
                    simp only [Act.put, List.getElem_toArray, List.getElem_cons_succ, List.getElem_cons_zero, List.setIfInBounds_toArray, List.set_cons_zero, List.set_cons_succ]
                    refine wpAnyIn_ready (rs := [10]) (by kernel_rfl) (by simp) (AllReadyIn.cons rfl (fun K hK => ?_) AllReadyIn.nil)
                    go_simp
                    refine hR.mono ?_
                    rintro e W3 (⟨rfl, hJ3, hk3⟩ | ⟨rfl, hJx3⟩)
                    · have HM3 := hid (HK1.out _ _ hk3 HMd.out)
                      refine hK _ _ ?_
                      clear hK K
                      refine wpAnyIn_take (i := 11) (v := ?v16) rfl rfl (by kernel_rfl) (by kernel_rfl) (by kernel_rfl) (fun _ _ _ h => h) ⟨Or.inl ⟨by rfl, ?hy16⟩, fun _ => rfl⟩ ?rest16
                      case hy16 => (intro w; go_simp; try (with_reducible rfl))
                      simp only [Act.put, List.getElem_toArray, List.getElem_cons_succ, List.getElem_cons_zero, List.setIfInBounds_toArray, List.set_cons_zero, List.set_cons_succ]
                      refine wpAnyIn_take (i := 12) (v := ?v17) rfl rfl (by kernel_rfl) (by kernel_rfl) (by kernel_rfl) (fun _ _ _ h => h) ⟨Or.inl ⟨by rfl, ?hy17⟩, fun _ => rfl⟩ ?rest17
                      case hy17 => (intro w; go_simp; try (with_reducible rfl))
                      simp only [Act.put, List.getElem_toArray, List.getElem_cons_succ, List.getElem_cons_zero, List.setIfInBounds_toArray, List.set_cons_zero, List.set_cons_succ]
                      refine wpAnyIn_done (by kernel_rfl) ?_ _
                      clear hy hR hc2d hcld hcwd
                      gi_wp2
                      go_roundw
                      case rel => exact ⟨j + 1, _, by omega, by omega, by go_num, HQ2.out, hJ3, HM3.out⟩
                      case measure => simp [intOf]; omega
                    · refine hK _ _ ?_
                      clear hK K
                      refine wpAnyIn_take (i := 11) (v := ?v18) rfl rfl (by kernel_rfl) (by kernel_rfl) (by kernel_rfl) (fun _ _ _ h => h) ⟨Or.inl ⟨by rfl, ?hy18⟩, fun _ => rfl⟩ ?rest18
                      case hy18 => (intro w; go_simp; try (with_reducible rfl))
                      simp only [Act.put, List.getElem_toArray, List.getElem_cons_succ, List.getElem_cons_zero, List.setIfInBounds_toArray, List.set_cons_zero, List.set_cons_succ]
                      refine wpAnyIn_take (i := 12) (v := ?v19) rfl rfl (by kernel_rfl) (by kernel_rfl) (by kernel_rfl) (fun _ _ _ h => h) ⟨Or.inl ⟨by rfl, ?hy19⟩, fun _ => rfl⟩ ?rest19
                      case hy19 => (intro w; go_simp; try (with_reducible rfl))
                      simp only [Act.put, List.getElem_toArray, List.getElem_cons_succ, List.getElem_cons_zero, List.setIfInBounds_toArray, List.set_cons_zero, List.set_cons_succ]
                      refine wpAnyIn_done (by kernel_rfl) ?_ _
                      gi_wp2
                      refine bodyPost_ret (results_none rfl _ _ _) rfl ?_
                      exact ⟨⟨_, rfl⟩, .inr ⟨_, ⟨_, HQ2.out⟩, hJx3⟩⟩
                · go_simp
                  refine hK _ _ ?_
                  clear hK K
                  refine wpAnyIn_ready (rs := [0]) (by kernel_rfl) (by simp) (AllReadyIn.cons rfl (fun K hK => ?_) AllReadyIn.nil)
                  go_simp
                  refine hK _ _ ?_
                  clear hK K
                  refine wpAnyIn_take (i := 2) (v := ?v20) rfl rfl (by kernel_rfl) (by kernel_rfl) (by kernel_rfl) (fun _ _ _ h => h) ⟨Or.inl ⟨by rfl, ?hy20⟩, fun _ => rfl⟩ ?rest20
                  case hy20 => (intro w; go_simp; try (with_reducible rfl))
                  simp only [Act.put, List.getElem_toArray, List.getElem_cons_succ, List.getElem_cons_zero, List.setIfInBounds_toArray, List.set_cons_zero, List.set_cons_succ]
                  refine wpAnyIn_ready (rs := [3]) (by kernel_rfl) (by simp) (AllReadyIn.cons rfl (fun K hK => ?_) AllReadyIn.nil)
                  go_simp
                  refine hK _ _ ?_
                  clear hK K
                  refine wpAnyIn_take (i := 5) (v := ?v21) rfl rfl (by kernel_rfl) (by kernel_rfl) (by kernel_rfl) (fun _ _ _ h => h) ⟨Or.inl ⟨by rfl, ?hy21⟩, fun _ => rfl⟩ ?rest21
                  case hy21 => (intro w; go_simp; try (with_reducible rfl))
                  simp only [Act.put, List.getElem_toArray, List.getElem_cons_succ, List.getElem_cons_zero, List.setIfInBounds_toArray, List.set_cons_zero, List.set_cons_succ]
                  refine wpAnyIn_take (i := 6) (v := ?v22) rfl rfl (by kernel_rfl) (by kernel_rfl) (by kernel_rfl) (fun _ _ _ h => h) ⟨Or.inl ⟨by rfl, ?hy22⟩, fun _ => rfl⟩ ?rest22
                  case hy22 => (intro w; go_simp; try (with_reducible rfl))
                  simp only [Act.put, List.getElem_toArray, List.getElem_cons_succ, List.getElem_cons_zero, List.setIfInBounds_toArray, List.set_cons_zero, List.set_cons_succ]
                  refine wpAnyIn_take (i := 7) (v := ?v23) rfl rfl (by kernel_rfl) (by kernel_rfl) (by kernel_rfl) (fun _ _ _ h => h) ⟨Or.inl ⟨by rfl, ?hy23⟩, fun _ => rfl⟩ ?rest23
                  case hy23 => (intro w; go_simp; try (with_reducible rfl))
                  simp only [Act.put, List.getElem_toArray, List.getElem_cons_succ, List.getElem_cons_zero, List.setIfInBounds_toArray, List.set_cons_zero, List.set_cons_succ]
                  refine wpAnyIn_take (i := 8) (v := ?v24) rfl rfl (by kernel_rfl) (by kernel_rfl) (by kernel_rfl) (fun _ _ _ h => h) ⟨Or.inl ⟨by rfl, ?hy24⟩, fun _ => rfl⟩ ?rest24
                  case hy24 => (intro w; go_simp; try (with_reducible rfl))
                  simp only [Act.put, List.getElem_toArray, List.getElem_cons_succ, List.getElem_cons_zero, List.setIfInBounds_toArray, List.set_cons_zero, List.set_cons_succ]
                  refine wpAnyIn_take (i := 9) (v := ?v25) rfl rfl (by kernel_rfl) (by kernel_rfl) (by kernel_rfl) (fun _ _ _ h => h) ⟨Or.inl ⟨by rfl, ?hy25⟩, fun _ => rfl⟩ ?rest25
                  case hy25 => (intro w; go_simp; try (with_reducible rfl))
                  simp only [Act.put, List.getElem_toArray, List.getElem_cons_succ, List.getElem_cons_zero, List.setIfInBounds_toArray, List.set_cons_zero, List.set_cons_succ]
                  refine wpAnyIn_ready (rs := [10]) (by kernel_rfl) (by simp) (AllReadyIn.cons rfl (fun K hK => ?_) AllReadyIn.nil)
                  go_simp
                  refine hR.mono ?_
                  rintro e W3 (⟨rfl, hJ3, hk3⟩ | ⟨rfl, hJx3⟩)
                  · have HM3 := hid (HK1.out _ _ hk3 HMd.out)
                    refine hK _ _ ?_
                    clear hK K
                    refine wpAnyIn_take (i := 11) (v := ?v26) rfl rfl (by kernel_rfl) (by kernel_rfl) (by kernel_rfl) (fun _ _ _ h => h) ⟨Or.inl ⟨by rfl, ?hy26⟩, fun _ => rfl⟩ ?rest26
                    case hy26 => (intro w; go_simp; try (with_reducible rfl))
                    simp only [Act.put, List.getElem_toArray, List.getElem_cons_succ, List.getElem_cons_zero, List.setIfInBounds_toArray, List.set_cons_zero, List.set_cons_succ]
                    refine wpAnyIn_take (i := 12) (v := ?v27) rfl rfl (by kernel_rfl) (by kernel_rfl) (by kernel_rfl) (fun _ _ _ h => h) ⟨Or.inl ⟨by rfl, ?hy27⟩, fun _ => rfl⟩ ?rest27
                    case hy27 => (intro w; go_simp; try (with_reducible rfl))
                    simp only [Act.put, List.getElem_toArray, List.getElem_cons_succ, List.getElem_cons_zero, List.setIfInBounds_toArray, List.set_cons_zero, List.set_cons_succ]
                    refine wpAnyIn_done (by kernel_rfl) ?_ _
                    clear hy hR hc2d hcld hcwd
                    gi_wp2
                    go_roundw
                    case rel => exact ⟨j + 1, _, by omega, by omega, by go_num, HQ2.out, hJ3, HM3.out⟩
                    case measure => simp [intOf]; omega
                  · refine hK _ _ ?_
                    clear hK K
                    refine wpAnyIn_take (i := 11) (v := ?v28) rfl rfl (by kernel_rfl) (by kernel_rfl) (by kernel_rfl) (fun _ _ _ h => h) ⟨Or.inl ⟨by rfl, ?hy28⟩, fun _ => rfl⟩ ?rest28
                    case hy28 => (intro w; go_simp; try (with_reducible rfl))
                    simp only [Act.put, List.getElem_toArray, List.getElem_cons_succ, List.getElem_cons_zero, List.setIfInBounds_toArray, List.set_cons_zero, List.set_cons_succ]
                    refine wpAnyIn_take (i := 12) (v := ?v29) rfl rfl (by kernel_rfl) (by kernel_rfl) (by kernel_rfl) (fun _ _ _ h => h) ⟨Or.inl ⟨by rfl, ?hy29⟩, fun _ => rfl⟩ ?rest29
                    case hy29 => (intro w; go_simp; try (with_reducible rfl))
                    simp only [Act.put, List.getElem_toArray, List.getElem_cons_succ, List.getElem_cons_zero, List.setIfInBounds_toArray, List.set_cons_zero, List.set_cons_succ]
                    refine wpAnyIn_done (by kernel_rfl) ?_ _
                    gi_wp2
                    refine bodyPost_ret (results_none rfl _ _ _) rfl ?_
                    exact ⟨⟨_, rfl⟩, .inr ⟨_, ⟨_, HQ2.out⟩, hJx3⟩⟩
                --9e
              · have hb3 : (s2.toList == l.toList) = false := by rw [ba_beq]; simpa using hsl
                rw [if_neg hsl, List.nil_append] at HB
                have HQ2 : Hid (pre2 ++ (occIn l k (j + 1) (ws.drop (j + 1)) ++ occGo f l (k + 1) (ws.drop (k + 1))) = occ ws f l) := by
                  show _ = _
                  rw [← HQ.out, HB.out]
                clear hsl
                gi_wp2_with fail
                refine wpIn_wide.2 ?_
                go_still_tail 10, (by kernel_rfl)
                have hJd := HJA.out _ _ hJi
                have HMd := hid (HMi.out.below (below_drewN (Below.refl _ _) 1))
                go_wp2_with fail
                change Code.wpIn _ _ _ _ _ _ wr.drew
                have HMd2 : Hid (OccM Bw Bf Bl (some ⟨b, off, none⟩) cap ws f l wr.drew) := HMd
                clear HMd HMi hJi hcli hcwi hc2
                generalize wr.drew = wd at *
                gi_wp2
                go_roundw
                case rel => exact ⟨j + 1, _, by omega, by omega, by go_num, HQ2.out, hJd, HMd2.out⟩
                case measure => simp [intOf]; omega
            · have hji : ¬ (j : Int) < (ws.length : Int) := by omega
              have HQ2 : Hid (pre2 ++ occGo f l (k + 1) (ws.drop (k + 1)) = occ ws f l) := by
                show _ = _
                rw [← HQ.out, show ws.drop j = [] from List.drop_of_length_le (by omega)]; simp [occIn]
              gi_wp2
              go_roundw
              case rel => exact ⟨k + 1, _, by omega, by go_num, HQ2.out, hJi, HMi.out⟩
              case measure => simp [intOf]; omega
      · have hb1 : (!s.toList == f.toList) = true := by rw [ba_beq]; simpa using hsf
        rw [if_neg hsf, List.nil_append] at HA
        have HP2 : Hid (pre ++ occGo f l (k + 1) (ws.drop (k + 1)) = occ ws f l) := by
          show _ = _
          rw [← HA.out]; exact HP.out
        clear hbf hsf
        gi_wp2
        go_roundw
        case rel => exact ⟨k + 1, _, by omega, by go_num, HP2.out, hJ, HM.out⟩
        case measure => simp [intOf]; omega
    · have hki : ¬ (k : Int) < (ws.length : Int) := by omega
      have HE : Hid (pre = occ ws f l) := by
        show _ = _
        rw [← HP.out, List.drop_of_length_le (by omega)]; simp [occGo]
      gi_wp2
      go_end0
      exact ⟨⟨_, rfl⟩, .inl (by rw [← HE.out]; exact hJ)⟩
end Go.Proofs.YtjhdeoniafahbaaGreatDoor
