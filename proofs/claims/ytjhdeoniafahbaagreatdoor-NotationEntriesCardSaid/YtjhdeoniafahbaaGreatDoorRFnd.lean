/-
  The reference's Find.
-/
import Derived.Test.YtjhdeoniafahbaaGreatDoorROf
import Derived.Test.YtjhdeoniafahbaaGreatDoorLEach
namespace Go.Proofs.YtjhdeoniafahbaaGreatDoor
open Go.RowKit

set_option maxRecDepth 100000 in
set_option maxHeartbeats 4000000 in
theorem rfind_any (ws : List ByteArray) (f l : ByteArray) (n : Int) (v : Value) (w : World) (he : Env w) (hr : RdS w v ws) (hz : ∀ s ∈ ws, s.size ≤ 65536) (hf : f.size ≤ 65536) (hl : l.size ≤ 65536) (hlen : lcheckI ws = 0 → ws.length ≤ 13) :
    Calls Tryz.prog 46 #[v, .agg #[.string f, .string l, .int .i64 n]] w fun e w' => e = .returned (findVal (findRes ws f l n)) ∧ Below w.heap.size w w' := by
  have HD : Hid (findRes ws f l n = if lcheckI ws ≠ 0 then (0, 0, lcheckI ws) else if lemCk f l n ≠ 0 then (0, 0, lemCk f l n) else (((findF (occ ws f l) n.toNat : Nat) : Int), findT (occ ws f l) n.toNat, findE (occ ws f l) n.toNat)) := rfl
  have HCK := fun w' (h : Below w.heap.size w w') => hid (rcheckW_any v ws w' (he.below h) (hr.below h) hz)
  have HLK := fun w' (h : Below w.heap.size w w') => hid (rlck_any f l n w' (he.below h) hf hl)
  have hb0 := below_al w (.cells #[.string f, .string l, .int .i64 n] 28)
  have hrr := row_nw w #[.string f, .string l, .int .i64 n] 28 rfl
  by_cases hck : lcheckI ws = 0
  · by_cases hlk : lemCk f l n = 0
    · have hn := lck_bounds hlk
      obtain ⟨k, rfl⟩ := Int.eq_ofNat_of_zero_le hn.1
      have hnb : (k : Int) ≤ 65536 := hn.2
      have hl13 := hlen hck
      have HR : Hid (findRes ws f l (k : Int) = (((findF (occ ws f l) k : Nat) : Int), findT (occ ws f l) k, findE (occ ws f l) k)) := by unfold Hid; rw [HD.out, if_neg (by omega), if_neg (by omega)]; rfl
      have HOC := fun w' (h : Below w.heap.size w w') => hid (rocc_any ws f l v w' (hr.below h) hl13)
      have HEC := hid (each_cases (occ ws f l) (fun p hp => by have := occ_in p hp; omega) k)
      rw [hck] at HCK
      rw [hlk] at HLK
      have hol := occ_len hl13 f l
      obtain ⟨ad, cap, rfl, hlc, hcm, _⟩ := hr.open
      clear HD hck hlk hn hr hz he hlen hl13 hf hl
      generalize occ ws f l = oc at *
      have hmx := fun w => @run_max2 Tryz.prog w #[3, 3] 3 .i64 (k : Int) (max k 1) (by simp) (by omega)
      rcases HEC.out with ⟨p, hc, hp, hE, hF, hT, hpb⟩ | ⟨hc1, hc2, hE, hF, hT⟩ | ⟨hc1, hc2, hE, hF, hT⟩ | ⟨hc1, hc2, hE, hF, hT⟩ | ⟨hc1, hc2, hc3, hE, hF, hT⟩
      all_goals rw [hE, hF, hT] at HR
      all_goals clear hE hF hT HEC
      · have HP := hid hp
        go_enter Tryz.func46, Tryz.ntmps46
        go_wp2_with fail
        generalize w.alloc (.cells #[.string f, .string l, .int .i64 (k : Int)] 28) = W1 at *
        refine (HCK _ hb0).out.mono ?_
        rintro e w2 ⟨rfl, hB1⟩
        have hb2 := below_tr hb0 hB1
        have hr2 := hrr.below hB1
        have r0 := hr2.cell 0 rfl
        have r1 := hr2.cell 1 rfl
        have r2 := hr2.cell 2 rfl
        clear hb0 hB1 HCK
        go_wp2_with fail
        refine (HLK _ hb2).out.mono ?_
        rintro e w3 ⟨rfl, hB3⟩
        have hb3 := below_tr hb2 hB3
        have hr3 := hr2.below hB3
        have u0 := hr3.cell 0 rfl
        have u1 := hr3.cell 1 rfl
        clear hb2 hB3 hr2 r0 r1 r2 HLK
        go_wp2_with fail
        refine (HOC _ hb3).out.mono ?_
        rintro e w4 ⟨u, rfl, hru, hB4⟩
        have HB4 := hid (below_tr hb3 hB4)
        have c2 := (hr3.below hB4).cell 2 rfl
        clear hb3 hB4 hr3 u0 u1 HOC hrr
        obtain ⟨au, cu, rfl, huc, hum, hucell⟩ := hru.open
        have HUC := hid hucell
        clear hucell hru
        obtain ⟨p', bu, ou, r, hp', rfl, hcu, hx1, hx2⟩ := HUC.out (max k 1 - 1) (List.getElem?_eq_some_iff.1 HP.out).1
        rw [HP.out] at hp'
        cases hp'
        have hw1 : IntKind.i64.wrap ((p.2 : Int) + 1) = (p.2 : Int) + 1 := IntWalk.i64_in _ (by omega)
        have hlt := (List.getElem?_eq_some_iff.1 HP.out).1
        obtain ⟨m, hm⟩ : ∃ m, max k 1 = m + 1 := ⟨max k 1 - 1, by omega⟩
        rw [hm] at hmx
        have hmm : max k 1 - 1 = m := by omega
        rw [hmm] at hcu
        have hmi : (m : Int) < (oc.length : Int) := by omega
        have hm0 : (0 : Int) ≤ (m : Int) := by omega
        have hm1 : ((m + 1 : Nat) : Int) - 1 = (m : Int) := by omega
        have hm2 : IntKind.i64.wrap (((m + 1 : Nat) : Int) - 1) = (m : Int) := by rw [hm1]; exact IntWalk.i64_in _ (by omega)
        have o0 : ((oc.length : Int) == 0) = false := by rw [beq_eq_false_iff_ne]; omega
        have o1 : ¬ (oc.length : Int) = 0 := by omega
        clear HUC HP hmm hlt
        rcases hc with ⟨rfl, hc2⟩ | ⟨hc1, hc2, hc3⟩
        · have q2 : ¬ (1 : Int) < (oc.length : Int) := by omega
          obtain rfl : m = 0 := by omega
          rw [Nat.add_zero] at hcu
          have hmx0 := fun w => @run_max2z Tryz.prog w #[3, 3] 3 .i64
          have q5 : (0 : Int) < (oc.length : Int) := by omega
          clear hmx hmi hm0 hm hm1 hm2
          go_wp2_with fail
          go_quiet (fail)
          go_wp2
          go_ret3
          exact ⟨by rw [HR.out]; rfl, below_drewN HB4.out _⟩
        · have q1 : ¬ (k : Int) = 0 := by omega
          have q2 : ¬ (oc.length : Int) = 1 := by omega
          have q6 : ((oc.length : Int) == 1) = false := by rw [beq_eq_false_iff_ne]; omega
          have q3 : ¬ (oc.length : Int) < (k : Int) := by omega
          have q4 : (0 : Int) < (k : Int) := by omega
          have q5 : (k : Int) ≤ (oc.length : Int) := by omega
          go_wp2_with fail
          go_quiet (fail)
          go_wp2
          go_ret3
          exact ⟨by rw [HR.out]; rfl, below_drewN HB4.out _⟩
      · have q1 : (1 : Int) < (oc.length : Int) := by omega
        obtain rfl := hc1
        have q2 : ¬ (oc.length : Int) = 0 := by omega
        have q3 : ((oc.length : Int) == 0) = false := by rw [beq_eq_false_iff_ne]; omega
        go_enter Tryz.func46, Tryz.ntmps46
        go_wp2_with fail
        generalize w.alloc (.cells #[.string f, .string l, .int .i64 ((0 : Nat) : Int)] 28) = W1 at *
        refine (HCK _ hb0).out.mono ?_
        rintro e w2 ⟨rfl, hB1⟩
        have hb2 := below_tr hb0 hB1
        have hr2 := hrr.below hB1
        have r0 := hr2.cell 0 rfl
        have r1 := hr2.cell 1 rfl
        have r2 := hr2.cell 2 rfl
        clear hb0 hB1 HCK
        go_wp2_with fail
        refine (HLK _ hb2).out.mono ?_
        rintro e w3 ⟨rfl, hB3⟩
        have hb3 := below_tr hb2 hB3
        have hr3 := hr2.below hB3
        have u0 := hr3.cell 0 rfl
        have u1 := hr3.cell 1 rfl
        clear hb2 hB3 hr2 r0 r1 r2 HLK
        go_wp2_with fail
        refine (HOC _ hb3).out.mono ?_
        rintro e w4 ⟨u, rfl, hru, hB4⟩
        have HB4 := hid (below_tr hb3 hB4)
        have c2 := (hr3.below hB4).cell 2 rfl
        clear hb3 hB4 hr3 u0 u1 HOC hrr
        obtain ⟨au, cu, rfl, huc, hum, hucell⟩ := hru.open
        have HUC := hid hucell
        clear hucell hru
        clear HUC
        go_wp2_with fail
        all_goals go_ret3
        all_goals exact ⟨by rw [HR.out]; rfl, HB4.out⟩
      · obtain rfl := hc1
        have q2 : (oc.length : Int) = 0 := by omega
        go_enter Tryz.func46, Tryz.ntmps46
        go_wp2_with fail
        generalize w.alloc (.cells #[.string f, .string l, .int .i64 ((0 : Nat) : Int)] 28) = W1 at *
        refine (HCK _ hb0).out.mono ?_
        rintro e w2 ⟨rfl, hB1⟩
        have hb2 := below_tr hb0 hB1
        have hr2 := hrr.below hB1
        have r0 := hr2.cell 0 rfl
        have r1 := hr2.cell 1 rfl
        have r2 := hr2.cell 2 rfl
        clear hb0 hB1 HCK
        go_wp2_with fail
        refine (HLK _ hb2).out.mono ?_
        rintro e w3 ⟨rfl, hB3⟩
        have hb3 := below_tr hb2 hB3
        have hr3 := hr2.below hB3
        have u0 := hr3.cell 0 rfl
        have u1 := hr3.cell 1 rfl
        clear hb2 hB3 hr2 r0 r1 r2 HLK
        go_wp2_with fail
        refine (HOC _ hb3).out.mono ?_
        rintro e w4 ⟨u, rfl, hru, hB4⟩
        have HB4 := hid (below_tr hb3 hB4)
        have c2 := (hr3.below hB4).cell 2 rfl
        clear hb3 hB4 hr3 u0 u1 HOC hrr
        obtain ⟨au, cu, rfl, huc, hum, hucell⟩ := hru.open
        have HUC := hid hucell
        clear hucell hru
        clear HUC
        go_wp2_with fail
        all_goals go_ret3
        all_goals exact ⟨by rw [HR.out]; rfl, HB4.out⟩
      · have q1 : ¬ (k : Int) = 0 := by omega
        have q4 : (0 : Int) < (k : Int) := by omega
        have q3 : (oc.length : Int) < (k : Int) := by omega
        go_enter Tryz.func46, Tryz.ntmps46
        go_wp2_with fail
        generalize w.alloc (.cells #[.string f, .string l, .int .i64 (k : Int)] 28) = W1 at *
        refine (HCK _ hb0).out.mono ?_
        rintro e w2 ⟨rfl, hB1⟩
        have hb2 := below_tr hb0 hB1
        have hr2 := hrr.below hB1
        have r0 := hr2.cell 0 rfl
        have r1 := hr2.cell 1 rfl
        have r2 := hr2.cell 2 rfl
        clear hb0 hB1 HCK
        go_wp2_with fail
        refine (HLK _ hb2).out.mono ?_
        rintro e w3 ⟨rfl, hB3⟩
        have hb3 := below_tr hb2 hB3
        have hr3 := hr2.below hB3
        have u0 := hr3.cell 0 rfl
        have u1 := hr3.cell 1 rfl
        clear hb2 hB3 hr2 r0 r1 r2 HLK
        go_wp2_with fail
        refine (HOC _ hb3).out.mono ?_
        rintro e w4 ⟨u, rfl, hru, hB4⟩
        have HB4 := hid (below_tr hb3 hB4)
        have c2 := (hr3.below hB4).cell 2 rfl
        clear hb3 hB4 hr3 u0 u1 HOC hrr
        obtain ⟨au, cu, rfl, huc, hum, hucell⟩ := hru.open
        have HUC := hid hucell
        clear hucell hru
        clear HUC
        go_wp2_with fail
        all_goals go_ret3
        all_goals exact ⟨by rw [HR.out]; rfl, HB4.out⟩
      · have q1 : ¬ (k : Int) = 0 := by omega
        have q4 : (0 : Int) < (k : Int) := by omega
        have q3 : (oc.length : Int) = 1 := by omega
        have q5 : ¬ (oc.length : Int) = 0 := by omega
        go_enter Tryz.func46, Tryz.ntmps46
        go_wp2_with fail
        generalize w.alloc (.cells #[.string f, .string l, .int .i64 (k : Int)] 28) = W1 at *
        refine (HCK _ hb0).out.mono ?_
        rintro e w2 ⟨rfl, hB1⟩
        have hb2 := below_tr hb0 hB1
        have hr2 := hrr.below hB1
        have r0 := hr2.cell 0 rfl
        have r1 := hr2.cell 1 rfl
        have r2 := hr2.cell 2 rfl
        clear hb0 hB1 HCK
        go_wp2_with fail
        refine (HLK _ hb2).out.mono ?_
        rintro e w3 ⟨rfl, hB3⟩
        have hb3 := below_tr hb2 hB3
        have hr3 := hr2.below hB3
        have u0 := hr3.cell 0 rfl
        have u1 := hr3.cell 1 rfl
        clear hb2 hB3 hr2 r0 r1 r2 HLK
        go_wp2_with fail
        refine (HOC _ hb3).out.mono ?_
        rintro e w4 ⟨u, rfl, hru, hB4⟩
        have HB4 := hid (below_tr hb3 hB4)
        have c2 := (hr3.below hB4).cell 2 rfl
        clear hb3 hB4 hr3 u0 u1 HOC hrr
        obtain ⟨au, cu, rfl, huc, hum, hucell⟩ := hru.open
        have HUC := hid hucell
        clear hucell hru
        clear HUC
        go_wp2_with fail
        all_goals go_ret3
        all_goals exact ⟨by rw [HR.out]; rfl, HB4.out⟩
    · have HR : Hid (findRes ws f l n = (0, 0, lemCk f l n)) := by unfold Hid; rw [HD.out, if_neg (by omega), if_pos hlk]
      have hcb : (lemCk f l n == 0) = false := beq_eq_false_iff_ne.2 hlk
      rw [hck] at HCK
      obtain ⟨ad, cap, rfl, hlc, hcm, _⟩ := hr.open
      clear HD hck hr hz he hlen
      generalize lemCk f l n = ck at *
      go_enter Tryz.func46, Tryz.ntmps46
      go_wp2_with fail
      generalize w.alloc (.cells #[.string f, .string l, .int .i64 n] 28) = W1 at *
      refine (HCK _ hb0).out.mono ?_
      rintro e w2 ⟨rfl, hB1⟩
      have HB2 := hid (below_tr hb0 hB1)
      have hr2 := hrr.below hB1
      have r0 := hr2.cell 0 rfl
      have r1 := hr2.cell 1 rfl
      have r2 := hr2.cell 2 rfl
      clear hr2 hrr hb0 hB1 HCK
      go_wp2_with fail
      refine (HLK _ HB2.out).out.mono ?_
      rintro e w3 ⟨rfl, hB3⟩
      go_wp2
      go_ret3
      exact ⟨by rw [HR.out]; rfl, below_tr HB2.out hB3⟩
  · have HR : Hid (findRes ws f l n = (0, 0, lcheckI ws)) := by unfold Hid; rw [HD.out, if_pos hck]
    have hcb : (lcheckI ws == 0) = false := beq_eq_false_iff_ne.2 hck
    obtain ⟨ad, cap, rfl, hlc, hcm, _⟩ := hr.open
    clear HD hr hz he hlen HLK
    generalize lcheckI ws = ck at *
    go_enter Tryz.func46, Tryz.ntmps46
    go_wp2_with fail
    generalize w.alloc (.cells #[.string f, .string l, .int .i64 n] 28) = W1 at *
    refine (HCK _ hb0).out.mono ?_
    rintro e w2 ⟨rfl, hB1⟩
    go_wp2
    go_ret3
    exact ⟨by rw [HR.out]; rfl, below_tr hb0 hB1⟩
end Go.Proofs.YtjhdeoniafahbaaGreatDoor
