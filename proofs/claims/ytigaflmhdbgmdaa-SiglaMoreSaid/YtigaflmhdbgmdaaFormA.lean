/-
  The reference of layer 42: check, Groups, better.
-/
import Derived.Test.YtigaflmhdbgmdaaPlG
import Derived.Test.YtigaflmhdbgmdaaRefD
namespace Go.Proofs.Ytigaflmhdbgmdaa
open Go.RowKit

set_option maxHeartbeats 400000 in
theorem rstart_any (v u s : Value) (names : List ByteArray) (gs : List Grp) (set : List Int) (w : World) (hr : RdS w v names) (hg : RdG w u gs) (hs : RdI w s set) (hz : Szs names) (hzg : SzG gs) :
    Calls Try.prog 45 #[v, u, s] w fun e w' => e = .returned (.int .i64 (startI names gs set)) ∧ Below w.heap.size w w' := by
  have hC := hid (rcheckG_any v u names gs w hr hg hz hzg)
  obtain ⟨a, cap, rfl, hlc, hcm, _⟩ := hr.open
  by_cases h0 : checkI names gs = 0
  · have hI : Hid (startI names gs set = ckSet names.length none set) := by unfold startI; rw [if_neg (by omega)]; rfl
    rw [h0] at hC
    clear h0
    have HK := hid (fun w' h => rset_any s set names.length w' h)
    generalize ckSet names.length none set = c at *
    go_enter Try.func45, Try.ntmps45
    go_wp2_with fail
    refine hC.out.mono ?_
    rintro e w1 ⟨rfl, hB1⟩
    have hs1 := hs.below hB1
    go_wp2_with fail
    refine (HK.out _ hs1).mono ?_
    rintro e w2 ⟨rfl, hB2⟩
    have hB := below_tr hB1 hB2
    go_wp2
    go_ret
    exact ⟨ret_int hI.out.symm, hB⟩
  · have hb : (checkI names gs != 0) = true := by simpa using h0
    have hI : startI names gs set = 1 := by unfold startI; rw [if_pos h0]
    rw [hI]
    clear h0 hI
    generalize checkI names gs = c at *
    go_enter Try.func45, Try.ntmps45
    go_wp2_with fail
    refine hC.out.mono ?_
    rintro e w1 ⟨rfl, hB1⟩
    go_wp2
    go_ret
    exact ⟨rfl, hB1⟩

/-- The first k groups within a set, as the reference finds them. -/
theorem withinTo_sub {names : List ByteArray} {gs : List Grp} {set : List Int} (h0 : startI names gs set = 0) (k : Nat) (g : Grp) (h : gs[k]? = some g) :
    withinTo gs (maskN set) (k + 1) = withinTo gs (maskN set) k ++ if subB g.mem set = true then [(k : Int)] else [] := by
  rw [withinTo_succ _ _ _ g h, inside_eq h0 (List.mem_of_getElem? h)]
  have e : (!(g.mem.any fun n => !(set.any fun y => decide (n = y)))) = subB g.mem set := by
    unfold subB
    rw [Bool.eq_iff_iff, Bool.not_eq_true', List.any_eq_false, List.all_eq_true]
    refine forall_congr' fun x => forall_congr' fun _ => ?_
    have : (set.any fun y => decide (x = y)) = (set.any fun y => decide (y = x)) := by congr 1; funext y; rw [decide_eq_decide]; exact eq_comm
    rw [this]; simp
  rw [e]

set_option maxHeartbeats 1000000 in
set_option maxRecDepth 100000 in
theorem rgroups_any (v u s : Value) (names : List ByteArray) (gs : List Grp) (set : List Int) (w : World) (hr : RdS w v names) (hg : RdG w u gs) (hs : RdI w s set) (hz : Szs names) (hzg : SzG gs) :
    Calls Try.prog 18 #[v, u, s] w fun e w' => ∃ r, e = .returned (.tuple #[r, .int .i64 (startI names gs set)]) ∧ RdI w' r (groupsL names gs set) ∧ Below w.heap.size w w' := by
  have hC := hid (rstart_any v u s names gs set w hr hg hs hz hzg)
  by_cases h0 : startI names gs set = 0
  · have hgl := (good_of (startI_ok h0).1).gl
    have HL : Hid (groupsL names gs set = withinTo gs (maskN set) gs.length) := groupsL_eq h0
    have HT := fun k g h => hid (withinTo_sub h0 k g h)
    have HTL := fun k => (withinTo_len gs (maskN set) k)
    rw [h0] at hC ⊢
    clear h0
    generalize maskN set = M at *
    obtain ⟨a2, cap2, rfl, hlc2, hcm2, hcell2⟩ := hg.open
    have HCell2 := hid hcell2; clear hcell2
    go_enter Try.func18, Try.ntmps18
    go_wp2_with fail
    refine hC.out.mono ?_
    rintro e w1 ⟨rfl, hB1⟩
    clear hC
    go_wp2_with fail
    go_loopw [9, 10] (fun v i wr => ∃ (k : Nat) (xs : List Int), k ≤ gs.length ∧ i = .int .i64 k ∧ Hid (xs = withinTo gs M k) ∧ xs.length ≤ k ∧ wr.ownsRow w.heap.size 3 1 v xs.length (xs.map (Value.int .i64)) ∧ Below w.heap.size w wr) (fun _ i _ => gs.length - (intOf i).toNat)
    case atStart => exact ⟨0, [], by omega, rfl, rfl, by simp, World.ownsRow_made w1 #[] 0 hB1.size (by unfold maxLen; omega) rfl, below_tr hB1 (below_al w1 _)⟩
    case round =>
      clear hB1
      rename_i wr
      obtain ⟨k, xs, hk, rfl, HX, hxl, hown, hB⟩ := hrel
      by_cases hlt : k < gs.length
      · obtain ⟨g, b2, off2, m, hgx, rfl, hc0, hd0, hm0⟩ := HCell2.out k hlt
        have hd := Below.keeps hB _ _ hd0
        have hm := hm0.below hB
        have hs1 := hs.below hB
        have HS := hid (HT k g hgx).out
        have HW := fun w' h1 h2 => hid (rwithin_any m s g.mem set w' h1 h2)
        clear hgx hc0 hd0 hm0
        generalize subB g.mem set = sb at *
        obtain ⟨am, capm, rfl, hlm, hcm3, _⟩ := hm.open
        cases sb with
        | true =>
          go_wp2_with fail
          refine (HW _ hm hs1).out.mono ?_
          rintro e w3 ⟨rfl, rfl⟩
          go_wp2_with (at_builtin; refine wpList_ap rfl _ _ 26 rfl w.heap.size 3 Try.underlying26 infoInt rfl (by decide) (by decide) _ _ _ rfl hown [.int .i64 k] rfl (by simp [Value.oneCell']) rfl (by simp) (by omega) hB.size ?_; intro v' w4 hown' hb1 _)
          go_roundw
          case rel => exact ⟨k + 1, xs ++ [(k : Int)], by omega, by go_num, by rw [HS.out, HX.out]; rfl, by rw [List.length_append, List.length_singleton]; omega, by simpa using hown', hB.trans hb1⟩
          case measure => simp [intOf]; omega
        | false =>
          go_wp2_with fail
          refine (HW _ hm hs1).out.mono ?_
          rintro e w3 ⟨rfl, rfl⟩
          go_wp2
          go_roundw
          case rel => exact ⟨k + 1, xs, by omega, by go_num, by rw [HS.out, HX.out, if_neg (by simp), List.append_nil]; rfl, by omega, hown, hB⟩
          case measure => simp [intOf]; omega
      · obtain rfl : k = gs.length := by omega
        go_wp2
        go_ret2
        exact ⟨_, rfl, by rw [HL.out, ← HX.out]; exact Rd.of_own hown, hB⟩
  · have hb : (startI names gs set != 0) = true := by simpa using h0
    have HL : Hid (groupsL names gs set = []) := by unfold groupsL; rw [if_neg h0]; rfl
    clear h0
    generalize startI names gs set = c at *
    go_enter Try.func18, Try.ntmps18
    go_wp2_with fail
    refine hC.out.mono ?_
    rintro e w1 ⟨rfl, hB1⟩
    go_wp2
    go_ret2
    exact ⟨_, rfl, by rw [HL.out]; exact Rd.nil _, hB1⟩

theorem betterB_drop (l m : List Int) (hl : l.length = m.length) : betterB l m = decide (lexI l m < 0) := by
  unfold betterB
  simp [hl]
theorem lexI_step (l m : List Int) (k : Nat) (x y : Int) (hx : l[k]? = some x) (hy : m[k]? = some y) : decide (lexI (l.drop k) (m.drop k) < 0) = if x = y then decide (lexI (l.drop (k + 1)) (m.drop (k + 1)) < 0) else decide (x < y) := by
  rw [lexI_drop l m k x y hx hy]
  by_cases e : x = y
  · subst e
    simp [cmpI]
  · rw [if_neg e]
    by_cases h : x < y
    · simp [cmpI, h]
    · simp [cmpI, h]
      omega

set_option maxHeartbeats 1000000 in
set_option maxRecDepth 100000 in
theorem better_any (v u : Value) (l m : List Int) (w : World) (hr : RdI w v l) (hs : RdI w u m) :
    Calls Try.prog 44 #[v, u] w fun e w' => e = .returned (.bool (betterB l m)) ∧ Below w.heap.size w w' := by
  obtain ⟨a, cap, rfl, hlc, hcm, hcell⟩ := hr.open
  obtain ⟨a2, cap2, rfl, hlc2, hcm2, hcell2⟩ := hs.open
  have HCell := hid hcell; clear hcell
  have HCell2 := hid hcell2; clear hcell2
  by_cases hl : l.length = m.length
  · have HB := hid (betterB_drop l m hl)
    have HLX := fun k x y h1 h2 => hid (lexI_step l m k x y h1 h2)
    rw [← hl] at HCell2 hlc2 ⊢
    have HLM := hid hl
    clear hl
    go_enter Try.func44, Try.ntmps44
    go_wp2
    go_loopw [5] (fun i wr => ∃ k : Nat, k ≤ l.length ∧ i = .int .i64 k ∧ Hid (decide (lexI l m < 0) = decide (lexI (l.drop k) (m.drop k) < 0)) ∧ Below w.heap.size w wr) (fun i _ => l.length - (intOf i).toNat)
    case atStart => exact ⟨0, Nat.zero_le _, rfl, by simp [Hid], Below.refl _ _⟩
    case round =>
      rename_i wr
      obtain ⟨k, hk, rfl, HK, hB⟩ := hrel
      by_cases hlt : k < l.length
      · obtain ⟨x, b, off, hx, rfl, hc0⟩ := HCell.out k hlt
        obtain ⟨y, b2, off2, hy, rfl, hd0⟩ := HCell2.out k hlt
        have hc := Below.keeps hB _ _ hc0
        have hd := Below.keeps hB _ _ hd0
        have HC0 := hid hc0
        have HD0 := hid hd0
        clear hc0 hd0
        have HX := HLX k x y hx hy
        clear hx hy
        by_cases he : x = y
        · subst he
          have HX2 : Hid (decide (lexI (l.drop k) (m.drop k) < 0) = decide (lexI (l.drop (k + 1)) (m.drop (k + 1)) < 0)) := by rw [HX.out, if_pos rfl]; rfl
          go_wp2
          go_quiet ((fail))
          go_wp2
          go_roundw
          case rel => exact ⟨k + 1, by omega, by go_num, by rw [HK.out, HX2.out]; rfl, below_drewN hB _⟩
          case measure => simp [intOf]; omega
        · have hb' : (x != y) = true := by simpa using he
          have HE := hid he
          clear he
          go_wp2
          go_quiet ((fail))
          have hc9 := Below.keeps (below_drewN hB nq) _ _ HC0.out
          have hd9 := Below.keeps (below_drewN hB nq) _ _ HD0.out
          go_wp2
          go_quiet ((fail))
          go_wp2
          go_ret
          exact ⟨ret_bool (by rw [HB.out, HK.out, HX.out, if_neg HE.out]), below_drewN (below_drewN hB _) _⟩
      · go_wp2
        go_ret
        refine ⟨ret_bool ?_, hB⟩
        rw [HB.out, HK.out, List.drop_of_length_le (by omega), List.drop_of_length_le (by have := HLM.out; omega)]
        rfl
  · have hb' : ((l.length : Int) != (m.length : Int)) = true := by simp; omega
    have HB : Hid (betterB l m = decide (l.length < m.length)) := by unfold betterB; simp [hl, Hid]
    clear hl
    by_cases hlt : l.length < m.length
    · go_enter Try.func44, Try.ntmps44
      go_wp2
      go_ret
      exact ⟨ret_bool (by rw [HB.out]; simp [hlt]), Below.refl _ _⟩
    · go_enter Try.func44, Try.ntmps44
      go_wp2
      go_ret
      exact ⟨ret_bool (by rw [HB.out]; simp [hlt]), Below.refl _ _⟩
end Go.Proofs.Ytigaflmhdbgmdaa
