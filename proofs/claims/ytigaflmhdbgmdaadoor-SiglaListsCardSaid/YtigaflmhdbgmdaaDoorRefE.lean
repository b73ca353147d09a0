/-
  The reference's Print and Parse.
-/
import Derived.Test.YtigaflmhdbgmdaaDoorRefD
import Derived.Test.YtigaflmhdbgmdaaDoorPlT
namespace Go.Proofs.YtigaflmhdbgmdaaDoor
open Go.RowKit

theorem mt_app (x : ByteArray) : (⟨#[]⟩ : ByteArray) ++ x = x := by
  apply ba_ext; rw [ByteArray.data_append]; simp
/-- What the loop of the reference's Print has written before step k. -/
def joinTo (l : List ByteArray) (k : Nat) : ByteArray := joinB (l.take k)
theorem joinTo_one (l : List ByteArray) (x : ByteArray) (h : l[0]? = some x) : joinTo l 1 = x := by
  unfold joinTo joinB
  rw [List.take_add_one, h]
  simp [Lib.join_one]
theorem joinTo_succ (l : List ByteArray) (k : Nat) (x : ByteArray) (h : l[k + 1]? = some x) : joinTo l (k + 2) = (joinTo l (k + 1) ++ ⟨#[32]⟩) ++ x := by
  apply ba_ext
  cases l with
  | nil => cases h
  | cons y r =>
    unfold joinTo joinB
    rw [ByteArray.data_append, ByteArray.data_append, Array.toList_append, Array.toList_append]
    simp only [List.take_succ_cons, List.map_cons, Lib.join_cons]
    rw [List.getElem?_cons_succ] at h
    rw [List.map_take, List.map_take, Lib.joinTail_take_succ [32] (r.map (·.data.toList)) k x.data.toList (by simp [h])]
    simp [List.append_assoc]
theorem joinTo_len (l : List ByteArray) (h : ∀ x ∈ l, x.size ≤ 20) (k : Nat) : (joinTo l k).size ≤ k * 21 := by
  have : ∀ m : List ByteArray, (∀ x ∈ m, x.size ≤ 20) → Lib.lens (m.map (·.data.toList)) ≤ m.length * 20 := by
    intro m hm
    induction m with
    | nil => simp [Lib.lens]
    | cons x m ih =>
      have h1 := hm x (by simp)
      have h2 := ih fun y hy => hm y (by simp [hy])
      have h3 : x.data.toList.length = x.size := rfl
      simp only [Lib.lens, List.map_cons, List.sum_cons, List.length_cons] at h2 ⊢
      omega
  show (Lib.join ((l.take k).map (·.data.toList)) [32]).length ≤ _
  have hl := this (l.take k) fun x hx => h x (List.mem_of_mem_take hx)
  have hk : (l.take k).length ≤ k := by simp; omega
  cases e : l.take k with
  | nil => simp [Lib.join_nil]
  | cons x r =>
    rw [e] at hl hk
    rw [List.map_cons, Lib.join_length]
    rw [List.map_cons] at hl
    simp only [List.length_cons, List.length_map, List.length_nil] at hl hk ⊢
    omega

set_option maxHeartbeats 1000000 in
set_option maxRecDepth 100000 in
theorem rprint_any (v : Value) (l : List ByteArray) (w : World) (hr : RdS w v l) (hz : ∀ x ∈ l, x.size ≤ 20) :
    Calls Tryd.prog 15 #[v] w fun e w' => e = .returned (.tuple #[.string (printS l), .int .i64 (printI l)]) ∧ Below w.heap.size w w' := by
  obtain ⟨a, cap, rfl, hlc, hcm, hcell⟩ := hr.open
  have HCell := hid hcell; clear hcell
  have HZ := hid hz; clear hz
  by_cases h64 : 64 < l.length
  · have HI : Hid (printI l = 4) := by unfold printI; rw [if_pos h64]; rfl
    have HS : Hid (printS l = ByteArray.empty) := by unfold printS; rw [HI.out]; rfl
    have q : (64 : Int) < (l.length : Int) := by omega
    go_enter Tryd.func15, Tryd.ntmps15
    go_wp2
    go_ret2
    exact ⟨by rw [HS.out, HI.out]; rfl, Below.refl _ _⟩
  have HI : Hid (printI l = if l.all sigB = true then 0 else 14) := by unfold printI; rw [if_neg h64]; rfl
  have HJL := hid (joinTo_len l HZ.out)
  have q : ¬ (64 : Int) < (l.length : Int) := by omega
  go_enter Tryd.func15, Tryd.ntmps15
  go_wp2
  go_loopw [4, 5] (fun o i wr => ∃ k : Nat, k ≤ l.length ∧ i = .int .i64 k ∧ o = .string (joinTo l k) ∧ Hid (∀ y ∈ l.take k, (!sigB y) = false) ∧ Below w.heap.size w wr) (fun _ i _ => l.length - (intOf i).toNat)
  case atStart => exact ⟨0, Nat.zero_le _, rfl, rfl, by simp [Hid], Below.refl _ _⟩
  case round =>
    rename_i wr
    obtain ⟨k, hk, rfl, rfl, HK, hB⟩ := hrel
    by_cases hlt : k < l.length
    · obtain ⟨x, b, off, hx, rfl, hc0⟩ := HCell.out k hlt
      have hc := Below.keeps hB _ _ hc0
      have HC0 := hid hc0
      clear hc0
      have HX := hid hx
      have hxz := HZ.out x (List.mem_of_getElem? hx)
      clear hx
      have HC := hid (rsiglum_any x wr (by unfold maxLen; omega))
      obtain ⟨hb, hbe⟩ : ∃ hb, hb = sigB x := ⟨_, rfl⟩
      have HBE := hid hbe
      rw [← hbe] at HC
      clear hbe
      have hjl := HJL.out k
      cases hb with
      | true =>
        rcases k with _ | k
        · have HN : Hid (joinTo l 1 = x) := joinTo_one l x HX.out
          have H0 : Hid (joinTo l 0 = ⟨#[]⟩) := rfl
          have q2 : ¬ (0 : Int) < ((0 : Nat) : Int) := by omega
          rw [Nat.add_zero] at hc HC0
          rw [H0.out] at *
          go_wp2_with (go_at_call 39; refine HC.out.mono ?_; rintro e w2 ⟨rfl, hB2⟩; have hc2 := Below.keeps (below_tr hB hB2) _ _ HC0.out; have HB2 := hid (below_tr hB hB2))
          go_roundw
          case rel => exact ⟨1, by omega, by go_num, by rw [HN.out, mt_app], take_none HK.out HX.out (by rw [← HBE.out]; rfl), HB2.out⟩
          case measure => simp [intOf]; omega
        · have HN := hid (joinTo_succ l k x HX.out)
          have q2 : (0 : Int) < ((k + 1 : Nat) : Int) := by omega
          generalize joinTo l (k + 1) = J at *
          go_wp2_with (go_at_call 39; refine HC.out.mono ?_; rintro e w2 ⟨rfl, hB2⟩; have hc2 := Below.keeps (below_tr hB hB2) _ _ HC0.out; have HB2 := hid (below_tr hB hB2))
          go_roundw
          case rel => exact ⟨k + 2, by omega, by go_num, by rw [HN.out], take_none HK.out HX.out (by rw [← HBE.out]; rfl), HB2.out⟩
          case measure => simp [intOf]; omega
      | false =>
        have hI : Hid (printI l = 14) := by
          rw [HI.out, if_neg]; · rfl
          rw [Bool.not_eq_true]
          exact List.all_eq_false.2 ⟨x, List.mem_of_getElem? HX.out, by rw [← HBE.out]; simp⟩
        have hS : Hid (printS l = ByteArray.empty) := by unfold printS; rw [hI.out]; rfl
        go_wp2_with (go_at_call 39; refine HC.out.mono ?_; rintro e w2 ⟨rfl, hB2⟩; have hc2 := Below.keeps (below_tr hB hB2) _ _ HC0.out; have HB2 := hid (below_tr hB hB2))
        go_ret2
        exact ⟨by rw [hS.out, hI.out]; rfl, HB2.out⟩
    · obtain rfl : k = l.length := by omega
      have hI : Hid (printI l = 0) := by
        rw [HI.out, if_pos]; · rfl
        have h := HK.out
        rw [List.take_of_length_le (Nat.le_refl _)] at h
        exact List.all_eq_true.2 fun y hy => by simpa using h y hy
      have hS : Hid (printS l = joinTo l l.length) := by unfold printS joinTo; rw [hI.out, List.take_of_length_le (Nat.le_refl _)]; rfl
      go_wp2
      go_ret2
      exact ⟨by rw [hS.out, hI.out]; rfl, hB⟩

/-- The state of the reference's Parse: the pieces ks are cut, the next one begins at f. -/
def CutAt (d : List UInt8) (ks : List ByteArray) (f i : Nat) : Prop :=
  (∀ x ∈ ks, x.size ≠ 0) ∧ ((i ≤ d.length ∧ f ≤ i ∧ cutL 32 d = ks.map (·.data.toList) ++ cutL 32 (d.drop f) ∧ (32 : UInt8) ∉ (d.drop f).take (i - f)) ∨ (i = d.length + 1 ∧ cutL 32 d = ks.map (·.data.toList)))
theorem CutAt.start (d : List UInt8) : CutAt d [] 0 0 := ⟨fun x h => (by cases h), .inl ⟨Nat.zero_le _, Nat.le_refl _, by simp, by simp⟩⟩
theorem CutAt.skip {d : List UInt8} {ks : List ByteArray} {f i : Nat} (h : CutAt d ks f i) (hi : i < d.length) (c : UInt8) (hc : d[i]? = some c) (hn : c ≠ 32) : CutAt d ks f (i + 1) := by
  obtain ⟨h1, h2⟩ := h
  refine ⟨h1, ?_⟩
  rcases h2 with ⟨_, hf, he, hm⟩ | ⟨e, _⟩
  · refine .inl ⟨by omega, by omega, he, ?_⟩
    rw [show i + 1 - f = (i - f) + 1 by omega, List.take_add_one, List.getElem?_drop, show f + (i - f) = i by omega, hc]
    simp only [Option.toList_some, List.mem_append, List.mem_singleton, not_or]
    exact ⟨hm, fun e => hn e.symm⟩
  · omega
theorem take_drop_piece (s : ByteArray) (f i : Nat) : (s.extract f i).data.toList = (s.data.toList.drop f).take (i - f) := by
  rw [ByteArray.data_extract, Array.toList_extract, List.extract_eq_take_drop]
theorem CutAt.split {s : ByteArray} {ks : List ByteArray} {f i : Nat} (h : CutAt s.data.toList ks f i) (hi : i < s.size) (hc : s.data.toList[i]? = some 32) (hne : i ≠ f) : CutAt s.data.toList (ks ++ [s.extract f i]) (i + 1) (i + 1) := by
  obtain ⟨h1, h2⟩ := h
  have hl : s.data.toList.length = s.size := rfl
  rcases h2 with ⟨_, hf, he, hm⟩ | ⟨e, _⟩
  · refine ⟨fun x hx => ?_, .inl ⟨by omega, Nat.le_refl _, ?_, by simp⟩⟩
    · rcases List.mem_append.1 hx with h | h
      · exact h1 x h
      · rw [List.mem_singleton] at h
        subst h
        rw [ByteArray.size_extract]; omega
    · rw [he, List.map_append, List.append_assoc]
      congr 1
      have e1 : s.data.toList.drop f = (s.data.toList.drop f).take (i - f) ++ 32 :: s.data.toList.drop (i + 1) := by
        have h3 := List.take_append_drop (i - f) (s.data.toList.drop f)
        rw [List.drop_drop, show f + (i - f) = i by omega] at h3
        have h4 : s.data.toList.drop i = 32 :: s.data.toList.drop (i + 1) := by
          obtain ⟨hlt, hx⟩ := List.getElem?_eq_some_iff.1 hc
          rw [List.drop_eq_getElem_cons hlt, hx]
        rw [h4] at h3
        exact h3.symm
      rw [e1, cutL_app _ hm, List.map_cons, List.map_nil, take_drop_piece]
      rfl
  · omega
theorem CutAt.last {s : ByteArray} {ks : List ByteArray} {f : Nat} (h : CutAt s.data.toList ks f s.size) (hne : s.size ≠ f) : CutAt s.data.toList (ks ++ [s.extract f s.size]) (s.size + 1) (s.size + 1) := by
  obtain ⟨h1, h2⟩ := h
  have hl : s.data.toList.length = s.size := rfl
  rcases h2 with ⟨_, hf, he, hm⟩ | ⟨e, _⟩
  · refine ⟨fun x hx => ?_, .inr ⟨by omega, ?_⟩⟩
    · rcases List.mem_append.1 hx with h | h
      · exact h1 x h
      · rw [List.mem_singleton] at h
        subst h
        rw [ByteArray.size_extract]; omega
    · rw [List.take_of_length_le (by rw [List.length_drop]; omega)] at hm
      rw [he, List.map_append, cutL_none hm, List.map_cons, List.map_nil, take_drop_piece, List.take_of_length_le (by rw [List.length_drop]; omega)]
  · omega
/-- An empty piece. -/
theorem CutAt.hole {s : ByteArray} {ks : List ByteArray} {i : Nat} (h : CutAt s.data.toList ks i i) (hc : i < s.size → s.data.toList[i]? = some 32) (hi : i ≤ s.size) : holeB (splitS s) = true := by
  obtain ⟨_, h2⟩ := h
  have hl : s.data.toList.length = s.size := rfl
  rcases h2 with ⟨_, hf, he, _⟩ | ⟨e, _⟩
  · have hm : [] ∈ cutL 32 s.data.toList := by
      rw [he]
      apply List.mem_append_right
      by_cases hlt : i < s.size
      · obtain ⟨hlt', hx⟩ := List.getElem?_eq_some_iff.1 (hc hlt)
        rw [List.drop_eq_getElem_cons hlt', hx]
        simp [cutL]
      · rw [List.drop_of_length_le (by omega)]; simp [cutL]
    rw [← splitS_data] at hm
    obtain ⟨x, hx, e⟩ := List.mem_map.1 hm
    exact List.any_eq_true.2 ⟨x, hx, decide_eq_true (ba_ext (by rw [e]))⟩
  · omega
theorem CutAt.done {s : ByteArray} {ks : List ByteArray} {f : Nat} (h : CutAt s.data.toList ks f (s.size + 1)) : splitS s = ks ∧ holeB (splitS s) = false := by
  obtain ⟨h1, h2⟩ := h
  have hl : s.data.toList.length = s.size := rfl
  rcases h2 with ⟨h, _⟩ | ⟨_, he⟩
  · omega
  · have e : splitS s = ks := map_data_inj (by rw [splitS_data, he])
    exact ⟨e, by rw [e]; exact hole_no h1⟩
theorem CutAt.bound {d : List UInt8} {ks : List ByteArray} {f i : Nat} (h : CutAt d ks f i) : ks.length ≤ d.length + 1 := by
  have hl := cutL_len 32 d
  obtain ⟨_, h2⟩ := h
  rcases h2 with ⟨_, _, he, _⟩ | ⟨_, he⟩ <;> (rw [he] at hl; simp at hl; omega)

theorem getL (s : ByteArray) (k : Nat) (h : k < s.size) : s.data.toList[k]? = some s[k] := by
  rw [List.getElem?_eq_getElem (show k < s.data.toList.length from h)]; rfl
theorem byte_ne {c : UInt8} (h : ¬ c = 32) : ((c.toNat : Int) == 32) = false := by
  rw [beq_eq_false_iff_ne]
  intro e; apply h; apply UInt8.toNat_inj.1
  have : c.toNat = 32 := by omega
  rw [this]; rfl

set_option maxHeartbeats 4000000 in
set_option maxRecDepth 100000 in
theorem rparse_any (s : ByteArray) (w : World) (hs : s.size ≤ maxLen) :
    Calls Tryd.prog 16 #[.string s] w fun e w' => ∃ v, e = .returned (.tuple #[v, .int .i64 (parseI s)]) ∧ RdS w' v (parseL s) ∧ Below w.heap.size w w' := by
  by_cases h64 : 65536 < s.size
  · have hI : parseI s = 4 := by unfold parseI; rw [if_pos h64]
    have hL : parseL s = [] := by unfold parseL; rw [hI]; split <;> rfl
    rw [hI, hL]
    have h1 : (65536 : Int) < (s.size : Int) := by omega
    go_enter Tryd.func16, Tryd.ntmps16
    go_wp2
    go_ret2
    exact ⟨_, rfl, Rd.nil _, Below.refl _ _⟩
  by_cases h0 : s.size = 0
  · have hI : parseI s = 0 := by unfold parseI; rw [if_neg h64, if_pos h0]
    have hL : parseL s = [] := by unfold parseL; rw [if_pos h0]
    rw [hI, hL]
    obtain rfl : s = ⟨#[]⟩ := by
      rcases s with ⟨a⟩
      congr 1
      exact Array.eq_empty_of_size_eq_zero h0
    clear h0 h64
    go_enter Tryd.func16, Tryd.ntmps16
    go_wp2
    go_ret2
    exact ⟨_, rfl, Rd.of_own (l := ([] : List ByteArray)) (World.ownsRow_made w #[] 0 (Nat.le_refl _) (by unfold maxLen; omega) rfl), below_al w _⟩
  have h1 : ¬ (65536 : Int) < (s.size : Int) := by omega
  have h2 := mt_ne h0
  have HI : Hid (parseI s = if holeB (splitS s) = true then 3 else printI (splitS s)) := by unfold parseI; rw [if_neg h64, if_neg h0]; rfl
  have HL : Hid (parseL s = if parseI s = 0 then splitS s else []) := by unfold parseL; rw [if_neg h0]; rfl
  clear h0
  go_enter Tryd.func16, Tryd.ntmps16
  go_wp2
  go_loopw [4, 5, 6] (fun o f i wr => ∃ (j k : Nat) (ks : List ByteArray), k ≤ s.size + 1 ∧ j ≤ k ∧ i = .int .i64 k ∧ f = .int .i64 j ∧ Hid (CutAt s.data.toList ks j k) ∧ wr.ownsRow w.heap.size 9 1 o ks.length (ks.map Value.string) ∧ Below w.heap.size w wr) (fun _ _ i _ => s.size + 1 - (intOf i).toNat)
  case atStart => exact ⟨0, 0, [], by omega, by omega, rfl, rfl, CutAt.start _, World.ownsRow_made w #[] 0 (Nat.le_refl _) (by unfold maxLen; omega) rfl, below_al w _⟩
  case round =>
    rename_i wr
    obtain ⟨j, k, ks, hk, hjk, rfl, rfl, HC, hown, hB⟩ := hrel
    have hb := HC.out.bound
    have hsz : s.data.toList.length = s.size := rfl
    rw [hsz] at hb
    by_cases hlt : k ≤ s.size
    · have push : ∀ (w3 : World) (v' : Value), w3.ownsRow w.heap.size 9 1 v' (ks.length + 1) (ks.map Value.string ++ [Value.string (s.extract j k)]) → w3.ownsRow w.heap.size 9 1 v' (ks ++ [s.extract j k]).length ((ks ++ [s.extract j k]).map Value.string) := fun w3 v' h => by simpa using h
      have HPush := hid push
      clear push
      by_cases hjk2 : k = j
      · obtain rfl := hjk2
        have q1 : ((k : Int) == (k : Int)) = true := by simp
        by_cases hlt2 : k < s.size
        · by_cases h32 : s[k] = 32
          · have hh := HC.out.hole (fun _ => by rw [getL s k hlt2, h32]) hlt
            have hI : Hid (parseI s = 3) := by rw [HI.out, if_pos hh]; rfl
            have hL : Hid (parseL s = []) := by rw [HL.out, hI.out]; rfl
            have q3 : ((s[k].toNat : Int) == 32) = true := by rw [h32]; rfl
            clear hh h32
            go_wp2
            go_ret2
            exact ⟨_, by rw [hI.out]; rfl, by rw [hL.out]; exact Rd.nil _, hB⟩
          · have HC2 := hid (HC.out.skip (by omega) s[k] (getL s k hlt2) h32)
            have q3 := byte_ne h32
            clear h32
            go_wp2
            go_roundw
            case rel => exact ⟨k, k + 1, ks, by omega, by omega, by go_num, rfl, HC2.out, hown, hB⟩
            case measure => simp [intOf]; omega
        · obtain rfl : k = s.size := by omega
          have hh := HC.out.hole (fun h => absurd h hlt2) hlt
          have hI : Hid (parseI s = 3) := by rw [HI.out, if_pos hh]; rfl
          have hL : Hid (parseL s = []) := by rw [HL.out, hI.out]; rfl
          clear hh
          go_wp2
          go_ret2
          exact ⟨_, by rw [hI.out]; rfl, by rw [hL.out]; exact Rd.nil _, hB⟩
      · have q1 : ((k : Int) == (j : Int)) = false := by simp; omega
        by_cases hlt2 : k < s.size
        · by_cases h32 : s[k] = 32
          · have HC2 := hid (HC.out.split hlt2 (by rw [getL s k hlt2, h32]) hjk2)
            have q3 : ((s[k].toNat : Int) == 32) = true := by rw [h32]; rfl
            clear h32
            go_wp2_with (at_builtin; refine wpList_ap rfl _ _ 22 rfl w.heap.size 9 Tryd.underlying22 infoStr rfl (by decide) (by decide) _ _ _ rfl hown [.string (s.extract j k)] rfl (by simp [Value.oneCell']) rfl (by simp) (by omega) hB.size ?_; intro v' w1 hown' hb1 _)
            go_roundw
            case rel => exact ⟨k + 1, k + 1, _, by omega, by omega, by go_num, by go_num, HC2.out, HPush.out _ _ hown', hB.trans hb1⟩
            case measure => simp [intOf]; omega
          · have HC2 := hid (HC.out.skip (by omega) s[k] (getL s k hlt2) h32)
            have q3 := byte_ne h32
            clear h32
            go_wp2
            go_roundw
            case rel => exact ⟨j, k + 1, ks, by omega, by omega, by go_num, rfl, HC2.out, hown, hB⟩
            case measure => simp [intOf]; omega
        · obtain rfl : k = s.size := by omega
          have HC2 := hid (HC.out.last hjk2)
          go_wp2_with (at_builtin; refine wpList_ap rfl _ _ 22 rfl w.heap.size 9 Tryd.underlying22 infoStr rfl (by decide) (by decide) _ _ _ rfl hown [.string (s.extract j s.size)] rfl (by simp [Value.oneCell']) rfl (by simp) (by omega) hB.size ?_; intro v' w1 hown' hb1 _)
          go_roundw
          case rel => exact ⟨s.size + 1, s.size + 1, _, by omega, by omega, by go_num, by go_num, HC2.out, HPush.out _ _ hown', hB.trans hb1⟩
          case measure => simp [intOf]
    · obtain rfl : k = s.size + 1 := by omega
      obtain ⟨e1, e2⟩ := HC.out.done
      rw [e2, e1] at HI
      rw [e1] at HL
      have HZ := hid (fun x (hx : x ∈ ks) => Nat.le_trans (splitS_size s x (by rw [e1]; exact hx)) hs)
      clear HC e1 e2
      have hro := Rd.of_own (enc := Value.string) hown
      obtain ⟨ao, capo, rfl, hlo, hcmo, hcello⟩ := hro.open
      have HCello := hid hcello; clear hcello hown
      by_cases hk64 : 64 < ks.length
      · have hI : Hid (parseI s = 4) := by rw [HI.out]; unfold printI; rw [if_neg (by decide), if_pos hk64]; rfl
        have hL : Hid (parseL s = []) := by rw [HL.out, hI.out]; rfl
        have q4 : (64 : Int) < (ks.length : Int) := by omega
        go_wp2
        go_ret2
        exact ⟨_, by rw [hI.out]; rfl, by rw [hL.out]; exact Rd.nil _, hB⟩
      have HI2 : Hid (parseI s = if ks.all sigB = true then 0 else 14) := by rw [HI.out]; unfold printI; rw [if_neg (by decide), if_neg hk64]; rfl
      have q4 : ¬ (64 : Int) < (ks.length : Int) := by omega
      have HBo := hid hB
      clear HI hB
      obtain ⟨wo, hwo⟩ : ∃ wo : World, wo = wr := ⟨_, rfl⟩
      go_wp2_with fail
      subst hwo
      go_loopw [7] (fun i wr => ∃ k : Nat, k ≤ ks.length ∧ i = .int .i64 k ∧ Hid (∀ y ∈ ks.take k, (!sigB y) = false) ∧ Below wo.heap.size wo wr) (fun i _ => ks.length - (intOf i).toNat)
      case atStart => exact ⟨0, Nat.zero_le _, rfl, by simp [Hid], Below.refl _ _⟩
      case round =>
        obtain ⟨k, hk, rfl, HK, hB⟩ := hrel
        by_cases hlt : k < ks.length
        · obtain ⟨x, b, off, hx, rfl, hc0⟩ := HCello.out k hlt
          have hc := Below.keeps hB _ _ hc0
          clear hc0
          have HX := hid hx
          have hxz := HZ.out x (List.mem_of_getElem? hx)
          clear hx
          have HCs := fun w' => hid (rsiglum_any x w' hxz)
          obtain ⟨hb, hbe⟩ : ∃ hb, hb = sigB x := ⟨_, rfl⟩
          have HBE := hid hbe
          rw [← hbe] at HCs
          clear hbe hxz
          cases hb with
          | true =>
            go_wp2_with fail
            refine (HCs _).out.mono ?_
            rintro e w2 ⟨rfl, hB2⟩
            have HB2 := hid (below_tr hB hB2)
            clear hB2
            go_wp2
            go_roundw
            case rel => exact ⟨k + 1, by omega, by go_num, take_none HK.out HX.out (by rw [← HBE.out]; rfl), HB2.out⟩
            case measure => simp [intOf]; omega
          | false =>
            have hI : Hid (parseI s = 14) := by
              rw [HI2.out, if_neg]; · rfl
              rw [Bool.not_eq_true]
              exact List.all_eq_false.2 ⟨x, List.mem_of_getElem? HX.out, by rw [← HBE.out]; simp⟩
            have hL : Hid (parseL s = []) := by rw [HL.out, hI.out]; rfl
            go_wp2_with fail
            refine (HCs _).out.mono ?_
            rintro e w2 ⟨rfl, hB2⟩
            have HB2 := hid (below_tr HBo.out (below_tr hB hB2))
            clear hB2
            go_wp2
            go_ret2
            exact ⟨_, by rw [hI.out]; rfl, by rw [hL.out]; exact Rd.nil _, HB2.out⟩
        · obtain rfl : k = ks.length := by omega
          have hI : Hid (parseI s = 0) := by
            rw [HI2.out, if_pos]; · rfl
            have h := HK.out
            rw [List.take_of_length_le (Nat.le_refl _)] at h
            exact List.all_eq_true.2 fun y hy => by simpa using h y hy
          have hL : Hid (parseL s = ks) := by rw [HL.out, hI.out]; rfl
          have hr3 := hro.below hB
          have hBe := below_tr HBo.out hB
          go_wp2
          go_ret2
          exact ⟨_, by rw [hI.out]; rfl, by rw [hL.out]; exact hr3, hBe⟩
end Go.Proofs.YtigaflmhdbgmdaaDoor
