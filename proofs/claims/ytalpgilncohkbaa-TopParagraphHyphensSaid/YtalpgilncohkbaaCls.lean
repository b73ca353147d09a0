/-
  charset.Clusters: the clusters themselves.
-/
import Derived.Test.YtalpgilncohkbaaClus
namespace Go.Proofs.Ytalpgilncohkbaa
open Go.RowKit
attribute [local go_sem] Oper.semAt_some

/-- Where the clusters begin and end: the one that is open began at f. -/
def cutR : Bool → Nat → Nat → List UInt8 → List (Nat × Nat)
  | _, f, k, [] => [(f, k)]
  | st, f, k, c :: r => if (mk c && st) = true then cutR true f (k + 1) r else (f, k) :: cutR (lk c) k (k + 1) r
def cl (d : List UInt8) : List (Nat × Nat) := match d with | [] => [] | c :: r => cutR (lk c) 0 1 r
def clP (s : ByteArray) : List (Nat × ByteArray) := (cl s.data.toList).map fun p => (p.1, s.extract p.1 p.2)
def clL (s : ByteArray) : List ByteArray := (clP s).map (·.2)
/-- The state of the loop of clusters. -/
def ClE (s : ByteArray) (pre : List (Nat × ByteArray)) (f k : Nat) : Prop :=
  (k ≤ s.size ∧ f < k ∧ pre ++ (cutR (lkAt s.data.toList f) f k (s.data.toList.drop k)).map (fun p => (p.1, s.extract p.1 p.2)) = clP s) ∨ (k = s.size + 1 ∧ pre = clP s)
theorem ClE.start (s : ByteArray) : ClE s [] 0 1 := by
  have hd : s.data.toList.length = s.size := rfl
  unfold ClE clP cl
  cases hl : s.data.toList with
  | nil => rw [hl] at hd; exact .inr ⟨by simp at hd; omega, rfl⟩
  | cons c r =>
    rw [hl] at hd
    refine .inl ⟨by simp at hd; omega, by omega, ?_⟩
    simp [lkAt]
theorem ClE.skip {s : ByteArray} {pre : List (Nat × ByteArray)} {f k : Nat} {c : UInt8} (h : ClE s pre f k) (hc : s.data.toList[k]? = some c) (hm : mk c = true) (hl : lkAt s.data.toList f = true) : ClE s pre f (k + 1) := by
  have hd : s.data.toList.length = s.size := rfl
  obtain ⟨hk, hx⟩ := List.getElem?_eq_some_iff.1 hc
  rcases h with ⟨h1, h2, h4⟩ | ⟨h1, _⟩
  · refine .inl ⟨by omega, by omega, ?_⟩
    rw [List.drop_eq_getElem_cons hk, hx, cutR, hm, hl, if_pos (by rfl)] at h4
    rw [hl]; exact h4
  · omega
theorem ClE.cut {s : ByteArray} {pre : List (Nat × ByteArray)} {f k : Nat} {c : UInt8} (h : ClE s pre f k) (hc : s.data.toList[k]? = some c) (hm : (mk c && lkAt s.data.toList f) = false) : ClE s (pre ++ [(f, s.extract f k)]) k (k + 1) := by
  have hd : s.data.toList.length = s.size := rfl
  obtain ⟨hk, hx⟩ := List.getElem?_eq_some_iff.1 hc
  rcases h with ⟨h1, h2, h4⟩ | ⟨h1, _⟩
  · refine .inl ⟨by omega, by omega, ?_⟩
    rw [List.drop_eq_getElem_cons hk, hx, cutR, hm, if_neg (by simp)] at h4
    have e : lkAt s.data.toList k = lk c := by unfold lkAt; rw [hc]
    rw [e, List.append_assoc]
    exact h4
  · omega
theorem ClE.last {s : ByteArray} {pre : List (Nat × ByteArray)} {f : Nat} (h : ClE s pre f s.size) : ClE s (pre ++ [(f, s.extract f s.size)]) s.size (s.size + 1) := by
  have hd : s.data.toList.length = s.size := rfl
  rcases h with ⟨h1, h2, h4⟩ | ⟨h1, _⟩
  · refine .inr ⟨rfl, ?_⟩
    rw [List.drop_of_length_le (by rw [hd]; exact Nat.le_refl _), cutR] at h4
    exact h4
  · omega
theorem ClE.done {s : ByteArray} {pre : List (Nat × ByteArray)} {f : Nat} (h : ClE s pre f (s.size + 1)) : pre = clP s := by
  rcases h with ⟨h1, _⟩ | ⟨_, h⟩
  · omega
  · exact h
/-- What the next state has behind it is a member. -/
theorem ClE.mem {s : ByteArray} {pre : List (Nat × ByteArray)} {x : Nat × ByteArray} {f k : Nat} (h : ClE s (pre ++ [x]) f k) : x ∈ clP s := by
  rcases h with ⟨_, _, h⟩ | ⟨_, h⟩
  · rw [← h]; simp
  · rw [← h]; simp
theorem cutR_len : ∀ (r : List UInt8) (st : Bool) (f k : Nat), (cutR st f k r).length = 1 + clGo st r
  | [], _, _, _ => rfl
  | c :: r, st, f, k => by
    rw [cutR, clGo]
    split
    · exact cutR_len r _ _ _
    · rw [List.length_cons, cutR_len r]; omega
theorem clL_len (s : ByteArray) : (clL s).length = clN s := by
  unfold clL clP cl clN
  rw [List.length_map, List.length_map]
  cases s.data.toList with
  | nil => rfl
  | cons c r =>
    rw [clGo, if_neg (by simp)]
    exact cutR_len r _ _ _
/-- The clusters stand one behind the other, from f to the end, none empty. -/
def Tile : Nat → Nat → List (Nat × Nat) → Prop
  | f, n, [] => f = n
  | f, n, p :: r => p.1 = f ∧ f < p.2 ∧ Tile p.2 n r
theorem cutR_tile : ∀ (r : List UInt8) (st : Bool) (f k : Nat), f < k → Tile f (k + r.length) (cutR st f k r)
  | [], _, f, k, h => ⟨rfl, h, rfl⟩
  | c :: r, st, f, k, h => by
    rw [cutR, List.length_cons, show k + (r.length + 1) = (k + 1) + r.length by omega]
    split
    · exact cutR_tile r _ f (k + 1) (by omega)
    · exact ⟨rfl, h, cutR_tile r _ k (k + 1) (by omega)⟩
theorem cl_tile (d : List UInt8) : Tile 0 d.length (cl d) := by
  cases d with
  | nil => rfl
  | cons c r =>
    have h := cutR_tile r (lk c) 0 1 (by omega)
    rw [Nat.add_comm] at h
    exact h
set_option maxRecDepth 100000 in
set_option maxHeartbeats 4000000 in
theorem clusters3_in (n : Nat) (hn : 1 ≤ n) (s : ByteArray) (Bs : Nat) (hs : s.size ≤ 1048576)
    (Kp : World → World → Prop) (hK1 : ∀ A B, Kp A B → A.cell? ⟨Bs, 0, none⟩ = some (.string s) → B.cell? ⟨Bs, 0, none⟩ = some (.string s))
    (l : Nat) (J Jx : List (Nat × ByteArray) → World → Prop)
    (hY : ∀ pre x W, x ∈ clP s → J pre W → pre.length < s.size → YieldAt Fence.wide (n - 1) Try.prog l #[.int .i64 (x.1 : Int), .string x.2] W fun e W' =>
      (e = .returned (.bool true) ∧ J (pre ++ [x]) W' ∧ Kp W W') ∨ (e = .returned (.bool false) ∧ Jx (pre ++ [x]) W'))
    (W : World) (hBs : W.cell? ⟨Bs, 0, none⟩ = some (.string s)) (h0 : J [] W) :
    CallsIn Fence.wide n Try.prog 62 #[.func (.yield l) #[] #[], .pointer (some ⟨Bs, 0, none⟩)] W fun e W' => (∃ v, e = .returned v) ∧
      ((J (clP s) W') ∨ (∃ pre : List (Nat × ByteArray), True ∧ Jx pre W')) := by
  have HK1 := hid hK1; clear hK1
  have HY := hid hY; clear hY
  have hd : s.data.toList.length = s.size := rfl
  refine callsIn_of_wp Try.func62 rfl trivial ?_ rfl
  simp only [Try.ntmps62, List.size_toArray, List.length_cons, List.length_nil, Nat.reduceAdd, Nat.reduceSub, Array.replicate_succ, Array.replicate_zero, List.push_toArray, List.append_toArray, List.nil_append, List.cons_append]
  gi_wp2
  gi_loopw [3, 4] (fun f i wr => ∃ (j k : Nat) (pre : List (Nat × ByteArray)), 1 ≤ k ∧ k ≤ s.size + 1 ∧ j ≤ k ∧ i = .int .i64 k ∧ f = .int .i64 j ∧ Hid (ClAt s.data.toList pre.length j k ∧ ClE s pre j k) ∧ J pre wr ∧ wr.cell? ⟨Bs, 0, none⟩ = some (.string s)) (fun _ i _ => s.size + 1 - (intOf i).toNat)
  case atStart => exact ⟨0, 1, [], by omega, by omega, by omega, rfl, rfl, ⟨ClAt.start _, ClE.start _⟩, h0, hBs⟩
  case round =>
    rename_i wr
    obtain ⟨j, k, pre, hk1, hk, hjk, rfl, rfl, HC, hJ, hbs⟩ := hrel
    by_cases hlt : k ≤ s.size
    · obtain ⟨hpl, hjk2⟩ := HC.out.1.lt (by omega)
      rw [hd] at hpl
      have HYk := hid (fun h => HY.out pre (j, s.extract j k) wr h hJ hpl)
      have q1 : (k : Int) ≤ (s.size : Int) := by omega
      by_cases hlt2 : k < s.size
      · have hu := byte_bd s[k]
        have HKi := fun w' => hid (kind_any (s[k].toNat : Int) hu.1 hu.2 w')
        have HRi := fun w' => hid (cright_any s j k w' (by omega) hjk2)
        have hbk := byte_at s k hlt2
        by_cases h2 : kindI s[k].toNat = 2
        · have hm : mk s[k] = true := decide_eq_true h2
          rw [h2] at HKi
          cases hl : lkAt s.data.toList j with
          | true =>
            rw [hl] at HRi
            have HC2 := hid (And.intro (HC.out.1.skip hbk hm hl) (HC.out.2.skip hbk hm hl))
            clear h2 hm hl hbk HYk
            gi_wp2_with (first | (refine ⟨trivial, ?_⟩; gi_at_call 48; refine (callsIn_wide.2 (HKi _).out).mono ?_; rintro e w' ⟨rfl, rfl⟩) | (refine ⟨trivial, ?_⟩; gi_at_call 63; refine (callsIn_wide.2 (HRi _).out).mono ?_; rintro e w' ⟨rfl, rfl⟩))
            go_roundw
            case rel => exact ⟨j, k + 1, pre, by omega, by omega, by omega, by go_num, rfl, HC2.out, hJ, hbs⟩
            case measure => simp [intOf]; omega
          | false =>
            rw [hl] at HRi
            have HC2 := hid (And.intro (HC.out.1.cut hbk (by rw [hm, hl]; rfl)) (HC.out.2.cut hbk (by rw [hm, hl]; rfl)))
            have HMM := hid HC2.out.2.mem
            clear h2 hm hl hbk
            obtain ⟨fn, tmps, assign, body, hy, hR⟩ := HYk.out HMM.out
            try dsimp only at hy
            gi_wp2_with (first | (refine ⟨trivial, ?_⟩; gi_at_call 48; refine (callsIn_wide.2 (HKi _).out).mono ?_; rintro e w' ⟨rfl, rfl⟩) | (refine ⟨trivial, ?_⟩; gi_at_call 63; refine (callsIn_wide.2 (HRi _).out).mono ?_; rintro e w' ⟨rfl, rfl⟩))
            refine hR.mono ?_
            rintro e W3 (⟨rfl, hJ3, hk3⟩ | ⟨rfl, hJx3⟩)
            · have hbs3 := HK1.out _ _ hk3 hbs
              gi_wp2
              go_roundw
              case rel => exact ⟨k, k + 1, pre ++ [(j, s.extract j k)], by omega, by omega, by omega, by go_num, by go_num, by rw [List.length_append, List.length_singleton]; exact HC2.out, hJ3, hbs3⟩
              case measure => simp [intOf]; omega
            · gi_wp2
              refine bodyPost_ret (results_none rfl _ _ _) rfl ?_
              exact ⟨⟨_, rfl⟩, .inr ⟨_, trivial, hJx3⟩⟩
        · have hm : mk s[k] = false := decide_eq_false h2
          have hb2 := beq_eq_false_iff_ne.2 h2
          have HC2 := hid (And.intro (HC.out.1.cut hbk (by rw [hm]; rfl)) (HC.out.2.cut hbk (by rw [hm]; rfl)))
          have HMM := hid HC2.out.2.mem
          generalize kindI s[k].toNat = kk at *
          clear h2 hm hbk HRi
          obtain ⟨fn, tmps, assign, body, hy, hR⟩ := HYk.out HMM.out
          try dsimp only at hy
          gi_wp2_with (first | (refine ⟨trivial, ?_⟩; gi_at_call 48; refine (callsIn_wide.2 (HKi _).out).mono ?_; rintro e w' ⟨rfl, rfl⟩) | (refine ⟨trivial, ?_⟩; gi_at_call 63; refine (callsIn_wide.2 (HRi _).out).mono ?_; rintro e w' ⟨rfl, rfl⟩))
          refine ⟨trivial, ?_⟩
          gi_wp2_with fail
          refine hR.mono ?_
          rintro e W3 (⟨rfl, hJ3, hk3⟩ | ⟨rfl, hJx3⟩)
          · have hbs3 := HK1.out _ _ hk3 hbs
            gi_wp2
            go_roundw
            case rel => exact ⟨k, k + 1, pre ++ [(j, s.extract j k)], by omega, by omega, by omega, by go_num, by go_num, by rw [List.length_append, List.length_singleton]; exact HC2.out, hJ3, hbs3⟩
            case measure => simp [intOf]; omega
          · gi_wp2
            refine bodyPost_ret (results_none rfl _ _ _) rfl ?_
            exact ⟨⟨_, rfl⟩, .inr ⟨_, trivial, hJx3⟩⟩
      · obtain rfl : k = s.size := by omega
        have HC2 := hid (And.intro HC.out.1.last HC.out.2.last)
        have HMM := hid HC2.out.2.mem
        rw [hd] at HC2
        obtain ⟨fn, tmps, assign, body, hy, hR⟩ := HYk.out HMM.out
        try dsimp only at hy
        gi_wp2_with fail
        refine ⟨trivial, ?_⟩
        gi_wp2_with fail
        refine ⟨trivial, ?_⟩
        gi_wp2_with fail
        refine hR.mono ?_
        rintro e W3 (⟨rfl, hJ3, hk3⟩ | ⟨rfl, hJx3⟩)
        · have hbs3 := HK1.out _ _ hk3 hbs
          gi_wp2
          go_roundw
          case rel => exact ⟨s.size, s.size + 1, pre ++ [(j, s.extract j s.size)], by omega, by omega, by omega, by go_num, by go_num, by rw [List.length_append, List.length_singleton]; exact HC2.out, hJ3, hbs3⟩
          case measure => simp [intOf]
        · gi_wp2
          refine bodyPost_ret (results_none rfl _ _ _) rfl ?_
          exact ⟨⟨_, rfl⟩, .inr ⟨_, trivial, hJx3⟩⟩
    · obtain rfl : k = s.size + 1 := by omega
      have HD : Hid (pre = clP s) := HC.out.2.done
      gi_wp2
      go_end0
      exact ⟨⟨_, rfl⟩, .inl (by rw [← HD.out]; exact hJ)⟩
set_option maxRecDepth 100000 in
set_option maxHeartbeats 4000000 in
theorem clusE_any (s : ByteArray) (w : World) (hs : s.size ≤ 1048576) :
    Calls Try.prog 30 #[.string s] w fun e w' => ∃ v, e = .returned v ∧ RdS w' v (clL s) ∧ Below w.heap.size w w' := by
  refine (callsIn_wide (n := 9)).1 ?_
  have hcl := clN_le s
  have hbo := below_al w (.cells #[.slice none 0 0] 23)
  have hbo2 := below_al (w.alloc (.cells #[.slice none 0 0] 23)) (.cells #[.string s] 9)
  have hBo := below_tr hbo hbo2
  have hx3 := (Boxed.new w 23 (.slice none 0 0)).alloc (.cells #[.string s] 9)
  have c3 := cell_nw (w.alloc (.cells #[.slice none 0 0] 23)) #[.string s] 9 0 (x := .string s) rfl
  rw [show (w.alloc (.cells #[.slice none 0 0] 23)).heap.size = w.heap.size + 1 by simp] at c3
  have hsz : ((w.alloc (.cells #[.slice none 0 0] 23)).alloc (.cells #[.string s] 9)).heap.size = w.heap.size + 2 := by simp
  refine callsIn_of_wp_marks Try.func30 rfl trivial ?_ rfl
  simp only [Try.ntmps30, List.size_toArray, List.length_cons, List.length_nil, Nat.reduceAdd, Nat.reduceSub, Array.replicate_succ, Array.replicate_zero, List.push_toArray, List.append_toArray, List.nil_append, List.cons_append]
  refine wpIn_wide.2 ?_
  go_wp2_with fail
  refine (clusters_any _ _).mono ?_
  rintro e w3 ⟨rfl, rfl⟩
  rw [show (w.alloc (.cells #[.slice none 0 0] 23)).heap.size = w.heap.size + 1 by simp]
  go_wp2_with fail
  generalize (w.alloc (.cells #[.slice none 0 0] 23)).alloc (.cells #[.string s] 9) = W3 at *
  clear hbo hbo2
  have hI0 : InvA w W3.heap.size w.heap.size 23 9 [] W3 := ⟨⟨_, hx3, World.ownsRow_nil _ _ _ _⟩, hBo, Nat.le_refl _⟩
  refine (wpIn_wide (n := 9)).1 ?_
  refine wpIn_rangeFunc_ownG rfl (by omega) (gf := 62) (lb := #[.pointer (some ⟨w.heap.size + 1, 0, none⟩)]) rfl trivial (enters_of Try.func62 (by kernel_rfl) rfl)
    (encs := fun x : Nat × ByteArray => #[.int .i64 (x.1 : Int), .string x.2]) (Kp := KpX W3.heap.size w.heap.size w.heap.size)
    (S := fun l => l = clP s) (Sp := fun _ => True) (N := s.size) (w0 := W3)
    ?hseq (fun h k => h.tr k) (KpX.put (Nat.le_refl _)) (Below.refl _ _) (fun _ => rfl)
    (fun pre W => InvA w W3.heap.size w.heap.size 23 9 (pre.map (·.2)) W) (fun _ _ _ => False)
    (InvA.own _ _ _ _ _ _ _ (by omega)) (fun _ _ _ _ _ h _ _ => h) hI0 ?a1 ?assign ?body ?done ?stop
  case assign =>
    intro l x W' K hK
    gi_wp2
    exact hK
  case hseq =>
    intro l J Jx W' hW' _ _ hY h0
    refine (clusters3_in (9 - 1) (by omega) s (w.heap.size + 1) hs (KpX W3.heap.size w.heap.size w.heap.size) (fun A B hk hx => hk.cell hx (by simp [hsz]) (by simp) (by simp)) l J Jx (fun pre x W _ => hY pre x W) W' (Below.keeps hW' _ _ c3) h0).mono ?_
    rintro e W'' ⟨h1, h2⟩
    exact ⟨h1, h2.imp (fun h => ⟨_, rfl, h⟩) id⟩
  case body =>
    rintro l pre ⟨p, x⟩ W' ⟨⟨v, hv, hown⟩, hBb, hn0⟩ hpl
    refine wpIn_mono (Q := bodyA w W3.heap.size w.heap.size 23 9 (pre.map (·.2) ++ [x]) W') ?_ (fun e a' w' h => by
      cases e <;> first | exact h.elim | (refine ⟨h.1, h.2.1, ?_⟩; dsimp only; rw [List.map_append]; exact h.2.2))
    dsimp only
    have hkl : (pre.map (·.2)).length ≤ 1048576 := by rw [List.length_map]; omega
    generalize pre.map (·.2) = ks at *
    have hc := hv.cell
    have hte : 23 ≠ 9 := by decide
    gi_wp2_with (gi_at_builtin; refine wpListIn_ap2 rfl _ _ 23 rfl W3.heap.size 9 Try.underlying23 infoStr' rfl (by decide) (by decide) _ _ _ rfl hown [.string x] rfl (by simp [Value.oneCell']) rfl (by simp) (by omega) hn0 ?_; intro g1 cap1 w1 hown' hb1 hgr hat _; have hv1 := hv.kept hgr (hv.not_row hte hown); have hc1 := hv1.cell; have hf1 := hv1.frozen; have HP := hid (InvA.push (x := x) hv hte hown hBb hn0 (by omega) (Nat.le_refl _) hown' hgr))
    exact HP.out
  case done =>
    rintro D ys W' hD hys ⟨⟨v, hv, hown⟩, hBb, hn0⟩ hK
    have hc := hv.cell
    have hr := Rd.of_own hown
    go_wp2_with fail
    refine ⟨by simp, .inl ⟨_, _, rfl, run_takeDeferred hK, ?_⟩⟩
    refine leave1 rfl ⟨_, rfl, by subst hys; exact Rd.of_own (ownsRow_putObj hown _ hK rfl), ?_⟩
    exact hBb.grown (grownBy_putObj' _ D _) hBb.size (fun k e => by cases e; omega)
  case stop =>
    rintro D c pre W' _ _ h _
    exact h.elim
end Go.Proofs.Ytalpgilncohkbaa
