/-
  charset.Clusters and the reference's: how many clusters a string has.
-/
import Derived.Test.YtalpgilncohkbaaJ01
import Derived.Test.YtalpgilncohkbaaCharset
import Derived.Test.YtalpgilncohkbaaRefB
namespace Go.Proofs.Ytalpgilncohkbaa
open Go.RowKit
attribute [local go_sem] Oper.semAt_some

def lk (c : UInt8) : Bool := decide (kindI c.toNat = 1)
def mk (c : UInt8) : Bool := decide (kindI c.toNat = 2)
def clGo : Bool → List UInt8 → Nat
  | _, [] => 0
  | st, c :: r => if (mk c && st) = true then clGo true r else 1 + clGo (lk c) r
def clN (s : ByteArray) : Nat := clGo false s.data.toList
theorem clGo_le : ∀ (l : List UInt8) (st : Bool), clGo st l ≤ l.length
  | [], _ => Nat.le_refl _
  | c :: r, st => by
    unfold clGo
    split
    · have := clGo_le r true; simp; omega
    · have := clGo_le r (lk c); simp; omega
theorem clN_le (s : ByteArray) : clN s ≤ s.size := clGo_le _ _
theorem rgo_count : ∀ (l : List UInt8) (pk : Int) (pf : Bool), (rgo pk pf l).count false = clGo (decide (pk = 1) || pf) l
  | [], _, _ => rfl
  | c :: r, pk, pf => by
    rw [rgo, List.count_cons, rgo_count r, clGo]
    by_cases h : (mk c && (decide (pk = 1) || pf)) = true
    · rw [if_pos h]
      have h' : (decide (kindI c.toNat = 2) && (decide (pk = 1) || pf)) = true := h
      rw [h']
      simp
    · rw [if_neg h]
      have h' : (decide (kindI c.toNat = 2) && (decide (pk = 1) || pf)) = false := by simpa [mk] using h
      rw [h']
      simp [lk]; omega
theorem clN_right (s : ByteArray) : (rightL s.data.toList).count false = clN s := by
  unfold rightL clN; rw [rgo_count]; rfl

def lkAt (d : List UInt8) (f : Nat) : Bool := match d[f]? with | some c => lk c | none => false
/-- The state of the loop of clusters: y are yielded, the next one begins at f. -/
def ClAt (d : List UInt8) (y f k : Nat) : Prop := (k ≤ d.length ∧ f < k ∧ y ≤ f ∧ clGo false d = y + 1 + clGo (lkAt d f) (d.drop k)) ∨ (k = d.length + 1 ∧ clGo false d = y)
theorem ClAt.start (d : List UInt8) : ClAt d 0 0 1 := by
  cases d with
  | nil => exact .inr ⟨rfl, rfl⟩
  | cons c r =>
    refine .inl ⟨by simp, by omega, by omega, ?_⟩
    rw [clGo, if_neg (by simp)]
    simp [lkAt]
theorem ClAt.skip {d : List UInt8} {y f k : Nat} {c : UInt8} (h : ClAt d y f k) (hc : d[k]? = some c) (hm : mk c = true) (hl : lkAt d f = true) : ClAt d y f (k + 1) := by
  obtain ⟨hk, hx⟩ := List.getElem?_eq_some_iff.1 hc
  rcases h with ⟨h1, h2, h3, h4⟩ | ⟨h1, _⟩
  · refine .inl ⟨by omega, by omega, h3, ?_⟩
    rw [List.drop_eq_getElem_cons hk, hx, clGo, hm, hl, if_pos (by rfl)] at h4
    rw [hl]; exact h4
  · omega
theorem ClAt.cut {d : List UInt8} {y f k : Nat} {c : UInt8} (h : ClAt d y f k) (hc : d[k]? = some c) (hm : (mk c && lkAt d f) = false) : ClAt d (y + 1) k (k + 1) := by
  obtain ⟨hk, hx⟩ := List.getElem?_eq_some_iff.1 hc
  rcases h with ⟨h1, h2, h3, h4⟩ | ⟨h1, _⟩
  · refine .inl ⟨by omega, by omega, by omega, ?_⟩
    rw [List.drop_eq_getElem_cons hk, hx, clGo, hm, if_neg (by simp)] at h4
    have e : lkAt d k = lk c := by unfold lkAt; rw [hc]
    rw [e]; omega
  · omega
theorem ClAt.last {d : List UInt8} {y f : Nat} (h : ClAt d y f d.length) : ClAt d (y + 1) d.length (d.length + 1) := by
  rcases h with ⟨h1, h2, h3, h4⟩ | ⟨h1, _⟩
  · refine .inr ⟨rfl, ?_⟩
    rw [List.drop_of_length_le (Nat.le_refl _), clGo] at h4
    exact h4
  · omega
theorem ClAt.done {d : List UInt8} {y f : Nat} (h : ClAt d y f (d.length + 1)) : clGo false d = y := by
  rcases h with ⟨h1, _⟩ | ⟨_, h⟩
  · omega
  · exact h
theorem ClAt.lt {d : List UInt8} {y f k : Nat} (h : ClAt d y f k) (hk : k ≤ d.length) : y < d.length ∧ f < k := by
  rcases h with ⟨h1, h2, h3, _⟩ | ⟨h1, _⟩ <;> omega

set_option maxHeartbeats 1000000 in
theorem cright_any (s : ByteArray) (f k : Nat) (w : World) (hf : f < s.size) (hk : f < k) :
    Calls Try.prog 63 #[.string s, .int .i64 f, .int .i64 k] w fun e w' => e = .returned (.bool (lkAt s.data.toList f)) ∧ w = w' := by
  have hL : Hid (lkAt s.data.toList f = lk s[f]) := by unfold lkAt; rw [byte_at s f hf]; rfl
  have hu := byte_bd s[f]
  have HK := fun w' => hid (kind_any (s[f].toNat : Int) hu.1 hu.2 w')
  have hkf : (f : Int) < (k : Int) := by omega
  by_cases h1 : kindI s[f].toNat = 1
  · have HR : Hid (lk s[f] = true) := decide_eq_true h1
    rw [h1] at HK
    clear h1
    go_enter Try.func63, Try.ntmps63
    go_wp2_with fail
    refine (HK _).out.mono ?_
    rintro e w1 ⟨rfl, rfl⟩
    go_wp2
    go_ret
    exact ⟨ret_bool (by rw [hL.out, HR.out]), rfl⟩
  · have HR : Hid (lk s[f] = false) := decide_eq_false h1
    have hb := beq_eq_false_iff_ne.2 h1
    generalize kindI s[f].toNat = kk at *
    clear h1
    go_enter Try.func63, Try.ntmps63
    go_wp2_with fail
    refine (HK _).out.mono ?_
    rintro e w1 ⟨rfl, rfl⟩
    go_wp2
    go_ret
    exact ⟨ret_bool (by rw [hL.out, HR.out]), rfl⟩

set_option maxHeartbeats 1000000 in
theorem clusters_any (s : ByteArray) (w : World) :
    Calls Try.prog 44 #[.string s] w fun e w' => e = .returned (.func (.func 62) #[] #[.pointer (some ⟨w.heap.size, 0, none⟩)]) ∧ w.alloc (.cells #[.string s] 9) = w' := by
  go_enter Try.func44, Try.ntmps44
  go_wp2
  go_ret
  exact ⟨rfl, rfl⟩

set_option maxRecDepth 100000 in
set_option maxHeartbeats 4000000 in
theorem clusters1_in (n : Nat) (hn : 1 ≤ n) (s : ByteArray) (Bs : Nat) (hs : s.size ≤ 1048576)
    (Kp : World → World → Prop) (hK1 : ∀ A B, Kp A B → A.cell? ⟨Bs, 0, none⟩ = some (.string s) → B.cell? ⟨Bs, 0, none⟩ = some (.string s))
    (l : Nat) (J Jx : List (Nat × ByteArray) → World → Prop)
    (hY : ∀ pre x W, J pre W → pre.length < s.size → YieldAt Fence.wide (n - 1) Try.prog l #[.int .i64 (x.1 : Int), .string x.2] W fun e W' =>
      (e = .returned (.bool true) ∧ J (pre ++ [x]) W' ∧ Kp W W') ∨ (e = .returned (.bool false) ∧ Jx (pre ++ [x]) W'))
    (W : World) (hBs : W.cell? ⟨Bs, 0, none⟩ = some (.string s)) (h0 : J [] W) :
    CallsIn Fence.wide n Try.prog 62 #[.func (.yield l) #[] #[], .pointer (some ⟨Bs, 0, none⟩)] W fun e W' => (∃ v, e = .returned v) ∧
      ((∃ xs : List (Nat × ByteArray), xs.length = clN s ∧ J xs W') ∨ (∃ pre : List (Nat × ByteArray), True ∧ Jx pre W')) := by
  have HK1 := hid hK1; clear hK1
  have HY := hid hY; clear hY
  have hd : s.data.toList.length = s.size := rfl
  refine callsIn_of_wp Try.func62 rfl trivial ?_ rfl
  simp only [Try.ntmps62, List.size_toArray, List.length_cons, List.length_nil, Nat.reduceAdd, Nat.reduceSub, Array.replicate_succ, Array.replicate_zero, List.push_toArray, List.append_toArray, List.nil_append, List.cons_append]
  gi_wp2
  gi_loopw [3, 4] (fun f i wr => ∃ (j k : Nat) (pre : List (Nat × ByteArray)), 1 ≤ k ∧ k ≤ s.size + 1 ∧ j ≤ k ∧ i = .int .i64 k ∧ f = .int .i64 j ∧ Hid (ClAt s.data.toList pre.length j k) ∧ J pre wr ∧ wr.cell? ⟨Bs, 0, none⟩ = some (.string s)) (fun _ i _ => s.size + 1 - (intOf i).toNat)
  case atStart => exact ⟨0, 1, [], by omega, by omega, by omega, rfl, rfl, ClAt.start _, h0, hBs⟩
  case round =>
    rename_i wr
    obtain ⟨j, k, pre, hk1, hk, hjk, rfl, rfl, HC, hJ, hbs⟩ := hrel
    by_cases hlt : k ≤ s.size
    · obtain ⟨hpl, hjk2⟩ := HC.out.lt (by omega)
      rw [hd] at hpl
      have HYk := hid (HY.out pre (j, s.extract j k) wr hJ hpl)
      have q1 : (k : Int) ≤ (s.size : Int) := by omega
      by_cases hlt2 : k < s.size
      · have hu := byte_bd s[k]
        have HKi := fun w' => hid (kind_any (s[k].toNat : Int) hu.1 hu.2 w')
        have HRi := fun w' => hid (cright_any s j k w' (by omega) hjk2)
        have hbk := byte_at s k hlt2
        by_cases h2 : kindI s[k].toNat = 2
        · have hm : mk s[k] = true := decide_eq_true h2
          rw [h2] at HKi
          cases hl : lkAt s.data.toList j with
          | true =>
            rw [hl] at HRi
            have HC2 := hid (HC.out.skip hbk hm hl)
            clear h2 hm hl hbk HYk
            gi_wp2_with (first | (refine ⟨trivial, ?_⟩; gi_at_call 48; refine (callsIn_wide.2 (HKi _).out).mono ?_; rintro e w' ⟨rfl, rfl⟩) | (refine ⟨trivial, ?_⟩; gi_at_call 63; refine (callsIn_wide.2 (HRi _).out).mono ?_; rintro e w' ⟨rfl, rfl⟩))
            go_roundw
            case rel => exact ⟨j, k + 1, pre, by omega, by omega, by omega, by go_num, rfl, HC2.out, hJ, hbs⟩
            case measure => simp [intOf]; omega
          | false =>
            rw [hl] at HRi
            have HC2 := hid (HC.out.cut hbk (by rw [hm, hl]; rfl))
            clear h2 hm hl hbk
            obtain ⟨fn, tmps, assign, body, hy, hR⟩ := HYk.out
            try dsimp only at hy
            gi_wp2_with (first | (refine ⟨trivial, ?_⟩; gi_at_call 48; refine (callsIn_wide.2 (HKi _).out).mono ?_; rintro e w' ⟨rfl, rfl⟩) | (refine ⟨trivial, ?_⟩; gi_at_call 63; refine (callsIn_wide.2 (HRi _).out).mono ?_; rintro e w' ⟨rfl, rfl⟩))
            refine hR.mono ?_
            rintro e W3 (⟨rfl, hJ3, hk3⟩ | ⟨rfl, hJx3⟩)
            · have hbs3 := HK1.out _ _ hk3 hbs
              gi_wp2
              go_roundw
              case rel => exact ⟨k, k + 1, pre ++ [(j, s.extract j k)], by omega, by omega, by omega, by go_num, by go_num, by rw [List.length_append, List.length_singleton]; exact HC2.out, hJ3, hbs3⟩
              case measure => simp [intOf]; omega
            · gi_wp2
              refine bodyPost_ret (results_none rfl _ _ _) rfl ?_
              exact ⟨⟨_, rfl⟩, .inr ⟨_, trivial, hJx3⟩⟩
        · have hm : mk s[k] = false := decide_eq_false h2
          have hb2 := beq_eq_false_iff_ne.2 h2
          have HC2 := hid (HC.out.cut hbk (by rw [hm]; rfl))
          generalize kindI s[k].toNat = kk at *
          clear h2 hm hbk HRi
          obtain ⟨fn, tmps, assign, body, hy, hR⟩ := HYk.out
          try dsimp only at hy
          gi_wp2_with (first | (refine ⟨trivial, ?_⟩; gi_at_call 48; refine (callsIn_wide.2 (HKi _).out).mono ?_; rintro e w' ⟨rfl, rfl⟩) | (refine ⟨trivial, ?_⟩; gi_at_call 63; refine (callsIn_wide.2 (HRi _).out).mono ?_; rintro e w' ⟨rfl, rfl⟩))
          refine ⟨trivial, ?_⟩
          gi_wp2_with fail
          refine hR.mono ?_
          rintro e W3 (⟨rfl, hJ3, hk3⟩ | ⟨rfl, hJx3⟩)
          · have hbs3 := HK1.out _ _ hk3 hbs
            gi_wp2
            go_roundw
            case rel => exact ⟨k, k + 1, pre ++ [(j, s.extract j k)], by omega, by omega, by omega, by go_num, by go_num, by rw [List.length_append, List.length_singleton]; exact HC2.out, hJ3, hbs3⟩
            case measure => simp [intOf]; omega
          · gi_wp2
            refine bodyPost_ret (results_none rfl _ _ _) rfl ?_
            exact ⟨⟨_, rfl⟩, .inr ⟨_, trivial, hJx3⟩⟩
      · obtain rfl : k = s.size := by omega
        have HC2 := hid (HC.out.last)
        rw [hd] at HC2
        obtain ⟨fn, tmps, assign, body, hy, hR⟩ := HYk.out
        try dsimp only at hy
        gi_wp2_with fail
        refine ⟨trivial, ?_⟩
        gi_wp2_with fail
        refine ⟨trivial, ?_⟩
        gi_wp2_with fail
        refine hR.mono ?_
        rintro e W3 (⟨rfl, hJ3, hk3⟩ | ⟨rfl, hJx3⟩)
        · have hbs3 := HK1.out _ _ hk3 hbs
          gi_wp2
          go_roundw
          case rel => exact ⟨s.size, s.size + 1, pre ++ [(j, s.extract j s.size)], by omega, by omega, by omega, by go_num, by go_num, by rw [List.length_append, List.length_singleton]; exact HC2.out, hJ3, hbs3⟩
          case measure => simp [intOf]
        · gi_wp2
          refine bodyPost_ret (results_none rfl _ _ _) rfl ?_
          exact ⟨⟨_, rfl⟩, .inr ⟨_, trivial, hJx3⟩⟩
    · obtain rfl : k = s.size + 1 := by omega
      have HD : Hid (pre.length = clN s) := HC.out.done.symm
      gi_wp2
      go_end0
      exact ⟨⟨_, rfl⟩, .inl ⟨pre, HD.out, hJ⟩⟩
theorem infoStr' : (Try.prog.info? 9).map (fun i => (i.zero, i.size, i.bytes)) = some (some (.string ⟨#[]⟩), 1, 16) := by kernel_rfl

set_option maxRecDepth 100000 in
set_option maxHeartbeats 4000000 in
theorem clus_any (s : ByteArray) (w : World) (hs : s.size ≤ 1048576) :
    Calls Try.prog 30 #[.string s] w fun e w' => ∃ v ks, e = .returned v ∧ RdS w' v ks ∧ ks.length = clN s ∧ Below w.heap.size w w' := by
  refine (callsIn_wide (n := 9)).1 ?_
  have hcl := clN_le s
  have hbo := below_al w (.cells #[.slice none 0 0] 23)
  have hbo2 := below_al (w.alloc (.cells #[.slice none 0 0] 23)) (.cells #[.string s] 9)
  have hBo := below_tr hbo hbo2
  have hx3 := (Boxed.new w 23 (.slice none 0 0)).alloc (.cells #[.string s] 9)
  have c3 := cell_nw (w.alloc (.cells #[.slice none 0 0] 23)) #[.string s] 9 0 (x := .string s) rfl
  rw [show (w.alloc (.cells #[.slice none 0 0] 23)).heap.size = w.heap.size + 1 by simp] at c3
  have hsz : ((w.alloc (.cells #[.slice none 0 0] 23)).alloc (.cells #[.string s] 9)).heap.size = w.heap.size + 2 := by simp
  refine callsIn_of_wp_marks Try.func30 rfl trivial ?_ rfl
  simp only [Try.ntmps30, List.size_toArray, List.length_cons, List.length_nil, Nat.reduceAdd, Nat.reduceSub, Array.replicate_succ, Array.replicate_zero, List.push_toArray, List.append_toArray, List.nil_append, List.cons_append]
  refine wpIn_wide.2 ?_
  go_wp2_with fail
  refine (clusters_any _ _).mono ?_
  rintro e w3 ⟨rfl, rfl⟩
  rw [show (w.alloc (.cells #[.slice none 0 0] 23)).heap.size = w.heap.size + 1 by simp]
  go_wp2_with fail
  generalize (w.alloc (.cells #[.slice none 0 0] 23)).alloc (.cells #[.string s] 9) = W3 at *
  clear hbo hbo2
  have hI0 : InvA w W3.heap.size w.heap.size 23 9 [] W3 := ⟨⟨_, hx3, World.ownsRow_nil _ _ _ _⟩, hBo, Nat.le_refl _⟩
  refine (wpIn_wide (n := 9)).1 ?_
  refine wpIn_rangeFunc_ownG rfl (by omega) (gf := 62) (lb := #[.pointer (some ⟨w.heap.size + 1, 0, none⟩)]) rfl trivial (enters_of Try.func62 (by kernel_rfl) rfl)
    (encs := fun x : Nat × ByteArray => #[.int .i64 (x.1 : Int), .string x.2]) (Kp := KpX W3.heap.size w.heap.size w.heap.size)
    (S := fun l => l.length = clN s) (Sp := fun _ => True) (N := s.size) (w0 := W3)
    ?hseq (fun h k => h.tr k) (KpX.put (Nat.le_refl _)) (Below.refl _ _) (fun _ => rfl)
    (fun pre W => InvA w W3.heap.size w.heap.size 23 9 (pre.map (·.2)) W) (fun _ _ _ => False)
    (InvA.own _ _ _ _ _ _ _ (by omega)) (fun _ _ _ _ _ h _ _ => h) hI0 ?a1 ?assign ?body ?done ?stop
  case assign =>
    intro l x W' K hK
    gi_wp2
    exact hK
  case hseq =>
    intro l J Jx W' hW' _ _ hY h0
    exact clusters1_in (9 - 1) (by omega) s (w.heap.size + 1) hs (KpX W3.heap.size w.heap.size w.heap.size) (fun A B hk hx => hk.cell hx (by simp [hsz]) (by simp) (by simp)) l J Jx hY W' (Below.keeps hW' _ _ c3) h0
  case body =>
    rintro l pre ⟨p, x⟩ W' ⟨⟨v, hv, hown⟩, hBb, hn0⟩ hpl
    refine wpIn_mono (Q := bodyA w W3.heap.size w.heap.size 23 9 (pre.map (·.2) ++ [x]) W') ?_ (fun e a' w' h => by
      cases e <;> first | exact h.elim | (refine ⟨h.1, h.2.1, ?_⟩; dsimp only; rw [List.map_append]; exact h.2.2))
    dsimp only
    have hkl : (pre.map (·.2)).length ≤ 1048576 := by rw [List.length_map]; omega
    generalize pre.map (·.2) = ks at *
    have hc := hv.cell
    have hte : 23 ≠ 9 := by decide
    gi_wp2_with (gi_at_builtin; refine wpListIn_ap2 rfl _ _ 23 rfl W3.heap.size 9 Try.underlying23 infoStr' rfl (by decide) (by decide) _ _ _ rfl hown [.string x] rfl (by simp [Value.oneCell']) rfl (by simp) (by omega) hn0 ?_; intro g1 cap1 w1 hown' hb1 hgr hat _; have hv1 := hv.kept hgr (hv.not_row hte hown); have hc1 := hv1.cell; have hf1 := hv1.frozen; have HP := hid (InvA.push (x := x) hv hte hown hBb hn0 (by omega) (Nat.le_refl _) hown' hgr))
    exact HP.out
  case done =>
    rintro D ys W' hD hys ⟨⟨v, hv, hown⟩, hBb, hn0⟩ hK
    have hc := hv.cell
    have hr := Rd.of_own hown
    go_wp2_with fail
    refine ⟨by simp, .inl ⟨_, _, rfl, run_takeDeferred hK, ?_⟩⟩
    refine leave1 rfl ⟨_, _, rfl, Rd.of_own (ownsRow_putObj hown _ hK rfl), by rw [List.length_map]; exact hys, ?_⟩
    exact hBb.grown (grownBy_putObj' _ D _) hBb.size (fun k e => by cases e; omega)
  case stop =>
    rintro D c pre W' _ _ h _
    exact h.elim
end Go.Proofs.Ytalpgilncohkbaa
