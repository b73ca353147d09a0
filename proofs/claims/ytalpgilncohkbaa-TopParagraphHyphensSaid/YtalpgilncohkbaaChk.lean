/-
  charset.Check and charset.IsWord.
-/
import Derived.Test.YtalpgilncohkbaaClus
import Derived.Test.YtalpgilncohkbaaSl2
import Derived.Lib.ConvBytes
namespace Go.Proofs.Ytalpgilncohkbaa
open Go.RowKit
attribute [local go_sem] Oper.semAt_some

def okc (c : UInt8) : Bool := !(decide (kindI c.toNat = 0) || decide (kindI c.toNat = 2))
def chkGo : Bool → List UInt8 → Bool
  | _, [] => true
  | st, c :: r => if (mk c && st) = true then chkGo true r else okc c && chkGo (lk c) r
def chkB (s : ByteArray) : Bool := chkGo false s.data.toList
def okAt (d : List UInt8) (f : Nat) : Bool := match d[f]? with | some c => okc c | none => true
/-- The state of the loop of clusters: y: those that are yielded are well; the next one begins at f. -/
def ChAt (d : List UInt8) (y : Bool) (f k : Nat) : Prop := (k ≤ d.length ∧ f < k ∧ chkGo false d = (y && (okAt d f && chkGo (lkAt d f) (d.drop k)))) ∨ (k = d.length + 1 ∧ chkGo false d = y)
theorem ChAt.start (d : List UInt8) : ChAt d true 0 1 := by
  cases d with
  | nil => exact .inr ⟨rfl, rfl⟩
  | cons c r =>
    refine .inl ⟨by simp, by omega, ?_⟩
    rw [chkGo, if_neg (by simp)]
    simp [lkAt, okAt]
theorem ChAt.skip {d : List UInt8} {y : Bool} {f k : Nat} {c : UInt8} (h : ChAt d y f k) (hc : d[k]? = some c) (hm : mk c = true) (hl : lkAt d f = true) : ChAt d y f (k + 1) := by
  obtain ⟨hk, hx⟩ := List.getElem?_eq_some_iff.1 hc
  rcases h with ⟨h1, h2, h4⟩ | ⟨h1, _⟩
  · refine .inl ⟨by omega, by omega, ?_⟩
    rw [List.drop_eq_getElem_cons hk, hx, chkGo, hm, hl, if_pos (by rfl)] at h4
    rw [hl]; exact h4
  · omega
theorem ChAt.cut {d : List UInt8} {y : Bool} {f k : Nat} {c : UInt8} (h : ChAt d y f k) (hc : d[k]? = some c) (hm : (mk c && lkAt d f) = false) : ChAt d (y && okAt d f) k (k + 1) := by
  obtain ⟨hk, hx⟩ := List.getElem?_eq_some_iff.1 hc
  rcases h with ⟨h1, h2, h4⟩ | ⟨h1, _⟩
  · refine .inl ⟨by omega, by omega, ?_⟩
    rw [List.drop_eq_getElem_cons hk, hx, chkGo, hm, if_neg (by simp)] at h4
    have e : lkAt d k = lk c := by unfold lkAt; rw [hc]
    have e2 : okAt d k = okc c := by unfold okAt; rw [hc]
    rw [e, e2, h4, Bool.and_assoc]
  · omega
theorem ChAt.last {d : List UInt8} {y : Bool} {f : Nat} (h : ChAt d y f d.length) : ChAt d (y && okAt d f) d.length (d.length + 1) := by
  rcases h with ⟨h1, h2, h4⟩ | ⟨h1, _⟩
  · refine .inr ⟨rfl, ?_⟩
    rw [List.drop_of_length_le (Nat.le_refl _), chkGo, Bool.and_true] at h4
    exact h4
  · omega
theorem ChAt.done {d : List UInt8} {y : Bool} {f : Nat} (h : ChAt d y f (d.length + 1)) : chkGo false d = y := by
  rcases h with ⟨h1, _⟩ | ⟨_, h⟩
  · omega
  · exact h
theorem ChAt.bad {d : List UInt8} {y : Bool} {f k : Nat} (h : ChAt d y f k) (hy : y = false) : chkGo false d = false := by
  subst hy
  rcases h with ⟨_, _, h⟩ | ⟨_, h⟩
  · rw [h]; rfl
  · exact h

/-- A cluster: where it begins and ends. -/
abbrev Ck (s : ByteArray) := { p : Nat × Nat // p.1 < p.2 ∧ p.2 ≤ s.size }
def allOk (s : ByteArray) (l : List (Ck s)) : Bool := l.all fun x => okAt s.data.toList x.1.1
theorem allOk_snoc (s : ByteArray) (l : List (Ck s)) (x : Ck s) : allOk s (l ++ [x]) = (allOk s l && okAt s.data.toList x.1.1) := by
  unfold allOk; rw [List.all_append]; simp

set_option maxRecDepth 100000 in
set_option maxHeartbeats 4000000 in
theorem clusters2_in (n : Nat) (hn : 1 ≤ n) (s : ByteArray) (Bs : Nat) (hs : s.size ≤ 1048576)
    (Kp : World → World → Prop) (hK1 : ∀ A B, Kp A B → A.cell? ⟨Bs, 0, none⟩ = some (.string s) → B.cell? ⟨Bs, 0, none⟩ = some (.string s))
    (l : Nat) (J Jx : List (Ck s) → World → Prop)
    (hY : ∀ pre x W, J pre W → pre.length < s.size → YieldAt Fence.wide (n - 1) Try.prog l #[.int .i64 (x.1.1 : Int), .string (s.extract x.1.1 x.1.2)] W fun e W' =>
      (e = .returned (.bool true) ∧ J (pre ++ [x]) W' ∧ Kp W W') ∨ (e = .returned (.bool false) ∧ Jx (pre ++ [x]) W'))
    (W : World) (hBs : W.cell? ⟨Bs, 0, none⟩ = some (.string s)) (h0 : J [] W) :
    CallsIn Fence.wide n Try.prog 62 #[.func (.yield l) #[] #[], .pointer (some ⟨Bs, 0, none⟩)] W fun e W' => (∃ v, e = .returned v) ∧
      ((∃ xs : List (Ck s), chkB s = allOk s xs ∧ J xs W') ∨ (∃ pre : List (Ck s), (allOk s pre = false → chkB s = false) ∧ Jx pre W')) := by
  have HK1 := hid hK1; clear hK1
  have HY := hid hY; clear hY
  have hd : s.data.toList.length = s.size := rfl
  refine callsIn_of_wp Try.func62 rfl trivial ?_ rfl
  simp only [Try.ntmps62, List.size_toArray, List.length_cons, List.length_nil, Nat.reduceAdd, Nat.reduceSub, Array.replicate_succ, Array.replicate_zero, List.push_toArray, List.append_toArray, List.nil_append, List.cons_append]
  gi_wp2
  gi_loopw [3, 4] (fun f i wr => ∃ (j k : Nat) (pre : List (Ck s)), 1 ≤ k ∧ k ≤ s.size + 1 ∧ j ≤ k ∧ i = .int .i64 k ∧ f = .int .i64 j ∧ Hid (ClAt s.data.toList pre.length j k ∧ ChAt s.data.toList (allOk s pre) j k) ∧ J pre wr ∧ wr.cell? ⟨Bs, 0, none⟩ = some (.string s)) (fun _ i _ => s.size + 1 - (intOf i).toNat)
  case atStart => exact ⟨0, 1, [], by omega, by omega, by omega, rfl, rfl, ⟨ClAt.start _, ChAt.start _⟩, h0, hBs⟩
  case round =>
    rename_i wr
    obtain ⟨j, k, pre, hk1, hk, hjk, rfl, rfl, HC, hJ, hbs⟩ := hrel
    by_cases hlt : k ≤ s.size
    · obtain ⟨hpl, hjk2⟩ := HC.out.1.lt (by omega)
      rw [hd] at hpl
      have HYk := hid (HY.out pre ⟨(j, k), ⟨hjk2, hlt⟩⟩ wr hJ hpl)
      have HX1 := hid (allOk_snoc s pre ⟨(j, k), ⟨hjk2, hlt⟩⟩)
      have q1 : (k : Int) ≤ (s.size : Int) := by omega
      by_cases hlt2 : k < s.size
      · have hu := byte_bd s[k]
        have HKi := fun w' => hid (kind_any (s[k].toNat : Int) hu.1 hu.2 w')
        have HRi := fun w' => hid (cright_any s j k w' (by omega) hjk2)
        have hbk := byte_at s k hlt2
        by_cases h2 : kindI s[k].toNat = 2
        · have hm : mk s[k] = true := decide_eq_true h2
          rw [h2] at HKi
          cases hl : lkAt s.data.toList j with
          | true =>
            rw [hl] at HRi
            have HC2 := hid (And.intro (HC.out.1.skip hbk hm hl) (HC.out.2.skip hbk hm hl))
            clear h2 hm hl hbk HYk
            gi_wp2_with (first | (refine ⟨trivial, ?_⟩; gi_at_call 48; refine (callsIn_wide.2 (HKi _).out).mono ?_; rintro e w' ⟨rfl, rfl⟩) | (refine ⟨trivial, ?_⟩; gi_at_call 63; refine (callsIn_wide.2 (HRi _).out).mono ?_; rintro e w' ⟨rfl, rfl⟩))
            go_roundw
            case rel => exact ⟨j, k + 1, pre, by omega, by omega, by omega, by go_num, rfl, HC2.out, hJ, hbs⟩
            case measure => simp [intOf]; omega
          | false =>
            rw [hl] at HRi
            have HC2 := hid (And.intro (HC.out.1.cut hbk (by rw [hm, hl]; rfl)) (HC.out.2.cut hbk (by rw [hm, hl]; rfl)))
            clear h2 hm hl hbk
            obtain ⟨fn, tmps, assign, body, hy, hR⟩ := HYk.out
            try dsimp only at hy
            gi_wp2_with (first | (refine ⟨trivial, ?_⟩; gi_at_call 48; refine (callsIn_wide.2 (HKi _).out).mono ?_; rintro e w' ⟨rfl, rfl⟩) | (refine ⟨trivial, ?_⟩; gi_at_call 63; refine (callsIn_wide.2 (HRi _).out).mono ?_; rintro e w' ⟨rfl, rfl⟩))
            refine hR.mono ?_
            rintro e W3 (⟨rfl, hJ3, hk3⟩ | ⟨rfl, hJx3⟩)
            · have hbs3 := HK1.out _ _ hk3 hbs
              gi_wp2
              go_roundw
              case rel => exact ⟨k, k + 1, pre ++ [⟨(j, k), ⟨hjk2, hlt⟩⟩], by omega, by omega, by omega, by go_num, by go_num, by rw [List.length_append, List.length_singleton, HX1.out]; exact HC2.out, hJ3, hbs3⟩
              case measure => simp [intOf]; omega
            · gi_wp2
              refine bodyPost_ret (results_none rfl _ _ _) rfl ?_
              exact ⟨⟨_, rfl⟩, .inr ⟨_, (by rw [HX1.out]; exact HC2.out.2.bad), hJx3⟩⟩
        · have hm : mk s[k] = false := decide_eq_false h2
          have hb2 := beq_eq_false_iff_ne.2 h2
          have HC2 := hid (And.intro (HC.out.1.cut hbk (by rw [hm]; rfl)) (HC.out.2.cut hbk (by rw [hm]; rfl)))
          generalize kindI s[k].toNat = kk at *
          clear h2 hm hbk HRi
          obtain ⟨fn, tmps, assign, body, hy, hR⟩ := HYk.out
          try dsimp only at hy
          gi_wp2_with (first | (refine ⟨trivial, ?_⟩; gi_at_call 48; refine (callsIn_wide.2 (HKi _).out).mono ?_; rintro e w' ⟨rfl, rfl⟩) | (refine ⟨trivial, ?_⟩; gi_at_call 63; refine (callsIn_wide.2 (HRi _).out).mono ?_; rintro e w' ⟨rfl, rfl⟩))
          refine ⟨trivial, ?_⟩
          gi_wp2_with fail
          refine hR.mono ?_
          rintro e W3 (⟨rfl, hJ3, hk3⟩ | ⟨rfl, hJx3⟩)
          · have hbs3 := HK1.out _ _ hk3 hbs
            gi_wp2
            go_roundw
            case rel => exact ⟨k, k + 1, pre ++ [⟨(j, k), ⟨hjk2, hlt⟩⟩], by omega, by omega, by omega, by go_num, by go_num, by rw [List.length_append, List.length_singleton, HX1.out]; exact HC2.out, hJ3, hbs3⟩
            case measure => simp [intOf]; omega
          · gi_wp2
            refine bodyPost_ret (results_none rfl _ _ _) rfl ?_
            exact ⟨⟨_, rfl⟩, .inr ⟨_, (by rw [HX1.out]; exact HC2.out.2.bad), hJx3⟩⟩
      · obtain rfl : k = s.size := by omega
        have HC2 := hid (And.intro HC.out.1.last HC.out.2.last)
        rw [hd] at HC2
        obtain ⟨fn, tmps, assign, body, hy, hR⟩ := HYk.out
        try dsimp only at hy
        gi_wp2_with fail
        refine ⟨trivial, ?_⟩
        gi_wp2_with fail
        refine ⟨trivial, ?_⟩
        gi_wp2_with fail
        refine hR.mono ?_
        rintro e W3 (⟨rfl, hJ3, hk3⟩ | ⟨rfl, hJx3⟩)
        · have hbs3 := HK1.out _ _ hk3 hbs
          gi_wp2
          go_roundw
          case rel => exact ⟨s.size, s.size + 1, pre ++ [⟨(j, s.size), ⟨hjk2, hlt⟩⟩], by omega, by omega, by omega, by go_num, by go_num, by rw [List.length_append, List.length_singleton, HX1.out]; exact HC2.out, hJ3, hbs3⟩
          case measure => simp [intOf]
        · gi_wp2
          refine bodyPost_ret (results_none rfl _ _ _) rfl ?_
          exact ⟨⟨_, rfl⟩, .inr ⟨_, (by rw [HX1.out]; exact HC2.out.2.bad), hJx3⟩⟩
    · obtain rfl : k = s.size + 1 := by omega
      have HD : Hid (chkB s = allOk s pre) := HC.out.2.done
      gi_wp2
      go_end0
      exact ⟨⟨_, rfl⟩, .inl ⟨pre, HD.out, hJ⟩⟩

def chkI (s : ByteArray) : Int := if chkB s = true then 0 else 11
theorem chkI_t {s : ByteArray} (h : chkB s = true) : chkI s = 0 := if_pos h
theorem chkI_f {s : ByteArray} (h : chkB s = false) : chkI s = 11 := if_neg (by rw [h]; simp)
theorem kpX_set {n b1 b2 : Nat} (W : World) (B : Nat) (v : Value) (hB : B = b1) : KpX n b1 b2 W (W.setCell ⟨B, 0, none⟩ v) :=
  ⟨by simp [World.setCell], fun k _ hk1 _ => Below.heap_setCell _ _ _ _ (by simpa [hB] using hk1)⟩

set_option maxRecDepth 100000 in
set_option maxHeartbeats 1000000 in
theorem chk_any (s : ByteArray) (w : World) (hs : s.size ≤ 65536) :
    Calls Try.prog 47 #[.string s] w fun e w' => e = .returned (.int .i64 (chkI s)) ∧ Below w.heap.size w w' := by
  refine (callsIn_wide (n := 9)).1 ?_
  have hbo := below_al w (.cells #[.int .i64 0] 39)
  have hbo2 := below_al (w.alloc (.cells #[.int .i64 0] 39)) (.cells #[.string s] 9)
  have hBo := below_tr hbo hbo2
  have hcx := cell_al (cell_nw w #[.int .i64 0] 39 0 (x := .int .i64 0) rfl) (.cells #[.string s] 9)
  have hfx := frozen_al (frozen_nw w #[.int .i64 0] 39 0 (x := .int .i64 0) rfl) (by simp) (.cells #[.string s] 9)
  have c3 := cell_nw (w.alloc (.cells #[.int .i64 0] 39)) #[.string s] 9 0 (x := .string s) rfl
  rw [show (w.alloc (.cells #[.int .i64 0] 39)).heap.size = w.heap.size + 1 by simp] at c3
  have hsz : ((w.alloc (.cells #[.int .i64 0] 39)).alloc (.cells #[.string s] 9)).heap.size = w.heap.size + 2 := by simp
  have hs' : ¬ (65536 : Int) < (s.size : Int) := by omega
  refine callsIn_of_wp_marks Try.func47 rfl trivial ?_ rfl
  simp only [Try.ntmps47, List.size_toArray, List.length_cons, List.length_nil, Nat.reduceAdd, Nat.reduceSub, Array.replicate_succ, Array.replicate_zero, List.push_toArray, List.append_toArray, List.nil_append, List.cons_append]
  refine wpIn_wide.2 ?_
  go_wp2_with fail
  refine (clusters_any _ _).mono ?_
  rintro e w3 ⟨rfl, rfl⟩
  rw [show (w.alloc (.cells #[.int .i64 0] 39)).heap.size = w.heap.size + 1 by simp]
  go_wp2_with fail
  generalize (w.alloc (.cells #[.int .i64 0] 39)).alloc (.cells #[.string s] 9) = W3 at *
  clear hbo hbo2
  refine (wpIn_wide (n := 9)).1 ?_
  refine wpIn_rangeFunc_ownG rfl (by omega) (gf := 62) (lb := #[.pointer (some ⟨w.heap.size + 1, 0, none⟩)]) rfl trivial (enters_of Try.func62 (by kernel_rfl) rfl)
    (encs := fun x : Ck s => #[.int .i64 (x.1.1 : Int), .string (s.extract x.1.1 x.1.2)]) (Kp := KpX W3.heap.size w.heap.size w.heap.size)
    (S := fun l => chkB s = allOk s l) (Sp := fun l => allOk s l = false → chkB s = false) (N := s.size) (w0 := W3)
    ?hseq (fun h k => h.tr k) (KpX.put (Nat.le_refl _)) (Below.refl _ _) (fun _ => rfl)
    (fun pre W => allOk s pre = true ∧ W.cell? ⟨w.heap.size, 0, none⟩ = some (.int .i64 0) ∧ W.frozen? ⟨w.heap.size, 0, none⟩ = false ∧ Below w.heap.size w W)
    (fun c pre W => c = .ret ∧ allOk s pre = false ∧ W.cell? ⟨w.heap.size, 0, none⟩ = some (.int .i64 11) ∧ Below w.heap.size w W)
    ?own ?ownx ⟨rfl, hcx, hfx, hBo⟩ ?a1 ?assign ?body ?done ?stop
  case own =>
    intro pre A B row hs2 hg hr
    exact ⟨hs2.1, cell_kept hs2.2.1 hg (fun r e => (hr r e).2), (frozen_kept hs2.2.1 hg (fun r e => (hr r e).2)).trans hs2.2.2.1, hs2.2.2.2.grown hg hs2.2.2.2.size (fun k e => by have := (hr k e).1; omega)⟩
  case ownx =>
    intro c pre A B row hs2 hg hr
    exact ⟨hs2.1, hs2.2.1, cell_kept hs2.2.2.1 hg (fun r e => (hr r e).2), hs2.2.2.2.grown hg hs2.2.2.2.size (fun k e => by have := (hr k e).1; omega)⟩
  case assign =>
    intro l x W' K hK
    gi_wp2
    exact hK
  case hseq =>
    intro l J Jx W' hW' _ _ hY h0
    exact clusters2_in (9 - 1) (by omega) s (w.heap.size + 1) (by omega) (KpX W3.heap.size w.heap.size w.heap.size) (fun A B hk hx => hk.cell hx (by simp [hsz]) (by simp) (by simp)) l J Jx hY W' (Below.keeps hW' _ _ c3) h0
  case body =>
    rintro l pre x W' ⟨hall, hc, hf, hB⟩ hpl
    have HA := hid (allOk_snoc s pre x)
    rw [hall, Bool.true_and] at HA
    have hx1 := x.2.1
    have hx2 := x.2.2
    have hey : (s.extract x.1.1 x.1.2).size = x.1.2 - x.1.1 := by rw [ByteArray.size_extract]; omega
    have hb0 : (s.extract x.1.1 x.1.2)[0]? = some s[x.1.1] := by
      rw [getElem?_pos (s.extract x.1.1 x.1.2) 0 (by omega)]; simp [ByteArray.getElem_extract]
    have HO : Hid (okAt s.data.toList x.1.1 = okc s[x.1.1]) := by unfold Hid okAt; rw [byte_at s x.1.1 (by omega)]
    generalize s.extract x.1.1 x.1.2 = y at *
    have hy0 : 0 < y.size := by omega
    have hyb : y[0] = s[x.1.1] := by
      rw [getElem?_pos y 0 hy0] at hb0
      exact Option.some.inj hb0
    have hu := byte_bd y[0]
    have HK := fun w' => hid (kind_any (y[0].toNat : Int) hu.1 hu.2 w')
    rw [← hyb] at HO
    have hyi : (0 : Int) < (y.size : Int) := by omega
    have hkp := (KeepsOthers.setCell W' ⟨w.heap.size, 0, none⟩ (.int .i64 11)).from W3.heap.size
    have hcs : (W'.setCell ⟨w.heap.size, 0, none⟩ (.int .i64 11)).cell? ⟨w.heap.size, 0, none⟩ = some (.int .i64 11) := World.cell?_setCell_same' _ _ _ (by rw [hc]; rfl)
    have hBs := hB.setCell (p := ⟨w.heap.size, 0, none⟩) (Nat.le_refl _) (.int .i64 11)
    have HE := hid (And.intro hkp (And.intro hcs hBs))
    clear hb0 hyb hkp hcs hBs hey
    by_cases h0 : kindI y[0].toNat = 0
    · have HR : Hid (allOk s (pre ++ [x]) = false) := by unfold Hid; rw [HA.out, HO.out]; unfold okc; rw [decide_eq_true h0]; rfl
      rw [h0] at HK
      clear h0
      gi_wp2_with (refine ⟨trivial, ?_⟩; gi_at_call 48; refine (CallsIn.inRound l (callsIn_wide.2 (HK _).out)).mono ?_; rintro e w' ⟨rfl, rfl⟩)
      exact ⟨HE.out.1, rfl, HR.out, HE.out.2.1, HE.out.2.2⟩
    · by_cases h2 : kindI y[0].toNat = 2
      · have HR : Hid (allOk s (pre ++ [x]) = false) := by unfold Hid; rw [HA.out, HO.out]; unfold okc; rw [decide_eq_true h2]; simp
        rw [h2] at HK
        clear h0 h2
        gi_wp2_with (refine ⟨trivial, ?_⟩; gi_at_call 48; refine (CallsIn.inRound l (callsIn_wide.2 (HK _).out)).mono ?_; rintro e w' ⟨rfl, rfl⟩)
        exact ⟨HE.out.1, rfl, HR.out, HE.out.2.1, HE.out.2.2⟩
      · have HR : Hid (allOk s (pre ++ [x]) = true) := by unfold Hid; rw [HA.out, HO.out]; unfold okc; rw [decide_eq_false h0, decide_eq_false h2]; rfl
        have b0 := beq_eq_false_iff_ne.2 h0
        have b2 := beq_eq_false_iff_ne.2 h2
        generalize kindI y[0].toNat = kk at *
        clear h0 h2
        gi_wp2_with (refine ⟨trivial, ?_⟩; gi_at_call 48; refine (CallsIn.inRound l (callsIn_wide.2 (HK _).out)).mono ?_; rintro e w' ⟨rfl, rfl⟩)
        exact ⟨⟨Nat.le_refl _, fun k o _ hk _ => hk⟩, ⟨Nat.le_refl _, fun _ _ _ _ => rfl⟩, HR.out, hc, hf, hB⟩
  case done =>
    rintro D ys W' hD hys ⟨hall, hc, hf, hB⟩ hK
    go_wp2_with fail
    have hK' := (KeepsOthers.setCell W' ⟨w.heap.size, 0, none⟩ (.int .i64 0)).same D _ hK rfl
    have hB' := hB.setCell (p := ⟨w.heap.size, 0, none⟩) (Nat.le_refl _) (.int .i64 0)
    refine ⟨by simp, .inl ⟨_, _, rfl, run_takeDeferred hK', ?_⟩⟩
    have hc5 := cell_kept (World.cell?_setCell_same' W' ⟨w.heap.size, 0, none⟩ (.int .i64 0) (by rw [hc]; rfl)) (grownBy_putObj' _ D (.deferred none)) (fun r e => by cases e; exact ⟨_, hK', rfl⟩)
    refine ⟨.int .i64 0, ?_, by rw [chkI_t (hys.trans hall)], hB'.grown (grownBy_putObj' _ D _) hB'.size (fun k e => by cases e; omega)⟩
    simp [results, Try.f47, go_sem, hc5]
  case stop =>
    rintro D c pre W' hD hsp ⟨rfl, hall, hc, hB⟩ hK
    gi_wp2
    refine ⟨by simp, .inl ⟨_, _, rfl, run_takeDeferred hK, ?_⟩⟩
    have hc5 := cell_kept hc (grownBy_putObj' _ D (.deferred none)) (fun r e => by cases e; exact ⟨_, hK, rfl⟩)
    refine ⟨.int .i64 11, ?_, by rw [chkI_f (hsp hall)], hB.grown (grownBy_putObj' _ D _) hB.size (fun k e => by cases e; omega)⟩
    simp [results, Try.f47, go_sem, hc5]
end Go.Proofs.Ytalpgilncohkbaa
