/-
  paragraph.potentials.
-/
import Derived.Test.YtalpgilncohkbaaTab
import Derived.Deep.LoopGhost
import Derived.Sort.CutIn
import Derived.Test.YtalpgilncohkbaaQin
import Derived.Test.YtalpgilncohkbaaJ01
namespace Go.Proofs.Ytalpgilncohkbaa
open Go.RowKit
attribute [local go_sem] Oper.semAt_some

/-- The frame while potentials' loop runs. -/
def hpoA (a0 : Option Addr) (n c0 : Nat) (wd : Int) (Bo : Nat) (z : Int) (ds : List Deferred) (u2 u3 u4 u7 u8 u9 u10 u11 u12 u13 u14 u15 u16 u17 u18 u19 u20 u21 u22 u23 u24 u25 u26 u27 u28 u29 u30 u31 u32 u33 u34 u35 u36 u37 u38 u39 u40 u41 u42 u43 u44 u45 u46 u47 u48 u49 u50 : Value) : Act :=
  { tmps := #[.slice a0 n c0, .int .i64 wd, u2, u3, u4, .pointer (some ⟨Bo, 0, none⟩), .int .i64 z, u7, u8, u9, u10, u11, u12, u13, u14, u15, u16, u17, u18, u19, u20, u21, u22, u23, u24, u25, u26, u27, u28, u29, u30, u31, u32, u33, u34, u35, u36, u37, u38, u39, u40, u41, u42, u43, u44, u45, u46, u47, u48, u49, u50], defers := ds }
/-- Between two rounds. -/
def HpoJ (w : World) (l : List It) (wd : Int) (a0 : Option Addr) (n c0 Bo O k : Nat) (a : Act) (W : World) : Prop :=
  ∃ (Ds : List Nat) (z : Int) (u2 u3 u4 u7 u8 u9 u10 u11 u12 u13 u14 u15 u16 u17 u18 u19 u20 u21 u22 u23 u24 u25 u26 u27 u28 u29 u30 u31 u32 u33 u34 u35 u36 u37 u38 u39 u40 u41 u42 u43 u44 u45 u46 u47 u48 u49 u50 : Value), a = hpoA a0 n c0 wd Bo z (mksD Ds) u2 u3 u4 u7 u8 u9 u10 u11 u12 u13 u14 u15 u16 u17 u18 u19 u20 u21 u22 u23 u24 u25 u26 u27 u28 u29 u30 u31 u32 u33 u34 u35 u36 u37 u38 u39 u40 u41 u42 u43 u44 u45 u46 u47 u48 u49 u50 ∧ z = (k : Int) - 1 ∧ k ≤ n + 1 ∧ PoL w n O Bo (List.replicate k 0 ++ tabL l wd (n + 1 - k)) W ∧ MkOk O Ds W
/-- Between two lines: the box Z alone is written. -/
def HpoI (w W3 : World) (Z : Nat) (b : Int) (W : World) : Prop := Below w.heap.size w W ∧ W3.heap.size ≤ W.heap.size ∧ (∀ k, k < W3.heap.size → k ≠ Z → W.heap[k]? = W3.heap[k]?) ∧ Row W Z #[.int .i64 b] 3
theorem HpoI.grown {w W3 A C : World} {Z m : Nat} {b : Int} {row : Option Nat} (h : HpoI w W3 Z b A) (hm : W3.heap.size ≤ m) (hw : w.heap.size ≤ m) (hg : A.grownBy C row) (hr : ∀ r, row = some r → m ≤ r ∧ ∃ o : Obj, A.heap[r]? = some o ∧ o.isCells = false) : HpoI w W3 Z b C := by
  obtain ⟨h1, h2, h3, h4⟩ := h
  refine ⟨h1.grown hg h1.size (fun r e => by have := (hr r e).1; omega), Nat.le_trans h2 hg.size, fun k hk hz => (hg.block k (by omega) (fun e => by have := (hr k e.symm).1; omega)).trans (h3 k hk hz), (hg.block Z h4.lt (fun e => ?_)).trans h4⟩
  obtain ⟨_, o, ho, hc⟩ := hr Z e.symm
  have h5 : A.heap[Z]? = _ := h4
  rw [ho] at h5; cases h5; cases hc
theorem HpoI.set {w W3 A : World} {Z : Nat} {b : Int} (h : HpoI w W3 Z b A) (hw : w.heap.size ≤ Z) (c : Int) : HpoI w W3 Z c (A.setCell ⟨Z, 0, none⟩ (.int .i64 c)) := by
  obtain ⟨h1, h2, h3, h4⟩ := h
  exact ⟨h1.setCell hw _, by simp [World.setCell]; exact h2, fun k hk hz => (Below.heap_setCell _ _ _ _ (by simpa using hz)).trans (h3 k hk hz), h4.set 0 (.int .i64 c)⟩
theorem HpoI.setO {w W3 A : World} {Z k j : Nat} {b : Int} {v : Value} (h : HpoI w W3 Z b A) (hw : w.heap.size ≤ W3.heap.size) (hz : Z < W3.heap.size) (hk : W3.heap.size ≤ k) : HpoI w W3 Z b (A.setCell ⟨k, j, none⟩ v) := by
  obtain ⟨h1, h2, h3, h4⟩ := h
  exact ⟨h1.setCell (by show _ ≤ k; omega) _, by simp [World.setCell]; exact h2, fun i hi hz => (Below.heap_setCell _ _ _ _ (by show i ≠ k; omega)).trans (h3 i hi hz), h4.other _ _ (by show Z ≠ k; omega)⟩
theorem keeps_setZ {A : World} {Z n : Nat} {cs : Array Value} {t : TypeId} (h : Row A Z cs t) (v : Value) : KeepsFrom n A (A.setCell ⟨Z, 0, none⟩ v) := by
  have hs : (A.setCell ⟨Z, 0, none⟩ v).heap.size = A.heap.size := by simp [World.setCell]
  refine ⟨Nat.le_of_eq hs.symm, fun k o _ ho hc => (Below.heap_setCell _ _ _ _ ?_).trans ho⟩
  intro e
  simp only at e
  have h3 : A.heap[Z]? = _ := h
  rw [e, h3] at ho
  cases ho; cases hc
theorem infoIntP : (Try.prog.info? 3).map (fun i => (i.zero, i.size, i.bytes)) = some (some (.int .i64 0), 1, 8) := by kernel_rfl
def bodyA2 (A : World → Prop) : Exit → Act → World → Prop
  | .normal, _, W => A W
  | _, _, _ => False
set_option maxRecDepth 100000 in
set_option maxHeartbeats 8000000 in
theorem hpo_any (v : Value) (l : List It) (wd : Int) (w : World) (hv : RdIt w v l) (hS : ∀ x ∈ l, ItS x) (hok : ckIts l = 0) (hw0 : 0 ≤ wd) (hw1 : wd ≤ 1073741824) :
    Calls Try.prog 19 #[v, .int .i64 wd] w fun e w' => ∃ v', e = .returned v' ∧ RdI w' v' (tabL l wd (l.length + 1)) ∧ Below w.heap.size w w' := by
  refine (callsIn_wide (n := 9)).1 ?_
  have HV := hid hv
  have HS := hid hS
  have HOK := hid hok
  have HW := hid (And.intro hw0 hw1)
  have hl4 := (ckIts_ok hok).1
  obtain ⟨a0, c0, rfl, hlc, hcm, _⟩ := hv.open
  clear hv hS hok hw0 hw1
  obtain ⟨n, hn⟩ : ∃ n, n = l.length := ⟨_, rfl⟩
  have HN := hid hn
  rw [← hn] at hl4 hlc ⊢
  clear hn
  obtain ⟨N, hN⟩ : ∃ N, N = n + 1 := ⟨_, rfl⟩
  have hwr1 : IntKind.i64.wrap ((n : Int) + 1) = (N : Int) := by rw [show (n : Int) + 1 = (N : Int) by omega]; exact IntWalk.i64_in _ (by omega)
  have HNN := hid hN
  have hN5 : N ≤ 4097 := by omega
  clear hN
  obtain ⟨iI, hiI, hzI0, hzI1, hzI2⟩ := info_parts infoIntP
  refine callsIn_of_wp_marks Try.func19 rfl trivial ?_ rfl
  simp only [Try.ntmps19, List.size_toArray, List.length_cons, List.length_nil, Nat.reduceAdd, Nat.reduceSub, Array.replicate_succ, Array.replicate_zero, List.push_toArray, List.append_toArray, List.nil_append, List.cons_append]
  refine wpIn_wide.2 ?_
  go_upto_region 2 with (at_make; refine wpList_make_full _ rfl _ _ 38 rfl w.heap.size 3 iI (.int .i64 0) 1 Try.underlying38 hiI hzI0 hzI1 .i64 .i64 _ _ N rfl rfl rfl rfl (by rw [hzI2]; omega) (by unfold maxLen; omega) (Nat.le_refl _) ?_; intro w2 hown2 hg2; have hb2 : Below w.heap.size w w2 := ⟨hg2.os, hg2.tape, hg2.output, hg2.size, fun k hk => hg2.block k hk (by simp)⟩)
  obtain ⟨hG2, _⟩ := own_full hown2
  have hGr : Row w2 w.heap.size ((List.replicate N (0 : Int)).map (Value.int .i64)).toArray 3 := by
    have h : w2.heap[w.heap.size]? = some (.cells (madeCells #[Value.int .i64 0] (N * 1)).toList.toArray 3 (0, 0)) := hG2
    rw [madeZero] at h
    exact h
  have HP0 : Hid (PoL w n w.heap.size w2.heap.size (List.replicate (n + 1) 0 ++ tabL l wd (n + 1 - (n + 1))) (w2.alloc (.cells #[.slice (some ⟨w.heap.size, 0, none⟩) N N] 38))) := by
    have h := row_nw w2 #[.slice (some ⟨w.heap.size, 0, none⟩) N N] 38 rfl
    have hNN := HNN.out
    have e : List.replicate (n + 1) (0 : Int) ++ tabL l wd (n + 1 - (n + 1)) = List.replicate N 0 := by rw [Nat.sub_self, hNN]; exact List.append_nil _
    rw [e]
    refine ⟨below_tr hb2 (below_al _ _), hGr.al _, ?_, Nat.le_refl _, by rw [List.length_replicate, hNN]⟩
    rw [← hNN]
    exact h
  clear hown2 hg2 hG2 hGr
  generalize hWo : w2.alloc (.cells #[.slice (some ⟨w.heap.size, 0, none⟩) N N] 38) = W0 at *
  clear hWo hb2
  generalize w2.heap.size = Bo at *
  go_wp2_with fail
  refine wp_loop_ghost (HpoJ w l wd a0 n c0 Bo w.heap.size) (n + 1) ⟨[], _, _, _, _, _, _, _, _, _, _, _, _, _, _, _, _, _, _, _, _, _, _, _, _, _, _, _, _, _, _, _, _, _, _, _, _, _, _, _, _, _, _, _, _, _, _, _, _, rfl, by omega, Nat.le_refl _, HP0.out, MkOk.nil _ _⟩ ?_
  clear HP0
  rintro k a wr ⟨Ds, z, u2, u3, u4, u7, u8, u9, u10, u11, u12, u13, u14, u15, u16, u17, u18, u19, u20, u21, u22, u23, u24, u25, u26, u27, u28, u29, u30, u31, u32, u33, u34, u35, u36, u37, u38, u39, u40, u41, u42, u43, u44, u45, u46, u47, u48, u49, u50, rfl, hz, hk, hP, hM⟩
  have HP := hid hP
  have HM := hid hM
  clear hP hM
  unfold hpoA
  have cO : wr.cell? ⟨Bo, 0, none⟩ = some (.slice (some ⟨w.heap.size, 0, none⟩) N N) := by
    rw [HNN.out]
    exact HP.out.ox.cell 0 (x := .slice (some ⟨w.heap.size, 0, none⟩) (n + 1) (n + 1)) rfl
  generalize hds : mksD Ds = ds
  by_cases hk0 : k = 0
  · subst hk0
    have hz0 : ¬ (0 : Int) ≤ z := by omega
    have HP2 : Hid (PoL w n w.heap.size Bo (tabL l wd (n + 1)) wr) := by
      have h := HP.out
      rw [List.replicate_zero, List.nil_append, Nat.sub_zero] at h
      exact h
    clear HP
    go_wp2_with fail
    subst hds
    refine leaveMks rfl (B := w.heap.size) (fun W => PoL w n w.heap.size Bo (tabL l wd (n + 1)) W) (fun W D h hD hat => h.grown (Nat.le_refl _) (grownBy_putObj' _ D _) (fun r e => by cases e; exact ⟨hD, _, hat, rfl⟩)) (fun W h => ⟨_, rfl, ?_, h.bel⟩) Ds _ HM.out HP2.out
    have hl : N = (tabL l wd (n + 1)).length := by rw [tabL_len]; exact HNN.out
    rw [hl]
    exact h.rd (by rw [tabL_len]; omega)
  · obtain ⟨m, rfl⟩ : ∃ m, k = m + 1 := ⟨k - 1, by omega⟩
    obtain rfl : z = (m : Int) := by omega
    clear hz
    have hm0 : (0 : Int) ≤ (m : Int) := by omega
    have hmn : m ≤ n := by omega
    have hmN : (m : Int) < (N : Int) := by have := HNN.out; omega
    have HR1 := hid (row_nw wr #[.int .i64 (-1)] 3 rfl)
    have HP1 := hid (HP.out.below (below_al wr (.cells #[.int .i64 (-1)] 3)))
    have HM1 := hid (HM.out.below (below_al wr (.cells #[.int .i64 (-1)] 3)))
    have HZ1 : Hid (w.heap.size < wr.heap.size ∧ Bo < wr.heap.size ∧ (wr.alloc (.cells #[.int .i64 (-1)] 3)).heap.size = wr.heap.size + 1) := ⟨HP.out.ob.lt, HP.out.ox.lt, by simp⟩
    have HO1 : Hid (∀ (p : Addr) (x : Value), w.cell? p = some x → (wr.alloc (.cells #[.int .i64 (-1)] 3)).cell? p = some x) := fun p x hx => Below.keeps HP1.out.bel _ _ hx
    clear HP HM cO
    go_wp2_with fail
    generalize wr.alloc (.cells #[.int .i64 (-1)] 3) = W1 at *
    generalize wr.heap.size = BL at *
    (with_reducible refine (lines_any a0 n c0 wd m W1).mono ?_)
    rintro e w3 ⟨rfl, rfl⟩
    have hz1 := HZ1.out.2.2
    have hb3 := below_tr (below_tr (below_al W1 (.cells #[.slice a0 n c0] 30)) (below_al _ (.cells #[.int .i64 wd] 3))) (below_al _ (.cells #[.int .i64 (m : Int)] 3))
    have HP3 := hid (HP1.out.below hb3)
    have HM3 := hid (HM1.out.below hb3)
    have HR3 := hid (HR1.out.below hb3)
    have e1 : (W1.alloc (.cells #[.slice a0 n c0] 30)).heap.size = W1.heap.size + 1 := by simp
    have e2 : ((W1.alloc (.cells #[.slice a0 n c0] 30)).alloc (.cells #[.int .i64 wd] 3)).heap.size = W1.heap.size + 2 := by simp
    have c1 := cell_al (cell_al (cell_nw W1 #[.slice a0 n c0] 30 0 (x := .slice a0 n c0) rfl) (.cells #[.int .i64 wd] 3)) (.cells #[.int .i64 (m : Int)] 3)
    have c2 := cell_al (cell_nw (W1.alloc (.cells #[.slice a0 n c0] 30)) #[.int .i64 wd] 3 0 (x := .int .i64 wd) rfl) (.cells #[.int .i64 (m : Int)] 3)
    have c3 := cell_nw ((W1.alloc (.cells #[.slice a0 n c0] 30)).alloc (.cells #[.int .i64 wd] 3)) #[.int .i64 (m : Int)] 3 0 (x := .int .i64 (m : Int)) rfl
    rw [e1] at c2
    rw [e2] at c3
    have HG3 : Hid (LnO w a0 n c0 wd m W1.heap.size (W1.heap.size + 2) (W1.heap.size + 1) (((W1.alloc (.cells #[.slice a0 n c0] 30)).alloc (.cells #[.int .i64 wd] 3)).alloc (.cells #[.int .i64 (m : Int)] 3))) := ⟨c1, c3, c2, fun p x hx => Below.keeps hb3 _ _ (HO1.out p x hx)⟩
    have HZ : Hid (W1.heap.size + 3 ≤ (((W1.alloc (.cells #[.slice a0 n c0] 30)).alloc (.cells #[.int .i64 wd] 3)).alloc (.cells #[.int .i64 (m : Int)] 3)).heap.size ∧ w.heap.size < BL ∧ Bo < BL ∧ BL < W1.heap.size) := ⟨by simp, HZ1.out.1, HZ1.out.2.1, by omega⟩
    clear c1 c2 c3 e1 e2 hb3 HP1 HM1 HR1 HO1 hz1 HZ1
    go_wp2_with fail
    generalize ((W1.alloc (.cells #[.slice a0 n c0] 30)).alloc (.cells #[.int .i64 wd] 3)).alloc (.cells #[.int .i64 (m : Int)] 3) = W3 at *
    generalize W1.heap.size = z1 at *
    obtain ⟨L, hL⟩ : ∃ L, L = lnsF l wd m := ⟨_, rfl⟩
    have HLL := hid hL
    have HPN : Hid (L.length ≤ 5000) := by rw [hL]; have h := lnsGo_len l wd (beginF l m (l.length - m)) (l.length + 1 - m) m ⟨0, 0, 0⟩; have h2 := HN.out; show (lnsF l wd m).length ≤ _; unfold lnsF; omega
    clear hL
    obtain ⟨r, hr⟩ : ∃ r : Nat → Int, r = fun t => (tabL l wd (n - m)).getD (t - m) 0 := ⟨_, rfl⟩
    have HRF := hid hr
    clear hr
    refine (wpIn_wide (n := 9)).1 ?_
    refine wpIn_rangeFunc_newG rfl (by omega) (gf := 32) (lb := #[.pointer (some ⟨z1, 0, none⟩), .pointer (some ⟨z1 + 2, 0, none⟩), .pointer (some ⟨z1 + 1, 0, none⟩)]) rfl trivial (enters_of Try.func32 (by kernel_rfl) rfl)
      (encs := fun x : {x : Nat × Int // x ∈ L} => #[.int .i64 (x.1.1 : Int), .int .i64 x.1.2]) (Kp := KpY BL)
      (S := fun xs => xs.map (·.1) = L) (Sp := fun _ => True) (N := 5000)
      ?hseq (fun h k => h.tr k) (fun W l o o' h1 h2 h3 h4 => KpY.put W l o o' h1 h2 h3 h4) (fun _ => rfl)
      (fun pre W => HpoI w W3 BL ((pre.map (·.1)).foldl (bestI r) (-1)) W) (fun _ _ _ => False)
      ?own (fun _ _ _ _ _ h _ _ => h) ?ownS ⟨HP3.out.bel, Nat.le_refl _, fun _ _ _ => rfl, HR3.out⟩ ?a1 (fun W => KpY.refl BL W) ?assign ?body ?done ?stop
    case assign =>
      intro yl x W' K hK
      gi_wp2
      exact hK
    case own =>
      intro s W W' row hs hg hr
      exact hs.grown (Nat.le_refl _) (by have := HZ.out; omega) hg hr
    case ownS =>
      intro pre W k j v hk h
      have := HZ.out
      exact h.setO (by omega) (by omega) hk
    case hseq => as_aux_lemma =>
      intro yl J Jx W' hW' hJ hJS hY h0
      have hz := HZ.out
      have hs3 := hW'.size
      refine (lines1_in (9 - 1) (by omega) l wd m a0 c0 z1 (z1 + 2) (z1 + 1) 5000 HS.out HOK.out (by have := HN.out; omega) HW.out.1 HW.out.2 (by rw [← HLL.out]; exact HPN.out) (fun W => LnO w a0 n c0 wd m z1 (z1 + 2) (z1 + 1) W)
        (fun A h => by have h2 := HN.out; subst h2; exact h.m HV.out) (fun A C h hb => h.below hb) (KpY BL) (fun A C hk h => h.kp hk (by omega) (by omega) (by omega) (by omega)) W' (fun A k j v hk h => h.set (by omega) (by omega) (by omega) (by omega)) (fun A C B cs t hB hk hr => hk.rw _ _ _ (by omega) hr)
        yl (fun pre W => ∃ pre' : List {x : Nat × Int // x ∈ L}, pre'.map (·.1) = pre ∧ J pre' W) (fun pre W => ∃ pre' : List {x : Nat × Int // x ∈ L}, pre'.map (·.1) = pre ∧ Jx pre' W)
        (fun pre x W hx ⟨pre', h1, h2⟩ hlen => (hY pre' ⟨x, by rw [HLL.out]; exact hx⟩ W h2 (by rw [← h1, List.length_map] at hlen; exact hlen)).mono ?_) (fun s A C row ⟨pre', h1, h2⟩ hg hr => ⟨pre', h1, hJ _ _ _ row h2 hg hr⟩) (fun pre A k j v hk ⟨pre', h1, h2⟩ => ⟨pre', h1, hJS _ _ _ _ _ hk h2⟩) (HG3.out.below hW') ⟨[], rfl, h0⟩).mono ?_
      · rintro e A (⟨h3, h4, h5⟩ | ⟨h3, h4⟩)
        · exact .inl ⟨h3, ⟨_, by rw [List.map_append, h1]; rfl, h4⟩, h5⟩
        · exact .inr ⟨h3, ⟨_, by rw [List.map_append, h1]; rfl, h4⟩⟩
      · rintro e W4 ⟨h1, h2⟩
        refine ⟨h1, ?_⟩
        rcases h2 with ⟨pre', h3, h4⟩ | ⟨pre, _, pre', h3, h4⟩
        · exact .inl ⟨pre', h3.trans HLL.out.symm, h4⟩
        · exact .inr ⟨pre', trivial, h4⟩
    case stop =>
      rintro D c pre W' _ _ h _
      exact h.elim
    case done =>
      rintro D ys W' hD hys ⟨hB, hsz, hO, hR⟩ hK
      have hz := HZ.out
      rw [hys] at hR
      clear hys
      have HPd := hid (HP3.out.kept hB hO (by omega) (by omega))
      have HMd : Hid (MkOk w.heap.size (D :: Ds) W') := by
        refine ⟨List.nodup_cons.2 ⟨fun hm => by have := HM3.out.lt hm; omega, HM3.out.nd⟩, fun E hE => ?_⟩
        rcases List.mem_cons.1 hE with rfl | hE
        · exact ⟨by omega, hK⟩
        · have h1 := HM3.out.at_ E hE
          have h2 := HM3.out.lt hE
          refine ⟨h1.1, (hO E h2 (fun e => ?_)).trans h1.2⟩
          have h3 : W3.heap[BL]? = _ := HR3.out
          rw [e, h3] at h1
          cases h1.2
      obtain ⟨dO, fO⟩ := HPd.out.at (i := m) (x := 0) (by rw [List.getElem?_append_left (by simp), List.getElem?_replicate, if_pos (by omega)])
      have cO : W'.cell? ⟨Bo, 0, none⟩ = some (.slice (some ⟨w.heap.size, 0, none⟩) N N) := by
        rw [HNN.out]
        exact HPd.out.ox.cell 0 (x := .slice (some ⟨w.heap.size, 0, none⟩) (n + 1) (n + 1)) rfl
      have HTB : Hid (L.foldl (bestI r) (-1) :: tabL l wd (n - m) = tabL l wd (n + 1 - m)) := by
        have h2 := HN.out
        subst h2
        rw [show l.length + 1 - m = (l.length - m) + 1 by omega, tabL, HRF.out, HLL.out, show l.length - (l.length - m) = m by omega]
        exact rfl
      obtain ⟨b, hb⟩ : ∃ b, b = L.foldl (bestI r) (-1) := ⟨_, rfl⟩
      rw [← hb] at hR HTB
      have cL := hR.cell 0 (x := .int .i64 b) rfl
      have hwm : IntKind.i64.wrap ((m : Int) - 1) = (m : Int) - 1 := IntWalk.i64_in _ (by omega)
      have HP5 : Hid (PoL w n w.heap.size Bo (List.replicate m 0 ++ tabL l wd (n + 1 - m)) (W'.setCell ⟨w.heap.size, m, none⟩ (.int .i64 b))) := by
        have h := HPd.out.set m b
        rw [show n + 1 - (m + 1) = n - m by omega, repL_set, HTB.out] at h
        exact h
      have HM5 : Hid (MkOk w.heap.size (D :: Ds) (W'.setCell ⟨w.heap.size, m, none⟩ (.int .i64 b))) := by
        have hne : ∀ E ∈ D :: Ds, E ≠ w.heap.size := fun E hE e => by
          have h1 := (HMd.out.at_ E hE).2
          have h3 : W'.heap[w.heap.size]? = _ := HPd.out.ob
          rw [e, h3] at h1
          cases h1
        exact ⟨HMd.out.nd, fun E hE => ⟨(HMd.out.at_ E hE).1, (Below.heap_setCell _ _ _ _ (by simpa using hne E hE)).trans (HMd.out.at_ E hE).2⟩⟩
      clear hb hR hO hK HPd HMd HTB hB hsz
      subst hds
      go_wp2_with fail
      exact ⟨m, by omega, D :: Ds, _, _, _, _, _, _, _, _, _, _, _, _, _, _, _, _, _, _, _, _, _, _, _, _, _, _, _, _, _, _, _, _, _, _, _, _, _, _, _, _, _, _, _, _, _, _, _, _, rfl, rfl, by omega, HP5.out, HM5.out⟩
    case body =>
      rintro yl pre ⟨⟨t, c⟩, hx⟩ W' ⟨hB, hsz, hO, hR⟩ _
      have hz := HZ.out
      have hx2 := hx
      rw [HLL.out] at hx2
      have hnn := HN.out
      obtain ⟨x1, x2, x3, x4⟩ := lnsF_mem HS.out (by omega) hx2
      dsimp only at x1 x2 x3 x4
      have hrb := potL_bd (wd := wd) HS.out (l.length - t) (t + 1) (by omega)
      have HPd := hid (HP3.out.kept hB hO (by omega) (by omega))
      have hrt : r t = potL l wd (t + 1) := by
        rw [HRF.out]
        show (tabL l wd (n - m)).getD (t - m) 0 = _
        rw [tabL_at l wd (by omega)]
        congr 1; omega
      have hbe : behF (List.replicate (m + 1) 0 ++ tabL l wd (n + 1 - (m + 1))) t = r t := by
        rw [show n + 1 - (m + 1) = n - m by omega, HRF.out, hnn]
        exact beh_tab l wd (by omega) x1 x2
      have hNN := HNN.out
      have hlen : (List.replicate (m + 1) (0 : Int) ++ tabL l wd (n + 1 - (m + 1))).length = N := by rw [List.length_append, List.length_replicate, tabL_len]; omega
      have HBH := hid (behind_any (.slice (some ⟨w.heap.size, 0, none⟩) N N) (List.replicate (m + 1) 0 ++ tabL l wd (n + 1 - (m + 1))) t W' (by have h := HPd.out.rd (by omega); rw [hlen] at h; exact h) (by omega) (by omega))
      rw [hbe] at HBH
      have cO : W'.cell? ⟨Bo, 0, none⟩ = some (.slice (some ⟨w.heap.size, 0, none⟩) N N) := by
        rw [hNN]
        exact HPd.out.ox.cell 0 (x := .slice (some ⟨w.heap.size, 0, none⟩) (n + 1) (n + 1)) rfl
      obtain ⟨av, hav⟩ : ∃ av, av = (pre.map (·.1)).foldl (bestI r) (-1) := ⟨_, rfl⟩
      rw [← hav] at hR
      have HI : Hid (HpoI w W3 BL av W') := ⟨hB, hsz, hO, hR⟩
      have HRW := hid hR
      have cL := hR.cell 0 (x := .int .i64 av) rfl
      have fL := hR.frozen 0
      have hr4 : ((l.length - t : Nat) : Int) ≤ 4096 := by omega
      rw [← hrt] at hrb
      have hr0 : -1 ≤ r t := hrb.1
      have hr1 : r t ≤ 4096 * 20000 := by omega
      refine wpIn_mono (Q := bodyA2 fun W2 => KeepsFrom W3.heap.size W' W2 ∧ KpY BL W' W2 ∧ HpoI w W3 BL (bestI r av (t, c)) W2) ?_ (fun e a' w' h => by
        cases e <;> first | exact h.elim | (refine ⟨h.1, h.2.1, ?_⟩; show HpoI w W3 BL (((pre ++ [(⟨(t, c), hx⟩ : {x : Nat × Int // x ∈ L})]).map (·.1)).foldl (bestI r) (-1)) w'; rw [List.map_append, List.foldl_append, ← hav]; exact h.2.2))
      have HST : Hid (∀ y : Int, KeepsFrom W3.heap.size W' (W'.setCell ⟨BL, 0, none⟩ (.int .i64 y)) ∧ KpY BL W' (W'.setCell ⟨BL, 0, none⟩ (.int .i64 y)) ∧ HpoI w W3 BL y (W'.setCell ⟨BL, 0, none⟩ (.int .i64 y))) := fun y => ⟨keeps_setZ HRW.out _, KpY.set _ _ _, HI.out.set (by omega) y⟩
      have HBI : Hid (bestI r av (t, c) = if 0 ≤ r t ∧ (av < 0 ∨ c + r t < av) then c + r t else av) := rfl
      clear hrb hrt hbe hB hsz hO hR hav hx2 HPd hlen hNN hnn
      generalize r t = q at *
      generalize bestI r av (t, c) = bq at *
      by_cases k0 : 0 ≤ q
      · by_cases k1 : av < 0
        · have hbq : bq = c + q := by rw [HBI.out, if_pos ⟨k0, .inl k1⟩]
          subst hbq
          clear HBI
          gi_wp2_with (refine ⟨trivial, ?_⟩; gi_at_call 21; refine (callsIn_wide.2 HBH.out).mono ?_; rintro e w2 ⟨rfl, rfl⟩)
          exact HST.out _
        · by_cases k2 : c + q < av
          · have hbq : bq = c + q := by rw [HBI.out, if_pos ⟨k0, .inr k2⟩]
            subst hbq
            clear HBI
            gi_wp2_with (refine ⟨trivial, ?_⟩; gi_at_call 21; refine (callsIn_wide.2 HBH.out).mono ?_; rintro e w2 ⟨rfl, rfl⟩)
            exact HST.out _
          · have hbq : bq = av := by rw [HBI.out, if_neg (fun h => h.2.elim k1 k2)]
            subst hbq
            clear HBI
            gi_wp2_with (refine ⟨trivial, ?_⟩; gi_at_call 21; refine (callsIn_wide.2 HBH.out).mono ?_; rintro e w2 ⟨rfl, rfl⟩)
            exact ⟨KeepsFrom.refl _ _, KpY.refl _ _, HI.out⟩
      · have hbq : bq = av := by rw [HBI.out, if_neg (fun h => k0 h.1)]
        subst hbq
        clear HBI
        gi_wp2_with (refine ⟨trivial, ?_⟩; gi_at_call 21; refine (callsIn_wide.2 HBH.out).mono ?_; rintro e w2 ⟨rfl, rfl⟩)
        exact ⟨KeepsFrom.refl _ _, KpY.refl _ _, HI.out⟩
end Go.Proofs.Ytalpgilncohkbaa
