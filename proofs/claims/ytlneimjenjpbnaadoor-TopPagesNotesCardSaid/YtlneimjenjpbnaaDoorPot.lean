/-
  (*sums).potentials.
-/
import Derived.Test.YtlneimjenjpbnaaDoorOldS
import Derived.Test.YtlneimjenjpbnaaDoorJ01
import Derived.RangeFuncWrites
import Derived.RangeFuncBound
import Derived.Deep.LoopGhost
namespace Go.Proofs.YtlneimjenjpbnaaDoor
open Go.RowKit
attribute [local go_sem] Oper.semAt_some

/-- The frame while potentials' loop runs. -/
def potA (B Bo O n N : Nat) (a0 : Option Addr) (c0 Bk : Nat) (ds : List Deferred) (u5 u6 u7 u23 u24 u25 u26 u27 u28 u29 u30 u31 u32 u33 u34 u35 u36 u37 u38 u39 u40 u41 u42 u43 u44 u45 u46 u47 u48 u49 u50 u51 u52 u53 u54 u55 u56 u57 u58 u59 u60 u61 u62 u63 u64 u65 : Value) : Act :=
  { tmps := #[.pointer (some ⟨B, 0, none⟩), undef, .slice none 0 0, .pointer (some ⟨Bo, 0, none⟩), .pointer (some ⟨Bk, 0, none⟩), u5, u6, u7, .pointer (some ⟨B, 0, none⟩), .pointer (some ⟨B, 0, none⟩), .pointer (some ⟨B, 0, none⟩), .pointer (some ⟨B, 0, none⟩), .slice a0 n c0, .int .i64 (n : Int), .int .i64 (N : Int), .slice (some ⟨O, 0, none⟩) N N, .pointer (some ⟨B, 0, none⟩), .pointer (some ⟨B, 0, none⟩), .pointer (some ⟨B, 0, none⟩), .pointer (some ⟨B, 0, none⟩), .slice a0 n c0, .int .i64 (n : Int), .int .i64 ((n : Int) - 1), u23, u24, u25, u26, u27, u28, u29, u30, u31, u32, u33, u34, u35, u36, u37, u38, u39, u40, u41, u42, u43, u44, u45, u46, u47, u48, u49, u50, u51, u52, u53, u54, u55, u56, u57, u58, u59, u60, u61, u62, u63, u64, u65, undef], defers := ds }
/-- Between two rounds. -/
def PotJ (w : World) (p : PP) (B Bo O n N : Nat) (a0 : Option Addr) (c0 k : Nat) (a : Act) (W : World) : Prop :=
  ∃ (Bk : Nat) (Ds : List Nat) (u5 u6 u7 u23 u24 u25 u26 u27 u28 u29 u30 u31 u32 u33 u34 u35 u36 u37 u38 u39 u40 u41 u42 u43 u44 u45 u46 u47 u48 u49 u50 u51 u52 u53 u54 u55 u56 u57 u58 u59 u60 u61 u62 u63 u64 u65 : Value), a = potA B Bo O n N a0 c0 Bk (mksD Ds) u5 u6 u7 u23 u24 u25 u26 u27 u28 u29 u30 u31 u32 u33 u34 u35 u36 u37 u38 u39 u40 u41 u42 u43 u44 u45 u46 u47 u48 u49 u50 u51 u52 u53 u54 u55 u56 u57 u58 u59 u60 u61 u62 u63 u64 u65 ∧ k ≤ n ∧ Row W Bk #[.int .i64 ((k : Int) - 1)] 3 ∧ O < Bk ∧ Bo ≠ Bk ∧ PoI w p O Bo (List.replicate k 0 ++ tabP p (n - k)) W ∧ MkOk O Ds W

theorem pgsF_len (p : PP) (f : Nat) : ∀ (k t : Nat), (pgsF p f t k).length ≤ k
  | 0, t => by simp [pgsF]
  | k + 1, t => by
    have := pgsF_len p f k (t + 1)
    unfold pgsF
    split
    · simp
    · split
      · simp only [List.length_cons]; omega
      · omega
theorem rep_set (m : Nat) (x : Int) (l : List Int) : (List.replicate (m + 1) 0 ++ l).set m x = List.replicate m 0 ++ x :: l := by
  rw [List.replicate_succ', List.append_assoc, List.set_append_right _ _ (by simp)]
  simp
theorem PoI.rd {w : World} {p : PP} {O Bo : Nat} {cs : List Int} {W : World} (h : PoI w p O Bo cs W) (hc : cs.length ≤ 4097 := by omega) : RdI W (.slice (some ⟨O, 0, none⟩) cs.length cs.length) cs :=
  ⟨some ⟨O, 0, none⟩, cs.length, rfl, Nat.le_refl _, by unfold maxLen; omega, fun i x hx => ⟨O, 0, rfl, by rw [Nat.zero_add]; exact (h.at hx).1⟩⟩
def bodyA1 (A : World → Prop) : Exit → Act → World → Prop
  | .normal, _, W => A W
  | _, _, _ => False
set_option maxRecDepth 100000 in
set_option maxHeartbeats 4000000 in
theorem pot_any (p : PP) (B : Nat) (w : World) (hs : SmR w B p) (hok : PpOk p) :
    Calls Tryd.prog 30 #[.pointer (some ⟨B, 0, none⟩)] w fun e w' => ∃ v, e = .returned v ∧ RdI w' v (tabP p p.lines.length) ∧ Below w.heap.size w w' := by
  refine (callsIn_wide (n := 9)).1 ?_
  have HS := hid hs
  have HOK := hid hok
  obtain ⟨a0, c0, r0⟩ := hs.lsAt
  have n4 := hok.n4
  clear hs hok
  obtain ⟨n, hn⟩ : ∃ n, n = p.lines.length := ⟨_, rfl⟩
  rw [← hn] at r0 n4
  rw [← hn]
  have HN := hid hn
  obtain ⟨N, hN⟩ : ∃ N, N = n + 1 := ⟨_, rfl⟩
  have hw1 : IntKind.i64.wrap ((n : Int) + 1) = (N : Int) := by rw [show (n : Int) + 1 = (N : Int) by omega]; exact IntWalk.i64_in _ (by omega)
  have hw2 : IntKind.i64.wrap ((n : Int) - 1) = (n : Int) - 1 := IntWalk.i64_in _ (by omega)
  have HNN := hid hN
  have hN5 : N ≤ 4097 := by omega
  clear hN hn
  obtain ⟨iI, hiI, hzI0, hzI1, hzI2⟩ := info_parts infoIntP
  refine callsIn_of_wp_marks Tryd.func30 rfl trivial ?_ rfl
  simp only [Tryd.ntmps30, List.size_toArray, List.length_cons, List.length_nil, Nat.reduceAdd, Nat.reduceSub, Array.replicate_succ, Array.replicate_zero, List.push_toArray, List.append_toArray, List.nil_append, List.cons_append]
  refine wpIn_wide.2 ?_
  go_upto_region 2 with (at_make; refine wpList_make_full _ rfl _ _ 32 rfl w.heap.size 3 iI (.int .i64 0) 1 Tryd.underlying32 hiI hzI0 hzI1 .i64 .i64 _ _ N rfl rfl rfl rfl (by rw [hzI2]; omega) (by unfold maxLen; omega) (Nat.le_refl _) ?_; intro w2 hown2 hg2; have hb2 : Below w.heap.size w w2 := ⟨hg2.os, hg2.tape, hg2.output, hg2.size, fun k hk => hg2.block k hk (by simp)⟩)
  obtain ⟨hG2, _⟩ := own_full hown2
  have hGr : Row w2 w.heap.size ((List.replicate N (0 : Int)).map (Value.int .i64)).toArray 3 := by
    have h : w2.heap[w.heap.size]? = some (.cells (madeCells #[Value.int .i64 0] (N * 1)).toList.toArray 3 (0, 0)) := hG2
    rw [madeZero] at h
    exact h
  have HP0 : Hid (PoI w p w.heap.size w2.heap.size (List.replicate N 0) (w2.alloc (.cells #[.slice (some ⟨w.heap.size, 0, none⟩) N N] 32))) := by
    have h := row_nw w2 #[.slice (some ⟨w.heap.size, 0, none⟩) N N] 32 rfl
    have hNN := HNN.out
    refine ⟨below_tr hb2 (below_al _ _), hGr.al _, ?_, Nat.le_refl _, by rw [List.length_replicate, hNN, HN.out]⟩
    rw [← HN.out, ← hNN]
    exact h
  clear hown2 hg2 hG2 hGr
  generalize hWo : w2.alloc (.cells #[.slice (some ⟨w.heap.size, 0, none⟩) N N] 32) = W0 at *
  have HSZ : Hid (w2.heap.size < W0.heap.size) := by show _ < _; rw [← hWo]; simp
  clear hWo hb2
  generalize w2.heap.size = Bo at *
  have q0 := Below.keeps HP0.out.bel _ _ r0
  have HP0' : Hid (PoI w p w.heap.size Bo (List.replicate n 0 ++ tabP p (n - n)) W0) := by
    have h := HP0.out
    have hNN := HNN.out
    rw [hNN, List.replicate_succ'] at h
    rw [Nat.sub_self]
    exact h
  have HR4 := hid (row_nw W0 #[.int .i64 ((n : Int) - 1)] 3 rfl)
  have HP4 := hid (HP0'.out.below (below_al W0 (.cells #[.int .i64 ((n : Int) - 1)] 3)))
  have HSZ4 : Hid (w.heap.size < W0.heap.size ∧ Bo < W0.heap.size) := ⟨HP0.out.ob.lt, HSZ.out⟩
  clear HP0 HP0' HSZ
  go_wp2_with fail
  clear q0
  generalize W0.alloc (.cells #[.int .i64 ((n : Int) - 1)] 3) = W4 at *
  refine wp_loop_ghost (PotJ w p B Bo w.heap.size n N a0 c0) n ⟨_, [], _, _, _, _, _, _, _, _, _, _, _, _, _, _, _, _, _, _, _, _, _, _, _, _, _, _, _, _, _, _, _, _, _, _, _, _, _, _, _, _, _, _, _, _, _, _, rfl, Nat.le_refl _, HR4.out, HSZ4.out.1, by have := HSZ4.out.2; omega, HP4.out, MkOk.nil _ _⟩ ?_
  rintro k a wr ⟨Bk, Ds, u5, u6, u7, u23, u24, u25, u26, u27, u28, u29, u30, u31, u32, u33, u34, u35, u36, u37, u38, u39, u40, u41, u42, u43, u44, u45, u46, u47, u48, u49, u50, u51, u52, u53, u54, u55, u56, u57, u58, u59, u60, u61, u62, u63, u64, u65, rfl, hk, hRk, hBk, hBo, hP, hM⟩
  have HRk := hid hRk
  have HP := hid hP
  have HM := hid hM
  clear HP4 HR4 HSZ4 hRk hP hM
  unfold potA
  have cO : wr.cell? ⟨Bo, 0, none⟩ = some (.slice (some ⟨w.heap.size, 0, none⟩) N N) := by
    rw [HNN.out, HN.out]
    exact HP.out.ox.cell 0 (x := .slice (some ⟨w.heap.size, 0, none⟩) (p.lines.length + 1) (p.lines.length + 1)) rfl
  have cK := HRk.out.cell 0 (x := .int .i64 ((k : Int) - 1)) rfl
  generalize hds : mksD Ds = ds
  by_cases hk0 : k = 0
  · subst hk0
    have HP2 : Hid (PoI w p w.heap.size Bo (tabP p n) wr) := by
      have h := HP.out
      rw [List.replicate_zero, List.nil_append, Nat.sub_zero] at h
      exact h
    clear HP
    go_wp2_with fail
    subst hds
    refine leaveMks rfl (B := w.heap.size) (fun W => PoI w p w.heap.size Bo (tabP p n) W) (fun W D h hD hat => h.grown (Nat.le_refl _) (grownBy_putObj' _ D _) (fun r e => by cases e; exact ⟨hD, _, hat, rfl⟩)) (fun W h => ⟨_, rfl, ?_, h.bel⟩) Ds _ HM.out HP2.out
    have hl : N = (tabP p n).length := by rw [tabP_len]; exact HNN.out
    rw [hl]
    exact h.rd
  · obtain ⟨m, rfl⟩ : ∃ m, k = m + 1 := ⟨k - 1, by omega⟩
    have HR1 : Hid (Row wr Bk #[.int .i64 (m : Int)] 3) := by
      have h := HRk.out
      rwa [show (((m + 1 : Nat) : Int) - 1) = (m : Int) by omega] at h
    clear cK HRk
    have cK := HR1.out.cell 0 (x := .int .i64 (m : Int)) rfl
    have hm0 : (0 : Int) ≤ (m : Int) := by omega
    have hmN : (m : Int) < (N : Int) := by have := HNN.out; omega
    obtain ⟨dO, fO⟩ := HP.out.at (i := m) (x := 0) (by rw [List.getElem?_append_left (by simp), List.getElem?_replicate, if_pos (by omega)])
    have HP1 : Hid (PoI w p w.heap.size Bo (List.replicate m 0 ++ (-1) :: tabP p (n - (m + 1))) (wr.setCell ⟨w.heap.size, m, none⟩ (.int .i64 (-1)))) := by
      have h := HP.out.set m (-1)
      rw [rep_set] at h
      exact h
    have HR2 := hid (HR1.out.other (p := ⟨w.heap.size, m, none⟩) (.int .i64 (-1)) (by simp; omega))
    have e4 := HR2.out.cell 0 (x := .int .i64 (m : Int)) rfl
    have HM2 : Hid (MkOk w.heap.size Ds (wr.setCell ⟨w.heap.size, m, none⟩ (.int .i64 (-1)))) := HM.out.keeps (Nat.le_refl _) (HP.out.keeps m (.int .i64 (-1))).1
    clear HP HM HR1
    go_wp2_with fail
    generalize wr.setCell ⟨w.heap.size, m, none⟩ (.int .i64 (-1)) = W1 at *
    (with_reducible refine (pages_any B m _).mono ?_)
    rintro e w3 ⟨rfl, rfl⟩
    have hb3 := below_tr (below_al W1 (.cells #[.pointer (some ⟨B, 0, none⟩)] 61)) (below_al _ (.cells #[.int .i64 (m : Int)] 3))
    have HP3 := hid (HP1.out.below hb3)
    have HM3 := hid (HM2.out.below hb3)
    have HR3 := hid (HR2.out.below hb3)
    have e1 : (W1.alloc (.cells #[.pointer (some ⟨B, 0, none⟩)] 61)).heap.size = W1.heap.size + 1 := by simp
    have c1 := cell_al (cell_nw W1 #[.pointer (some ⟨B, 0, none⟩)] 61 0 (x := .pointer (some ⟨B, 0, none⟩)) rfl) (.cells #[.int .i64 (m : Int)] 3)
    have c2 := cell_nw (W1.alloc (.cells #[.pointer (some ⟨B, 0, none⟩)] 61)) #[.int .i64 (m : Int)] 3 0 (x := .int .i64 (m : Int)) rfl
    rw [e1] at c2
    have HG3 : Hid (PgO w p m B (W1.heap.size + 1) W1.heap.size _) := ⟨c2, c1, OldW.of HP3.out.bel⟩
    have HZ : Hid (W1.heap.size + 2 ≤ ((W1.alloc (.cells #[.pointer (some ⟨B, 0, none⟩)] 61)).alloc (.cells #[.int .i64 (m : Int)] 3)).heap.size ∧ w.heap.size < W1.heap.size) := ⟨by simp, HP1.out.ob.lt⟩
    clear c1 c2 e1 hb3 HP1 HM2 HR2 e4 cO cK dO fO
    go_wp2_with fail
    generalize (W1.alloc (.cells #[.pointer (some ⟨B, 0, none⟩)] 61)).alloc (.cells #[.int .i64 (m : Int)] 3) = W3 at *
    generalize W1.heap.size = z1 at *
    have HPN : Hid ((pgs p m).length ≤ 5000) := by have h := pgsF_len p m (p.n - m) (m + 1); show (pgsF p m (m + 1) (p.n - m)).length ≤ _; have h2 : p.n = n := HN.out.symm; omega
    refine (wpIn_wide (n := 9)).1 ?_
    refine wpIn_rangeFunc_ownG rfl (by omega) (gf := 39) (lb := #[.pointer (some ⟨z1 + 1, 0, none⟩), .pointer (some ⟨z1, 0, none⟩)]) rfl trivial (enters_of Tryd.func39 (by kernel_rfl) rfl)
      (encs := fun x : {x : Nat × Int // x ∈ pgs p m} => #[.int .i64 (x.1.1 : Int), .int .i64 x.1.2]) (Kp := KpX W3.heap.size w.heap.size w.heap.size)
      (S := fun xs => xs.map (·.1) = pgs p m) (Sp := fun _ => True) (N := 5000) (w0 := W3)
      ?hseq (fun h k => h.tr k) (KpX.put (Nat.le_refl _)) (Below.refl _ _) (fun _ => rfl)
      (fun pre W => PoI w p w.heap.size Bo (List.replicate m 0 ++ ((pre.map (·.1)).foldl (bestI fun t => (tabP p (n - (m + 1))).getD (t - (p.n - (n - (m + 1)))) 0) (-1)) :: tabP p (n - (m + 1))) W ∧ Row W Bk #[.int .i64 (m : Int)] 3 ∧ MkOk w.heap.size Ds W) (fun _ _ _ => False)
      ?own (fun _ _ _ _ _ h _ _ => h) ⟨HP3.out, HR3.out, HM3.out⟩ ?a1 ?assign ?body ?done ?stop
    case assign =>
      intro yl x W' K hK
      gi_wp2
      exact hK
    case own =>
      intro s W W' row hs hg hr
      have h5 : w.heap.size ≤ W3.heap.size := by have := HZ.out; omega
      refine ⟨hs.1.grown h5 hg hr, (hg.block _ hs.2.1.lt (fun e => ?_)).trans hs.2.1, hs.2.2.nd, fun D hD => ⟨(hs.2.2.at_ D hD).1, (hg.block D (hs.2.2.lt hD) (fun e => by have h7 := (hr D e.symm).1; have h8 := HM3.out.lt hD; omega)).trans (hs.2.2.at_ D hD).2⟩⟩
      obtain ⟨_, o, ho, hc⟩ := hr _ e.symm
      have h3 : W.heap[Bk]? = _ := hs.2.1
      rw [ho] at h3; cases h3; cases hc
    case hseq =>
      intro yl J Jx W' hW' hJ _ hY h0
      have hz := HZ.out
      refine (pages1_in (9 - 1) (by omega) p HOK.out m B (z1 + 1) z1 5000 (by have := HN.out; omega) HPN.out (fun W => PgO w p m B (z1 + 1) z1 W) (fun A h => h.pg HS.out) (fun A C h hb => h.below hb) (KpX W3.heap.size w.heap.size w.heap.size)
        (fun A C hk h => h.kp hk (by omega) (Nat.le_refl _) (by omega) (by omega) (by omega) (by omega)) yl (fun pre W => ∃ pre' : List {x : Nat × Int // x ∈ pgs p m}, pre'.map (·.1) = pre ∧ J pre' W) (fun pre W => ∃ pre' : List {x : Nat × Int // x ∈ pgs p m}, pre'.map (·.1) = pre ∧ Jx pre' W)
        (fun pre x W hx ⟨pre', h1, h2⟩ hlen => (hY pre' ⟨x, hx⟩ W h2 (by rw [← h1, List.length_map] at hlen; exact hlen)).mono ?_) W' (fun s A C row ⟨pre', h1, h2⟩ hg hr => ⟨pre', h1, hJ _ _ _ row h2 hg hr⟩) (HG3.out.below hW') ⟨[], rfl, h0⟩).mono ?_
      · rintro e A (⟨h3, h4, h5⟩ | ⟨h3, h4⟩)
        · exact .inl ⟨h3, ⟨_, by rw [List.map_append, h1]; rfl, h4⟩, h5⟩
        · exact .inr ⟨h3, ⟨_, by rw [List.map_append, h1]; rfl, h4⟩⟩
      · rintro e W4 ⟨h1, h2⟩
        refine ⟨h1, ?_⟩
        rcases h2 with ⟨pre', h3, h4⟩ | ⟨pre, _, pre', h3, h4⟩
        · exact .inl ⟨pre', h3, h4⟩
        · exact .inr ⟨pre', trivial, h4⟩
    case stop =>
      rintro D c pre W' _ _ h _
      exact h.elim
    case done =>
      rintro D ys W' hD hys ⟨hP, hR, hM⟩ hK
      rw [hys] at hP
      clear hys
      have hnm : n - m = (n - (m + 1)) + 1 := by omega
      have HT : Hid (PoI w p w.heap.size Bo (List.replicate m 0 ++ tabP p (n - m)) W') := by
        have h2 : p.n = n := HN.out.symm
        have h3 : p.n - (n - (m + 1) + 1) = m := by omega
        show PoI _ _ _ _ _ _
        rw [hnm, tabP, h3]
        exact hP
      have cK := hR.cell 0 (x := .int .i64 (m : Int)) rfl
      have hwm : IntKind.i64.wrap ((m : Int) - 1) = (m : Int) - 1 := IntWalk.i64_in _ (by omega)
      have HR5 := hid (row_nw W' #[.int .i64 ((m : Int) - 1)] 3 rfl)
      have HT5 := hid (HT.out.below (below_al W' (.cells #[.int .i64 ((m : Int) - 1)] 3)))
      have HM5 : Hid (MkOk w.heap.size (D :: Ds) (W'.alloc (.cells #[.int .i64 ((m : Int) - 1)] 3))) := by
        have hz := HZ.out
        refine MkOk.below ⟨List.nodup_cons.2 ⟨fun hm => by have := HM3.out.lt hm; omega, hM.nd⟩, fun E hE => ?_⟩ (below_al W' _)
        rcases List.mem_cons.1 hE with rfl | hE
        · exact ⟨by omega, hK⟩
        · exact hM.at_ E hE
      have HB5 : Hid (w.heap.size < W'.heap.size ∧ Bo < W'.heap.size) := ⟨hP.ob.lt, hP.ox.lt⟩
      clear hP hR hM
      subst hds
      go_wp2_with fail
      exact ⟨m, by omega, W'.heap.size, D :: Ds, _, _, _, _, _, _, _, _, _, _, _, _, _, _, _, _, _, _, _, _, _, _, _, _, _, _, _, _, _, _, _, _, _, _, _, _, _, _, _, _, _, _, _, _, _, _, rfl, by omega, HR5.out, HB5.out.1, by have := HB5.out.2; omega, HT5.out, HM5.out⟩
    case body =>
      rintro yl pre ⟨x, hx⟩ W' ⟨hP, hR, hM⟩ _
      have hjj : p.n - (n - (m + 1)) = m + 1 := by have h2 : p.n = n := HN.out.symm; omega
      rw [hjj] at hP
      obtain ⟨h1, h2, h3⟩ := pgs_mem hx
      have hcb := pgI_bd HOK.out m x.1
      rw [h3] at hcb
      have hr1 : (tabP p (n - (m + 1))).getD (x.1 - (m + 1)) 0 = pot p x.1 := by
        have h5 : p.n = n := HN.out.symm
        rw [tabP_at p (by omega)]
        congr 1; omega
      have hrb := pot_bd HOK.out (p.n - x.1) x.1 (by omega)
      have hn4 : ((p.n - x.1 : Nat) : Int) ≤ 4096 := by have h5 : p.n = n := HN.out.symm; omega
      have hxN : x.1 < N := by have h5 : p.n = n := HN.out.symm; have := HNN.out; omega
      have hlT := tabP_len p (n - (m + 1))
      have hTx : (tabP p (n - (m + 1)))[x.1 - (m + 1)]? = some (pot p x.1) := by
        have h5 : p.n = n := HN.out.symm
        rw [← hr1, List.getD_eq_getElem?_getD, List.getElem?_eq_getElem (by omega)]; rfl
      refine wpIn_mono (Q := bodyA1 fun W2 => KeepsFrom W3.heap.size W' W2 ∧ KpX W3.heap.size w.heap.size w.heap.size W' W2 ∧ PoI w p w.heap.size Bo (List.replicate m 0 ++ (bestI (fun _ => pot p x.1) ((pre.map (·.1)).foldl (bestI fun t => (tabP p (n - (m + 1))).getD (t - (m + 1)) 0) (-1)) x) :: tabP p (n - (m + 1))) W2 ∧ Row W2 Bk #[.int .i64 (m : Int)] 3 ∧ MkOk w.heap.size Ds W2) ?_ (fun e a' w' h => by
        cases e <;> first | exact h.elim | (refine ⟨h.1, h.2.1, ?_, h.2.2.2⟩; rw [hjj, List.map_append, List.foldl_append]; have h7 := h.2.2.1; unfold bestI at h7 ⊢; simp only [List.map_cons, List.map_nil, List.foldl_cons, List.foldl_nil, hr1]; exact h7))
      obtain ⟨av, hav⟩ : ∃ av, av = (pre.map (·.1)).foldl (bestI fun t => (tabP p (n - (m + 1))).getD (t - (m + 1)) 0) (-1) := ⟨_, rfl⟩
      rw [← hav] at hP ⊢
      obtain ⟨t, c⟩ := x
      dsimp only at *
      have lO : (List.replicate m (0 : Int) ++ av :: tabP p (n - (m + 1)))[m]? = some av := by
        rw [List.getElem?_append_right (by simp), List.length_replicate, Nat.sub_self]; rfl
      have lX : (List.replicate m (0 : Int) ++ av :: tabP p (n - (m + 1)))[t]? = some (pot p t) := by
        rw [List.getElem?_append_right (by simp; omega), List.length_replicate, show t - m = (t - (m + 1)) + 1 by omega, List.getElem?_cons_succ]; exact hTx
      obtain ⟨cM, fM⟩ := hP.at lO
      obtain ⟨cX, _⟩ := hP.at lX
      have cO : W'.cell? ⟨Bo, 0, none⟩ = some (.slice (some ⟨w.heap.size, 0, none⟩) N N) := by
        rw [HNN.out, HN.out]
        exact hP.ox.cell 0 (x := .slice (some ⟨w.heap.size, 0, none⟩) (p.lines.length + 1) (p.lines.length + 1)) rfl
      have cK := hR.cell 0 (x := .int .i64 (m : Int)) rfl
      have hset : ∀ (y : Int), (List.replicate m (0 : Int) ++ av :: tabP p (n - (m + 1))).set m y = List.replicate m 0 ++ y :: tabP p (n - (m + 1)) := fun y => by
        rw [List.set_append_right _ _ (by simp)]; simp
      have HST : Hid (∀ y : Int, PoI w p w.heap.size Bo (List.replicate m 0 ++ y :: tabP p (n - (m + 1))) (W'.setCell ⟨w.heap.size, m, none⟩ (.int .i64 y)) ∧ Row (W'.setCell ⟨w.heap.size, m, none⟩ (.int .i64 y)) Bk #[.int .i64 (m : Int)] 3 ∧ MkOk w.heap.size Ds (W'.setCell ⟨w.heap.size, m, none⟩ (.int .i64 y)) ∧ KeepsFrom W3.heap.size W' (W'.setCell ⟨w.heap.size, m, none⟩ (.int .i64 y)) ∧ KpX W3.heap.size w.heap.size w.heap.size W' (W'.setCell ⟨w.heap.size, m, none⟩ (.int .i64 y))) := fun y => by
        have h8 := hP.set m y
        rw [hset] at h8
        exact ⟨h8, hR.other (p := ⟨w.heap.size, m, none⟩) (.int .i64 y) (by simp; omega), hM.keeps (Nat.le_refl _) (hP.keeps m (.int .i64 y)).1, (hP.keeps (n := W3.heap.size) m (.int .i64 y)).1, (hP.keeps (n := W3.heap.size) m (.int .i64 y)).2 _⟩
      have HQ : Hid (PoI w p w.heap.size Bo (List.replicate m 0 ++ av :: tabP p (n - (m + 1))) W' ∧ Row W' Bk #[.int .i64 (m : Int)] 3 ∧ MkOk w.heap.size Ds W') := ⟨hP, hR, hM⟩
      have HAV := hid hav
      have hc0 : 0 ≤ c := by omega
      have hc1 : c ≤ 20000 := by omega
      have hr0 : -1 ≤ pot p t := by omega
      have hr2 : pot p t ≤ 4096 * 20000 := by omega
      generalize pot p t = r at *
      have htN : (t : Int) < (N : Int) := by omega
      clear hav hP hR hM lO lX hset hTx hr1 hrb hcb h3 hx hlT
      have hmm : m < t := by omega
      by_cases k0 : 0 ≤ r
      · by_cases k1 : av < 0
        · have HR : Hid (bestI (fun _ => r) av (t, c) = c + r) := by show _ = _; unfold bestI; rw [if_pos ⟨k0, .inl k1⟩]
          rw [HR.out]
          gi_wp2_with fail
          obtain ⟨q1, q2, q3, q4, q5⟩ := HST.out (c + r)
          exact ⟨q4, q5, q1, q2, q3⟩
        · by_cases k2 : c + r < av
          · have HR : Hid (bestI (fun _ => r) av (t, c) = c + r) := by show _ = _; unfold bestI; rw [if_pos ⟨k0, .inr k2⟩]
            rw [HR.out]
            gi_wp2_with fail
            obtain ⟨q1, q2, q3, q4, q5⟩ := HST.out (c + r)
            exact ⟨q4, q5, q1, q2, q3⟩
          · have HR : Hid (bestI (fun _ => r) av (t, c) = av) := by show _ = _; unfold bestI; rw [if_neg (fun h => h.2.elim k1 k2)]
            rw [HR.out]
            gi_wp2_with fail
            obtain ⟨q1, q2, q3⟩ := HQ.out
            exact ⟨KeepsFrom.refl _ _, ⟨Nat.le_refl _, fun _ _ _ _ => rfl⟩, q1, q2, q3⟩
      · have HR : Hid (bestI (fun _ => r) av (t, c) = av) := by show _ = _; unfold bestI; rw [if_neg (fun h => k0 h.1)]
        rw [HR.out]
        gi_wp2_with fail
        obtain ⟨q1, q2, q3⟩ := HQ.out
        exact ⟨KeepsFrom.refl _ _, ⟨Nat.le_refl _, fun _ _ _ _ => rfl⟩, q1, q2, q3⟩
end Go.Proofs.YtlneimjenjpbnaaDoor
