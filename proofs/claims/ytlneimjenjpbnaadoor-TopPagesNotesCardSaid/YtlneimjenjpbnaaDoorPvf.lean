/-
  pagebreak.Verify of what Break and Potentials give.
-/
import Derived.Test.YtlneimjenjpbnaaDoorPvj
import Derived.Test.YtlneimjenjpbnaaDoorQin
import Derived.Sort.CutIn
import Derived.BigQuiet
namespace Go.Proofs.YtlneimjenjpbnaaDoor
open Go.RowKit
attribute [local go_sem] Oper.semAt_some

theorem OldW.grownX {W0 A C : World} {n : Nat} {row : Option Nat} (h : OldW W0 A) (hn : W0.heap.size ≤ n) (hg : A.grownBy C row) (hr : ∀ r, row = some r → n ≤ r) : OldW W0 C :=
  ⟨Nat.le_trans h.1 hg.size, fun k hk => (hg.block k (Nat.lt_of_lt_of_le hk h.1) (fun e => by have := hr k e.symm; omega)).trans (h.2 k hk)⟩
theorem row_grownX {A C : World} {k : Nat} {cs : Array Value} {t : TypeId} {row : Option Nat} (h : Row A k cs t) (hg : A.grownBy C row) (hr : ∀ r, row = some r → ∃ o : Obj, A.heap[r]? = some o ∧ o.isCells = false) : Row C k cs t := (hg.block k h.lt (fun e => by
    obtain ⟨o, ho, hc⟩ := hr k e.symm
    have h3 : A.heap[k]? = _ := h
    rw [ho] at h3; cases h3; cases hc)).trans h
set_option maxRecDepth 100000 in
set_option maxHeartbeats 8000000 in
theorem pvf_any (p : PP) (vl vn vp ve vt : Value) (w : World) (hr : RdP5 w vl vn vp p) (hz : ppI p = 0) (h0 : 0 ≤ pot p 0) (he : RdI w ve ((brk p).map Int.ofNat)) (ht : RdI w vt (tabP p p.n)) :
    Calls Tryd.prog 14 #[.agg (ppC p vl vn vp), ve, vt] w fun e w' => e = .returned (.int .i64 0) ∧ Below w.heap.size w w' := by
  refine (callsIn_wide (n := 9)).1 ?_
  have hok := pp_ok hz
  have HOK := hid hok
  obtain ⟨hch, hco⟩ := brkF_ok hok p.n 0 (Nat.zero_le _) (by omega) h0
  have hmin : ∀ x ∈ tabP p p.n, -1 ≤ x := fun x hx => by
    obtain ⟨i, hi, rfl⟩ := List.getElem_of_mem hx
    rw [tabP_len] at hi
    have e : (tabP p p.n)[i] = pot p i := by
      unfold pot
      rw [List.getD_eq_getElem?_getD, List.getElem?_eq_getElem (by rw [tabP_len]; exact hi)]; rfl
    rw [e]
    exact (pot_bd hok (p.n - i) i (by omega)).1
  have HMI := hid (fun v w' h => minI_any (tabP p p.n) v w' h (by rw [tabP_len]; omega) hmin)
  have HCO := hid (fun w' h he => pbc_any p vl vn vp ve (brk p) w' h hz he hch)
  have hco' : costF p 0 (brk p) = (pot p 0, 0) := hco
  rw [hco'] at HCO
  obtain ⟨N, hN⟩ : ∃ N, N = p.lines.length := ⟨_, rfl⟩
  have hpn : p.n = N := hN.symm
  have n4 : N ≤ 4096 := by have := hok.n4; omega
  obtain ⟨b, off, ct, hvt, hct, htc⟩ : ∃ b off ct, vt = .slice (some ⟨b, off, none⟩) (N + 1 : Nat) ct ∧ N + 1 ≤ ct ∧ ∀ f, f ≤ N → w.cell? ⟨b, off + f, none⟩ = some (.int .i64 (pot p f)) := by
    obtain ⟨at_, ct, h1, h2, h3, h4⟩ := ht
    have hl := tabP_len p p.n
    obtain ⟨b, off, rfl, _⟩ := h4 0 _ (List.getElem?_eq_getElem (by omega))
    refine ⟨b, off, ct, by rw [h1, hl, hpn], by omega, fun f hf => ?_⟩
    have h5 : (tabP p p.n)[f]? = some (pot p f) := by
      unfold pot
      rw [List.getD_eq_getElem?_getD, List.getElem?_eq_getElem (by omega)]; rfl
    obtain ⟨b', off', he, hc⟩ := h4 f _ h5
    cases he
    exact hc
  have HRT := hid ht
  have HRD := hid hr
  have HRE := hid he
  have HTC := hid htc
  have HP0 := hid h0
  have hpe : pot p N = 0 := by rw [← hpn]; exact pot_end p
  have HBD : Hid (∀ i, i ≤ N → -1 ≤ pot p i ∧ pot p i ≤ 4096 * 20000) := fun i hi => by
    have := pot_bd hok (p.n - i) i (by omega)
    omega
  have HS := hid (fun w' h => nsums_any p vl vn vp w' h HOK.out)
  obtain ⟨a1, c1, e1, _, _, _⟩ := hr.l.open
  obtain ⟨a2, c2, e2, _, _, _⟩ := hr.n.open
  obtain ⟨a3, c3, e3, _, _, _⟩ := hr.s.open
  subst e1 e2 e3
  have HNN := hid hN
  clear hok hch hco hco' hmin ht hr he htc h0 hct hN
  unfold ppC at HCO HS ⊢
  subst hvt
  have HB0 := hid (below_tr (below_tr (below_al w (.cells #[.slice a1 p.lines.length c1, .slice a2 p.notes.length c2, .slice a3 p.pens.length c3, .int .i64 p.h, .int .i64 p.gap] 38)) (below_al _ (.cells #[.slice (some ⟨b, off, none⟩) (N + 1 : Nat) ct] 32))) (below_al _ (.cells #[.int .i64 0] 34)))
  have HR3 := hid (((row_nw w #[.slice a1 p.lines.length c1, .slice a2 p.notes.length c2, .slice a3 p.pens.length c3, .int .i64 p.h, .int .i64 p.gap] 38 rfl).al (.cells #[.slice (some ⟨b, off, none⟩) (N + 1 : Nat) ct] 32)).al (.cells #[.int .i64 0] 34))
  have HR5 := hid ((row_nw (w.alloc (.cells #[.slice a1 p.lines.length c1, .slice a2 p.notes.length c2, .slice a3 p.pens.length c3, .int .i64 p.h, .int .i64 p.gap] 38)) #[.slice (some ⟨b, off, none⟩) (N + 1 : Nat) ct] 32 (n := w.heap.size + 1) (by simp)).al (.cells #[.int .i64 0] 34))
  have HR6 := hid (row_nw ((w.alloc (.cells #[.slice a1 p.lines.length c1, .slice a2 p.notes.length c2, .slice a3 p.pens.length c3, .int .i64 p.h, .int .i64 p.gap] 38)).alloc (.cells #[.slice (some ⟨b, off, none⟩) (N + 1 : Nat) ct] 32)) #[.int .i64 0] 34 (n := w.heap.size + 1 + 1) (by simp))
  refine callsIn_of_wp_marks Tryd.func14 rfl trivial ?_ rfl
  simp only [Tryd.ntmps14, List.size_toArray, List.length_cons, List.length_nil, Nat.reduceAdd, Nat.reduceSub, Array.replicate_succ, Array.replicate_zero, List.push_toArray, List.append_toArray, List.nil_append, List.cons_append]
  refine wpIn_wide.2 ?_
  go_wp2_with fail
  generalize ((w.alloc (.cells #[.slice a1 p.lines.length c1, .slice a2 p.notes.length c2, .slice a3 p.pens.length c3, .int .i64 p.h, .int .i64 p.gap] 38)).alloc (.cells #[.slice (some ⟨b, off, none⟩) (N + 1 : Nat) ct] 32)).alloc (.cells #[.int .i64 0] 34) = W1 at *
  (with_reducible refine (HCO.out _ (HRD.out.below HB0.out) (HRE.out.below HB0.out)).mono ?_)
  rintro e w2 ⟨rfl, hb2⟩
  have HB2 := hid (below_tr HB0.out hb2)
  have HR32 := hid (HR3.out.below hb2)
  have HR52 := hid (HR5.out.below hb2)
  have HR62 := hid (HR6.out.below hb2)
  clear hb2 HB0 HR3 HR5 HR6 HCO HRE
  obtain ⟨B3, hB3⟩ : ∃ B3, B3 = w.heap.size := ⟨_, rfl⟩
  rw [← hB3] at HR32 HR52 HR62 ⊢
  have HB3 := hid hB3
  clear hB3
  have x0 := HR32.out.cell 0 (x := .slice a1 p.lines.length c1) rfl
  have x5 := HR52.out.cell 0 (x := .slice (some ⟨b, off, none⟩) (N + 1 : Nat) ct) rfl
  have y0 : w2.cell? ⟨b, off, none⟩ = some (.int .i64 (pot p 0)) := Below.keeps HB2.out _ _ (HTC.out 0 (Nat.zero_le _))
  have yN : w2.cell? ⟨b, off + N, none⟩ = some (.int .i64 0) := by have h := Below.keeps HB2.out _ _ (HTC.out N (Nat.le_refl _)); rw [hpe] at h; exact h
  have wN : IntKind.i64.wrap ((N : Int) + 1) = ((N + 1 : Nat) : Int) := by rw [show (N : Int) + 1 = ((N + 1 : Nat) : Int) by omega]; exact IntWalk.i64_in _ (by omega)
  have q1 : (0 : Int) < ((N + 1 : Nat) : Int) := by omega
  have q2 : (N : Int) < ((N + 1 : Nat) : Int) := by omega
  have q3 : (0 : Int) ≤ (N : Int) := by omega
  have q4 : (((N + 1 : Nat) : Int) != ((N + 1 : Nat) : Int)) = false := by simp
  have q5 : (pot p 0 != pot p 0) = false := by simp
  have HLN : Hid (((p.lines.length : Nat) : Int) = (N : Int)) := by have := HNN.out; show _ = _; omega
  rw [← HNN.out] at x0
  generalize hp0 : pot p 0 = pz at *
  go_wp2_with fail
  (with_reducible refine (HMI.out _ _ (HRT.out.below HB2.out)).mono ?_)
  rintro e w3 ⟨m, hm, rfl, hb3⟩
  have HB32 := hid (below_tr HB2.out hb3)
  have HR33 := hid (HR32.out.below hb3)
  have HR53 := hid (HR52.out.below hb3)
  have HR63 := hid (HR62.out.below hb3)
  have tm : ¬ m < -1 := by omega
  clear hb3 HB2 HR32 HR52 HR62 x0 x5 y0 yN q1 q4 q5 hm HMI
  have cl := HR33.out.cell 0 (x := .slice a1 p.lines.length c1) rfl
  have cn := HR33.out.cell 1 (x := .slice a2 p.notes.length c2) rfl
  have cp := HR33.out.cell 2 (x := .slice a3 p.pens.length c3) rfl
  have ch := HR33.out.cell 3 (x := .int .i64 p.h) rfl
  have cg := HR33.out.cell 4 (x := .int .i64 p.gap) rfl
  go_wp2_with fail
  (with_reducible refine (HS.out _ (HRD.out.below HB32.out)).mono ?_)
  rintro e W0 ⟨B, rfl, _, hs4, hb4⟩
  have HS4 := hid hs4
  have HB4 := hid (below_tr HB32.out hb4)
  have HR54 := hid (HR53.out.below hb4)
  have HR64 := hid (HR63.out.below hb4)
  have HT4 : Hid (∀ f, f ≤ N → W0.cell? ⟨b, off + f, none⟩ = some (.int .i64 (pot p f))) := fun f hf => Below.keeps HB4.out _ _ (HTC.out f hf)
  clear hs4 hb4 HB32 HR33 HR53 HR63 cl cn cp ch cg HS HTC HRT tm
  obtain ⟨B5, hB5⟩ : ∃ B5, B5 = B3 + 1 := ⟨_, rfl⟩
  obtain ⟨B6, hB6⟩ : ∃ B6, B6 = B3 + 1 + 1 := ⟨_, rfl⟩
  rw [← hB6] at HR64 ⊢
  rw [← hB5] at HR54 ⊢
  have HB6 : Hid (w.heap.size ≤ B6) := by have := HB3.out; show _ ≤ _; omega
  clear hB5 hB6
  go_wp2_with fail
  refine wp_loop_ghost (PvfJ w W0 B5 B6 B N) N ⟨[], 0, _, _, _, _, _, _, _, _, _, _, _, _, _, _, _, _, _, _, _, _, _, _, _, _, _, _, _, _, _, _, _, _, _, _, _, _, _, _, _, _, _, _, _, _, _, _, _, _, _, _, _, _, _, _, _, _, _, _, _, _, _, _, _, _, _, _, _, _, _, _, _, _, _, _, _, _, _, _, _, _, _, rfl, Nat.zero_le _, by omega, ⟨Nat.le_refl _, fun _ _ => rfl⟩, HB4.out, MkOk.nil _ _⟩ ?_
  intro m a wr hh
  refine PvfJ.elim hh ?_
  clear hh
  intro Ds k u0 u1 u2 u3 u4 u7 u8 u11 u12 u13 u14 u15 u16 u17 u18 u19 u20 u21 u22 u23 u24 u25 u26 u27 u28 u29 u30 u31 u32 u33 u34 u35 u36 u37 u38 u39 u40 u41 u42 u43 u44 u45 u46 u47 u48 u49 u50 u51 u54 u55 u56 u57 u58 u59 u60 u61 u62 u63 u64 u65 u66 u67 u68 u69 u70 u71 u72 u73 u74 u75 u76 u77 u78 u79 u80 u81 u82 u83 u84 u85 u86 ⟨hk, hmk, hO, hB, hM⟩
  have HO := hid hO
  have HB := hid hB
  have HM := hid hM
  have HKK := hid hmk
  clear hO hB hM hmk
  unfold pvfA
  dsimp only
  generalize hds : mksD Ds = ds
  by_cases hlt : k < N
  case neg =>
    have hti : ¬ (k : Int) < (N : Int) := by omega
    have c6 := (HR64.out.oldX HO.out).cell 0 (x := .int .i64 0) rfl
    have f6 := (HR64.out.oldX HO.out).frozen 0
    have HR6 := hid ((HR64.out.oldX HO.out).set 0 (.int .i64 0))
    have HBW : Hid (Below w.heap.size w (wr.setCell ⟨B6, 0, none⟩ (.int .i64 0))) := HB.out.setCell HB6.out _
    have HM6 : Hid (MkOk w.heap.size Ds (wr.setCell ⟨B6, 0, none⟩ (.int .i64 0))) := HM.out.keeps (n := 0) (Nat.zero_le _) (keeps_setC c6 _)
    clear HM HB
    go_wp2_with fail
    subst hds
    refine leaveMksC (v := .int .i64 0) (B := w.heap.size) (fun W => W.cell? ⟨B6, 0, none⟩ = some (.int .i64 0) ∧ Below w.heap.size w W) (fun W D h hD hat => ⟨putObj_cell W D hat h.1, h.2.grown (grownBy_putObj' _ D _) h.2.size (fun r e => by cases e; exact hD)⟩) (fun W h => ?_) (fun W h => ⟨rfl, h.2⟩) Ds _ HM6.out ⟨HR6.out.cell 0 rfl, HBW.out⟩
    have hc := h.1
    simp [results, Tryd.f14, go_sem, hc]
  case pos =>
    have hti : (k : Int) < (N : Int) := by omega
    have hb7 := below_al wr (.cells #[.int .i64 (k : Int)] 3)
    have HO7 := hid (HO.out.tr hb7)
    have HB7 := hid (below_tr HB.out hb7)
    have HM7 := hid (HM.out.below hb7)
    have HR7 := hid (row_nw wr #[.int .i64 (k : Int)] 3 rfl)
    clear hb7 HM
    go_upto_region 11 with fail
    generalize wr.alloc (.cells #[.int .i64 (k : Int)] 3) = W7 at *
    obtain ⟨Bk, hBk⟩ : ∃ Bk, Bk = wr.heap.size := ⟨_, rfl⟩
    rw [← hBk] at HR7 ⊢
    have HBK : Hid (W0.heap.size ≤ Bk) := by have := HO.out.1; show _ ≤ _; omega
    clear hBk HO HB
    have c7 := HR7.out.cell 0 (x := .int .i64 (k : Int)) rfl
    go_wp2_with fail
    (with_reducible refine (pages_any B k _).mono ?_)
    rintro e w8 ⟨rfl, rfl⟩
    have hb8 := below_tr (below_al W7 (.cells #[.pointer (some ⟨B, 0, none⟩)] 61)) (below_al _ (.cells #[.int .i64 (k : Int)] 3))
    have HO8 := hid (HO7.out.tr hb8)
    have HB8 := hid (below_tr HB7.out hb8)
    have HM8 := hid (HM7.out.below hb8)
    have HR8 := hid (HR7.out.below hb8)
    have e1 : (W7.alloc (.cells #[.pointer (some ⟨B, 0, none⟩)] 61)).heap.size = W7.heap.size + 1 := by simp
    have d1 := cell_al (cell_nw W7 #[.pointer (some ⟨B, 0, none⟩)] 61 0 (x := .pointer (some ⟨B, 0, none⟩)) rfl) (.cells #[.int .i64 (k : Int)] 3)
    have d2 := cell_nw (W7.alloc (.cells #[.pointer (some ⟨B, 0, none⟩)] 61)) #[.int .i64 (k : Int)] 3 0 (x := .int .i64 (k : Int)) rfl
    rw [e1] at d2
    have HG8 : Hid (PgO W0 p k B (W7.heap.size + 1) W7.heap.size _) := ⟨d2, d1, HO8.out⟩
    have HZ8 : Hid (W7.heap.size + 2 ≤ ((W7.alloc (.cells #[.pointer (some ⟨B, 0, none⟩)] 61)).alloc (.cells #[.int .i64 (k : Int)] 3)).heap.size ∧ W0.heap.size ≤ W7.heap.size) := ⟨by simp, HO7.out.1⟩
    clear d1 d2 e1 hb8 HO7 HB7 HM7 HR7 c7
    go_wp2_with fail
    generalize (W7.alloc (.cells #[.pointer (some ⟨B, 0, none⟩)] 61)).alloc (.cells #[.int .i64 (k : Int)] 3) = W3 at *
    generalize W7.heap.size = z1 at *
    have HW3 : Hid (W0.heap.size ≤ W3.heap.size ∧ w.heap.size ≤ W3.heap.size) := ⟨HO8.out.1, HB8.out.size⟩
    refine (wpIn_wide (n := 9)).1 ?_
    refine wpIn_rangeFunc_ownG rfl (by omega) (gf := 39) (lb := #[.pointer (some ⟨z1 + 1, 0, none⟩), .pointer (some ⟨z1, 0, none⟩)]) rfl trivial (enters_of Tryd.func39 (by kernel_rfl) rfl)
      (encs := fun x : {x : Nat × Int // x ∈ pgs p k} => #[.int .i64 (x.1.1 : Int), .int .i64 x.1.2]) (Kp := KpX W3.heap.size W3.heap.size W3.heap.size)
      (S := fun _ => True) (Sp := fun _ => True) (N := (pgs p k).length) (w0 := W3)
      ?hseq (fun h k => h.tr k) (KpX.put (Nat.le_refl _)) (Below.refl _ _) (fun _ => rfl)
      (fun _ W => OldW W0 W ∧ Below w.heap.size w W ∧ MkOk w.heap.size Ds W ∧ W3.heap.size ≤ W.heap.size ∧ Row W Bk #[.int .i64 (k : Int)] 3)
      (fun _ _ _ => False)
      ?own (fun _ _ _ _ _ h _ _ => h) ⟨HO8.out, HB8.out, HM8.out, Nat.le_refl _, HR8.out⟩ ?a1 ?assign ?body ?done ?stop
    case assign =>
      intro yl x W' K hK
      gi_wp2
      exact hK
    case own =>
      intro st A C row hs hg hr
      exact ⟨hs.1.grownX HW3.out.1 hg (fun r e => (hr r e).1), hs.2.1.grown hg hs.2.1.size (fun r e => by have := (hr r e).1; have := HW3.out.2; omega), hs.2.2.1.grownN HM8.out (Nat.le_refl _) hg (fun r e => (hr r e).1), Nat.le_trans hs.2.2.2.1 hg.size, row_grownX hs.2.2.2.2 hg (fun r e => (hr r e).2)⟩
    case hseq => as_aux_lemma =>
      intro yl J Jx W' hW' hJ _ hY h0
      have hz := HZ8.out
      have hw := HW3.out
      refine (pages1_in (9 - 1) (by omega) p HOK.out k B (z1 + 1) z1 _ (by have := HNN.out; omega) (Nat.le_refl _) (fun W => PgO W0 p k B (z1 + 1) z1 W) (fun A h => h.pg HS4.out) (fun A C h hb => h.below hb) (KpX W3.heap.size W3.heap.size W3.heap.size)
        (fun A C hk h => h.kp hk (by omega) (by omega) (by omega) (by omega) (by omega) (by omega)) yl (fun pre W => ∃ pre' : List {x : Nat × Int // x ∈ pgs p k}, pre'.map (·.1) = pre ∧ J pre' W) (fun pre W => ∃ pre' : List {x : Nat × Int // x ∈ pgs p k}, pre'.map (·.1) = pre ∧ Jx pre' W)
        (fun pre x W hx ⟨pre', h1, h2⟩ hlen => (hY pre' ⟨x, hx⟩ W h2 (by rw [← h1, List.length_map] at hlen; exact hlen)).mono ?_) W' (fun s A C row ⟨pre', h1, h2⟩ hg hr => ⟨pre', h1, hJ _ _ _ row h2 hg hr⟩) (HG8.out.below hW') ⟨[], rfl, h0⟩).mono ?_
      · rintro e A (⟨h3, h4, h5⟩ | ⟨h3, h4⟩)
        · exact .inl ⟨h3, ⟨_, by rw [List.map_append, h1]; rfl, h4⟩, h5⟩
        · exact .inr ⟨h3, ⟨_, by rw [List.map_append, h1]; rfl, h4⟩⟩
      · rintro e W4 ⟨h1, h2⟩
        refine ⟨h1, ?_⟩
        rcases h2 with ⟨pre', h3, h4⟩ | ⟨pre, _, pre', h3, h4⟩
        · exact .inl ⟨pre', trivial, h4⟩
        · exact .inr ⟨pre', trivial, h4⟩
    case stop =>
      rintro D c pre W' _ _ h _
      exact h.elim
    case done =>
      --RD<
      rintro D ys W' hD _ ⟨hO, hB, hM, hs, _⟩ hK
      have HM9 : Hid (MkOk w.heap.size (D :: Ds) W') := by
        have hw := HW3.out
        refine ⟨List.nodup_cons.2 ⟨fun hmm => by have := HM8.out.lt hmm; omega, hM.nd⟩, fun E hE => ?_⟩
        rcases List.mem_cons.1 hE with rfl | hE
        · exact ⟨by omega, hK⟩
        · exact hM.at_ E hE
      have HO9 := hid hO
      have HB9 := hid hB
      have hkk := HKK.out
      have wk : IntKind.i64.wrap ((k : Int) + 1) = ((k + 1 : Nat) : Int) := by rw [show (k : Int) + 1 = ((k + 1 : Nat) : Int) by omega]; exact IntWalk.i64_in _ (by omega)
      clear hO hB hM hs hK
      subst hds
      go_wp2_with fail
      exact ⟨N - (k + 1), by omega, D :: Ds, k + 1, _, _, _, _, _, _, _, _, _, _, _, _, _, _, _, _, _, _, _, _, _, _, _, _, _, _, _, _, _, _, _, _, _, _, _, _, _, _, _, _, _, _, _, _, _, _, _, _, _, _, _, _, _, _, _, _, _, _, _, _, _, _, _, _, _, _, _, _, _, _, _, _, _, _, _, _, _, _, _, _, _, rfl, by omega, rfl, HO9.out, HB9.out, HM9.out⟩
      --RD>
    case body =>
      --RB<
      rintro yl pre ⟨⟨t, c⟩, hx⟩ W' ⟨hO, hB, hM, hs, hrow⟩ _
      obtain ⟨hx1, hx2, hx3⟩ := pgs_mem hx
      have hce := pot_cert HOK.out (f := k) (by omega) hx
      dsimp only at hx1 hx2 hx3 hce
      have htN : t ≤ N := by omega
      have hcb := pgI_bd HOK.out k t
      rw [hx3] at hcb
      dsimp only at hcb
      have hbt := HBD.out t htN
      have hbk := HBD.out k (by omega)
      have HO9 := hid hO
      have HB9 := hid hB
      have HM9 := hid hM
      have HR9 := hid hrow
      have c5 := (HR54.out.oldX hO).cell 0 (x := .slice (some ⟨b, off, none⟩) (N + 1 : Nat) ct) rfl
      have cT := hO.cell (HT4.out t htN)
      have cF := hO.cell (HT4.out k (by omega))
      have ck := hrow.cell 0 (x := .int .i64 (k : Int)) rfl
      have u1 : (t : Int) < ((N + 1 : Nat) : Int) := by omega
      have u2 : (0 : Int) ≤ (t : Int) := by omega
      have u3 : (k : Int) < ((N + 1 : Nat) : Int) := by omega
      have u4 : (0 : Int) ≤ (k : Int) := by omega
      have hc0 : 0 ≤ c := hcb.1
      have hc1 : c ≤ 20000 := hcb.2
      have r0 : -1 ≤ pot p t := hbt.1
      have r1 : pot p t ≤ 4096 * 20000 := hbt.2
      have p0 : -1 ≤ pot p k := hbk.1
      have p1 : pot p k ≤ 4096 * 20000 := hbk.2
      clear hO hB hM hrow hx1 hx2 hx3 hcb hbt hbk
      generalize pot p t = r at *
      generalize pot p k = pf at *
      gi_wp2_with fail
      gi_cut [85] from 61 (fun v wx => v = .bool false ∧ Hid (Below W'.heap.size W' wx))
      case first => as_aux_lemma =>
        by_cases k0 : 0 ≤ r
        · have k1 : ¬ pf < 0 := by omega
          have k2 : pf - c ≤ r := by omega
          have i1 : decide (pf < 0) = false := decide_eq_false k1
          have i2 : decide (r < pf - c) = false := decide_eq_false (by omega)
          clear hce
          refine wpIn_region_quietR_lit (by kernel_rfl) (by kernel_rfl) (by kernel_rfl) ?_
          repeat (gi_big_quiet_step (fail))
          refine wpQuietIn_nil ?_
          intro _ hw'
          obtain ⟨nq, hw''⟩ := hw'
          subst hw''
          gi_wp2_with fail
          gi_meet
          exact ⟨rfl, hid (below_drewN (Below.refl _ _) _)⟩
        · have i1 : decide (0 ≤ r) = false := decide_eq_false k0
          clear hce
          refine wpIn_region_quietR_lit (by kernel_rfl) (by kernel_rfl) (by kernel_rfl) ?_
          repeat (gi_big_quiet_step (fail))
          refine wpQuietIn_nil ?_
          intro _ hw'
          obtain ⟨nq, hw''⟩ := hw'
          subst hw''
          gi_wp2_with fail
          gi_meet
          exact ⟨rfl, hid (below_drewN (Below.refl _ _) _)⟩
      case rest =>
        obtain ⟨rfl, HBC⟩ := hcut
        have HQ : Hid (KeepsFrom W3.heap.size W' wc ∧ KpX W3.heap.size W3.heap.size W3.heap.size W' wc) := ⟨keepsFrom_below HBC.out, kpX_below HBC.out hs⟩
        have HI : Hid (OldW W0 wc ∧ Below w.heap.size w wc ∧ MkOk w.heap.size Ds wc ∧ W3.heap.size ≤ wc.heap.size ∧ Row wc Bk #[.int .i64 (k : Int)] 3) := ⟨HO9.out.tr HBC.out, below_tr HB9.out HBC.out, HM9.out.below HBC.out, Nat.le_trans hs HBC.out.size, HR9.out.below HBC.out⟩
        gi_wp2_with fail
        exact ⟨HQ.out.1, HQ.out.2, HI.out⟩
      --RB>
end Go.Proofs.YtlneimjenjpbnaaDoor
