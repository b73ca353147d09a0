/-
  hyphenation.levels.
-/
import Derived.Test.YtalpgilncohkbaaLvA
import Derived.RangeFuncWrites
import Derived.RangeFuncBound
import Derived.Deep.LoopGhost
namespace Go.Proofs.Ytalpgilncohkbaa
open Go.RowKit
attribute [local go_sem] Oper.semAt_some

theorem st_funcP (W : World) (K : Nat) (t : TypeId) (B : Nat) : (store ⟨W.heap.size, 0, none⟩ (.func (.func K) #[] #[.pointer (some ⟨B, 0, none⟩)])).run Try.prog (W.alloc (.cells #[Value.nilFunc] t)) = .ok () (W.alloc (.cells #[.func (.func K) #[] #[.pointer (some ⟨B, 0, none⟩)]] t)) := by
  have hr := row_nw W #[Value.nilFunc] t rfl
  have hc := hr.cell 0 (x := Value.nilFunc) rfl
  have hf := hr.frozen 0
  rw [run_store _ _ _ _ _ rfl, hc]
  simp only [hf]
  have e : (W.alloc (.cells #[Value.nilFunc] t)).setCell ⟨W.heap.size, 0, none⟩ (.func (.func K) #[] #[.pointer (some ⟨B, 0, none⟩)]) = W.alloc (.cells #[.func (.func K) #[] #[.pointer (some ⟨B, 0, none⟩)]] t) := by
    simp only [World.setCell, World.alloc]
    congr 1
    refine Array.ext (by simp) fun i h1 h2 => ?_
    rw [Array.getElem_modify, Array.getElem_push, Array.getElem_push]
    by_cases hi : i < W.heap.size
    · rw [dif_pos hi, dif_pos hi, if_neg (by omega)]
    · have : i = W.heap.size := by simp at h2; omega
      rw [dif_neg hi, dif_neg hi, if_pos this.symm]; rfl
  rw [e]; rfl
theorem rd_one {α : Type} {enc : α → Value} {W : World} {b : Nat} {x : α} (h : W.cell? ⟨b, 0, none⟩ = some (enc x)) : Rd enc W (.slice (some ⟨b, 0, none⟩) 1 1) [x] := by
  refine ⟨some ⟨b, 0, none⟩, 1, rfl, Nat.le_refl _, by unfold maxLen; omega, fun i y hy => ?_⟩
  cases i with
  | zero => cases hy; exact ⟨b, 0, rfl, h⟩
  | succ i => simp at hy
theorem cat3_any (b1 : Nat) (a2 : Option Addr) (n2 c2 : Nat) (l2 : List ByteArray) (w2 : World) (hd : w2.cell? ⟨b1, 0, none⟩ = some (.string dotB)) (h2 : RdS w2 (.slice a2 n2 c2) l2) (hl : 1 ≤ l2.length) (hl2 : l2.length ≤ 20) :
    Calls Try.prog 51 #[.slice (some ⟨w2.heap.size + 1, 0, none⟩) 3 3] ((w2.alloc (.cells #[.string ⟨#[46]⟩] 9)).alloc (.cells #[.slice (some ⟨b1, 0, none⟩) 1 1, .slice a2 n2 c2, .slice (some ⟨w2.heap.size, 0, none⟩) 1 1] 23)) fun e w' => ∃ r, e = .returned r ∧ RdS w' r ([dotB] ++ (l2 ++ [dotB])) ∧ Below w2.heap.size w2 w' := by
  have hb3 := below_al w2 (.cells #[.string ⟨#[46]⟩] 9)
  have hb4 := below_al (w2.alloc (.cells #[.string ⟨#[46]⟩] 9)) (.cells #[.slice (some ⟨b1, 0, none⟩) 1 1, .slice a2 n2 c2, .slice (some ⟨w2.heap.size, 0, none⟩) 1 1] 23)
  have hb := below_tr hb3 hb4
  have r1 : RdS w2 (.slice (some ⟨b1, 0, none⟩) 1 1) [dotB] := rd_one hd
  have r3 : RdS (w2.alloc (.cells #[.string ⟨#[46]⟩] 9)) (.slice (some ⟨w2.heap.size, 0, none⟩) 1 1) [dotB] := rd_one (cell_nw w2 #[.string ⟨#[46]⟩] 9 0 rfl)
  have hrow := row_nw (w2.alloc (.cells #[.string ⟨#[46]⟩] 9)) #[.slice (some ⟨b1, 0, none⟩) 1 1, .slice a2 n2 c2, .slice (some ⟨w2.heap.size, 0, none⟩) 1 1] 23 rfl
  have e1 : (w2.alloc (.cells #[.string ⟨#[46]⟩] 9)).heap.size = w2.heap.size + 1 := by simp
  rw [e1] at hrow
  have hn2 : ∀ n cap, (Value.slice a2 n2 c2) = .slice none n cap → cap = 0 := fun n cap e => by
    cases e
    obtain ⟨a', c', e1, _, _, e4⟩ := h2
    cases e1
    obtain ⟨b, off, e, _⟩ := e4 0 _ (List.getElem?_eq_getElem hl)
    cases e
  refine (concatS_any (w2.heap.size + 1) [(.slice (some ⟨b1, 0, none⟩) 1 1, [dotB]), (.slice a2 n2 c2, l2), (.slice (some ⟨w2.heap.size, 0, none⟩) 1 1, [dotB])] _ ?_ (by simp) ?_ ?_).mono ?_
  · intro j p hj
    match j with
    | 0 => cases hj; exact ⟨hrow.cell 0 rfl, r1.below hb⟩
    | 1 => cases hj; exact ⟨hrow.cell 1 rfl, h2.below hb⟩
    | 2 => cases hj; exact ⟨hrow.cell 2 rfl, r3.below hb4⟩
    | j + 3 => simp at hj
  · intro p hp
    rcases List.mem_cons.1 hp with rfl | hp
    · simp
    rcases List.mem_cons.1 hp with rfl | hp
    · exact hl2
    rcases List.mem_cons.1 hp with rfl | hp
    · simp
    · cases hp
  · intro p hp
    rcases List.mem_cons.1 hp with rfl | hp
    · intro n cap e; cases e
    rcases List.mem_cons.1 hp with rfl | hp
    · exact hn2
    rcases List.mem_cons.1 hp with rfl | hp
    · intro n cap e; cases e
    · cases hp
  · rintro e w' ⟨r, rfl, hr, hb5⟩
    exact ⟨r, rfl, by simpa [catT] using hr, below_tr hb hb5⟩
/-- The frame while levels' loop over the patterns runs. -/
def levA (aP : Option Addr) (nP cP : Nat) (s : ByteArray) (bl ol n2 cl Bx B7 i : Nat) (ds : List Deferred) (u9 u10 u11 u12 u13 u15 u16 u17 u21 u22 u23 u27 u28 u29 u30 u31 u32 u33 u34 u35 u36 u37 u38 u39 u40 u41 u42 u43 u44 u45 u46 u47 u48 u49 u50 u51 : Value) : Act :=
  { tmps := #[.slice aP nP cP, .string s, undef, undef, .slice none 0 0, .slice (some ⟨bl, ol, none⟩) n2 cl, .pointer (some ⟨Bx, 0, none⟩), .pointer (some ⟨B7, 0, none⟩), undef, u9, u10, u11, u12, u13, .string s, u15, u16, u17, .slice (some ⟨bl, ol, none⟩) n2 cl, .slice (some ⟨bl, ol, none⟩) n2 cl, .int .i64 (n2 : Int), u21, u22, u23, .slice aP nP cP, .int .i64 (nP : Int), .int .i64 (i : Int), u27, u28, u29, u30, u31, u32, u33, u34, u35, u36, u37, u38, u39, u40, u41, u42, u43, u44, u45, u46, u47, u48, u49, u50, u51, undef, undef, undef, undef, undef], defers := ds }
/-- Between two rounds. -/
def LevJ (w : World) (P : List Grp) (l : List ByteArray) (A0 : List Int) (aP : Option Addr) (nP cP : Nat) (s : ByteArray) (bl ol n2 cl O Bx B7 n k : Nat) (a : Act) (W : World) : Prop :=
  ∃ (i : Nat) (Ds : List Nat) (u9 u10 u11 u12 u13 u15 u16 u17 u21 u22 u23 u27 u28 u29 u30 u31 u32 u33 u34 u35 u36 u37 u38 u39 u40 u41 u42 u43 u44 u45 u46 u47 u48 u49 u50 u51 : Value), a = levA aP nP cP s bl ol n2 cl Bx B7 i (mksD Ds) u9 u10 u11 u12 u13 u15 u16 u17 u21 u22 u23 u27 u28 u29 u30 u31 u32 u33 u34 u35 u36 u37 u38 u39 u40 u41 u42 u43 u44 u45 u46 u47 u48 u49 u50 u51 ∧ i + k = P.length ∧ LvI w O Bx B7 n (lvL l (P.take i) A0) W ∧ MkOk w.heap.size Ds W

theorem ckPat_pos {L : ByteArray} {V : List Int} (h : ckPat L V = 0) : 1 ≤ L.size := by
  unfold ckPat at h
  repeat' split at h
  all_goals first | (exact absurd h (by decide)) | skip
  rename_i h1 h2 h3 h4 h5 h6
  rcases Nat.eq_zero_or_pos L.size with h0 | h0
  · have h7 := ownP_le L
    have h8 : (ownP L).data.toList.length = 0 := by show (ownP L).size = 0; omega
    exact absurd (by rw [List.eq_nil_of_length_eq_zero h8]; rfl) h4
  · exact h0
/-- All blocks but O are as they were. -/
structure OldX (O : Nat) (A B : World) : Prop where
  sz : A.heap.size ≤ B.heap.size
  blk : ∀ k, k < A.heap.size → k ≠ O → B.heap[k]? = A.heap[k]?
theorem OldX.refl (O : Nat) (A : World) : OldX O A A := ⟨Nat.le_refl _, fun _ _ _ => rfl⟩
theorem OldX.below {O : Nat} {A B C : World} (h : OldX O A B) (hb : Below B.heap.size B C) : OldX O A C := ⟨Nat.le_trans h.sz hb.size, fun k hk hO => (hb.block k (Nat.lt_of_lt_of_le hk h.sz)).trans (h.blk k hk hO)⟩
theorem OldX.kp {O : Nat} {A B C : World} (h : OldX O A B) (k : KpX A.heap.size O O B C) : OldX O A C := ⟨Nat.le_trans h.sz k.1, fun i hi hO => (k.2 i hi hO hO).trans (h.blk i hi hO)⟩
theorem OldX.cell {O : Nat} {A B : World} (h : OldX O A B) {p : Addr} {x : Value} (hx : A.cell? p = some x) (hO : p.block ≠ O) : B.cell? p = some x :=
  (World.cell?_of_block (h.blk p.block (World.block_lt_of_cell? A p hx) hO)).trans hx
theorem OldX.rd {O : Nat} {A B : World} (h : OldX O A B) {L : List Int} {t : TypeId} (hr : Row A O (L.map (Value.int .i64)).toArray t) {v : Value} {l : List ByteArray} (hv : RdS A v l) : RdS B v l := by
  obtain ⟨a, cap, h1, h2, h3, h4⟩ := hv
  refine ⟨a, cap, h1, h2, h3, fun i x hx => ?_⟩
  obtain ⟨b, off, e, hc⟩ := h4 i x hx
  refine ⟨b, off, e, h.cell hc fun e2 => ?_⟩
  have e3 : b = O := e2
  subst e3
  rw [cell_of_row A b (off + i) _ _ _ hr, List.getElem?_toArray, List.getElem?_map] at hc
  cases hL : L[off + i]? with
  | none => rw [hL] at hc; cases hc
  | some y => rw [hL] at hc; cases hc
theorem LvI.raise {w : World} {O Bx B7 n : Nat} {A : List Int} {W : World} (h : LvI w O Bx B7 n A W) (i : Nat) (v : Int) : LvI w O Bx B7 n (A.set i v) (W.drew.setCell ⟨O, i, none⟩ (.int .i64 v)) := (h.below (Below.refl _ _).drew).set i v
theorem LvI.raiseK {w : World} {O Bx B7 m n : Nat} {A : List Int} {W : World} (h : LvI w O Bx B7 n A W) (i : Nat) (v : Value) : KeepsFrom m W (W.drew.setCell ⟨O, i, none⟩ v) ∧ (∀ q, KpX q O O W (W.drew.setCell ⟨O, i, none⟩ v)) := by
  have hk := (h.below (Below.refl _ _).drew).keeps (m := m) i v
  exact ⟨⟨hk.1.1, hk.1.2⟩, fun q => ⟨(hk.2 q).1, (hk.2 q).2⟩⟩
theorem LvI.rd {w : World} {O Bx B7 n : Nat} {A : List Int} {W : World} (h : LvI w O Bx B7 n A W) (hn : n ≤ 5000) : RdI W (.slice (some ⟨O, 0, none⟩) n n) A := by
  have hl := h.len
  subst hl
  exact ⟨some ⟨O, 0, none⟩, A.length, rfl, Nat.le_refl _, by unfold maxLen; omega, fun i x hx => ⟨O, 0, rfl, by rw [Nat.zero_add]; exact h.ob.cell i (by rw [List.getElem?_toArray, List.getElem?_map, hx]; rfl)⟩⟩
def bodyA1 (A : World → Prop) : Exit → Act → World → Prop
  | .normal, _, W => A W
  | _, _, _ => False
theorem lev_word {s : ByteArray} (h1 : 1 ≤ s.size) : 1 ≤ clN s := by
  unfold clN
  have hd : s.data.toList.length = s.size := rfl
  cases hl : s.data.toList with
  | nil => rw [hl] at hd; simp at hd; omega
  | cons c r => rw [clGo, if_neg (by simp)]; omega
set_option maxRecDepth 100000 in
set_option maxHeartbeats 4000000 in
theorem lev_any (v : Value) (P : List Grp) (s : ByteArray) (w : World) (hv : RdG w v P) (hz : SzG P) (hP : P.length ≤ 4096) (hok : ∀ g ∈ P, ckPat g.name g.mem = 0) (hs : s.size ≤ 20) (hs1 : 1 ≤ s.size) :
    Calls Try.prog 41 #[v, .string s] w fun e w' => ∃ v', e = .returned v' ∧ RdI w' v' (levF P s) ∧ Below w.heap.size w w' := by
  refine (callsIn_wide (n := 9)).1 ?_
  obtain ⟨aP, cP, rfl, hPc, hPm, _⟩ := hv.open
  have HZ := hid hz
  have HOK := hid hok
  have hc1 := lev_word hs1
  have hc2 := clN_le s
  have HB0 := hid (below_al w (.cells #[.string ⟨#[46]⟩] 9))
  have HD0 := hid (cell_nw w #[.string ⟨#[46]⟩] 9 0 (x := .string dotB) rfl)
  have HG0 := hid (hv.below HB0.out)
  have HFO := hid (hfolded_any s (w.alloc (.cells #[.string ⟨#[46]⟩] 9)) (by omega))
  obtain ⟨iI, hiI, hzI0, hzI1, hzI2⟩ := info_parts infoCI
  clear hv hz hok
  refine callsIn_of_wp_marks Try.func41 rfl trivial ?_ rfl
  simp only [Try.ntmps41, List.size_toArray, List.length_cons, List.length_nil, Nat.reduceAdd, Nat.reduceSub, Array.replicate_succ, Array.replicate_zero, List.push_toArray, List.append_toArray, List.nil_append, List.cons_append]
  refine wpIn_wide.2 ?_
  go_wp2_with fail
  refine HFO.out.mono ?_
  rintro e w2 ⟨v2, rfl, hv2, hb2⟩
  obtain ⟨a2, c2, rfl, _⟩ := hv2.open
  have HB2 := hid (below_tr HB0.out hb2)
  have HG2 := hid (HG0.out.below hb2)
  have HC := hid (cat3_any w.heap.size a2 (clL (foldB s)).length c2 (pUn s) w2 (Below.keeps hb2 _ _ HD0.out) hv2 (by rw [pUn_len]; exact hc1) (by rw [pUn_len]; omega))
  clear HFO HB0 HD0 HG0 hb2 hv2
  go_wp2_with fail
  refine HC.out.mono ?_
  rintro e w5 ⟨vl, rfl, hvl, hb5⟩
  have hvl' : RdS w5 vl (wUn s) := hvl
  obtain ⟨l, hl⟩ : ∃ l, l = wUn s := ⟨_, rfl⟩
  rw [← hl] at hvl'
  have hln : l.length = clN s + 2 := by rw [hl]; exact wUn_len s
  have HL := hid hl
  obtain ⟨al, cl, rfl, hlc, hlm, _⟩ := hvl'.open
  have HVL := hid hvl'
  have HB5 := hid (below_tr HB2.out hb5)
  have HG5 := hid (HG2.out.below hb5)
  clear HC HB2 HG2 hb5 hvl hvl' hl
  obtain ⟨N, hN⟩ : ∃ N, N = l.length + 1 := ⟨_, rfl⟩
  have hw1 : IntKind.i64.wrap ((l.length : Int) + 1) = (N : Int) := by rw [show (l.length : Int) + 1 = (N : Int) by omega]; exact IntWalk.i64_in _ (by omega)
  have HNN := hid hN
  have HLN := hid hln
  have hl3 : 3 ≤ l.length := by omega
  have hl22 : l.length ≤ 22 := by omega
  have hN23 : N ≤ 23 := by omega
  clear hN hln
  go_upto_region 3 with (at_make; refine wpList_make_full _ rfl _ _ 38 rfl w5.heap.size 3 iI (.int .i64 0) 1 Try.underlying38 hiI hzI0 hzI1 .i64 .i64 _ _ N rfl rfl rfl rfl (by rw [hzI2]; omega) (by unfold maxLen; omega) (Nat.le_refl _) ?_; intro w6 hown2 hg2; have hb6 : Below w5.heap.size w5 w6 := ⟨hg2.os, hg2.tape, hg2.output, hg2.size, fun k hk => hg2.block k hk (by simp)⟩)
  obtain ⟨hG2, _⟩ := own_full hown2
  have hGr : Row w6 w5.heap.size ((List.replicate N (0 : Int)).map (Value.int .i64)).toArray 3 := by
    have h : w6.heap[w5.heap.size]? = some (.cells (madeCells #[Value.int .i64 0] (N * 1)).toList.toArray 3 (0, 0)) := hG2
    rw [madeZero] at h
    exact h
  have hOb : w5.heap.size ≤ w5.heap.size := Nat.le_refl _
  have hX := row_nw w6 #[.slice (some ⟨w5.heap.size, 0, none⟩) N N] 38 rfl
  have hbx := below_al w6 (.cells #[.slice (some ⟨w5.heap.size, 0, none⟩) N N] 38)
  clear hown2 hg2 hG2
  generalize hWx : w6.alloc (.cells #[.slice (some ⟨w5.heap.size, 0, none⟩) N N] 38) = Wx at *
  have hX7 := row_nw Wx #[.func (.func 53) #[] #[.pointer (some ⟨w6.heap.size, 0, none⟩)]] 98 rfl
  have hb7 := below_al Wx (.cells #[.func (.func 53) #[] #[.pointer (some ⟨w6.heap.size, 0, none⟩)]] 98)
  have hst := st_funcP Wx 53 98 w6.heap.size
  go_upto_region 4 with fail
  clear hst
  generalize Wx.alloc (.cells #[.func (.func 53) #[] #[.pointer (some ⟨w6.heap.size, 0, none⟩)]] 98) = W7 at *
  have HLV : Hid (LvI w5 w5.heap.size w6.heap.size Wx.heap.size N (List.replicate N 0) W7) := ⟨below_tr (below_tr hb6 hbx) hb7, (hGr.below hbx).below hb7, hX.below hb7, hX7, Nat.le_refl _, by rw [List.length_replicate]⟩
  clear hb6 hbx hb7 hX hX7 hGr hWx
  generalize w6.heap.size = Bx at *
  generalize Wx.heap.size = B7 at *
  obtain ⟨x0, bl, ol, _, hal, _⟩ := HVL.out.open51 (i := 0) (by omega)
  subst hal
  go_upto_region 5 with fail
  refine wp_loop_ghost (LevJ w5 P l (List.replicate N 0) aP P.length cP s bl ol l.length cl w5.heap.size Bx B7 N) P.length ⟨0, [], _, _, _, _, _, _, _, _, _, _, _, _, _, _, _, _, _, _, _, _, _, _, _, _, _, _, _, _, _, _, _, _, _, _, _, _, rfl, by omega, HLV.out, MkOk.nil _ _⟩ ?_
  rintro k a wr ⟨i, Ds, u9, u10, u11, u12, u13, u15, u16, u17, u21, u22, u23, u27, u28, u29, u30, u31, u32, u33, u34, u35, u36, u37, u38, u39, u40, u41, u42, u43, u44, u45, u46, u47, u48, u49, u50, u51, rfl, hik, hLv, hM⟩
  have HLv := hid hLv
  have HM := hid hM
  clear HLV hLv hM
  unfold levA
  have cX := HLv.out.ox.cell 0 (x := .slice (some ⟨w5.heap.size, 0, none⟩) N N) rfl
  generalize hds : mksD Ds = ds
  by_cases hk0 : k = 0
  · subst hk0
    obtain rfl : i = P.length := by omega
    have hti : ¬ (P.length : Int) < (P.length : Int) := by omega
    have HL2 : Hid (LvI w5 w5.heap.size Bx B7 N (lvL l P (List.replicate N 0)) wr) := by
      have h := HLv.out
      rw [List.take_of_length_le (Nat.le_refl _)] at h
      exact h
    have e1 : IntKind.i64.wrap ((l.length : Int) - 1) = (l.length : Int) - 1 := IntWalk.i64_in _ (by omega)
    have e2 : (2 : Int) ≤ (l.length : Int) - 1 := by omega
    have e3 : (l.length : Int) - 1 ≤ (N : Int) := by have := HNN.out; omega
    have e4 : ((l.length : Int) - 1).toNat = l.length - 1 := by omega
    have e5 : ¬ N = 2 := by have := HNN.out; omega
    have e6 : (0 : Int) ≤ (l.length : Int) - 1 := by omega
    clear HLv
    go_wp2_with fail
    subst hds
    refine leaveMks rfl (B := w5.heap.size) (fun W => LvI w5 w5.heap.size Bx B7 N (lvL l P (List.replicate N 0)) W) (fun W D h hD hat => h.grown (Nat.le_refl _) (grownBy_putObj' _ D _) (fun r e => by cases e; exact ⟨hD, _, hat, rfl⟩)) (fun W h => ⟨_, rfl, ?_, HB5.out.trans (h.bel.mono HB5.out.size)⟩) Ds _ HM.out HL2.out
    have h2 := rd_sub (k := 2) (m := l.length - 3) (h.rd (by omega)) (by rw [h.len, HNN.out]; omega)
    have h3 : ((lvL l P (List.replicate N 0)).drop 2).take (l.length - 3) = levF P s := by unfold levF; rw [← HL.out, HNN.out]
    rw [h3] at h2
    exact h2
  · obtain ⟨m, rfl⟩ : ∃ m, k = m + 1 := ⟨k - 1, by omega⟩
    have hlt : i < P.length := by omega
    have hti : (i : Int) < (P.length : Int) := by omega
    have hi0 : (0 : Int) ≤ (i : Int) := by omega
    obtain ⟨_, _, er, _, _, hcell⟩ := HG5.out.open
    cases er
    obtain ⟨x, bP, oP, vV, hx, hap, c05, c15, hV⟩ := hcell i hlt
    obtain ⟨aV, cV, eV, hVc, hVm, _⟩ := hV.open
    subst hap eV
    have c0 := Below.keeps HLv.out.bel _ _ c05
    have c1 := Below.keeps HLv.out.bel _ _ c15
    have HV5 := hid hV
    have HX := hid hx
    have HCK := hid (ckPat_ok (HOK.out x (List.mem_of_getElem? hx)))
    have HPS := hid (ckPat_pos (HOK.out x (List.mem_of_getElem? hx)))
    have HBR := hid (below_al wr (.cells #[.string x.name, .slice aV x.mem.length cV] 50))
    have HR9 := hid (row_nw wr #[.string x.name, .slice aV x.mem.length cV] 50 rfl)
    have HL9 := hid (HLv.out.below HBR.out)
    have HM9 := hid (HM.out.below HBR.out)
    have c9 := HR9.out.cell 0 (x := .string x.name) rfl
    have hnm : x.name.size ≤ 64 := HCK.out.1
    have HFO := hid (hfolded_any x.name (wr.alloc (.cells #[.string x.name, .slice aV x.mem.length cV] 50)) (by omega))
    clear hx hcell hV HLv HM HBR cX c05 c15
    go_wp2_with fail
    generalize wr.alloc (.cells #[.string x.name, .slice aV x.mem.length cV] 50) = W9 at *
    generalize wr.heap.size = B9 at *
    refine HFO.out.mono ?_
    rintro e w10 ⟨vp, rfl, hvp, hb10⟩
    obtain ⟨ap, cp, rfl, hpc, hpm, _⟩ := hvp.open
    have HL10 := hid (HL9.out.below hb10)
    have HM10 := hid (HM9.out.below hb10)
    have HR10 := hid (HR9.out.below hb10)
    have HVP := hid hvp
    clear HFO HL9 HM9 HR9 hb10 hvp c9 c0 c1
    go_wp2_with fail
    (with_reducible refine (places_any ap (some ⟨bl, ol, none⟩) (clL (foldB x.name)).length cp l.length cl _).mono ?_)
    rintro e w11 ⟨rfl, rfl⟩
    have hb11 := below_tr (below_al w10 (.cells #[.slice ap (clL (foldB x.name)).length cp] 23)) (below_al _ (.cells #[.slice (some ⟨bl, ol, none⟩) l.length cl] 23))
    have HL3 := hid (HL10.out.below hb11)
    have HM3 := hid (HM10.out.below hb11)
    have HR3 := hid (HR10.out.below hb11)
    have HVP3 := hid (HVP.out.below hb11)
    have HVL3 := hid (HVL.out.below HL3.out.bel)
    have e1 : (w10.alloc (.cells #[.slice ap (clL (foldB x.name)).length cp] 23)).heap.size = w10.heap.size + 1 := by simp
    have c1 := cell_al (cell_nw w10 #[.slice ap (clL (foldB x.name)).length cp] 23 0 (x := .slice ap (clL (foldB x.name)).length cp) rfl) (.cells #[.slice (some ⟨bl, ol, none⟩) l.length cl] 23)
    have c2 := cell_nw (w10.alloc (.cells #[.slice ap (clL (foldB x.name)).length cp] 23)) #[.slice (some ⟨bl, ol, none⟩) l.length cl] 23 0 (x := .slice (some ⟨bl, ol, none⟩) l.length cl) rfl
    rw [e1] at c2
    have HC1 := hid c1
    have HC2 := hid c2
    have HZ1 : Hid (w5.heap.size < w10.heap.size ∧ B9 < w10.heap.size ∧ Bx < w10.heap.size ∧ B7 < w10.heap.size) := ⟨HL10.out.ob.lt, HR10.out.lt, HL10.out.ox.lt, HL10.out.b7.lt⟩
    clear c1 c2 e1 hb11 HL10 HM10 HR10 HVP
    go_wp2_with fail
    have hpl : (clL (foldB x.name)).length = (pUn x.name).length := rfl
    generalize hpat : clL (foldB x.name) = pat at *
    have HPT : Hid (pUn x.name = pat) := hpat
    generalize (w10.alloc (.cells #[.slice ap pat.length cp] 23)).alloc (.cells #[.slice (some ⟨bl, ol, none⟩) l.length cl] 23) = W3 at *
    have HZ2 : Hid (w10.heap.size + 1 < W3.heap.size) := by
      have h := World.block_lt_of_cell? W3 _ HC2.out
      exact h
    generalize w10.heap.size = z1 at *
    have HVLn : Hid (x.mem.length = pat.length + 1) := by show _ = _; rw [← HPT.out, pUn_len]; exact HCK.out.2.1
    have hp1 : 1 ≤ pat.length := by rw [← HPT.out, pUn_len]; exact lev_word HPS.out
    have hp2 : pat.length ≤ 64 := by rw [← HPT.out, pUn_len]; exact Nat.le_trans (clN_le _) hnm
    have HPN : Hid ((plcs pat l).length ≤ 100) := by
      have h := plGo_len (pat := pat) (l := l) (l.length + 1 - pat.length) 0
      show (plGo pat l 0 (l.length + 1 - pat.length)).length ≤ _
      omega
    obtain ⟨A, hA⟩ : ∃ A, A = lvL l (P.take i) (List.replicate N 0) := ⟨_, rfl⟩
    rw [← hA] at HL3
    have HA := hid hA
    clear hA hpl hpat
    refine (wpIn_wide (n := 9)).1 ?_
    refine wpIn_rangeFunc_ownG rfl (by omega) (gf := 70) (lb := #[.pointer (some ⟨z1, 0, none⟩), .pointer (some ⟨z1 + 1, 0, none⟩)]) rfl trivial (enters_of Try.func70 (by kernel_rfl) rfl)
      (encs := fun q : {q : Nat // q ∈ plcs pat l} => #[.int .i64 (q.1 : Int)]) (Kp := KpX W3.heap.size w5.heap.size w5.heap.size)
      (S := fun xs => xs.map (·.1) = plcs pat l) (Sp := fun _ => True) (N := 100) (w0 := W3)
      ?hseq (fun h k => h.tr k) (KpX.put (Nat.le_refl _)) (Below.refl _ _) (fun _ => rfl)
      (fun pre W => LvI w5 w5.heap.size Bx B7 N (rsX x.mem (pre.map (·.1)) A) W ∧ Row W B9 #[.string x.name, .slice aV x.mem.length cV] 50 ∧ MkOk w5.heap.size Ds W) (fun _ _ _ => False)
      ?own (fun _ _ _ _ _ h _ _ => h) ⟨HL3.out, HR3.out, HM3.out⟩ ?a1 ?assign ?body ?done ?stop
    case assign =>
      intro yl x W' K hK
      gi_wp2
      exact hK
    case own =>
      intro q W W' row hs hg hr
      have h5 : w5.heap.size ≤ W3.heap.size := by have := HZ1.out; have := HZ2.out; omega
      refine ⟨hs.1.grown h5 hg hr, (hg.block _ hs.2.1.lt (fun e => ?_)).trans hs.2.1, hs.2.2.nd, fun D hD => ⟨(hs.2.2.at_ D hD).1, (hg.block D (hs.2.2.lt hD) (fun e => by have h7 := (hr D e.symm).1; have h8 := HM3.out.lt hD; omega)).trans (hs.2.2.at_ D hD).2⟩⟩
      obtain ⟨_, o, ho, hc⟩ := hr _ e.symm
      have h3 : W.heap[B9]? = _ := hs.2.1
      rw [ho] at h3; cases h3; cases hc
    case hseq =>
      intro yl J Jx W' hW' hJ _ hY h0
      have hz := HZ1.out
      have hz2 := HZ2.out
      refine (places1_in (9 - 1) (by omega) pat l ap cp bl ol cl z1 (z1 + 1) 100 hp1 (by omega) (by omega) hlc hpc hlm hpm HPN.out (fun W => OldX w5.heap.size W3 W)
        (fun A h => ⟨h.cell HC1.out (by show z1 ≠ _; omega), h.cell HC2.out (by show z1 + 1 ≠ _; omega), h.rd HL3.out.ob HVP3.out, h.rd HL3.out.ob HVL3.out⟩) (fun A C h hb => h.below hb) (KpX W3.heap.size w5.heap.size w5.heap.size)
        (fun A C hk h => h.kp hk) yl (fun pre W => ∃ pre' : List {q : Nat // q ∈ plcs pat l}, pre'.map (·.1) = pre ∧ J pre' W) (fun pre W => ∃ pre' : List {q : Nat // q ∈ plcs pat l}, pre'.map (·.1) = pre ∧ Jx pre' W)
        (fun pre x W hx ⟨pre', h1, h2⟩ hlen => (hY pre' ⟨x, hx⟩ W h2 (by rw [← h1, List.length_map] at hlen; exact hlen)).mono ?_) W' (fun s A C row ⟨pre', h1, h2⟩ hg hr => ⟨pre', h1, hJ _ _ _ row h2 hg hr⟩) ((OldX.refl _ _).below hW') ⟨[], rfl, h0⟩).mono ?_
      · rintro e A (⟨h3, h4, h5⟩ | ⟨h3, h4⟩)
        · exact .inl ⟨h3, ⟨_, by rw [List.map_append, h1]; rfl, h4⟩, h5⟩
        · exact .inr ⟨h3, ⟨_, by rw [List.map_append, h1]; rfl, h4⟩⟩
      · rintro e W4 ⟨h1, h2⟩
        refine ⟨h1, ?_⟩
        rcases h2 with ⟨pre', h3, h4⟩ | ⟨pre, _, pre', h3, h4⟩
        · exact .inl ⟨pre', h3, h4⟩
        · exact .inr ⟨pre', trivial, h4⟩
    case stop =>
      rintro D c pre W' _ _ h _
      exact h.elim
    case done =>
      --RD<
      rintro D ys W' hD hys ⟨hL, hR, hM⟩ hK
      rw [hys] at hL
      clear hys
      have HT : Hid (LvI w5 w5.heap.size Bx B7 N (lvL l (P.take (i + 1)) (List.replicate N 0)) W') := by
        show LvI _ _ _ _ _ _ _
        rw [lvL_step HX.out, ← HA.out]
        unfold lvG
        rw [HPT.out]
        exact hL
      have HM5 : Hid (MkOk w5.heap.size (D :: Ds) W') := by
        have hz := HZ1.out
        have hz2 := HZ2.out
        refine ⟨List.nodup_cons.2 ⟨fun hm => by have := HM3.out.lt hm; omega, hM.nd⟩, fun E hE => ?_⟩
        rcases List.mem_cons.1 hE with rfl | hE
        · exact ⟨by omega, hK⟩
        · exact hM.at_ E hE
      have hwi : IntKind.i64.wrap ((i : Int) + 1) = (i : Int) + 1 := IntWalk.i64_in _ (by omega)
      clear hL hR hM
      subst hds
      go_wp2_with fail
      exact ⟨m, by omega, i + 1, D :: Ds, _, _, _, _, _, _, _, _, _, _, _, _, _, _, _, _, _, _, _, _, _, _, _, _, _, _, _, _, _, _, _, _, _, _, _, _, rfl, by omega, HT.out, HM5.out⟩
      --RD>
    case body =>
      --RB<
      rintro yl pre ⟨q, hq⟩ W' ⟨hL, hR, hM⟩ _
      have hqb := plcs_mem hq
      refine wpIn_mono (Q := bodyA1 fun W2 => KeepsFrom W3.heap.size W' W2 ∧ KpX W3.heap.size w5.heap.size w5.heap.size W' W2 ∧ LvI w5 w5.heap.size Bx B7 N (rsP (rsX x.mem (pre.map (·.1)) A) q x.mem) W2 ∧ Row W2 B9 #[.string x.name, .slice aV x.mem.length cV] 50 ∧ MkOk w5.heap.size Ds W2) ?_ (fun e a' w' h => by
        cases e <;> first | exact h.elim | (refine ⟨h.1, h.2.1, ?_, h.2.2.2⟩; rw [List.map_append]; unfold rsX; rw [List.foldl_append]; exact h.2.2.1))
      obtain ⟨A1, hA1⟩ : ∃ A1, A1 = rsX x.mem (pre.map (·.1)) A := ⟨_, rfl⟩
      rw [← hA1] at hL ⊢
      clear hA1
      have cB := hR.cell 1 (x := .slice aV x.mem.length cV) rfl
      have HL := hid hL
      have HR := hid hR
      have HMb := hid hM
      clear hL hR hM
      dsimp only
      have hml : x.mem.length ≤ 65 := by have := HVLn.out; omega
      gi_wp2_with fail
      clear cB
      gi_loopw [39] (fun j wr => ∃ kk : Nat, kk ≤ x.mem.length ∧ j = .int .i64 kk ∧ Hid (LvI w5 w5.heap.size Bx B7 N (rsN A1 q x.mem kk) wr) ∧ Hid (Row wr B9 #[.string x.name, .slice aV x.mem.length cV] 50) ∧ Hid (MkOk w5.heap.size Ds wr) ∧ Hid (KeepsFrom W3.heap.size W' wr ∧ KpX W3.heap.size w5.heap.size w5.heap.size W' wr)) (fun j _ => x.mem.length - (intOf j).toNat)
      case atStart => exact ⟨0, Nat.zero_le _, rfl, HL.out, HR.out, HMb.out, KeepsFrom.refl _ _, ⟨Nat.le_refl _, fun _ _ _ _ => rfl⟩⟩
      case round =>
        obtain ⟨kk, hkk, rfl, HLr, HRr, HMr, HKr⟩ := hrel
        by_cases hk1 : kk < x.mem.length
        · have hti : (kk : Int) < (x.mem.length : Int) := by omega
          have hk0 : (0 : Int) ≤ (kk : Int) := by omega
          obtain ⟨lv, bV, oV, hlv, hav, cv⟩ := (HV5.out.below HLr.out.bel).open51 hk1
          subst hav
          have c7 := HLr.out.b7.cell 0 (x := .func (.func 53) #[] #[.pointer (some ⟨Bx, 0, none⟩)]) rfl
          have cX := HLr.out.ox.cell 0 (x := .slice (some ⟨w5.heap.size, 0, none⟩) N N) rfl
          have hqk : q + kk < N := by have := HNN.out; have := HVLn.out; omega
          have HAT := HLr.out.at hqk
          have HRA := hid (raise_any w5.heap.size Bx N (q + kk) ((rsN A1 q x.mem kk).getD (q + kk) 0) lv wr cX hqk HAT.1 HAT.2)
          rw [show ((q + kk : Nat) : Int) = (q : Int) + (kk : Int) from by omega] at HRA
          have hwq : IntKind.i64.wrap ((q : Int) + (kk : Int)) = (q : Int) + (kk : Int) := IntWalk.i64_in _ (by omega)
          have HLn : Hid (LvI w5 w5.heap.size Bx B7 N (rsN A1 q x.mem (kk + 1)) (wr.drew.setCell ⟨w5.heap.size, q + kk, none⟩ (.int .i64 (max ((rsN A1 q x.mem kk).getD (q + kk) 0) lv)))) := by
            show LvI _ _ _ _ _ _ _
            rw [rsN, show x.mem.getD kk 0 = lv by rw [List.getD_eq_getElem?_getD, hlv]; rfl]
            exact HLr.out.raise _ _
          have HKn := hid (HLr.out.raiseK (m := W3.heap.size) (q + kk) (.int .i64 (max ((rsN A1 q x.mem kk).getD (q + kk) 0) lv)))
          have hne9 : B9 ≠ w5.heap.size := row_ne HRr.out HLr.out.ob (by decide)
          have HRn : Hid (Row (wr.drew.setCell ⟨w5.heap.size, q + kk, none⟩ (.int .i64 (max ((rsN A1 q x.mem kk).getD (q + kk) 0) lv))) B9 #[.string x.name, .slice (some ⟨bV, oV, none⟩) x.mem.length cV] 50) := (HRr.out.below (Below.refl _ _).drew).other _ _ hne9
          have HMn := hid (HMr.out.keeps (Nat.le_refl _) (HLr.out.raiseK (m := w5.heap.size) (q + kk) (.int .i64 (max ((rsN A1 q x.mem kk).getD (q + kk) 0) lv))).1)
          clear HAT hlv hne9
          generalize max ((rsN A1 q x.mem kk).getD (q + kk) 0) lv = mx at *
          gi_wp2_with (first | (refine ⟨trivial, ?_⟩; gi_at_call 53; refine (callsIn_wide.2 HRA.out).mono ?_; rintro e w12 ⟨⟨rv, rfl⟩, rfl⟩) | fail)
          go_roundw
          case rel => exact ⟨kk + 1, by omega, by go_num, HLn.out, HRn.out, HMn.out, HKr.out.1.trans HKn.out.1, HKr.out.2.tr (HKn.out.2 _)⟩
          case measure => simp [intOf]; omega
        · obtain rfl : kk = x.mem.length := by omega
          have hti : ¬ (x.mem.length : Int) < (x.mem.length : Int) := by omega
          gi_wp2_with fail
          exact ⟨HKr.out.1, HKr.out.2, HLr.out, HRr.out, HMr.out⟩
      --RB>
end Go.Proofs.Ytalpgilncohkbaa
