/-
  Joined: Find LFound Fnd2 FndB.
-/
import Derived.Test.YtjhdeoniafahbaaGreatDoorJ04
import Derived.Deep.RegionHeld3
import Derived.StillTailTactics
import Derived.Test.YtjhdeoniafahbaaGreatDoorJ02
/-
  lemma.Find.
-/
namespace Go.Proofs.YtjhdeoniafahbaaGreatDoor
open Go.RowKit
attribute [local go_sem] Oper.semAt_some

/-- What the rounds keep: all that lay below n₀, but for the blocks lo .. hi. -/
def KpR (n₀ lo hi : Nat) (A B : World) : Prop := A.heap.size ≤ B.heap.size ∧ ∀ k, k < n₀ → (k < lo ∨ hi < k) → B.heap[k]? = A.heap[k]?
theorem KpR.tr {n₀ lo hi : Nat} {A B C : World} (h : KpR n₀ lo hi A B) (k : KpR n₀ lo hi B C) : KpR n₀ lo hi A C :=
  ⟨Nat.le_trans h.1 k.1, fun i h1 h2 => (k.2 i h1 h2).trans (h.2 i h1 h2)⟩
theorem KpR.put {n₀ lo hi m : Nat} (hn : n₀ ≤ m) (W : World) (l : Nat) (o o' : Obj) (hl : m ≤ l) (_ : W.heap[l]? = some o) (_ : o.isCells = false) (_ : o.isWalk = false) : KpR n₀ lo hi W (W.putObj l o') :=
  ⟨by simp [World.putObj], fun k hk _ => World.putObj_heap_other (by omega)⟩
theorem KpR.cell {n₀ lo hi : Nat} {A B : World} (h : KpR n₀ lo hi A B) {p : Addr} {x : Value} (hx : A.cell? p = some x) (h1 : p.block < n₀) (h2 : p.block < lo ∨ hi < p.block) : B.cell? p = some x :=
  (World.cell?_of_block (h.2 p.block h1 h2)).trans hx
theorem KpR.set {n₀ lo hi : Nat} (W : World) (B o : Nat) (v : Value) (hB : lo ≤ B ∧ B ≤ hi) : KpR n₀ lo hi W (W.setCell ⟨B, o, none⟩ v) :=
  ⟨by simp [World.setCell], fun k _ hk => Below.heap_setCell _ _ _ _ (by simp; omega)⟩

def fOf (m : Nat) (l : List (Nat × Nat)) : Nat := match l[m - 1]? with | some x => x.1 | none => 0
def tOf (m : Nat) (l : List (Nat × Nat)) : Int := match l[m - 1]? with | some x => wrap64 ((x.2 : Int) + 1) | none => 0
theorem fOf_snoc {m : Nat} (hm : 0 < m) (l : List (Nat × Nat)) (x : Nat × Nat) : fOf m (l ++ [x]) = if l.length + 1 = m then x.1 else fOf m l := by
  unfold fOf
  by_cases h : l.length + 1 = m
  · rw [if_pos h, List.getElem?_append_right (by omega), show m - 1 - l.length = 0 by omega]; rfl
  · rw [if_neg h]
    by_cases h2 : m - 1 < l.length
    · rw [List.getElem?_append_left h2]
    · rw [List.getElem?_eq_none (by simp; omega), List.getElem?_eq_none (by omega)]
theorem tOf_snoc {m : Nat} (hm : 0 < m) (l : List (Nat × Nat)) (x : Nat × Nat) : tOf m (l ++ [x]) = if l.length + 1 = m then wrap64 ((x.2 : Int) + 1) else tOf m l := by
  unfold tOf
  by_cases h : l.length + 1 = m
  · rw [if_pos h, List.getElem?_append_right (by omega), show m - 1 - l.length = 0 by omega]; rfl
  · rw [if_neg h]
    by_cases h2 : m - 1 < l.length
    · rw [List.getElem?_append_left h2]
    · rw [List.getElem?_eq_none (by simp; omega), List.getElem?_eq_none (by omega)]

/-- What Find answers, by how many have come and what was kept of the one asked for. -/
def endE (n cnt : Nat) : Int := if cnt = 0 then 6 else if n = 0 ∧ 1 < cnt then 16 else if 0 < n ∧ (cnt = 1 ∨ cnt < n) then 6 else 0
def findE (oc : List (Nat × Nat)) (n : Nat) : Int := endE n oc.length
def findF (oc : List (Nat × Nat)) (n : Nat) : Nat := if findE oc n = 0 then fOf (max n 1) oc else 0
def findT (oc : List (Nat × Nat)) (n : Nat) : Int := if findE oc n = 0 then tOf (max n 1) oc else 0

theorem rd_keep {A B : World} {ad : Option Addr} {n cap N : Nat} {ws : List ByteArray} (h : RdS A (.slice ad n cap) ws) (hk : ∀ b, b < N → B.heap[b]? = A.heap[b]?) (hb : 0 < ws.length → ∀ b o, ad = some ⟨b, o, none⟩ → b < N) : RdS B (.slice ad n cap) ws := by
  obtain ⟨a', cap', e, h2, h3, h4⟩ := h
  refine ⟨a', cap', e, h2, h3, fun i x hx => ?_⟩
  obtain ⟨b, o, rfl, hc⟩ := h4 i x hx
  cases e
  exact ⟨b, o, rfl, (World.cell?_of_block (hk b (hb (by have := (List.getElem?_eq_some_iff.1 hx).1; omega) b o rfl))).trans hc⟩

/-- Between two rounds of the loop in Find. -/
structure FnI (w : World) (n1 : Nat) (f l : ByteArray) (n : Nat) (fr to cnt : Int) (W : World) : Prop where
  lem : Row W w.heap.size #[.string f, .string l, .int .i64 n] 28
  bf : Row W n1 #[.int .i64 fr] 3
  bt : Row W (n1 + 1) #[.int .i64 to] 3
  cn : Row W (n1 + 1 + 1) #[.int .i64 cnt] 3
  bel : Below w.heap.size w W
theorem FnI.grown {w W W' : World} {n1 n : Nat} {f l : ByteArray} {fr to cnt : Int} {row : Option Nat} (h : FnI w n1 f l n fr to cnt W) (hg : W.grownBy W' row) (hr : ∀ r, row = some r → w.heap.size ≤ r ∧ ∃ o : Obj, W.heap[r]? = some o ∧ o.isCells = false) : FnI w n1 f l n fr to cnt W' :=
  have hr2 := fun r e => (hr r e).2
  ⟨h.lem.grown hg hr2, h.bf.grown hg hr2, h.bt.grown hg hr2, h.cn.grown hg hr2, h.bel.grown hg h.bel.size (fun k e => (hr k e).1)⟩
theorem FnI.count {w W : World} {n1 n : Nat} {f l : ByteArray} {fr to cnt : Int} (h : FnI w n1 f l n fr to cnt W) (hn : w.heap.size + 1 ≤ n1) (c : Int) : FnI w n1 f l n fr to c (W.setCell ⟨n1 + 1 + 1, 0, none⟩ (.int .i64 c)) :=
  ⟨h.lem.other _ _ (by simp; omega), h.bf.other _ _ (by simp; omega), h.bt.other _ _ (by simp), h.cn.set 0 _, h.bel.setCell (p := ⟨n1 + 1 + 1, 0, none⟩) (by simp; omega) _⟩
theorem FnI.from {w W : World} {n1 n : Nat} {f l : ByteArray} {fr to cnt : Int} (h : FnI w n1 f l n fr to cnt W) (hn : w.heap.size + 1 ≤ n1) (c : Int) : FnI w n1 f l n c to cnt (W.setCell ⟨n1, 0, none⟩ (.int .i64 c)) :=
  ⟨h.lem.other _ _ (by simp; omega), h.bf.set 0 _, h.bt.other _ _ (by simp), h.cn.other _ _ (by simp; omega), h.bel.setCell (p := ⟨n1, 0, none⟩) (by simp; omega) _⟩
theorem FnI.to {w W : World} {n1 n : Nat} {f l : ByteArray} {fr to cnt : Int} (h : FnI w n1 f l n fr to cnt W) (hn : w.heap.size + 1 ≤ n1) (c : Int) : FnI w n1 f l n fr c cnt (W.setCell ⟨n1 + 1, 0, none⟩ (.int .i64 c)) :=
  ⟨h.lem.other _ _ (by simp; omega), h.bf.other _ _ (by simp), h.bt.set 0 _, h.cn.other _ _ (by simp), h.bel.setCell (p := ⟨n1 + 1, 0, none⟩) (by simp; omega) _⟩
theorem FnI.cast {w W : World} {n1 n : Nat} {f l : ByteArray} {fr to cnt fr' to' cnt' : Int} (h : FnI w n1 f l n fr to cnt W) (h1 : fr' = fr) (h2 : to' = to) (h3 : cnt' = cnt) : FnI w n1 f l n fr' to' cnt' W := by
  subst h1; subst h2; subst h3; exact h

theorem run_max2 {P : Program} {w : World} (ts : Array TypeId) (t : TypeId) (k : IntKind) (x : Int) (m : Nat) (h : m = max x.toNat 1) (hx : 0 ≤ x) : (Builtin.max_ ts t #[.int k x, .int k 1]).run P w = .ok (.int k m) w := by
  have hm : (m : Int) = if x < 1 then 1 else x := by split <;> omega
  rw [hm]
  simp [Builtin.max_, Builtin.max2, go_sem]

set_option maxRecDepth 100000 in
set_option maxHeartbeats 2000000 in
theorem find_any (ws : List ByteArray) (f l : ByteArray) (n : Nat) (v : Value) (w : World) (he : Env w) (hr : RdS w v ws) (hz : ∀ s ∈ ws, s.size ≤ 65536) (hf : f.size ≤ 65536) (hl : l.size ≤ 65536) (hlen : ws.length ≤ 13) (hck : lcheckI ws = 0) (hlk : lemCk f l n = 0) :
    Calls Tryz.prog 44 #[v, .agg #[.string f, .string l, .int .i64 n]] w fun e w' => e = .returned (.tuple #[.int .i64 (findF (occ ws f l) n), .int .i64 (findT (occ ws f l) n), .int .i64 (findE (occ ws f l) n)]) ∧ Below w.heap.size w w' := by
  refine (callsIn_wide (n := 9)).1 ?_
  have HCK := fun w' (h : Below w.heap.size w w') => hid (lcheck_any v ws w' (he.below h) (hr.below h) hz)
  have HLK := fun w' (h : Below w.heap.size w w') => hid (lck_any f l n w' (he.below h) hf hl)
  rw [hck] at HCK
  rw [hlk] at HLK
  have hnb := lck_bounds hlk
  have HR := hid hr
  have hblk : ∀ b o c k, v = .slice (some ⟨b, o, none⟩) c k → 0 < ws.length → b < w.heap.size := by
    intro b o c k e hw
    obtain ⟨_, _, rfl, _, _, hcell⟩ := hr.open
    obtain ⟨s1, b1, o1, _, e2, hc1⟩ := hcell 0 hw
    subst e2
    cases e
    exact World.block_lt_of_cell? w _ hc1
  have hb0 := below_al w (.cells #[.string f, .string l, .int .i64 n] 28)
  have hr0 := row_nw w #[.string f, .string l, .int .i64 n] 28 rfl
  obtain ⟨ad, cap, rfl, hlc, hcm, _⟩ := hr.open
  refine callsIn_of_wp_marks Tryz.func44 rfl trivial ?_ rfl
  simp only [Tryz.ntmps44, List.size_toArray, List.length_cons, List.length_nil, Nat.reduceAdd, Nat.reduceSub, Array.replicate_succ, Array.replicate_zero, List.push_toArray, List.append_toArray, List.nil_append, List.cons_append]
  refine wpIn_wide.2 ?_
  go_wp2_with fail
  generalize w.alloc (.cells #[.string f, .string l, .int .i64 n] 28) = W1 at *
  refine (HCK _ hb0).out.mono ?_
  rintro e w2 ⟨rfl, hB1⟩
  have hb2 := below_tr hb0 hB1
  have hr2 := hid (hr0.below hB1)
  have q0 := hr2.out.cell 0 rfl
  have q1 := hr2.out.cell 1 rfl
  have q2 := hr2.out.cell 2 rfl
  go_wp2_with fail
  refine (HLK _ hb2).out.mono ?_
  rintro e w3 ⟨rfl, hB3⟩
  have hb3 := below_tr hb2 hB3
  have hr3 := hid (hr2.out.below hB3)
  clear hb0 hr0 hB1 hb2 hr2 q0 q1 q2 hB3 HCK HLK
  have q0 := fun ob => cell_al (hr3.out.cell 0 rfl) ob
  have q1 := fun ob => cell_al (hr3.out.cell 1 rfl) ob
  have p0 := fun o1 o2 o3 => cell_al (cell_al (cell_al (hr3.out.cell 0 rfl) o1) o2) o3
  have p1 := fun o1 o2 o3 => cell_al (cell_al (cell_al (hr3.out.cell 1 rfl) o1) o2) o3
  go_wp2_with fail
  obtain ⟨W5, hW5⟩ : ∃ W5, W5 = ((w3.alloc (.cells #[.int .i64 0] 3)).alloc (.cells #[.int .i64 0] 3)).alloc (.cells #[.int .i64 0] 3) := ⟨_, rfl⟩
  have hb5 : Below w3.heap.size w3 W5 := by rw [hW5]; exact below_tr (below_al _ _) (below_tr (below_al _ _) (below_al _ _))
  have hsz2 : w.heap.size + 1 ≤ w3.heap.size := by have := hr3.out.lt; omega
  have HI5 : Hid (FnI w w3.heap.size f l n 0 0 0 W5) := by
    refine ⟨hr3.out.below hb5, ?_, ?_, ?_, below_tr hb3 hb5⟩
    · rw [hW5]; exact ((row_nw _ _ _ rfl).al _).al _
    · rw [hW5]; exact (row_nw _ _ _ (by simp)).al _
    · rw [hW5]; exact row_nw _ _ _ (by simp)
  have hs5 : W5.heap.size = w3.heap.size + 3 := by rw [hW5]; simp
  have HR5 := hid (HR.out.below (below_tr hb3 hb5))
  rw [← hW5]
  clear hW5 q0 q1 p0 p1 hr3 hb3 hb5 HR
  refine (occurrences_any _ _ _ _ _ _).mono ?_
  rintro e w4 ⟨rfl, rfl⟩
  have hb6 : Below W5.heap.size W5 (((W5.alloc (.cells #[.slice ad ws.length cap] 23)).alloc (.cells #[.string f] 9)).alloc (.cells #[.string l] 9)) := below_tr (below_al _ _) (below_tr (below_al _ _) (below_al _ _))
  have HM6 : Hid (OccM W5.heap.size (W5.heap.size + 1) (W5.heap.size + 2) ad cap ws f l (((W5.alloc (.cells #[.slice ad ws.length cap] 23)).alloc (.cells #[.string f] 9)).alloc (.cells #[.string l] 9))) := by
    refine ⟨cell_al (cell_al (cell_nw _ _ _ 0 rfl) _) _, cell_al (cell_nwE _ _ _ 0 (by simp) rfl) _, cell_nwE _ _ _ 0 (by simp) rfl, HR5.out.below hb6⟩
  have hs6 : (((W5.alloc (.cells #[.slice ad ws.length cap] 23)).alloc (.cells #[.string f] 9)).alloc (.cells #[.string l] 9)).heap.size = w3.heap.size + 6 := by simp; omega
  have HI6 : Hid (FnI w w3.heap.size f l n 0 0 0 (((W5.alloc (.cells #[.slice ad ws.length cap] 23)).alloc (.cells #[.string f] 9)).alloc (.cells #[.string l] 9))) :=
    ⟨HI5.out.lem.below hb6, HI5.out.bf.below hb6, HI5.out.bt.below hb6, HI5.out.cn.below hb6, below_tr HI5.out.bel hb6⟩
  rw [hs5] at HM6 ⊢
  clear HI5 HR5 hb6
  go_wp2_with fail
  generalize (((W5.alloc (.cells #[.slice ad ws.length cap] 23)).alloc (.cells #[.string f] 9)).alloc (.cells #[.string l] 9)) = W6 at *
  generalize w3.heap.size = n1 at *
  obtain ⟨m, hm⟩ : ∃ m, m = max n 1 := ⟨_, rfl⟩
  have hm0 : 0 < m := by omega
  have hol : (occ ws f l).length ≤ 182 := occ_len hlen _ _
  have HOL := hid hol
  have hn2 : (n : Int) ≤ 65536 := hnb.2
  clear hnb
  refine (wpIn_wide (n := 9)).1 ?_
  refine wpIn_rangeFunc_ownG rfl (by omega) (gf := 114) (lb := #[.pointer (some ⟨n1 + 3, 0, none⟩), .pointer (some ⟨n1 + 3 + 1, 0, none⟩), .pointer (some ⟨n1 + 3 + 2, 0, none⟩)]) rfl trivial (enters_of Tryz.func114 (by kernel_rfl) rfl)
    (encs := fun x : Nat × Nat => #[.int .i64 (x.1 : Int), .int .i64 (x.2 : Int)]) (Kp := KpR W6.heap.size n1 (n1 + 1 + 1))
    (S := fun l2 => l2 = occ ws f l) (Sp := fun l2 => ∃ r, l2 ++ r = occ ws f l) (N := 182) (w0 := W6)
    ?hseq (fun h k => h.tr k) (KpR.put (Nat.le_refl _)) (Below.refl _ _) (fun _ => rfl)
    (fun pre W => pre.length ≤ m ∧ FnI w n1 f l n (fOf m pre) (tOf m pre) pre.length W)
    (fun c pre W => c = .exit 0 ∧ pre.length = m + 1 ∧ FnI w n1 f l n (fOf m pre) (tOf m pre) pre.length W)
    ?own ?ownx ⟨by simp, by exact HI6.out⟩ ?a1 ?assign ?body ?done ?stop
  case own =>
    intro pre A B row hs2 hg hr
    exact ⟨hs2.1, hs2.2.grown hg (fun r e => ⟨by have := (hr r e).1; omega, (hr r e).2⟩)⟩
  case ownx =>
    intro c pre A B row hs2 hg hr
    exact ⟨hs2.1, hs2.2.1, hs2.2.2.grown hg (fun r e => ⟨by have := (hr r e).1; omega, (hr r e).2⟩)⟩
  case assign =>
    intro l x W' K hK
    gi_wp2
    exact hK
  case hseq =>
    intro yl J Jx W' hW' hJ _ hY h0
    refine (occs1_in (9 - 1) (by omega) ws f l _ cap (n1 + 3) (n1 + 3 + 1) (n1 + 3 + 2) 182 (by omega) HOL.out (KpR W6.heap.size n1 (n1 + 1 + 1))
      (fun A B hk hM => ⟨hk.cell hM.cw (show n1 + 3 < _ by omega) (.inr (show _ < n1 + 3 by omega)), hk.cell hM.cf (show n1 + 3 + 1 < _ by omega) (.inr (show _ < n1 + 3 + 1 by omega)), hk.cell hM.cl (show n1 + 3 + 2 < _ by omega) (.inr (show _ < n1 + 3 + 2 by omega)), rd_keep hM.rd (fun b hb => hk.2 b (by omega) (.inl (by omega))) (fun hw b o e => hblk b o _ _ (by rw [e]) hw)⟩)
      yl J Jx hY W' hJ (HM6.out.below hW') h0).mono ?_
    rintro e W3 ⟨h1, h2⟩
    exact ⟨h1, h2.imp (fun j => ⟨_, rfl, j⟩) (fun h => h)⟩
  case body =>
    rintro yl pre x W' ⟨hpm, hI⟩ hpl
    have HF0 := hid (fOf_snoc hm0 pre x)
    have HT0 := hid (tOf_snoc hm0 pre x)
    have HV := hid (hI.count hsz2 ((pre.length : Int) + 1))
    have HV2 := hid (HV.out.from hsz2 (x.1 : Int))
    have HV3 := hid (HV2.out.to hsz2 (wrap64 ((x.2 : Int) + 1)))
    have c1 := hI.cn.cell 0 rfl
    have d1 := hI.cn.frozen 0
    have v1 := HV.out.cn.cell 0 rfl
    have v2 := HV.out.lem.cell 2 rfl
    have v3 := HV.out.bf.cell 0 rfl
    have v4 := HV.out.bf.frozen 0
    have v5 := HV.out.bt.cell 0 rfl
    have v6 := HV.out.bt.frozen 0
    have x1 := HV2.out.bt.cell 0 rfl
    have x2 := HV2.out.bt.frozen 0
    have x3 := HV2.out.lem.cell 2 rfl
    have y1 := HV3.out.cn.cell 0 rfl
    have y2 := HV3.out.lem.cell 2 rfl
    have hmx := fun (ts : Array TypeId) (t : TypeId) (w : World) => run_max2 (P := Tryz.prog) (w := w) ts t .i64 (n : Int) m (by rw [hm]; simp) (by omega)
    have HPM := hid hpm
    clear hI hm
    by_cases hq : pre.length + 1 = m
    · have HF : Hid (fOf m (pre ++ [x]) = x.1) := by unfold Hid; rw [HF0.out, if_pos hq]
      have HT : Hid (tOf m (pre ++ [x]) = wrap64 ((x.2 : Int) + 1)) := by unfold Hid; rw [HT0.out, if_pos hq]
      have e1 : ((pre.length : Int) + 1 == (m : Int)) = true := by simp; omega
      have i1 : ¬ (m : Int) < (pre.length : Int) + 1 := by omega
      have HQ := hid hq
      clear hq hpm HF0 HT0
      gi_wp2
      exact ⟨keepsFrom_tr (keepsFrom_set _ _ _ _ (by omega)) (keepsFrom_tr (keepsFrom_set _ _ _ _ (by omega)) (keepsFrom_set _ _ _ _ (by omega))), (KpR.set _ _ _ _ (by omega)).tr ((KpR.set _ _ _ _ (by omega)).tr (KpR.set _ _ _ _ (by omega))), by rw [List.length_append, List.length_singleton]; have := HQ.out; omega, HV3.out.cast (by have := HF.out; omega) HT.out (by rw [List.length_append, List.length_singleton]; omega)⟩
    · have HF : Hid (fOf m (pre ++ [x]) = fOf m pre) := by unfold Hid; rw [HF0.out, if_neg hq]
      have HT : Hid (tOf m (pre ++ [x]) = tOf m pre) := by unfold Hid; rw [HT0.out, if_neg hq]
      have e1 : ((pre.length : Int) + 1 == (m : Int)) = false := by simp; omega
      have e2 : ¬ (pre.length : Int) + 1 = (m : Int) := by omega
      by_cases hg : m < pre.length + 1
      · have i1 : (m : Int) < (pre.length : Int) + 1 := by omega
        have HQ : Hid (pre.length = m) := by unfold Hid; omega
        clear hq hpm HF0 HT0 hg
        gi_wp2
        exact ⟨keepsFrom_set _ _ _ _ (by omega), rfl, by rw [List.length_append, List.length_singleton]; have := HQ.out; omega, HV.out.cast (by have := HF.out; omega) HT.out (by rw [List.length_append, List.length_singleton]; omega)⟩
      · have i1 : ¬ (m : Int) < (pre.length : Int) + 1 := by omega
        have HQ : Hid (pre.length + 1 ≤ m) := by unfold Hid; omega
        clear hq hpm HF0 HT0 hg
        gi_wp2
        exact ⟨keepsFrom_set _ _ _ _ (by omega), KpR.set _ _ _ _ (by omega), by rw [List.length_append, List.length_singleton]; exact HQ.out, HV.out.cast (by have := HF.out; omega) HT.out (by rw [List.length_append, List.length_singleton]; omega)⟩
  case done =>
    rintro D ys W' hD rfl ⟨hpm, hI⟩ hK
    have HEQ : Hid (findE (occ ws f l) n = endE n (occ ws f l).length ∧ (endE n (occ ws f l).length = 0 → fOf m (occ ws f l) = fOf (max n 1) (occ ws f l) ∧ tOf m (occ ws f l) = tOf (max n 1) (occ ws f l))) := ⟨rfl, fun _ => by rw [hm]; exact ⟨rfl, rfl⟩⟩
    have hc2 : (occ ws f l).length ≤ 65537 := by omega
    generalize fOf m (occ ws f l) = fr at *
    generalize tOf m (occ ws f l) = to at *
    generalize hcn : (occ ws f l).length = cnt at *
    have c0 : W'.cell? ⟨n1 + 1 + 1, 0, none⟩ = some (.int .i64 (cnt : Int)) := hI.cn.cell 0 rfl
    have c1 : W'.cell? ⟨w.heap.size, 2, none⟩ = some (.int .i64 (n : Int)) := hI.lem.cell 2 rfl
    have c2 : W'.cell? ⟨n1, 0, none⟩ = some (.int .i64 (fr : Int)) := hI.bf.cell 0 rfl
    have c3 : W'.cell? ⟨n1 + 1, 0, none⟩ = some (.int .i64 to) := hI.bt.cell 0 rfl
    have HBE := hid hI.bel
    clear hI hcn
    by_cases h0 : cnt = 0
    · have z0 : ((cnt : Int) == 0) = true := by simp; omega
      have HRE : Hid (findE (occ ws f l) n = 6) := by unfold Hid; rw [HEQ.out.1]; unfold endE; rw [if_pos h0]
      have HRF : Hid (findF (occ ws f l) n = 0 ∧ findT (occ ws f l) n = 0) := by unfold Hid findF findT; rw [HRE.out]; exact ⟨if_neg (by decide), if_neg (by decide)⟩
      clear h0 hpm hm
      go_wp2_with fail
      refine ⟨by simp, .inl ⟨_, _, rfl, run_takeDeferred hK, ?_⟩⟩
      refine ⟨_, results_tmp3 rfl _ _ _, by rw [HRE.out, HRF.out.1, HRF.out.2]; rfl, HBE.out.grown (grownBy_putObj' _ D _) HBE.out.size (fun k e => by cases e; omega)⟩
    · have z0 : ((cnt : Int) == 0) = false := by simp; omega
      by_cases hn : n = 0
      · have z1 : ((n : Int) == 0) = true := by simp; omega
        have i2 : ¬ (0 : Int) < (n : Int) := by omega
        by_cases h1 : 1 < cnt
        · exfalso; omega
        · have i1 : ¬ (1 : Int) < (cnt : Int) := by omega
          have HRE0 : Hid (endE n cnt = 0) := by unfold Hid endE; rw [if_neg h0, if_neg (by omega), if_neg (by omega)]
          have HRE : Hid (findE (occ ws f l) n = 0) := by unfold Hid; rw [HEQ.out.1, HRE0.out]
          have HRF : Hid (((findF (occ ws f l) n : Nat) : Int) = fr ∧ findT (occ ws f l) n = to) := by
            obtain ⟨g1, g2⟩ := HEQ.out.2 HRE0.out
            unfold Hid findF findT
            rw [if_pos HRE.out, if_pos HRE.out, g1, g2]
            exact ⟨rfl, rfl⟩
          clear h0 hn h1 hpm hm
          go_wp2_with fail
          go_quiet (fail)
          go_wp2_with fail
          have HBD := hid (below_tr HBE.out (below_drewN (Below.refl _ W') 1))
          refine ⟨by simp, .inl ⟨_, _, rfl, run_takeDeferred (show (World.drewN _ _).heap[D]? = _ from hK), ?_⟩⟩
          refine ⟨_, results_tmp3 rfl _ _ _, by rw [HRE.out, HRF.out.1, HRF.out.2]; rfl, (below_tr HBE.out (below_drewN (Below.refl _ _) _)).grown (grownBy_putObj' _ D _) (below_tr HBE.out (below_drewN (Below.refl _ _) _)).size (fun k e => by cases e; omega)⟩
      · have z1 : ((n : Int) == 0) = false := by simp; omega
        have i2 : (0 : Int) < (n : Int) := by omega
        by_cases h1 : cnt = 1
        · have z2 : ((cnt : Int) == 1) = true := by simp; omega
          have HRE : Hid (findE (occ ws f l) n = 6) := by unfold Hid; rw [HEQ.out.1]; unfold endE; rw [if_neg h0, if_neg (by omega), if_pos ⟨by omega, .inl h1⟩]
          have HRF : Hid (findF (occ ws f l) n = 0 ∧ findT (occ ws f l) n = 0) := by unfold Hid findF findT; rw [HRE.out]; exact ⟨if_neg (by decide), if_neg (by decide)⟩
          clear h0 hn h1 hpm hm
          go_wp2_with fail
          refine ⟨by simp, .inl ⟨_, _, rfl, run_takeDeferred hK, ?_⟩⟩
          refine ⟨_, results_tmp3 rfl _ _ _, by rw [HRE.out, HRF.out.1, HRF.out.2]; rfl, HBE.out.grown (grownBy_putObj' _ D _) HBE.out.size (fun k e => by cases e; omega)⟩
        · have z2 : ((cnt : Int) == 1) = false := by simp; omega
          by_cases h2 : cnt < n
          · have i3 : (cnt : Int) < (n : Int) := by omega
            have HRE : Hid (findE (occ ws f l) n = 6) := by unfold Hid; rw [HEQ.out.1]; unfold endE; rw [if_neg h0, if_neg (by omega), if_pos ⟨by omega, .inr h2⟩]
            have HRF : Hid (findF (occ ws f l) n = 0 ∧ findT (occ ws f l) n = 0) := by unfold Hid findF findT; rw [HRE.out]; exact ⟨if_neg (by decide), if_neg (by decide)⟩
            clear h0 hn h1 h2 hpm hm
            go_wp2_with fail
            refine ⟨by simp, .inl ⟨_, _, rfl, run_takeDeferred hK, ?_⟩⟩
            refine ⟨_, results_tmp3 rfl _ _ _, by rw [HRE.out, HRF.out.1, HRF.out.2]; rfl, HBE.out.grown (grownBy_putObj' _ D _) HBE.out.size (fun k e => by cases e; omega)⟩
          · have i3 : ¬ (cnt : Int) < (n : Int) := by omega
            have HRE0 : Hid (endE n cnt = 0) := by unfold Hid endE; rw [if_neg h0, if_neg (by omega), if_neg (by omega)]
            have HRE : Hid (findE (occ ws f l) n = 0) := by unfold Hid; rw [HEQ.out.1, HRE0.out]
            have HRF : Hid (((findF (occ ws f l) n : Nat) : Int) = fr ∧ findT (occ ws f l) n = to) := by
              obtain ⟨g1, g2⟩ := HEQ.out.2 HRE0.out
              unfold Hid findF findT
              rw [if_pos HRE.out, if_pos HRE.out, g1, g2]
              exact ⟨rfl, rfl⟩
            clear h0 hn h1 h2 hpm hm
            go_wp2_with fail
            go_quiet (fail)
            go_wp2_with fail
            have HBD := hid (below_tr HBE.out (below_drewN (Below.refl _ W') 1))
            refine ⟨by simp, .inl ⟨_, _, rfl, run_takeDeferred (show (World.drewN _ _).heap[D]? = _ from hK), ?_⟩⟩
            refine ⟨_, results_tmp3 rfl _ _ _, by rw [HRE.out, HRF.out.1, HRF.out.2]; rfl, (below_tr HBE.out (below_drewN (Below.refl _ _) _)).grown (grownBy_putObj' _ D _) (below_tr HBE.out (below_drewN (Below.refl _ _) _)).size (fun k e => by cases e; omega)⟩
  case stop =>
    rintro D c pre W' hD ⟨r, hsp⟩ ⟨rfl, hpm, hI⟩ hK
    have hlen2 := congrArg List.length hsp
    rw [List.length_append] at hlen2
    have HEQ : Hid (findE (occ ws f l) n = endE n pre.length ∧ (endE n pre.length = 0 → fOf m pre = fOf (max n 1) (occ ws f l) ∧ tOf m pre = tOf (max n 1) (occ ws f l))) := by
      refine ⟨?_, fun _ => ?_⟩
      · unfold findE endE
        repeat' split
        all_goals first | rfl | (exfalso; omega)
      · unfold fOf tOf
        rw [← hm, ← hsp, List.getElem?_append_left (by omega)]
        exact ⟨rfl, rfl⟩
    have hc2 : pre.length ≤ 65537 := by omega
    generalize fOf m pre = fr at *
    generalize tOf m pre = to at *
    generalize hcn : pre.length = cnt at *
    have c0 : W'.cell? ⟨n1 + 1 + 1, 0, none⟩ = some (.int .i64 (cnt : Int)) := hI.cn.cell 0 rfl
    have c1 : W'.cell? ⟨w.heap.size, 2, none⟩ = some (.int .i64 (n : Int)) := hI.lem.cell 2 rfl
    have c2 : W'.cell? ⟨n1, 0, none⟩ = some (.int .i64 (fr : Int)) := hI.bf.cell 0 rfl
    have c3 : W'.cell? ⟨n1 + 1, 0, none⟩ = some (.int .i64 to) := hI.bt.cell 0 rfl
    have HBE := hid hI.bel
    clear hI hcn
    by_cases h0 : cnt = 0
    · exfalso; omega
    · have z0 : ((cnt : Int) == 0) = false := by simp; omega
      by_cases hn : n = 0
      · have z1 : ((n : Int) == 0) = true := by simp; omega
        have i2 : ¬ (0 : Int) < (n : Int) := by omega
        by_cases h1 : 1 < cnt
        · have i1 : (1 : Int) < (cnt : Int) := by omega
          have HRE : Hid (findE (occ ws f l) n = 16) := by unfold Hid; rw [HEQ.out.1]; unfold endE; rw [if_neg h0, if_pos ⟨hn, h1⟩]
          have HRF : Hid (findF (occ ws f l) n = 0 ∧ findT (occ ws f l) n = 0) := by unfold Hid findF findT; rw [HRE.out]; exact ⟨if_neg (by decide), if_neg (by decide)⟩
          clear h0 hn h1 hpm hm hlen2 hsp
          gi_wp2_with fail
          go_wp2_with fail
          refine ⟨by simp, .inl ⟨_, _, rfl, run_takeDeferred hK, ?_⟩⟩
          refine ⟨_, results_tmp3 rfl _ _ _, by rw [HRE.out, HRF.out.1, HRF.out.2]; rfl, HBE.out.grown (grownBy_putObj' _ D _) HBE.out.size (fun k e => by cases e; omega)⟩
        · exfalso; omega
      · have z1 : ((n : Int) == 0) = false := by simp; omega
        have i2 : (0 : Int) < (n : Int) := by omega
        by_cases h1 : cnt = 1
        · exfalso; omega
        · have z2 : ((cnt : Int) == 1) = false := by simp; omega
          by_cases h2 : cnt < n
          · exfalso; omega
          · have i3 : ¬ (cnt : Int) < (n : Int) := by omega
            have HRE0 : Hid (endE n cnt = 0) := by unfold Hid endE; rw [if_neg h0, if_neg (by omega), if_neg (by omega)]
            have HRE : Hid (findE (occ ws f l) n = 0) := by unfold Hid; rw [HEQ.out.1, HRE0.out]
            have HRF : Hid (((findF (occ ws f l) n : Nat) : Int) = fr ∧ findT (occ ws f l) n = to) := by
              obtain ⟨g1, g2⟩ := HEQ.out.2 HRE0.out
              unfold Hid findF findT
              rw [if_pos HRE.out, if_pos HRE.out, g1, g2]
              exact ⟨rfl, rfl⟩
            clear h0 hn h1 h2 hpm hm hlen2 hsp
            gi_wp2_with fail
            go_wp2_with fail
            go_quiet (fail)
            go_wp2_with fail
            have HBD := hid (below_tr HBE.out (below_drewN (Below.refl _ W') 1))
            refine ⟨by simp, .inl ⟨_, _, rfl, run_takeDeferred (show (World.drewN _ _).heap[D]? = _ from hK), ?_⟩⟩
            refine ⟨_, results_tmp3 rfl _ _ _, by rw [HRE.out, HRF.out.1, HRF.out.2]; rfl, (below_tr HBE.out (below_drewN (Below.refl _ _) _)).grown (grownBy_putObj' _ D _) (below_tr HBE.out (below_drewN (Below.refl _ _) _)).size (fun k e => by cases e; omega)⟩
end Go.Proofs.YtjhdeoniafahbaaGreatDoor

/-
  P43.2: the walk of LemmaFound.
-/
namespace Go.Proofs.YtjhdeoniafahbaaGreatDoor
open Go.RowKit

theorem wrap_small {x : Nat} (h : x ≤ 1000) : wrap64 ((x : Int) + 1) = (x : Int) + 1 := by unfold wrap64; omega
theorem found_plain {oc : List (Nat × Nat)} (hs : oc.Pairwise pLt) {p : Nat × Nat} (hp : p ∈ oc) (hb : p.2 ≤ 1000) : findE oc (ofNum oc p) = 0 ∧ findF oc (ofNum oc p) = p.1 ∧ findT oc (ofNum oc p) = (p.2 : Int) + 1 := by
  obtain ⟨j, hj⟩ := List.getElem?_of_mem hp
  have hlt := (List.getElem?_eq_some_iff.1 hj).1
  by_cases h1 : oc.length = 1
  · have hn : ofNum oc p = 0 := by unfold ofNum; rw [if_pos h1]
    have hE : findE oc 0 = 0 := by
      unfold findE endE
      rw [if_neg (by omega), if_neg (by omega), if_neg (by omega)]
    have h0 : j = 0 := by omega
    subst h0
    rw [hn]
    refine ⟨hE, ?_, ?_⟩
    · unfold findF; rw [if_pos hE]; unfold fOf; rw [show max 0 1 - 1 = 0 by rfl, hj]
    · unfold findT; rw [if_pos hE]; unfold tOf; rw [show max 0 1 - 1 = 0 by rfl, hj]; exact wrap_small hb
  · have hn : ofNum oc p = j + 1 := by unfold ofNum; rw [if_neg h1]; exact numP_at hs hj
    have hE : findE oc (j + 1) = 0 := by
      unfold findE endE
      rw [if_neg (by omega), if_neg (by omega), if_neg (by omega)]
    rw [hn]
    refine ⟨hE, ?_, ?_⟩
    · unfold findF; rw [if_pos hE]; unfold fOf; rw [show max (j + 1) 1 - 1 = j by omega, hj]
    · unfold findT; rw [if_pos hE]; unfold tOf; rw [show max (j + 1) 1 - 1 = j by omega, hj]; exact wrap_small hb
theorem found_lem {ws : List ByteArray} (hw : ∀ s ∈ ws, wordB s = true) {a b : Nat} (h1 : a < b) (h2 : b ≤ ws.length) {n : Nat} (hn : n ≤ 65536) : lemCk (ws.getD a ⟨#[]⟩) (lastW ws a b) n = 0 := by
  have e1 : ws[a]? = some (ws.getD a ⟨#[]⟩) := by rw [List.getD_eq_getElem?_getD, List.getElem?_eq_getElem (by omega)]; rfl
  have e2 : ws[b - 1]? = some (ws.getD (b - 1) ⟨#[]⟩) := by rw [List.getD_eq_getElem?_getD, List.getElem?_eq_getElem (by omega)]; rfl
  have g1 := hw _ (List.mem_of_getElem? e1)
  have g2 := hw _ (List.mem_of_getElem? e2)
  unfold lemCk
  rw [g1]
  have : (decide ((lastW ws a b).size ≠ 0) && !wordB (lastW ws a b)) = false := by
    unfold lastW
    by_cases h : b - a = 1
    · rw [if_pos h]; rfl
    · rw [if_neg h, g2]; simp
  rw [this, if_neg (by simp), if_neg (by omega)]

end Go.Proofs.YtjhdeoniafahbaaGreatDoor

/-
  lemma.Of and lemma.Find, also where they refuse.
-/
namespace Go.Proofs.YtjhdeoniafahbaaGreatDoor
open Go.RowKit

/-- What Of answers. -/
def ofRes (ws : List ByteArray) (x y : Int) : ByteArray × ByteArray × Int × Int :=
  if lcheckI ws ≠ 0 then (⟨#[]⟩, ⟨#[]⟩, 0, lcheckI ws) else if x < 0 ∨ y ≤ x ∨ (ws.length : Int) < y then (⟨#[]⟩, ⟨#[]⟩, 0, 2)
  else (ws.getD x.toNat ⟨#[]⟩, lastW ws x.toNat y.toNat, ofNum (occ ws (ws.getD x.toNat ⟨#[]⟩) (lastW ws x.toNat y.toNat)) (x.toNat, y.toNat - 1), 0)
def ofVal (r : ByteArray × ByteArray × Int × Int) : Value := .tuple #[.agg #[.string r.1, .string r.2.1, .int .i64 r.2.2.1], .int .i64 r.2.2.2]
/-- What Find answers. -/
def findRes (ws : List ByteArray) (f l : ByteArray) (n : Int) : Int × Int × Int :=
  if lcheckI ws ≠ 0 then (0, 0, lcheckI ws) else if lemCk f l n ≠ 0 then (0, 0, lemCk f l n) else (findF (occ ws f l) n.toNat, findT (occ ws f l) n.toNat, findE (occ ws f l) n.toNat)
def findVal (r : Int × Int × Int) : Value := .tuple #[.int .i64 r.1, .int .i64 r.2.1, .int .i64 r.2.2]
theorem lcheck_words {ws : List ByteArray} (h : lcheckI ws = 0) : ∀ s ∈ ws, wordB s = true := by
  unfold lcheckI at h
  split at h
  · cases h
  · split at h
    · cases h
    · rename_i h2
      intro s hs
      cases hw : wordB s with
      | true => rfl
      | false => exact absurd (List.any_eq_true.2 ⟨s, hs, by rw [hw]; rfl⟩) h2

set_option maxRecDepth 100000 in
set_option maxHeartbeats 2000000 in
theorem ofAll_any (ws : List ByteArray) (x y : Int) (v : Value) (w : World) (he : Env w) (hr : RdS w v ws) (hz : ∀ s ∈ ws, s.size ≤ 65536) (hlen : lcheckI ws = 0 → ws.length ≤ 13) (_hlen2 : ws.length ≤ 65536) :
    Calls Tryz.prog 80 #[v, .int .i64 x, .int .i64 y] w fun e w' => e = .returned (ofVal (ofRes ws x y)) ∧ Below w.heap.size w w' := by
  have HD : Hid (ofRes ws x y = if lcheckI ws ≠ 0 then (⟨#[]⟩, ⟨#[]⟩, 0, lcheckI ws) else if x < 0 ∨ y ≤ x ∨ (ws.length : Int) < y then (⟨#[]⟩, ⟨#[]⟩, 0, 2)
    else (ws.getD x.toNat ⟨#[]⟩, lastW ws x.toNat y.toNat, ((ofNum (occ ws (ws.getD x.toNat ⟨#[]⟩) (lastW ws x.toNat y.toNat)) (x.toNat, y.toNat - 1) : Nat) : Int), 0)) := rfl
  by_cases hck : lcheckI ws = 0
  · by_cases hb : x < 0 ∨ y ≤ x ∨ (ws.length : Int) < y
    · have HR : Hid (ofRes ws x y = (⟨#[]⟩, ⟨#[]⟩, 0, 2)) := by unfold Hid; rw [HD.out, if_neg (by omega), if_pos hb]
      have hb0 := below_tr (below_al w (.cells #[.int .i64 x] 3)) (below_tr (below_al _ (.cells #[.int .i64 y] 3)) (below_al _ (.cells #[.string ⟨#[]⟩, .string ⟨#[]⟩, .int .i64 0] 28)))
      have HCK := fun w' (h : Below w.heap.size w w') => hid (lcheck_any v ws w' (he.below h) (hr.below h) hz)
      obtain ⟨ad, cap, rfl, hlc, hcm, _⟩ := hr.open
      have hra : Row (((w.alloc (.cells #[.int .i64 x] 3)).alloc (.cells #[.int .i64 y] 3)).alloc (.cells #[.string ⟨#[]⟩, .string ⟨#[]⟩, .int .i64 0] 28)) w.heap.size #[.int .i64 x] 3 := ((row_nw w _ _ rfl).al _).al _
      have hrb : Row (((w.alloc (.cells #[.int .i64 x] 3)).alloc (.cells #[.int .i64 y] 3)).alloc (.cells #[.string ⟨#[]⟩, .string ⟨#[]⟩, .int .i64 0] 28)) (w.heap.size + 1) #[.int .i64 y] 3 := (row_nw _ _ _ (by simp)).al _
      have hrr : Row (((w.alloc (.cells #[.int .i64 x] 3)).alloc (.cells #[.int .i64 y] 3)).alloc (.cells #[.string ⟨#[]⟩, .string ⟨#[]⟩, .int .i64 0] 28)) (w.heap.size + 1 + 1) #[.string ⟨#[]⟩, .string ⟨#[]⟩, .int .i64 0] 28 := row_nw _ _ _ (by simp)
      clear hr hz he hlen
      rw [hck] at HCK
      clear HD hck
      by_cases q1 : x < 0
      · clear hb
        refine (callsIn_wide (n := 9)).1 ?_
        refine callsIn_of_wp_marks Tryz.func80 rfl trivial ?_ rfl
        simp only [Tryz.ntmps80, List.size_toArray, List.length_cons, List.length_nil, Nat.reduceAdd, Nat.reduceSub, Array.replicate_succ, Array.replicate_zero, List.push_toArray, List.append_toArray, List.nil_append, List.cons_append]
        refine wpIn_wide.2 ?_
        go_wp2_with fail
        generalize ((w.alloc (.cells #[.int .i64 x] 3)).alloc (.cells #[.int .i64 y] 3)).alloc (.cells #[.string ⟨#[]⟩, .string ⟨#[]⟩, .int .i64 0] 28) = W1 at *
        refine (HCK _ hb0).out.mono ?_
        rintro e w2 ⟨rfl, hB1⟩
        have HB2 := hid (below_tr hb0 hB1)
        have hrr2 := hrr.below hB1
        have xa : w2.cell? ⟨w.heap.size, 0, none⟩ = some (.int .i64 x) := (hra.below hB1).cell 0 rfl
        have xb : w2.cell? ⟨w.heap.size + 1, 0, none⟩ = some (.int .i64 y) := (hrb.below hB1).cell 0 rfl
        have r0 : w2.cell? ⟨w.heap.size + 1 + 1, 0, none⟩ = some (.string ⟨#[]⟩) := hrr2.cell 0 rfl
        have r1 : w2.cell? ⟨w.heap.size + 1 + 1, 1, none⟩ = some (.string ⟨#[]⟩) := hrr2.cell 1 rfl
        have r2 : w2.cell? ⟨w.heap.size + 1 + 1, 2, none⟩ = some (.int .i64 0) := hrr2.cell 2 rfl
        have r3 := hrr2.frozen 0
        have r4 := hrr2.frozen 1
        have r5 := hrr2.frozen 2
        have hR := ((hrr2.set 0 (.string ⟨#[]⟩)).set 1 (.string ⟨#[]⟩)).set 2 (.int .i64 0)
        have z0 := hR.cell 0 rfl
        have z1 := hR.cell 1 rfl
        have z2 := hR.cell 2 rfl
        have HBE := hid (((HB2.out.setCell (p := ⟨w.heap.size + 1 + 1, 0, none⟩) (by simp; omega) (.string ⟨#[]⟩)).setCell (p := ⟨w.heap.size + 1 + 1, 1, none⟩) (by simp; omega) (.string ⟨#[]⟩)).setCell (p := ⟨w.heap.size + 1 + 1, 2, none⟩) (by simp; omega) (.int .i64 0))
        clear hR hrr hrr2 hra hrb hb0 hB1 HCK HB2
        go_wp2_with fail
        refine ⟨.tuple #[.agg #[.string ⟨#[]⟩, .string ⟨#[]⟩, .int .i64 0], .int .i64 2], ?_, by rw [HR.out]; rfl, HBE.out⟩
        simp [results, Tryz.f80, go_sem, z0, z1, z2]
      · by_cases q2 : y ≤ x
        · clear hb
          refine (callsIn_wide (n := 9)).1 ?_
          refine callsIn_of_wp_marks Tryz.func80 rfl trivial ?_ rfl
          simp only [Tryz.ntmps80, List.size_toArray, List.length_cons, List.length_nil, Nat.reduceAdd, Nat.reduceSub, Array.replicate_succ, Array.replicate_zero, List.push_toArray, List.append_toArray, List.nil_append, List.cons_append]
          refine wpIn_wide.2 ?_
          go_wp2_with fail
          generalize ((w.alloc (.cells #[.int .i64 x] 3)).alloc (.cells #[.int .i64 y] 3)).alloc (.cells #[.string ⟨#[]⟩, .string ⟨#[]⟩, .int .i64 0] 28) = W1 at *
          refine (HCK _ hb0).out.mono ?_
          rintro e w2 ⟨rfl, hB1⟩
          have HB2 := hid (below_tr hb0 hB1)
          have hrr2 := hrr.below hB1
          have xa : w2.cell? ⟨w.heap.size, 0, none⟩ = some (.int .i64 x) := (hra.below hB1).cell 0 rfl
          have xb : w2.cell? ⟨w.heap.size + 1, 0, none⟩ = some (.int .i64 y) := (hrb.below hB1).cell 0 rfl
          have r0 : w2.cell? ⟨w.heap.size + 1 + 1, 0, none⟩ = some (.string ⟨#[]⟩) := hrr2.cell 0 rfl
          have r1 : w2.cell? ⟨w.heap.size + 1 + 1, 1, none⟩ = some (.string ⟨#[]⟩) := hrr2.cell 1 rfl
          have r2 : w2.cell? ⟨w.heap.size + 1 + 1, 2, none⟩ = some (.int .i64 0) := hrr2.cell 2 rfl
          have r3 := hrr2.frozen 0
          have r4 := hrr2.frozen 1
          have r5 := hrr2.frozen 2
          have hR := ((hrr2.set 0 (.string ⟨#[]⟩)).set 1 (.string ⟨#[]⟩)).set 2 (.int .i64 0)
          have z0 := hR.cell 0 rfl
          have z1 := hR.cell 1 rfl
          have z2 := hR.cell 2 rfl
          have HBE := hid (((HB2.out.setCell (p := ⟨w.heap.size + 1 + 1, 0, none⟩) (by simp; omega) (.string ⟨#[]⟩)).setCell (p := ⟨w.heap.size + 1 + 1, 1, none⟩) (by simp; omega) (.string ⟨#[]⟩)).setCell (p := ⟨w.heap.size + 1 + 1, 2, none⟩) (by simp; omega) (.int .i64 0))
          clear hR hrr hrr2 hra hrb hb0 hB1 HCK HB2
          go_wp2_with fail
          refine ⟨.tuple #[.agg #[.string ⟨#[]⟩, .string ⟨#[]⟩, .int .i64 0], .int .i64 2], ?_, by rw [HR.out]; rfl, HBE.out⟩
          simp [results, Tryz.f80, go_sem, z0, z1, z2]
        · have q3 : (ws.length : Int) < y := by omega
          clear hb
          refine (callsIn_wide (n := 9)).1 ?_
          refine callsIn_of_wp_marks Tryz.func80 rfl trivial ?_ rfl
          simp only [Tryz.ntmps80, List.size_toArray, List.length_cons, List.length_nil, Nat.reduceAdd, Nat.reduceSub, Array.replicate_succ, Array.replicate_zero, List.push_toArray, List.append_toArray, List.nil_append, List.cons_append]
          refine wpIn_wide.2 ?_
          go_wp2_with fail
          generalize ((w.alloc (.cells #[.int .i64 x] 3)).alloc (.cells #[.int .i64 y] 3)).alloc (.cells #[.string ⟨#[]⟩, .string ⟨#[]⟩, .int .i64 0] 28) = W1 at *
          refine (HCK _ hb0).out.mono ?_
          rintro e w2 ⟨rfl, hB1⟩
          have HB2 := hid (below_tr hb0 hB1)
          have hrr2 := hrr.below hB1
          have xa : w2.cell? ⟨w.heap.size, 0, none⟩ = some (.int .i64 x) := (hra.below hB1).cell 0 rfl
          have xb : w2.cell? ⟨w.heap.size + 1, 0, none⟩ = some (.int .i64 y) := (hrb.below hB1).cell 0 rfl
          have r0 : w2.cell? ⟨w.heap.size + 1 + 1, 0, none⟩ = some (.string ⟨#[]⟩) := hrr2.cell 0 rfl
          have r1 : w2.cell? ⟨w.heap.size + 1 + 1, 1, none⟩ = some (.string ⟨#[]⟩) := hrr2.cell 1 rfl
          have r2 : w2.cell? ⟨w.heap.size + 1 + 1, 2, none⟩ = some (.int .i64 0) := hrr2.cell 2 rfl
          have r3 := hrr2.frozen 0
          have r4 := hrr2.frozen 1
          have r5 := hrr2.frozen 2
          have hR := ((hrr2.set 0 (.string ⟨#[]⟩)).set 1 (.string ⟨#[]⟩)).set 2 (.int .i64 0)
          have z0 := hR.cell 0 rfl
          have z1 := hR.cell 1 rfl
          have z2 := hR.cell 2 rfl
          have HBE := hid (((HB2.out.setCell (p := ⟨w.heap.size + 1 + 1, 0, none⟩) (by simp; omega) (.string ⟨#[]⟩)).setCell (p := ⟨w.heap.size + 1 + 1, 1, none⟩) (by simp; omega) (.string ⟨#[]⟩)).setCell (p := ⟨w.heap.size + 1 + 1, 2, none⟩) (by simp; omega) (.int .i64 0))
          clear hR hrr hrr2 hra hrb hb0 hB1 HCK HB2
          go_wp2_with fail
          refine ⟨.tuple #[.agg #[.string ⟨#[]⟩, .string ⟨#[]⟩, .int .i64 0], .int .i64 2], ?_, by rw [HR.out]; rfl, HBE.out⟩
          simp [results, Tryz.f80, go_sem, z0, z1, z2]
    · obtain ⟨a, rfl⟩ := Int.eq_ofNat_of_zero_le (show 0 ≤ x by omega)
      obtain ⟨b, rfl⟩ := Int.eq_ofNat_of_zero_le (show 0 ≤ y by omega)
      have HR : ofRes ws (a : Int) (b : Int) = (ws.getD a ⟨#[]⟩, lastW ws a b, ((ofNum (occ ws (ws.getD a ⟨#[]⟩) (lastW ws a b)) (a, b - 1) : Nat) : Int), 0) := by rw [HD.out, if_neg (by omega), if_neg hb]; rfl
      rw [HR]
      exact of_any ws a b v w he hr hz (hlen hck) hck (by omega) (by omega) (fun s hs => wordB_ne (lcheck_words hck s hs))
  · have HR : Hid (ofRes ws x y = (⟨#[]⟩, ⟨#[]⟩, 0, lcheckI ws)) := by unfold Hid; rw [HD.out, if_pos hck]
    have hcb : (lcheckI ws == 0) = false := beq_eq_false_iff_ne.2 hck
    have hb0 := below_tr (below_al w (.cells #[.int .i64 x] 3)) (below_tr (below_al _ (.cells #[.int .i64 y] 3)) (below_al _ (.cells #[.string ⟨#[]⟩, .string ⟨#[]⟩, .int .i64 0] 28)))
    have HCK := fun w' (h : Below w.heap.size w w') => hid (lcheck_any v ws w' (he.below h) (hr.below h) hz)
    obtain ⟨ad, cap, rfl, hlc, hcm, _⟩ := hr.open
    have hra : Row (((w.alloc (.cells #[.int .i64 x] 3)).alloc (.cells #[.int .i64 y] 3)).alloc (.cells #[.string ⟨#[]⟩, .string ⟨#[]⟩, .int .i64 0] 28)) w.heap.size #[.int .i64 x] 3 := ((row_nw w _ _ rfl).al _).al _
    have hrb : Row (((w.alloc (.cells #[.int .i64 x] 3)).alloc (.cells #[.int .i64 y] 3)).alloc (.cells #[.string ⟨#[]⟩, .string ⟨#[]⟩, .int .i64 0] 28)) (w.heap.size + 1) #[.int .i64 y] 3 := (row_nw _ _ _ (by simp)).al _
    have hrr : Row (((w.alloc (.cells #[.int .i64 x] 3)).alloc (.cells #[.int .i64 y] 3)).alloc (.cells #[.string ⟨#[]⟩, .string ⟨#[]⟩, .int .i64 0] 28)) (w.heap.size + 1 + 1) #[.string ⟨#[]⟩, .string ⟨#[]⟩, .int .i64 0] 28 := row_nw _ _ _ (by simp)
    clear hr hz he hlen HD
    generalize lcheckI ws = ck at *
    refine (callsIn_wide (n := 9)).1 ?_
    refine callsIn_of_wp_marks Tryz.func80 rfl trivial ?_ rfl
    simp only [Tryz.ntmps80, List.size_toArray, List.length_cons, List.length_nil, Nat.reduceAdd, Nat.reduceSub, Array.replicate_succ, Array.replicate_zero, List.push_toArray, List.append_toArray, List.nil_append, List.cons_append]
    refine wpIn_wide.2 ?_
    go_wp2_with fail
    generalize ((w.alloc (.cells #[.int .i64 x] 3)).alloc (.cells #[.int .i64 y] 3)).alloc (.cells #[.string ⟨#[]⟩, .string ⟨#[]⟩, .int .i64 0] 28) = W1 at *
    refine (HCK _ hb0).out.mono ?_
    rintro e w2 ⟨rfl, hB1⟩
    have HB2 := hid (below_tr hb0 hB1)
    have hrr2 := hrr.below hB1
    have xa : w2.cell? ⟨w.heap.size, 0, none⟩ = some (.int .i64 x) := (hra.below hB1).cell 0 rfl
    have xb : w2.cell? ⟨w.heap.size + 1, 0, none⟩ = some (.int .i64 y) := (hrb.below hB1).cell 0 rfl
    have r0 : w2.cell? ⟨w.heap.size + 1 + 1, 0, none⟩ = some (.string ⟨#[]⟩) := hrr2.cell 0 rfl
    have r1 : w2.cell? ⟨w.heap.size + 1 + 1, 1, none⟩ = some (.string ⟨#[]⟩) := hrr2.cell 1 rfl
    have r2 : w2.cell? ⟨w.heap.size + 1 + 1, 2, none⟩ = some (.int .i64 0) := hrr2.cell 2 rfl
    have r3 := hrr2.frozen 0
    have r4 := hrr2.frozen 1
    have r5 := hrr2.frozen 2
    have hR := ((hrr2.set 0 (.string ⟨#[]⟩)).set 1 (.string ⟨#[]⟩)).set 2 (.int .i64 0)
    have z0 := hR.cell 0 rfl
    have z1 := hR.cell 1 rfl
    have z2 := hR.cell 2 rfl
    have HBE := hid (((HB2.out.setCell (p := ⟨w.heap.size + 1 + 1, 0, none⟩) (by simp; omega) (.string ⟨#[]⟩)).setCell (p := ⟨w.heap.size + 1 + 1, 1, none⟩) (by simp; omega) (.string ⟨#[]⟩)).setCell (p := ⟨w.heap.size + 1 + 1, 2, none⟩) (by simp; omega) (.int .i64 0))
    clear hR hrr hrr2 hra hrb hb0 hB1 HCK HB2
    go_wp2_with fail
    refine ⟨.tuple #[.agg #[.string ⟨#[]⟩, .string ⟨#[]⟩, .int .i64 0], .int .i64 ck], ?_, by rw [HR.out]; rfl, HBE.out⟩
    simp [results, Tryz.f80, go_sem, z0, z1, z2]
set_option maxRecDepth 100000 in
set_option maxHeartbeats 2000000 in
theorem findAll_any (ws : List ByteArray) (f l : ByteArray) (n : Int) (v : Value) (w : World) (he : Env w) (hr : RdS w v ws) (hz : ∀ s ∈ ws, s.size ≤ 65536) (hf : f.size ≤ 65536) (hl : l.size ≤ 65536) (hlen : lcheckI ws = 0 → ws.length ≤ 13) :
    Calls Tryz.prog 44 #[v, .agg #[.string f, .string l, .int .i64 n]] w fun e w' => e = .returned (findVal (findRes ws f l n)) ∧ Below w.heap.size w w' := by
  have HD : Hid (findRes ws f l n = if lcheckI ws ≠ 0 then (0, 0, lcheckI ws) else if lemCk f l n ≠ 0 then (0, 0, lemCk f l n) else (((findF (occ ws f l) n.toNat : Nat) : Int), findT (occ ws f l) n.toNat, findE (occ ws f l) n.toNat)) := rfl
  have HCK := fun w' (h : Below w.heap.size w w') => hid (lcheck_any v ws w' (he.below h) (hr.below h) hz)
  have HLK := fun w' (h : Below w.heap.size w w') => hid (lck_any f l n w' (he.below h) hf hl)
  have hb0 := below_al w (.cells #[.string f, .string l, .int .i64 n] 28)
  have hrr := row_nw w #[.string f, .string l, .int .i64 n] 28 rfl
  by_cases hck : lcheckI ws = 0
  · by_cases hlk : lemCk f l n = 0
    · have hn := (lck_bounds hlk).1
      obtain ⟨k, rfl⟩ := Int.eq_ofNat_of_zero_le hn
      have HR : findRes ws f l (k : Int) = (((findF (occ ws f l) k : Nat) : Int), findT (occ ws f l) k, findE (occ ws f l) k) := by rw [HD.out, if_neg (by omega), if_neg (by omega)]; rfl
      rw [HR]
      exact find_any ws f l k v w he hr hz hf hl (hlen hck) hck hlk
    · have HR : Hid (findRes ws f l n = (0, 0, lemCk f l n)) := by unfold Hid; rw [HD.out, if_neg (by omega), if_pos hlk]
      have hcb : (lemCk f l n == 0) = false := beq_eq_false_iff_ne.2 hlk
      rw [hck] at HCK
      obtain ⟨ad, cap, rfl, hlc, hcm, _⟩ := hr.open
      clear HD hck hr hz he hlen
      generalize lemCk f l n = ck at *
      refine (callsIn_wide (n := 9)).1 ?_
      refine callsIn_of_wp_marks Tryz.func44 rfl trivial ?_ rfl
      simp only [Tryz.ntmps44, List.size_toArray, List.length_cons, List.length_nil, Nat.reduceAdd, Nat.reduceSub, Array.replicate_succ, Array.replicate_zero, List.push_toArray, List.append_toArray, List.nil_append, List.cons_append]
      refine wpIn_wide.2 ?_
      go_wp2_with fail
      generalize w.alloc (.cells #[.string f, .string l, .int .i64 n] 28) = W1 at *
      refine (HCK _ hb0).out.mono ?_
      rintro e w2 ⟨rfl, hB1⟩
      have HB2 := hid (below_tr hb0 hB1)
      have hr2 := hrr.below hB1
      have r0 := hr2.cell 0 rfl
      have r1 := hr2.cell 1 rfl
      have r2 := hr2.cell 2 rfl
      clear hr2 hrr hb0 hB1 HCK
      go_wp2_with fail
      refine (HLK _ HB2.out).out.mono ?_
      rintro e w3 ⟨rfl, hB3⟩
      have HB3 := hid (below_tr HB2.out hB3)
      clear hB3 HLK r0 r1 r2
      go_wp2_with fail
      refine ⟨.tuple #[.int .i64 0, .int .i64 0, .int .i64 ck], ?_, by rw [HR.out]; rfl, HB3.out⟩
      simp [results, Tryz.f44, go_sem]
  · have HR : Hid (findRes ws f l n = (0, 0, lcheckI ws)) := by unfold Hid; rw [HD.out, if_pos hck]
    have hcb : (lcheckI ws == 0) = false := beq_eq_false_iff_ne.2 hck
    obtain ⟨ad, cap, rfl, hlc, hcm, _⟩ := hr.open
    clear HD hr hz he hlen HLK
    generalize lcheckI ws = ck at *
    refine (callsIn_wide (n := 9)).1 ?_
    refine callsIn_of_wp_marks Tryz.func44 rfl trivial ?_ rfl
    simp only [Tryz.ntmps44, List.size_toArray, List.length_cons, List.length_nil, Nat.reduceAdd, Nat.reduceSub, Array.replicate_succ, Array.replicate_zero, List.push_toArray, List.append_toArray, List.nil_append, List.cons_append]
    refine wpIn_wide.2 ?_
    go_wp2_with fail
    generalize w.alloc (.cells #[.string f, .string l, .int .i64 n] 28) = W1 at *
    refine (HCK _ hb0).out.mono ?_
    rintro e w2 ⟨rfl, hB1⟩
    have HB2 := hid (below_tr hb0 hB1)
    have hr2 := hrr.below hB1
    have r0 := hr2.cell 0 rfl
    have r1 := hr2.cell 1 rfl
    have r2 := hr2.cell 2 rfl
    clear hr2 hrr hb0 hB1 HCK
    go_wp2_with fail
    refine ⟨.tuple #[.int .i64 0, .int .i64 0, .int .i64 ck], ?_, by rw [HR.out]; rfl, HB2.out⟩
    simp [results, Tryz.f44, go_sem]
end Go.Proofs.YtjhdeoniafahbaaGreatDoor

/-
  Find's answer lies in the words.
-/
namespace Go.Proofs.YtjhdeoniafahbaaGreatDoor
open Go.RowKit

theorem occ_lt {ws : List ByteArray} {f l : ByteArray} {p : Nat × Nat} (h : p ∈ occ ws f l) : p.1 < ws.length ∧ p.2 < ws.length := by
  have ⟨h1, h2⟩ := mem_occ.1 h
  have a1 : p.1 < ws.length := (List.getElem?_eq_some_iff.1 h1).1
  refine ⟨a1, ?_⟩
  split at h2
  · omega
  · exact (List.getElem?_eq_some_iff.1 h2.2).1
theorem findRes_bound (ws : List ByteArray) (f l : ByteArray) (n : Int) (hl : ws.length ≤ 65536) : (0 ≤ (findRes ws f l n).1 ∧ (findRes ws f l n).1 ≤ ws.length) ∧ 0 ≤ (findRes ws f l n).2.1 ∧ (findRes ws f l n).2.1 ≤ ws.length := by
  unfold findRes
  split
  · simp
  · split
    · simp
    · have hF : ((findF (occ ws f l) n.toNat : Nat) : Int) ≤ ws.length := by
        unfold findF fOf
        split
        · split
          · rename_i x hx
            have := (occ_lt (List.mem_of_getElem? hx)).1
            omega
          · simp
        · simp
      have hT : 0 ≤ findT (occ ws f l) n.toNat ∧ findT (occ ws f l) n.toNat ≤ ws.length := by
        unfold findT tOf
        split
        · split
          · rename_i x hx
            have := (occ_lt (List.mem_of_getElem? hx)).2
            have e : wrap64 ((x.2 : Int) + 1) = (x.2 : Int) + 1 := IntWalk.wrap64_in _ (by omega)
            rw [e]; omega
          · simp
        · simp
      exact ⟨⟨by simp, hF⟩, hT⟩
end Go.Proofs.YtjhdeoniafahbaaGreatDoor
