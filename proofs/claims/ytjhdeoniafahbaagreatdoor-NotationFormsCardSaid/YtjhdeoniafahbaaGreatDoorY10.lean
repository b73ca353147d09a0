/-
  Joined, what is needed of: J05 J07.
-/
import Derived.Deep.RegionHeld3
import Derived.StillTailTactics
import Derived.Test.YtjhdeoniafahbaaGreatDoorY04
import Derived.Test.YtjhdeoniafahbaaGreatDoorY06
import Derived.Deep.CutBlock
import Derived.Deep.DeepCutAuto
import Derived.BigQuiet
import Derived.Test.YtjhdeoniafahbaaGreatDoorY01
import Derived.Test.YtjhdeoniafahbaaGreatDoorY09
import Derived.Test.YtjhdeoniafahbaaGreatDoorY08
namespace Go.Proofs.YtjhdeoniafahbaaGreatDoor
open Go.RowKit
attribute [local go_sem] Oper.semAt_some
/-- What the rounds keep: all that lay below n₀, but for the blocks lo .. hi. -/
def KpR (n₀ lo hi : Nat) (A B : World) : Prop := A.heap.size ≤ B.heap.size ∧ ∀ k, k < n₀ → (k < lo ∨ hi < k) → B.heap[k]? = A.heap[k]?
theorem KpR.tr {n₀ lo hi : Nat} {A B C : World} (h : KpR n₀ lo hi A B) (k : KpR n₀ lo hi B C) : KpR n₀ lo hi A C :=
  ⟨Nat.le_trans h.1 k.1, fun i h1 h2 => (k.2 i h1 h2).trans (h.2 i h1 h2)⟩
theorem KpR.put {n₀ lo hi m : Nat} (hn : n₀ ≤ m) (W : World) (l : Nat) (o o' : Obj) (hl : m ≤ l) (_ : W.heap[l]? = some o) (_ : o.isCells = false) (_ : o.isWalk = false) : KpR n₀ lo hi W (W.putObj l o') :=
  ⟨by simp [World.putObj], fun k hk _ => World.putObj_heap_other (by omega)⟩
theorem KpR.cell {n₀ lo hi : Nat} {A B : World} (h : KpR n₀ lo hi A B) {p : Addr} {x : Value} (hx : A.cell? p = some x) (h1 : p.block < n₀) (h2 : p.block < lo ∨ hi < p.block) : B.cell? p = some x :=
  (World.cell?_of_block (h.2 p.block h1 h2)).trans hx
theorem KpR.set {n₀ lo hi : Nat} (W : World) (B o : Nat) (v : Value) (hB : lo ≤ B ∧ B ≤ hi) : KpR n₀ lo hi W (W.setCell ⟨B, o, none⟩ v) :=
  ⟨by simp [World.setCell], fun k _ hk => Below.heap_setCell _ _ _ _ (by simp; omega)⟩
def fOf (m : Nat) (l : List (Nat × Nat)) : Nat := match l[m - 1]? with | some x => x.1 | none => 0
def tOf (m : Nat) (l : List (Nat × Nat)) : Int := match l[m - 1]? with | some x => wrap64 ((x.2 : Int) + 1) | none => 0
theorem fOf_snoc {m : Nat} (hm : 0 < m) (l : List (Nat × Nat)) (x : Nat × Nat) : fOf m (l ++ [x]) = if l.length + 1 = m then x.1 else fOf m l := by
  unfold fOf
  by_cases h : l.length + 1 = m
  · rw [if_pos h, List.getElem?_append_right (by omega), show m - 1 - l.length = 0 by omega]; rfl
  · rw [if_neg h]
    by_cases h2 : m - 1 < l.length
    · rw [List.getElem?_append_left h2]
    · rw [List.getElem?_eq_none (by simp; omega), List.getElem?_eq_none (by omega)]
theorem tOf_snoc {m : Nat} (hm : 0 < m) (l : List (Nat × Nat)) (x : Nat × Nat) : tOf m (l ++ [x]) = if l.length + 1 = m then wrap64 ((x.2 : Int) + 1) else tOf m l := by
  unfold tOf
  by_cases h : l.length + 1 = m
  · rw [if_pos h, List.getElem?_append_right (by omega), show m - 1 - l.length = 0 by omega]; rfl
  · rw [if_neg h]
    by_cases h2 : m - 1 < l.length
    · rw [List.getElem?_append_left h2]
    · rw [List.getElem?_eq_none (by simp; omega), List.getElem?_eq_none (by omega)]
/-- What Find answers, by how many have come and what was kept of the one asked for. -/
def endE (n cnt : Nat) : Int := if cnt = 0 then 6 else if n = 0 ∧ 1 < cnt then 16 else if 0 < n ∧ (cnt = 1 ∨ cnt < n) then 6 else 0
def findE (oc : List (Nat × Nat)) (n : Nat) : Int := endE n oc.length
def findF (oc : List (Nat × Nat)) (n : Nat) : Nat := if findE oc n = 0 then fOf (max n 1) oc else 0
def findT (oc : List (Nat × Nat)) (n : Nat) : Int := if findE oc n = 0 then tOf (max n 1) oc else 0
theorem rd_keep {A B : World} {ad : Option Addr} {n cap N : Nat} {ws : List ByteArray} (h : RdS A (.slice ad n cap) ws) (hk : ∀ b, b < N → B.heap[b]? = A.heap[b]?) (hb : 0 < ws.length → ∀ b o, ad = some ⟨b, o, none⟩ → b < N) : RdS B (.slice ad n cap) ws := by
  obtain ⟨a', cap', e, h2, h3, h4⟩ := h
  refine ⟨a', cap', e, h2, h3, fun i x hx => ?_⟩
  obtain ⟨b, o, rfl, hc⟩ := h4 i x hx
  cases e
  exact ⟨b, o, rfl, (World.cell?_of_block (hk b (hb (by have := (List.getElem?_eq_some_iff.1 hx).1; omega) b o rfl))).trans hc⟩
/-- Between two rounds of the loop in Find. -/
structure FnI (w : World) (n1 : Nat) (f l : ByteArray) (n : Nat) (fr tq cnt : Int) (W : World) : Prop where
  lem : Row W w.heap.size #[.string f, .string l, .int .i64 n] 28
  bf : Row W n1 #[.int .i64 fr] 3
  bt : Row W (n1 + 1) #[.int .i64 tq] 3
  cn : Row W (n1 + 1 + 1) #[.int .i64 cnt] 3
  bel : Below w.heap.size w W
theorem FnI.grown {w W W' : World} {n1 n : Nat} {f l : ByteArray} {fr tq cnt : Int} {row : Option Nat} (h : FnI w n1 f l n fr tq cnt W) (hg : W.grownBy W' row) (hr : ∀ r, row = some r → w.heap.size ≤ r ∧ ∃ o : Obj, W.heap[r]? = some o ∧ o.isCells = false) : FnI w n1 f l n fr tq cnt W' :=
  have hr2 := fun r e => (hr r e).2
  ⟨h.lem.grown hg hr2, h.bf.grown hg hr2, h.bt.grown hg hr2, h.cn.grown hg hr2, h.bel.grown hg h.bel.size (fun k e => (hr k e).1)⟩
theorem FnI.count {w W : World} {n1 n : Nat} {f l : ByteArray} {fr tq cnt : Int} (h : FnI w n1 f l n fr tq cnt W) (hn : w.heap.size + 1 ≤ n1) (c : Int) : FnI w n1 f l n fr tq c (W.setCell ⟨n1 + 1 + 1, 0, none⟩ (.int .i64 c)) :=
  ⟨h.lem.other _ _ (by simp; omega), h.bf.other _ _ (by simp; omega), h.bt.other _ _ (by simp), h.cn.set 0 _, h.bel.setCell (p := ⟨n1 + 1 + 1, 0, none⟩) (by simp; omega) _⟩
theorem FnI.from {w W : World} {n1 n : Nat} {f l : ByteArray} {fr tq cnt : Int} (h : FnI w n1 f l n fr tq cnt W) (hn : w.heap.size + 1 ≤ n1) (c : Int) : FnI w n1 f l n c tq cnt (W.setCell ⟨n1, 0, none⟩ (.int .i64 c)) :=
  ⟨h.lem.other _ _ (by simp; omega), h.bf.set 0 _, h.bt.other _ _ (by simp), h.cn.other _ _ (by simp; omega), h.bel.setCell (p := ⟨n1, 0, none⟩) (by simp; omega) _⟩
theorem FnI.tq {w W : World} {n1 n : Nat} {f l : ByteArray} {fr tq cnt : Int} (h : FnI w n1 f l n fr tq cnt W) (hn : w.heap.size + 1 ≤ n1) (c : Int) : FnI w n1 f l n fr c cnt (W.setCell ⟨n1 + 1, 0, none⟩ (.int .i64 c)) :=
  ⟨h.lem.other _ _ (by simp; omega), h.bf.other _ _ (by simp), h.bt.set 0 _, h.cn.other _ _ (by simp), h.bel.setCell (p := ⟨n1 + 1, 0, none⟩) (by simp; omega) _⟩
theorem FnI.cast {w W : World} {n1 n : Nat} {f l : ByteArray} {fr tq cnt fr' tq' cnt' : Int} (h : FnI w n1 f l n fr tq cnt W) (h1 : fr' = fr) (h2 : tq' = tq) (h3 : cnt' = cnt) : FnI w n1 f l n fr' tq' cnt' W := by
  subst h1; subst h2; subst h3; exact h
theorem run_max2 {P : Program} {w : World} (ts : Array TypeId) (t : TypeId) (k : IntKind) (x : Int) (m : Nat) (h : m = max x.toNat 1) (hx : 0 ≤ x) : (Builtin.max_ ts t #[.int k x, .int k 1]).run P w = .ok (.int k m) w := by
  have hm : (m : Int) = if x < 1 then 1 else x := by split <;> omega
  rw [hm]
  simp [Builtin.max_, Builtin.max2, go_sem]
set_option maxRecDepth 100000 in
set_option maxHeartbeats 2000000 in
theorem find_any (ws : List ByteArray) (f l : ByteArray) (n : Nat) (v : Value) (w : World) (he : Env w) (hr : RdS w v ws) (hz : ∀ s ∈ ws, s.size ≤ 65536) (hf : f.size ≤ 65536) (hl : l.size ≤ 65536) (hlen : ws.length ≤ 13) (hck : lcheckI ws = 0) (hlk : lemCk f l n = 0) :
    Calls Tryz.prog 44 #[v, .agg #[.string f, .string l, .int .i64 n]] w fun e w' => e = .returned (.tuple #[.int .i64 (findF (occ ws f l) n), .int .i64 (findT (occ ws f l) n), .int .i64 (findE (occ ws f l) n)]) ∧ Below w.heap.size w w' := by
  refine (callsIn_wide (n := 9)).1 ?_
  have HCK := fun w' (h : Below w.heap.size w w') => hid (lcheck_any v ws w' (he.below h) (hr.below h) hz)
  have HLK := fun w' (h : Below w.heap.size w w') => hid (lck_any f l n w' (he.below h) hf hl)
  rw [hck] at HCK
  rw [hlk] at HLK
  have hnb := lck_bounds hlk
  have HR := hid hr
  have hblk : ∀ b o c k, v = .slice (some ⟨b, o, none⟩) c k → 0 < ws.length → b < w.heap.size := by
    intro b o c k e hw
    obtain ⟨_, _, rfl, _, _, hcell⟩ := hr.open
    obtain ⟨s1, b1, o1, _, e2, hc1⟩ := hcell 0 hw
    subst e2
    cases e
    exact World.block_lt_of_cell? w _ hc1
  have hb0 := below_al w (.cells #[.string f, .string l, .int .i64 n] 28)
  have hr0 := row_nw w #[.string f, .string l, .int .i64 n] 28 rfl
  obtain ⟨ad, cap, rfl, hlc, hcm, _⟩ := hr.open
  refine callsIn_of_wp_marks Tryz.func44 rfl trivial ?_ rfl
  simp only [Tryz.ntmps44, List.size_toArray, List.length_cons, List.length_nil, Nat.reduceAdd, Nat.reduceSub, Array.replicate_succ, Array.replicate_zero, List.push_toArray, List.append_toArray, List.nil_append, List.cons_append]
  refine wpIn_wide.2 ?_
  go_wp2_with fail
  generalize w.alloc (.cells #[.string f, .string l, .int .i64 n] 28) = W1 at *
  refine (HCK _ hb0).out.mono ?_
  rintro e w2 ⟨rfl, hB1⟩
  have hb2 := below_tr hb0 hB1
  have hr2 := hid (hr0.below hB1)
  have q0 := hr2.out.cell 0 rfl
  have q1 := hr2.out.cell 1 rfl
  have q2 := hr2.out.cell 2 rfl
  go_wp2_with fail
  refine (HLK _ hb2).out.mono ?_
  rintro e w3 ⟨rfl, hB3⟩
  have hb3 := below_tr hb2 hB3
  have hr3 := hid (hr2.out.below hB3)
  clear hb0 hr0 hB1 hb2 hr2 q0 q1 q2 hB3 HCK HLK
  have q0 := fun ob => cell_al (hr3.out.cell 0 rfl) ob
  have q1 := fun ob => cell_al (hr3.out.cell 1 rfl) ob
  have p0 := fun o1 o2 o3 => cell_al (cell_al (cell_al (hr3.out.cell 0 rfl) o1) o2) o3
  have p1 := fun o1 o2 o3 => cell_al (cell_al (cell_al (hr3.out.cell 1 rfl) o1) o2) o3
  go_wp2_with fail
  obtain ⟨W5, hW5⟩ : ∃ W5, W5 = ((w3.alloc (.cells #[.int .i64 0] 3)).alloc (.cells #[.int .i64 0] 3)).alloc (.cells #[.int .i64 0] 3) := ⟨_, rfl⟩
  have hb5 : Below w3.heap.size w3 W5 := by rw [hW5]; exact below_tr (below_al _ _) (below_tr (below_al _ _) (below_al _ _))
  have hsz2 : w.heap.size + 1 ≤ w3.heap.size := by have := hr3.out.lt; omega
  have HI5 : Hid (FnI w w3.heap.size f l n 0 0 0 W5) := by
    refine ⟨hr3.out.below hb5, ?_, ?_, ?_, below_tr hb3 hb5⟩
    · rw [hW5]; exact ((row_nw _ _ _ rfl).al _).al _
    · rw [hW5]; exact (row_nw _ _ _ (by simp)).al _
    · rw [hW5]; exact row_nw _ _ _ (by simp)
  have hs5 : W5.heap.size = w3.heap.size + 3 := by rw [hW5]; simp
  have HR5 := hid (HR.out.below (below_tr hb3 hb5))
  rw [← hW5]
  clear hW5 q0 q1 p0 p1 hr3 hb3 hb5 HR
  refine (occurrences_any _ _ _ _ _ _).mono ?_
  rintro e w4 ⟨rfl, rfl⟩
  have hb6 : Below W5.heap.size W5 (((W5.alloc (.cells #[.slice ad ws.length cap] 23)).alloc (.cells #[.string f] 9)).alloc (.cells #[.string l] 9)) := below_tr (below_al _ _) (below_tr (below_al _ _) (below_al _ _))
  have HM6 : Hid (OccM W5.heap.size (W5.heap.size + 1) (W5.heap.size + 2) ad cap ws f l (((W5.alloc (.cells #[.slice ad ws.length cap] 23)).alloc (.cells #[.string f] 9)).alloc (.cells #[.string l] 9))) := by
    refine ⟨cell_al (cell_al (cell_nw _ _ _ 0 rfl) _) _, cell_al (cell_nwE _ _ _ 0 (by simp) rfl) _, cell_nwE _ _ _ 0 (by simp) rfl, HR5.out.below hb6⟩
  have hs6 : (((W5.alloc (.cells #[.slice ad ws.length cap] 23)).alloc (.cells #[.string f] 9)).alloc (.cells #[.string l] 9)).heap.size = w3.heap.size + 6 := by simp; omega
  have HI6 : Hid (FnI w w3.heap.size f l n 0 0 0 (((W5.alloc (.cells #[.slice ad ws.length cap] 23)).alloc (.cells #[.string f] 9)).alloc (.cells #[.string l] 9))) :=
    ⟨HI5.out.lem.below hb6, HI5.out.bf.below hb6, HI5.out.bt.below hb6, HI5.out.cn.below hb6, below_tr HI5.out.bel hb6⟩
  rw [hs5] at HM6 ⊢
  clear HI5 HR5 hb6
  go_wp2_with fail
  generalize (((W5.alloc (.cells #[.slice ad ws.length cap] 23)).alloc (.cells #[.string f] 9)).alloc (.cells #[.string l] 9)) = W6 at *
  generalize w3.heap.size = n1 at *
  obtain ⟨m, hm⟩ : ∃ m, m = max n 1 := ⟨_, rfl⟩
  have hm0 : 0 < m := by omega
  have hol : (occ ws f l).length ≤ 182 := occ_len hlen _ _
  have HOL := hid hol
  have hn2 : (n : Int) ≤ 65536 := hnb.2
  clear hnb
  refine (wpIn_wide (n := 9)).1 ?_
  refine wpIn_rangeFunc_ownG rfl (by omega) (gf := 114) (lb := #[.pointer (some ⟨n1 + 3, 0, none⟩), .pointer (some ⟨n1 + 3 + 1, 0, none⟩), .pointer (some ⟨n1 + 3 + 2, 0, none⟩)]) rfl trivial (enters_of Tryz.func114 (by kernel_rfl) rfl)
    (encs := fun x : Nat × Nat => #[.int .i64 (x.1 : Int), .int .i64 (x.2 : Int)]) (Kp := KpR W6.heap.size n1 (n1 + 1 + 1))
    (S := fun l2 => l2 = occ ws f l) (Sp := fun l2 => ∃ r, l2 ++ r = occ ws f l) (N := 182) (w0 := W6)
    ?hseq (fun h k => h.tr k) (KpR.put (Nat.le_refl _)) (Below.refl _ _) (fun _ => rfl)
    (fun pre W => pre.length ≤ m ∧ FnI w n1 f l n (fOf m pre) (tOf m pre) pre.length W)
    (fun c pre W => c = .exit 0 ∧ pre.length = m + 1 ∧ FnI w n1 f l n (fOf m pre) (tOf m pre) pre.length W)
    ?own ?ownx ⟨by simp, by exact HI6.out⟩ ?a1 ?assign ?body ?done ?stop
  case own =>
    intro pre A B row hs2 hg hr
    exact ⟨hs2.1, hs2.2.grown hg (fun r e => ⟨by have := (hr r e).1; omega, (hr r e).2⟩)⟩
  case ownx =>
    intro c pre A B row hs2 hg hr
    exact ⟨hs2.1, hs2.2.1, hs2.2.2.grown hg (fun r e => ⟨by have := (hr r e).1; omega, (hr r e).2⟩)⟩
  case assign =>
    intro l x W' K hK
    gi_wp2
    exact hK
  case hseq =>
    intro yl J Jx W' hW' hJ _ hY h0
    refine (occs1_in (9 - 1) (by omega) ws f l _ cap (n1 + 3) (n1 + 3 + 1) (n1 + 3 + 2) 182 (by omega) HOL.out (KpR W6.heap.size n1 (n1 + 1 + 1))
      (fun A B hk hM => ⟨hk.cell hM.cw (show n1 + 3 < _ by omega) (.inr (show _ < n1 + 3 by omega)), hk.cell hM.cf (show n1 + 3 + 1 < _ by omega) (.inr (show _ < n1 + 3 + 1 by omega)), hk.cell hM.cl (show n1 + 3 + 2 < _ by omega) (.inr (show _ < n1 + 3 + 2 by omega)), rd_keep hM.rd (fun b hb => hk.2 b (by omega) (.inl (by omega))) (fun hw b o e => hblk b o _ _ (by rw [e]) hw)⟩)
      yl J Jx hY W' hJ (HM6.out.below hW') h0).mono ?_
    rintro e W3 ⟨h1, h2⟩
    exact ⟨h1, h2.imp (fun j => ⟨_, rfl, j⟩) (fun h => h)⟩
  case body =>
    rintro yl pre x W' ⟨hpm, hI⟩ hpl
    have HF0 := hid (fOf_snoc hm0 pre x)
    have HT0 := hid (tOf_snoc hm0 pre x)
    have HV := hid (hI.count hsz2 ((pre.length : Int) + 1))
    have HV2 := hid (HV.out.from hsz2 (x.1 : Int))
    have HV3 := hid (HV2.out.tq hsz2 (wrap64 ((x.2 : Int) + 1)))
    have c1 := hI.cn.cell 0 rfl
    have d1 := hI.cn.frozen 0
    have v1 := HV.out.cn.cell 0 rfl
    have v2 := HV.out.lem.cell 2 rfl
    have v3 := HV.out.bf.cell 0 rfl
    have v4 := HV.out.bf.frozen 0
    have v5 := HV.out.bt.cell 0 rfl
    have v6 := HV.out.bt.frozen 0
    have x1 := HV2.out.bt.cell 0 rfl
    have x2 := HV2.out.bt.frozen 0
    have x3 := HV2.out.lem.cell 2 rfl
    have y1 := HV3.out.cn.cell 0 rfl
    have y2 := HV3.out.lem.cell 2 rfl
    have hmx := fun (ts : Array TypeId) (t : TypeId) (w : World) => run_max2 (P := Tryz.prog) (w := w) ts t .i64 (n : Int) m (by rw [hm]; simp) (by omega)
    have HPM := hid hpm
    clear hI hm
    by_cases hq : pre.length + 1 = m
    · have HF : Hid (fOf m (pre ++ [x]) = x.1) := by unfold Hid; rw [HF0.out, if_pos hq]
      have HT : Hid (tOf m (pre ++ [x]) = wrap64 ((x.2 : Int) + 1)) := by unfold Hid; rw [HT0.out, if_pos hq]
      have e1 : ((pre.length : Int) + 1 == (m : Int)) = true := by simp; omega
      have i1 : ¬ (m : Int) < (pre.length : Int) + 1 := by omega
      have HQ := hid hq
      clear hq hpm HF0 HT0
      gi_wp2
      exact ⟨keepsFrom_tr (keepsFrom_set _ _ _ _ (by omega)) (keepsFrom_tr (keepsFrom_set _ _ _ _ (by omega)) (keepsFrom_set _ _ _ _ (by omega))), (KpR.set _ _ _ _ (by omega)).tr ((KpR.set _ _ _ _ (by omega)).tr (KpR.set _ _ _ _ (by omega))), by rw [List.length_append, List.length_singleton]; have := HQ.out; omega, HV3.out.cast (by have := HF.out; omega) HT.out (by rw [List.length_append, List.length_singleton]; omega)⟩
    · have HF : Hid (fOf m (pre ++ [x]) = fOf m pre) := by unfold Hid; rw [HF0.out, if_neg hq]
      have HT : Hid (tOf m (pre ++ [x]) = tOf m pre) := by unfold Hid; rw [HT0.out, if_neg hq]
      have e1 : ((pre.length : Int) + 1 == (m : Int)) = false := by simp; omega
      have e2 : ¬ (pre.length : Int) + 1 = (m : Int) := by omega
      by_cases hg : m < pre.length + 1
      · have i1 : (m : Int) < (pre.length : Int) + 1 := by omega
        have HQ : Hid (pre.length = m) := by unfold Hid; omega
        clear hq hpm HF0 HT0 hg
        gi_wp2
        exact ⟨keepsFrom_set _ _ _ _ (by omega), rfl, by rw [List.length_append, List.length_singleton]; have := HQ.out; omega, HV.out.cast (by have := HF.out; omega) HT.out (by rw [List.length_append, List.length_singleton]; omega)⟩
      · have i1 : ¬ (m : Int) < (pre.length : Int) + 1 := by omega
        have HQ : Hid (pre.length + 1 ≤ m) := by unfold Hid; omega
        clear hq hpm HF0 HT0 hg
        gi_wp2
        exact ⟨keepsFrom_set _ _ _ _ (by omega), KpR.set _ _ _ _ (by omega), by rw [List.length_append, List.length_singleton]; exact HQ.out, HV.out.cast (by have := HF.out; omega) HT.out (by rw [List.length_append, List.length_singleton]; omega)⟩
  case done =>
    rintro D ys W' hD rfl ⟨hpm, hI⟩ hK
    have HEQ : Hid (findE (occ ws f l) n = endE n (occ ws f l).length ∧ (endE n (occ ws f l).length = 0 → fOf m (occ ws f l) = fOf (max n 1) (occ ws f l) ∧ tOf m (occ ws f l) = tOf (max n 1) (occ ws f l))) := ⟨rfl, fun _ => by rw [hm]; exact ⟨rfl, rfl⟩⟩
    have hc2 : (occ ws f l).length ≤ 65537 := by omega
    generalize fOf m (occ ws f l) = fr at *
    generalize tOf m (occ ws f l) = tq at *
    generalize hcn : (occ ws f l).length = cnt at *
    have c0 : W'.cell? ⟨n1 + 1 + 1, 0, none⟩ = some (.int .i64 (cnt : Int)) := hI.cn.cell 0 rfl
    have c1 : W'.cell? ⟨w.heap.size, 2, none⟩ = some (.int .i64 (n : Int)) := hI.lem.cell 2 rfl
    have c2 : W'.cell? ⟨n1, 0, none⟩ = some (.int .i64 (fr : Int)) := hI.bf.cell 0 rfl
    have c3 : W'.cell? ⟨n1 + 1, 0, none⟩ = some (.int .i64 tq) := hI.bt.cell 0 rfl
    have HBE := hid hI.bel
    clear hI hcn
    by_cases h0 : cnt = 0
    · have z0 : ((cnt : Int) == 0) = true := by simp; omega
      have HRE : Hid (findE (occ ws f l) n = 6) := by unfold Hid; rw [HEQ.out.1]; unfold endE; rw [if_pos h0]
      have HRF : Hid (findF (occ ws f l) n = 0 ∧ findT (occ ws f l) n = 0) := by unfold Hid findF findT; rw [HRE.out]; exact ⟨if_neg (by decide), if_neg (by decide)⟩
      clear h0 hpm hm
      go_wp2_with fail
      refine ⟨by simp, .inl ⟨_, _, rfl, run_takeDeferred hK, ?_⟩⟩
      refine ⟨_, results_tmp3 rfl _ _ _, by rw [HRE.out, HRF.out.1, HRF.out.2]; rfl, HBE.out.grown (grownBy_putObj' _ D _) HBE.out.size (fun k e => by cases e; omega)⟩
    · have z0 : ((cnt : Int) == 0) = false := by simp; omega
      by_cases hn : n = 0
      · have z1 : ((n : Int) == 0) = true := by simp; omega
        have i2 : ¬ (0 : Int) < (n : Int) := by omega
        by_cases h1 : 1 < cnt
        · exfalso; omega
        · have i1 : ¬ (1 : Int) < (cnt : Int) := by omega
          have HRE0 : Hid (endE n cnt = 0) := by unfold Hid endE; rw [if_neg h0, if_neg (by omega), if_neg (by omega)]
          have HRE : Hid (findE (occ ws f l) n = 0) := by unfold Hid; rw [HEQ.out.1, HRE0.out]
          have HRF : Hid (((findF (occ ws f l) n : Nat) : Int) = fr ∧ findT (occ ws f l) n = tq) := by
            obtain ⟨g1, g2⟩ := HEQ.out.2 HRE0.out
            unfold Hid findF findT
            rw [if_pos HRE.out, if_pos HRE.out, g1, g2]
            exact ⟨rfl, rfl⟩
          clear h0 hn h1 hpm hm
          go_wp2_with fail
          go_quiet (fail)
          go_wp2_with fail
          have HBD := hid (below_tr HBE.out (below_drewN (Below.refl _ W') 1))
          refine ⟨by simp, .inl ⟨_, _, rfl, run_takeDeferred (show (World.drewN _ _).heap[D]? = _ from hK), ?_⟩⟩
          refine ⟨_, results_tmp3 rfl _ _ _, by rw [HRE.out, HRF.out.1, HRF.out.2]; rfl, (below_tr HBE.out (below_drewN (Below.refl _ _) _)).grown (grownBy_putObj' _ D _) (below_tr HBE.out (below_drewN (Below.refl _ _) _)).size (fun k e => by cases e; omega)⟩
      · have z1 : ((n : Int) == 0) = false := by simp; omega
        have i2 : (0 : Int) < (n : Int) := by omega
        by_cases h1 : cnt = 1
        · have z2 : ((cnt : Int) == 1) = true := by simp; omega
          have HRE : Hid (findE (occ ws f l) n = 6) := by unfold Hid; rw [HEQ.out.1]; unfold endE; rw [if_neg h0, if_neg (by omega), if_pos ⟨by omega, .inl h1⟩]
          have HRF : Hid (findF (occ ws f l) n = 0 ∧ findT (occ ws f l) n = 0) := by unfold Hid findF findT; rw [HRE.out]; exact ⟨if_neg (by decide), if_neg (by decide)⟩
          clear h0 hn h1 hpm hm
          go_wp2_with fail
          refine ⟨by simp, .inl ⟨_, _, rfl, run_takeDeferred hK, ?_⟩⟩
          refine ⟨_, results_tmp3 rfl _ _ _, by rw [HRE.out, HRF.out.1, HRF.out.2]; rfl, HBE.out.grown (grownBy_putObj' _ D _) HBE.out.size (fun k e => by cases e; omega)⟩
        · have z2 : ((cnt : Int) == 1) = false := by simp; omega
          by_cases h2 : cnt < n
          · have i3 : (cnt : Int) < (n : Int) := by omega
            have HRE : Hid (findE (occ ws f l) n = 6) := by unfold Hid; rw [HEQ.out.1]; unfold endE; rw [if_neg h0, if_neg (by omega), if_pos ⟨by omega, .inr h2⟩]
            have HRF : Hid (findF (occ ws f l) n = 0 ∧ findT (occ ws f l) n = 0) := by unfold Hid findF findT; rw [HRE.out]; exact ⟨if_neg (by decide), if_neg (by decide)⟩
            clear h0 hn h1 h2 hpm hm
            go_wp2_with fail
            refine ⟨by simp, .inl ⟨_, _, rfl, run_takeDeferred hK, ?_⟩⟩
            refine ⟨_, results_tmp3 rfl _ _ _, by rw [HRE.out, HRF.out.1, HRF.out.2]; rfl, HBE.out.grown (grownBy_putObj' _ D _) HBE.out.size (fun k e => by cases e; omega)⟩
          · have i3 : ¬ (cnt : Int) < (n : Int) := by omega
            have HRE0 : Hid (endE n cnt = 0) := by unfold Hid endE; rw [if_neg h0, if_neg (by omega), if_neg (by omega)]
            have HRE : Hid (findE (occ ws f l) n = 0) := by unfold Hid; rw [HEQ.out.1, HRE0.out]
            have HRF : Hid (((findF (occ ws f l) n : Nat) : Int) = fr ∧ findT (occ ws f l) n = tq) := by
              obtain ⟨g1, g2⟩ := HEQ.out.2 HRE0.out
              unfold Hid findF findT
              rw [if_pos HRE.out, if_pos HRE.out, g1, g2]
              exact ⟨rfl, rfl⟩
            clear h0 hn h1 h2 hpm hm
            go_wp2_with fail
            go_quiet (fail)
            go_wp2_with fail
            have HBD := hid (below_tr HBE.out (below_drewN (Below.refl _ W') 1))
            refine ⟨by simp, .inl ⟨_, _, rfl, run_takeDeferred (show (World.drewN _ _).heap[D]? = _ from hK), ?_⟩⟩
            refine ⟨_, results_tmp3 rfl _ _ _, by rw [HRE.out, HRF.out.1, HRF.out.2]; rfl, (below_tr HBE.out (below_drewN (Below.refl _ _) _)).grown (grownBy_putObj' _ D _) (below_tr HBE.out (below_drewN (Below.refl _ _) _)).size (fun k e => by cases e; omega)⟩
  case stop =>
    rintro D c pre W' hD ⟨r, hsp⟩ ⟨rfl, hpm, hI⟩ hK
    have hlen2 := congrArg List.length hsp
    rw [List.length_append] at hlen2
    have HEQ : Hid (findE (occ ws f l) n = endE n pre.length ∧ (endE n pre.length = 0 → fOf m pre = fOf (max n 1) (occ ws f l) ∧ tOf m pre = tOf (max n 1) (occ ws f l))) := by
      refine ⟨?_, fun _ => ?_⟩
      · unfold findE endE
        repeat' split
        all_goals first | rfl | (exfalso; omega)
      · unfold fOf tOf
        rw [← hm, ← hsp, List.getElem?_append_left (by omega)]
        exact ⟨rfl, rfl⟩
    have hc2 : pre.length ≤ 65537 := by omega
    generalize fOf m pre = fr at *
    generalize tOf m pre = tq at *
    generalize hcn : pre.length = cnt at *
    have c0 : W'.cell? ⟨n1 + 1 + 1, 0, none⟩ = some (.int .i64 (cnt : Int)) := hI.cn.cell 0 rfl
    have c1 : W'.cell? ⟨w.heap.size, 2, none⟩ = some (.int .i64 (n : Int)) := hI.lem.cell 2 rfl
    have c2 : W'.cell? ⟨n1, 0, none⟩ = some (.int .i64 (fr : Int)) := hI.bf.cell 0 rfl
    have c3 : W'.cell? ⟨n1 + 1, 0, none⟩ = some (.int .i64 tq) := hI.bt.cell 0 rfl
    have HBE := hid hI.bel
    clear hI hcn
    by_cases h0 : cnt = 0
    · exfalso; omega
    · have z0 : ((cnt : Int) == 0) = false := by simp; omega
      by_cases hn : n = 0
      · have z1 : ((n : Int) == 0) = true := by simp; omega
        have i2 : ¬ (0 : Int) < (n : Int) := by omega
        by_cases h1 : 1 < cnt
        · have i1 : (1 : Int) < (cnt : Int) := by omega
          have HRE : Hid (findE (occ ws f l) n = 16) := by unfold Hid; rw [HEQ.out.1]; unfold endE; rw [if_neg h0, if_pos ⟨hn, h1⟩]
          have HRF : Hid (findF (occ ws f l) n = 0 ∧ findT (occ ws f l) n = 0) := by unfold Hid findF findT; rw [HRE.out]; exact ⟨if_neg (by decide), if_neg (by decide)⟩
          clear h0 hn h1 hpm hm hlen2 hsp
          gi_wp2_with fail
          go_wp2_with fail
          refine ⟨by simp, .inl ⟨_, _, rfl, run_takeDeferred hK, ?_⟩⟩
          refine ⟨_, results_tmp3 rfl _ _ _, by rw [HRE.out, HRF.out.1, HRF.out.2]; rfl, HBE.out.grown (grownBy_putObj' _ D _) HBE.out.size (fun k e => by cases e; omega)⟩
        · exfalso; omega
      · have z1 : ((n : Int) == 0) = false := by simp; omega
        have i2 : (0 : Int) < (n : Int) := by omega
        by_cases h1 : cnt = 1
        · exfalso; omega
        · have z2 : ((cnt : Int) == 1) = false := by simp; omega
          by_cases h2 : cnt < n
          · exfalso; omega
          · have i3 : ¬ (cnt : Int) < (n : Int) := by omega
            have HRE0 : Hid (endE n cnt = 0) := by unfold Hid endE; rw [if_neg h0, if_neg (by omega), if_neg (by omega)]
            have HRE : Hid (findE (occ ws f l) n = 0) := by unfold Hid; rw [HEQ.out.1, HRE0.out]
            have HRF : Hid (((findF (occ ws f l) n : Nat) : Int) = fr ∧ findT (occ ws f l) n = tq) := by
              obtain ⟨g1, g2⟩ := HEQ.out.2 HRE0.out
              unfold Hid findF findT
              rw [if_pos HRE.out, if_pos HRE.out, g1, g2]
              exact ⟨rfl, rfl⟩
            clear h0 hn h1 h2 hpm hm hlen2 hsp
            gi_wp2_with fail
            go_wp2_with fail
            go_quiet (fail)
            go_wp2_with fail
            have HBD := hid (below_tr HBE.out (below_drewN (Below.refl _ W') 1))
            refine ⟨by simp, .inl ⟨_, _, rfl, run_takeDeferred (show (World.drewN _ _).heap[D]? = _ from hK), ?_⟩⟩
            refine ⟨_, results_tmp3 rfl _ _ _, by rw [HRE.out, HRF.out.1, HRF.out.2]; rfl, (below_tr HBE.out (below_drewN (Below.refl _ _) _)).grown (grownBy_putObj' _ D _) (below_tr HBE.out (below_drewN (Below.refl _ _) _)).size (fun k e => by cases e; omega)⟩
end Go.Proofs.YtjhdeoniafahbaaGreatDoor
namespace Go.Proofs.YtjhdeoniafahbaaGreatDoor
open Go.RowKit
theorem wrap_small {x : Nat} (h : x ≤ 1000) : wrap64 ((x : Int) + 1) = (x : Int) + 1 := by unfold wrap64; omega
theorem found_plain {oc : List (Nat × Nat)} (hs : oc.Pairwise pLt) {p : Nat × Nat} (hp : p ∈ oc) (hb : p.2 ≤ 1000) : findE oc (ofNum oc p) = 0 ∧ findF oc (ofNum oc p) = p.1 ∧ findT oc (ofNum oc p) = (p.2 : Int) + 1 := by
  obtain ⟨j, hj⟩ := List.getElem?_of_mem hp
  have hlt := (List.getElem?_eq_some_iff.1 hj).1
  by_cases h1 : oc.length = 1
  · have hn : ofNum oc p = 0 := by unfold ofNum; rw [if_pos h1]
    have hE : findE oc 0 = 0 := by
      unfold findE endE
      rw [if_neg (by omega), if_neg (by omega), if_neg (by omega)]
    have h0 : j = 0 := by omega
    subst h0
    rw [hn]
    refine ⟨hE, ?_, ?_⟩
    · unfold findF; rw [if_pos hE]; unfold fOf; rw [show max 0 1 - 1 = 0 by rfl, hj]
    · unfold findT; rw [if_pos hE]; unfold tOf; rw [show max 0 1 - 1 = 0 by rfl, hj]; exact wrap_small hb
  · have hn : ofNum oc p = j + 1 := by unfold ofNum; rw [if_neg h1]; exact numP_at hs hj
    have hE : findE oc (j + 1) = 0 := by
      unfold findE endE
      rw [if_neg (by omega), if_neg (by omega), if_neg (by omega)]
    rw [hn]
    refine ⟨hE, ?_, ?_⟩
    · unfold findF; rw [if_pos hE]; unfold fOf; rw [show max (j + 1) 1 - 1 = j by omega, hj]
    · unfold findT; rw [if_pos hE]; unfold tOf; rw [show max (j + 1) 1 - 1 = j by omega, hj]; exact wrap_small hb
theorem found_lem {ws : List ByteArray} (hw : ∀ s ∈ ws, wordB s = true) {a b : Nat} (h1 : a < b) (h2 : b ≤ ws.length) {n : Nat} (hn : n ≤ 65536) : lemCk (ws.getD a ⟨#[]⟩) (lastW ws a b) n = 0 := by
  have e1 : ws[a]? = some (ws.getD a ⟨#[]⟩) := by rw [List.getD_eq_getElem?_getD, List.getElem?_eq_getElem (by omega)]; rfl
  have e2 : ws[b - 1]? = some (ws.getD (b - 1) ⟨#[]⟩) := by rw [List.getD_eq_getElem?_getD, List.getElem?_eq_getElem (by omega)]; rfl
  have g1 := hw _ (List.mem_of_getElem? e1)
  have g2 := hw _ (List.mem_of_getElem? e2)
  unfold lemCk
  rw [g1]
  have : (decide ((lastW ws a b).size ≠ 0) && !wordB (lastW ws a b)) = false := by
    unfold lastW
    by_cases h : b - a = 1
    · rw [if_pos h]; rfl
    · rw [if_neg h, g2]; simp
  rw [this, if_neg (by simp), if_neg (by omega)]
end Go.Proofs.YtjhdeoniafahbaaGreatDoor
namespace Go.Proofs.YtjhdeoniafahbaaGreatDoor
open Go.RowKit
/-- What Of answers. -/
def ofRes (ws : List ByteArray) (x y : Int) : ByteArray × ByteArray × Int × Int :=
  if lcheckI ws ≠ 0 then (⟨#[]⟩, ⟨#[]⟩, 0, lcheckI ws) else if x < 0 ∨ y ≤ x ∨ (ws.length : Int) < y then (⟨#[]⟩, ⟨#[]⟩, 0, 2)
  else (ws.getD x.toNat ⟨#[]⟩, lastW ws x.toNat y.toNat, ofNum (occ ws (ws.getD x.toNat ⟨#[]⟩) (lastW ws x.toNat y.toNat)) (x.toNat, y.toNat - 1), 0)
def ofVal (r : ByteArray × ByteArray × Int × Int) : Value := .tuple #[.agg #[.string r.1, .string r.2.1, .int .i64 r.2.2.1], .int .i64 r.2.2.2]
/-- What Find answers. -/
def findRes (ws : List ByteArray) (f l : ByteArray) (n : Int) : Int × Int × Int :=
  if lcheckI ws ≠ 0 then (0, 0, lcheckI ws) else if lemCk f l n ≠ 0 then (0, 0, lemCk f l n) else (findF (occ ws f l) n.toNat, findT (occ ws f l) n.toNat, findE (occ ws f l) n.toNat)
def findVal (r : Int × Int × Int) : Value := .tuple #[.int .i64 r.1, .int .i64 r.2.1, .int .i64 r.2.2]
theorem lcheck_words {ws : List ByteArray} (h : lcheckI ws = 0) : ∀ s ∈ ws, wordB s = true := by
  unfold lcheckI at h
  split at h
  · cases h
  · split at h
    · cases h
    · rename_i h2
      intro s hs
      cases hw : wordB s with
      | true => rfl
      | false => exact absurd (List.any_eq_true.2 ⟨s, hs, by rw [hw]; rfl⟩) h2
set_option maxRecDepth 100000 in
set_option maxHeartbeats 2000000 in
theorem ofAll_any (ws : List ByteArray) (x y : Int) (v : Value) (w : World) (he : Env w) (hr : RdS w v ws) (hz : ∀ s ∈ ws, s.size ≤ 65536) (hlen : lcheckI ws = 0 → ws.length ≤ 13) (_hlen2 : ws.length ≤ 65536) :
    Calls Tryz.prog 80 #[v, .int .i64 x, .int .i64 y] w fun e w' => e = .returned (ofVal (ofRes ws x y)) ∧ Below w.heap.size w w' := by
  have HD : Hid (ofRes ws x y = if lcheckI ws ≠ 0 then (⟨#[]⟩, ⟨#[]⟩, 0, lcheckI ws) else if x < 0 ∨ y ≤ x ∨ (ws.length : Int) < y then (⟨#[]⟩, ⟨#[]⟩, 0, 2)
    else (ws.getD x.toNat ⟨#[]⟩, lastW ws x.toNat y.toNat, ((ofNum (occ ws (ws.getD x.toNat ⟨#[]⟩) (lastW ws x.toNat y.toNat)) (x.toNat, y.toNat - 1) : Nat) : Int), 0)) := rfl
  by_cases hck : lcheckI ws = 0
  · by_cases hb : x < 0 ∨ y ≤ x ∨ (ws.length : Int) < y
    · have HR : Hid (ofRes ws x y = (⟨#[]⟩, ⟨#[]⟩, 0, 2)) := by unfold Hid; rw [HD.out, if_neg (by omega), if_pos hb]
      have hb0 := below_tr (below_al w (.cells #[.int .i64 x] 3)) (below_tr (below_al _ (.cells #[.int .i64 y] 3)) (below_al _ (.cells #[.string ⟨#[]⟩, .string ⟨#[]⟩, .int .i64 0] 28)))
      have HCK := fun w' (h : Below w.heap.size w w') => hid (lcheck_any v ws w' (he.below h) (hr.below h) hz)
      obtain ⟨ad, cap, rfl, hlc, hcm, _⟩ := hr.open
      have hra : Row (((w.alloc (.cells #[.int .i64 x] 3)).alloc (.cells #[.int .i64 y] 3)).alloc (.cells #[.string ⟨#[]⟩, .string ⟨#[]⟩, .int .i64 0] 28)) w.heap.size #[.int .i64 x] 3 := ((row_nw w _ _ rfl).al _).al _
      have hrb : Row (((w.alloc (.cells #[.int .i64 x] 3)).alloc (.cells #[.int .i64 y] 3)).alloc (.cells #[.string ⟨#[]⟩, .string ⟨#[]⟩, .int .i64 0] 28)) (w.heap.size + 1) #[.int .i64 y] 3 := (row_nw _ _ _ (by simp)).al _
      have hrr : Row (((w.alloc (.cells #[.int .i64 x] 3)).alloc (.cells #[.int .i64 y] 3)).alloc (.cells #[.string ⟨#[]⟩, .string ⟨#[]⟩, .int .i64 0] 28)) (w.heap.size + 1 + 1) #[.string ⟨#[]⟩, .string ⟨#[]⟩, .int .i64 0] 28 := row_nw _ _ _ (by simp)
      clear hr hz he hlen
      rw [hck] at HCK
      clear HD hck
      by_cases q1 : x < 0
      · clear hb
        refine (callsIn_wide (n := 9)).1 ?_
        refine callsIn_of_wp_marks Tryz.func80 rfl trivial ?_ rfl
        simp only [Tryz.ntmps80, List.size_toArray, List.length_cons, List.length_nil, Nat.reduceAdd, Nat.reduceSub, Array.replicate_succ, Array.replicate_zero, List.push_toArray, List.append_toArray, List.nil_append, List.cons_append]
        refine wpIn_wide.2 ?_
        go_wp2_with fail
        generalize ((w.alloc (.cells #[.int .i64 x] 3)).alloc (.cells #[.int .i64 y] 3)).alloc (.cells #[.string ⟨#[]⟩, .string ⟨#[]⟩, .int .i64 0] 28) = W1 at *
        refine (HCK _ hb0).out.mono ?_
        rintro e w2 ⟨rfl, hB1⟩
        have HB2 := hid (below_tr hb0 hB1)
        have hrr2 := hrr.below hB1
        have xa : w2.cell? ⟨w.heap.size, 0, none⟩ = some (.int .i64 x) := (hra.below hB1).cell 0 rfl
        have xb : w2.cell? ⟨w.heap.size + 1, 0, none⟩ = some (.int .i64 y) := (hrb.below hB1).cell 0 rfl
        have r0 : w2.cell? ⟨w.heap.size + 1 + 1, 0, none⟩ = some (.string ⟨#[]⟩) := hrr2.cell 0 rfl
        have r1 : w2.cell? ⟨w.heap.size + 1 + 1, 1, none⟩ = some (.string ⟨#[]⟩) := hrr2.cell 1 rfl
        have r2 : w2.cell? ⟨w.heap.size + 1 + 1, 2, none⟩ = some (.int .i64 0) := hrr2.cell 2 rfl
        have r3 := hrr2.frozen 0
        have r4 := hrr2.frozen 1
        have r5 := hrr2.frozen 2
        have hR := ((hrr2.set 0 (.string ⟨#[]⟩)).set 1 (.string ⟨#[]⟩)).set 2 (.int .i64 0)
        have z0 := hR.cell 0 rfl
        have z1 := hR.cell 1 rfl
        have z2 := hR.cell 2 rfl
        have HBE := hid (((HB2.out.setCell (p := ⟨w.heap.size + 1 + 1, 0, none⟩) (by simp; omega) (.string ⟨#[]⟩)).setCell (p := ⟨w.heap.size + 1 + 1, 1, none⟩) (by simp; omega) (.string ⟨#[]⟩)).setCell (p := ⟨w.heap.size + 1 + 1, 2, none⟩) (by simp; omega) (.int .i64 0))
        clear hR hrr hrr2 hra hrb hb0 hB1 HCK HB2
        go_wp2_with fail
        refine ⟨.tuple #[.agg #[.string ⟨#[]⟩, .string ⟨#[]⟩, .int .i64 0], .int .i64 2], ?_, by rw [HR.out]; rfl, HBE.out⟩
        simp [results, Tryz.f80, go_sem, z0, z1, z2]
      · by_cases q2 : y ≤ x
        · clear hb
          refine (callsIn_wide (n := 9)).1 ?_
          refine callsIn_of_wp_marks Tryz.func80 rfl trivial ?_ rfl
          simp only [Tryz.ntmps80, List.size_toArray, List.length_cons, List.length_nil, Nat.reduceAdd, Nat.reduceSub, Array.replicate_succ, Array.replicate_zero, List.push_toArray, List.append_toArray, List.nil_append, List.cons_append]
          refine wpIn_wide.2 ?_
          go_wp2_with fail
          generalize ((w.alloc (.cells #[.int .i64 x] 3)).alloc (.cells #[.int .i64 y] 3)).alloc (.cells #[.string ⟨#[]⟩, .string ⟨#[]⟩, .int .i64 0] 28) = W1 at *
          refine (HCK _ hb0).out.mono ?_
          rintro e w2 ⟨rfl, hB1⟩
          have HB2 := hid (below_tr hb0 hB1)
          have hrr2 := hrr.below hB1
          have xa : w2.cell? ⟨w.heap.size, 0, none⟩ = some (.int .i64 x) := (hra.below hB1).cell 0 rfl
          have xb : w2.cell? ⟨w.heap.size + 1, 0, none⟩ = some (.int .i64 y) := (hrb.below hB1).cell 0 rfl
          have r0 : w2.cell? ⟨w.heap.size + 1 + 1, 0, none⟩ = some (.string ⟨#[]⟩) := hrr2.cell 0 rfl
          have r1 : w2.cell? ⟨w.heap.size + 1 + 1, 1, none⟩ = some (.string ⟨#[]⟩) := hrr2.cell 1 rfl
          have r2 : w2.cell? ⟨w.heap.size + 1 + 1, 2, none⟩ = some (.int .i64 0) := hrr2.cell 2 rfl
          have r3 := hrr2.frozen 0
          have r4 := hrr2.frozen 1
          have r5 := hrr2.frozen 2
          have hR := ((hrr2.set 0 (.string ⟨#[]⟩)).set 1 (.string ⟨#[]⟩)).set 2 (.int .i64 0)
          have z0 := hR.cell 0 rfl
          have z1 := hR.cell 1 rfl
          have z2 := hR.cell 2 rfl
          have HBE := hid (((HB2.out.setCell (p := ⟨w.heap.size + 1 + 1, 0, none⟩) (by simp; omega) (.string ⟨#[]⟩)).setCell (p := ⟨w.heap.size + 1 + 1, 1, none⟩) (by simp; omega) (.string ⟨#[]⟩)).setCell (p := ⟨w.heap.size + 1 + 1, 2, none⟩) (by simp; omega) (.int .i64 0))
          clear hR hrr hrr2 hra hrb hb0 hB1 HCK HB2
          go_wp2_with fail
          refine ⟨.tuple #[.agg #[.string ⟨#[]⟩, .string ⟨#[]⟩, .int .i64 0], .int .i64 2], ?_, by rw [HR.out]; rfl, HBE.out⟩
          simp [results, Tryz.f80, go_sem, z0, z1, z2]
        · have q3 : (ws.length : Int) < y := by omega
          clear hb
          refine (callsIn_wide (n := 9)).1 ?_
          refine callsIn_of_wp_marks Tryz.func80 rfl trivial ?_ rfl
          simp only [Tryz.ntmps80, List.size_toArray, List.length_cons, List.length_nil, Nat.reduceAdd, Nat.reduceSub, Array.replicate_succ, Array.replicate_zero, List.push_toArray, List.append_toArray, List.nil_append, List.cons_append]
          refine wpIn_wide.2 ?_
          go_wp2_with fail
          generalize ((w.alloc (.cells #[.int .i64 x] 3)).alloc (.cells #[.int .i64 y] 3)).alloc (.cells #[.string ⟨#[]⟩, .string ⟨#[]⟩, .int .i64 0] 28) = W1 at *
          refine (HCK _ hb0).out.mono ?_
          rintro e w2 ⟨rfl, hB1⟩
          have HB2 := hid (below_tr hb0 hB1)
          have hrr2 := hrr.below hB1
          have xa : w2.cell? ⟨w.heap.size, 0, none⟩ = some (.int .i64 x) := (hra.below hB1).cell 0 rfl
          have xb : w2.cell? ⟨w.heap.size + 1, 0, none⟩ = some (.int .i64 y) := (hrb.below hB1).cell 0 rfl
          have r0 : w2.cell? ⟨w.heap.size + 1 + 1, 0, none⟩ = some (.string ⟨#[]⟩) := hrr2.cell 0 rfl
          have r1 : w2.cell? ⟨w.heap.size + 1 + 1, 1, none⟩ = some (.string ⟨#[]⟩) := hrr2.cell 1 rfl
          have r2 : w2.cell? ⟨w.heap.size + 1 + 1, 2, none⟩ = some (.int .i64 0) := hrr2.cell 2 rfl
          have r3 := hrr2.frozen 0
          have r4 := hrr2.frozen 1
          have r5 := hrr2.frozen 2
          have hR := ((hrr2.set 0 (.string ⟨#[]⟩)).set 1 (.string ⟨#[]⟩)).set 2 (.int .i64 0)
          have z0 := hR.cell 0 rfl
          have z1 := hR.cell 1 rfl
          have z2 := hR.cell 2 rfl
          have HBE := hid (((HB2.out.setCell (p := ⟨w.heap.size + 1 + 1, 0, none⟩) (by simp; omega) (.string ⟨#[]⟩)).setCell (p := ⟨w.heap.size + 1 + 1, 1, none⟩) (by simp; omega) (.string ⟨#[]⟩)).setCell (p := ⟨w.heap.size + 1 + 1, 2, none⟩) (by simp; omega) (.int .i64 0))
          clear hR hrr hrr2 hra hrb hb0 hB1 HCK HB2
          go_wp2_with fail
          refine ⟨.tuple #[.agg #[.string ⟨#[]⟩, .string ⟨#[]⟩, .int .i64 0], .int .i64 2], ?_, by rw [HR.out]; rfl, HBE.out⟩
          simp [results, Tryz.f80, go_sem, z0, z1, z2]
    · obtain ⟨a, rfl⟩ := Int.eq_ofNat_of_zero_le (show 0 ≤ x by omega)
      obtain ⟨b, rfl⟩ := Int.eq_ofNat_of_zero_le (show 0 ≤ y by omega)
      have HR : ofRes ws (a : Int) (b : Int) = (ws.getD a ⟨#[]⟩, lastW ws a b, ((ofNum (occ ws (ws.getD a ⟨#[]⟩) (lastW ws a b)) (a, b - 1) : Nat) : Int), 0) := by rw [HD.out, if_neg (by omega), if_neg hb]; rfl
      rw [HR]
      exact of_any ws a b v w he hr hz (hlen hck) hck (by omega) (by omega) (fun s hs => wordB_ne (lcheck_words hck s hs))
  · have HR : Hid (ofRes ws x y = (⟨#[]⟩, ⟨#[]⟩, 0, lcheckI ws)) := by unfold Hid; rw [HD.out, if_pos hck]
    have hcb : (lcheckI ws == 0) = false := beq_eq_false_iff_ne.2 hck
    have hb0 := below_tr (below_al w (.cells #[.int .i64 x] 3)) (below_tr (below_al _ (.cells #[.int .i64 y] 3)) (below_al _ (.cells #[.string ⟨#[]⟩, .string ⟨#[]⟩, .int .i64 0] 28)))
    have HCK := fun w' (h : Below w.heap.size w w') => hid (lcheck_any v ws w' (he.below h) (hr.below h) hz)
    obtain ⟨ad, cap, rfl, hlc, hcm, _⟩ := hr.open
    have hra : Row (((w.alloc (.cells #[.int .i64 x] 3)).alloc (.cells #[.int .i64 y] 3)).alloc (.cells #[.string ⟨#[]⟩, .string ⟨#[]⟩, .int .i64 0] 28)) w.heap.size #[.int .i64 x] 3 := ((row_nw w _ _ rfl).al _).al _
    have hrb : Row (((w.alloc (.cells #[.int .i64 x] 3)).alloc (.cells #[.int .i64 y] 3)).alloc (.cells #[.string ⟨#[]⟩, .string ⟨#[]⟩, .int .i64 0] 28)) (w.heap.size + 1) #[.int .i64 y] 3 := (row_nw _ _ _ (by simp)).al _
    have hrr : Row (((w.alloc (.cells #[.int .i64 x] 3)).alloc (.cells #[.int .i64 y] 3)).alloc (.cells #[.string ⟨#[]⟩, .string ⟨#[]⟩, .int .i64 0] 28)) (w.heap.size + 1 + 1) #[.string ⟨#[]⟩, .string ⟨#[]⟩, .int .i64 0] 28 := row_nw _ _ _ (by simp)
    clear hr hz he hlen HD
    generalize lcheckI ws = ck at *
    refine (callsIn_wide (n := 9)).1 ?_
    refine callsIn_of_wp_marks Tryz.func80 rfl trivial ?_ rfl
    simp only [Tryz.ntmps80, List.size_toArray, List.length_cons, List.length_nil, Nat.reduceAdd, Nat.reduceSub, Array.replicate_succ, Array.replicate_zero, List.push_toArray, List.append_toArray, List.nil_append, List.cons_append]
    refine wpIn_wide.2 ?_
    go_wp2_with fail
    generalize ((w.alloc (.cells #[.int .i64 x] 3)).alloc (.cells #[.int .i64 y] 3)).alloc (.cells #[.string ⟨#[]⟩, .string ⟨#[]⟩, .int .i64 0] 28) = W1 at *
    refine (HCK _ hb0).out.mono ?_
    rintro e w2 ⟨rfl, hB1⟩
    have HB2 := hid (below_tr hb0 hB1)
    have hrr2 := hrr.below hB1
    have xa : w2.cell? ⟨w.heap.size, 0, none⟩ = some (.int .i64 x) := (hra.below hB1).cell 0 rfl
    have xb : w2.cell? ⟨w.heap.size + 1, 0, none⟩ = some (.int .i64 y) := (hrb.below hB1).cell 0 rfl
    have r0 : w2.cell? ⟨w.heap.size + 1 + 1, 0, none⟩ = some (.string ⟨#[]⟩) := hrr2.cell 0 rfl
    have r1 : w2.cell? ⟨w.heap.size + 1 + 1, 1, none⟩ = some (.string ⟨#[]⟩) := hrr2.cell 1 rfl
    have r2 : w2.cell? ⟨w.heap.size + 1 + 1, 2, none⟩ = some (.int .i64 0) := hrr2.cell 2 rfl
    have r3 := hrr2.frozen 0
    have r4 := hrr2.frozen 1
    have r5 := hrr2.frozen 2
    have hR := ((hrr2.set 0 (.string ⟨#[]⟩)).set 1 (.string ⟨#[]⟩)).set 2 (.int .i64 0)
    have z0 := hR.cell 0 rfl
    have z1 := hR.cell 1 rfl
    have z2 := hR.cell 2 rfl
    have HBE := hid (((HB2.out.setCell (p := ⟨w.heap.size + 1 + 1, 0, none⟩) (by simp; omega) (.string ⟨#[]⟩)).setCell (p := ⟨w.heap.size + 1 + 1, 1, none⟩) (by simp; omega) (.string ⟨#[]⟩)).setCell (p := ⟨w.heap.size + 1 + 1, 2, none⟩) (by simp; omega) (.int .i64 0))
    clear hR hrr hrr2 hra hrb hb0 hB1 HCK HB2
    go_wp2_with fail
    refine ⟨.tuple #[.agg #[.string ⟨#[]⟩, .string ⟨#[]⟩, .int .i64 0], .int .i64 ck], ?_, by rw [HR.out]; rfl, HBE.out⟩
    simp [results, Tryz.f80, go_sem, z0, z1, z2]
set_option maxRecDepth 100000 in
set_option maxHeartbeats 2000000 in
theorem findAll_any (ws : List ByteArray) (f l : ByteArray) (n : Int) (v : Value) (w : World) (he : Env w) (hr : RdS w v ws) (hz : ∀ s ∈ ws, s.size ≤ 65536) (hf : f.size ≤ 65536) (hl : l.size ≤ 65536) (hlen : lcheckI ws = 0 → ws.length ≤ 13) :
    Calls Tryz.prog 44 #[v, .agg #[.string f, .string l, .int .i64 n]] w fun e w' => e = .returned (findVal (findRes ws f l n)) ∧ Below w.heap.size w w' := by
  have HD : Hid (findRes ws f l n = if lcheckI ws ≠ 0 then (0, 0, lcheckI ws) else if lemCk f l n ≠ 0 then (0, 0, lemCk f l n) else (((findF (occ ws f l) n.toNat : Nat) : Int), findT (occ ws f l) n.toNat, findE (occ ws f l) n.toNat)) := rfl
  have HCK := fun w' (h : Below w.heap.size w w') => hid (lcheck_any v ws w' (he.below h) (hr.below h) hz)
  have HLK := fun w' (h : Below w.heap.size w w') => hid (lck_any f l n w' (he.below h) hf hl)
  have hb0 := below_al w (.cells #[.string f, .string l, .int .i64 n] 28)
  have hrr := row_nw w #[.string f, .string l, .int .i64 n] 28 rfl
  by_cases hck : lcheckI ws = 0
  · by_cases hlk : lemCk f l n = 0
    · have hn := (lck_bounds hlk).1
      obtain ⟨k, rfl⟩ := Int.eq_ofNat_of_zero_le hn
      have HR : findRes ws f l (k : Int) = (((findF (occ ws f l) k : Nat) : Int), findT (occ ws f l) k, findE (occ ws f l) k) := by rw [HD.out, if_neg (by omega), if_neg (by omega)]; rfl
      rw [HR]
      exact find_any ws f l k v w he hr hz hf hl (hlen hck) hck hlk
    · have HR : Hid (findRes ws f l n = (0, 0, lemCk f l n)) := by unfold Hid; rw [HD.out, if_neg (by omega), if_pos hlk]
      have hcb : (lemCk f l n == 0) = false := beq_eq_false_iff_ne.2 hlk
      rw [hck] at HCK
      obtain ⟨ad, cap, rfl, hlc, hcm, _⟩ := hr.open
      clear HD hck hr hz he hlen
      generalize lemCk f l n = ck at *
      refine (callsIn_wide (n := 9)).1 ?_
      refine callsIn_of_wp_marks Tryz.func44 rfl trivial ?_ rfl
      simp only [Tryz.ntmps44, List.size_toArray, List.length_cons, List.length_nil, Nat.reduceAdd, Nat.reduceSub, Array.replicate_succ, Array.replicate_zero, List.push_toArray, List.append_toArray, List.nil_append, List.cons_append]
      refine wpIn_wide.2 ?_
      go_wp2_with fail
      generalize w.alloc (.cells #[.string f, .string l, .int .i64 n] 28) = W1 at *
      refine (HCK _ hb0).out.mono ?_
      rintro e w2 ⟨rfl, hB1⟩
      have HB2 := hid (below_tr hb0 hB1)
      have hr2 := hrr.below hB1
      have r0 := hr2.cell 0 rfl
      have r1 := hr2.cell 1 rfl
      have r2 := hr2.cell 2 rfl
      clear hr2 hrr hb0 hB1 HCK
      go_wp2_with fail
      refine (HLK _ HB2.out).out.mono ?_
      rintro e w3 ⟨rfl, hB3⟩
      have HB3 := hid (below_tr HB2.out hB3)
      clear hB3 HLK r0 r1 r2
      go_wp2_with fail
      refine ⟨.tuple #[.int .i64 0, .int .i64 0, .int .i64 ck], ?_, by rw [HR.out]; rfl, HB3.out⟩
      simp [results, Tryz.f44, go_sem]
  · have HR : Hid (findRes ws f l n = (0, 0, lcheckI ws)) := by unfold Hid; rw [HD.out, if_pos hck]
    have hcb : (lcheckI ws == 0) = false := beq_eq_false_iff_ne.2 hck
    obtain ⟨ad, cap, rfl, hlc, hcm, _⟩ := hr.open
    clear HD hr hz he hlen HLK
    generalize lcheckI ws = ck at *
    refine (callsIn_wide (n := 9)).1 ?_
    refine callsIn_of_wp_marks Tryz.func44 rfl trivial ?_ rfl
    simp only [Tryz.ntmps44, List.size_toArray, List.length_cons, List.length_nil, Nat.reduceAdd, Nat.reduceSub, Array.replicate_succ, Array.replicate_zero, List.push_toArray, List.append_toArray, List.nil_append, List.cons_append]
    refine wpIn_wide.2 ?_
    go_wp2_with fail
    generalize w.alloc (.cells #[.string f, .string l, .int .i64 n] 28) = W1 at *
    refine (HCK _ hb0).out.mono ?_
    rintro e w2 ⟨rfl, hB1⟩
    have HB2 := hid (below_tr hb0 hB1)
    have hr2 := hrr.below hB1
    have r0 := hr2.cell 0 rfl
    have r1 := hr2.cell 1 rfl
    have r2 := hr2.cell 2 rfl
    clear hr2 hrr hb0 hB1 HCK
    go_wp2_with fail
    refine ⟨.tuple #[.int .i64 0, .int .i64 0, .int .i64 ck], ?_, by rw [HR.out]; rfl, HB2.out⟩
    simp [results, Tryz.f44, go_sem]
end Go.Proofs.YtjhdeoniafahbaaGreatDoor
namespace Go.Proofs.YtjhdeoniafahbaaGreatDoor
open Go.RowKit
theorem occ_lt {ws : List ByteArray} {f l : ByteArray} {p : Nat × Nat} (h : p ∈ occ ws f l) : p.1 < ws.length ∧ p.2 < ws.length := by
  have ⟨h1, h2⟩ := mem_occ.1 h
  have a1 : p.1 < ws.length := (List.getElem?_eq_some_iff.1 h1).1
  refine ⟨a1, ?_⟩
  split at h2
  · omega
  · exact (List.getElem?_eq_some_iff.1 h2.2).1
theorem findRes_bound (ws : List ByteArray) (f l : ByteArray) (n : Int) (hl : ws.length ≤ 65536) : (0 ≤ (findRes ws f l n).1 ∧ (findRes ws f l n).1 ≤ ws.length) ∧ 0 ≤ (findRes ws f l n).2.1 ∧ (findRes ws f l n).2.1 ≤ ws.length := by
  unfold findRes
  split
  · simp
  · split
    · simp
    · have hF : ((findF (occ ws f l) n.toNat : Nat) : Int) ≤ ws.length := by
        unfold findF fOf
        split
        · split
          · rename_i x hx
            have := (occ_lt (List.mem_of_getElem? hx)).1
            omega
          · simp
        · simp
      have hT : 0 ≤ findT (occ ws f l) n.toNat ∧ findT (occ ws f l) n.toNat ≤ ws.length := by
        unfold findT tOf
        split
        · split
          · rename_i x hx
            have := (occ_lt (List.mem_of_getElem? hx)).2
            have e : wrap64 ((x.2 : Int) + 1) = (x.2 : Int) + 1 := IntWalk.wrap64_in _ (by omega)
            rw [e]; omega
          · simp
        · simp
      exact ⟨⟨by simp, hF⟩, hT⟩
end Go.Proofs.YtjhdeoniafahbaaGreatDoor
namespace Go.Proofs.YtjhdeoniafahbaaGreatDoor
open Go.RowKit
/-- Variants with the values of their two lists. -/
abbrev VrV := Vr × Value × Value
def vrCs (l : List VrV) : List Value := l.flatMap fun p => [p.2.1, p.2.2]
theorem vrCs_len (l : List VrV) : (vrCs l).length = l.length * 2 := by
  induction l with
  | nil => rfl
  | cons a r ih =>
    unfold vrCs at *
    rw [List.flatMap_cons, List.length_append, ih]
    simp only [List.length_cons, List.length_nil]; omega
theorem vrCs_at : ∀ (l : List VrV) (i : Nat) (p : VrV), l[i]? = some p → (vrCs l)[i * 2]? = some p.2.1 ∧ (vrCs l)[i * 2 + 1]? = some p.2.2
  | a :: r, 0, p, h => by
    have : a = p := by simpa using h
    subst this
    exact ⟨rfl, rfl⟩
  | a :: r, i + 1, p, h => by
    have ih := vrCs_at r i p (by simpa using h)
    have e : vrCs (a :: r) = a.2.1 :: a.2.2 :: vrCs r := rfl
    rw [e, show (i + 1) * 2 = i * 2 + 1 + 1 by omega]
    simpa using ih
/-- What is read of them. -/
def RdVs (W : World) (l : List VrV) : Prop := ∀ p ∈ l, OwS W p.2.1 p.1.ws ∧ OwS W p.2.2 p.1.sg
theorem RdVs.below {W W' : World} {l : List VrV} (h : RdVs W l) (hb : Below W.heap.size W W') : RdVs W' l := fun p hp => ⟨(h p hp).1.below hb, (h p hp).2.below hb⟩
theorem RdV.of_own {W : World} {base : Nat} {v : Value} {l : List VrV} (h : W.ownsRow base 63 2 v l.length (vrCs l)) (hr : RdVs W l) : RdV W v (l.map (·.1)) := by
  obtain ⟨_, h2⟩ := h
  rcases h2 with ⟨rfl, hn⟩ | ⟨g, cap, cur, rfl, hb, hh, hc, hm, hs, ht⟩
  · have : l = [] := List.eq_nil_of_length_eq_zero hn
    subst this
    exact RdV.nil W
  · refine ⟨some ⟨g, 0, none⟩, cap, by rw [List.length_map], by rw [List.length_map]; exact hc, hm, fun i x hx => ?_⟩
    rw [List.getElem?_map] at hx
    cases hp : l[i]? with
    | none => rw [hp] at hx; cases hx
    | some p =>
      rw [hp] at hx
      have hx : p.1 = x := by simpa using hx
      subst hx
      have hi := (List.getElem?_eq_some_iff.1 hp).1
      obtain ⟨c0, c1⟩ := vrCs_at l i p hp
      rw [← ht] at c0 c1
      have hl := vrCs_len l
      have hrp := hr p (List.mem_of_getElem? hp)
      refine ⟨g, 0, p.2.1, p.2.2, rfl, ?_, ?_, hrp.1.rd, hrp.2.rd⟩
      · rw [Nat.zero_add, cell_of_row _ g _ cur _ (0, 0) hh]
        rw [List.getElem?_take, if_pos (by omega)] at c0
        simpa using c0
      · rw [Nat.zero_add, cell_of_row _ g _ cur _ (0, 0) hh]
        rw [List.getElem?_take, if_pos (by omega)] at c1
        simpa using c1
theorem vrCs_snoc (l : List VrV) (p : VrV) : vrCs (l ++ [p]) = vrCs l ++ [p.2.1, p.2.2] := by simp [vrCs]
theorem row_own_ne2 {W : World} {k base size n : Nat} {cs : Array Value} {t e : TypeId} {v : Value} {xs : List Value} (h : Row W k cs t) (ho : W.ownsRow base e size v n xs) (hte : t ≠ e) : v.ownBlock ≠ some k := by
  rcases ho.2 with ⟨rfl, _⟩ | ⟨g, cap, cur, rfl, _, hh, _⟩
  · simp [Value.ownBlock]
  · intro he
    have : g = k := by simpa [Value.ownBlock] using he
    subst this
    unfold Row at h
    rw [hh] at h
    injection h with h
    injection h with _ h2
    exact hte h2.symm
theorem OwS.setR {W : World} {v : Value} {l : List ByteArray} (h : OwS W v l) {B i : Nat} {cs : Array Value} {t : TypeId} (hr : Row W B cs t) (hte : t ≠ 9) (u : Value) : OwS (W.setCell ⟨B, i, none⟩ u) v l := own_setR h _ u (row_own_ne2 hr h hte)
/-- Of, for lines that are right. -/
def ofPl (fr to_ : Int) (n : Nat) : Int × Int × Int := if fr < to_ then (1, fr, to_) else if 0 < fr then (2, fr - 1, to_) else if 0 < n then (3, fr, 1) else (4, fr, to_)
def lnAt (l : List Int) (i : Int) : Int := l.getD i.toNat 0
/-- The lemma, and its error, of the words from .. to .. -/
def ofLm (ls la : List Int) (ws : List ByteArray) (f t : Int) : ByteArray × ByteArray × Int × Int :=
  ofRes (wWs ls ws (lnAt ls f) (lnAt la (t - 1))) (f - wAt ls (lnAt ls f) (lnAt la (t - 1))) (t - wAt ls (lnAt ls f) (lnAt la (t - 1)))
def ofN (ls la : List Int) (ws : List ByteArray) (e : En) : Nt :=
  if (ofPl e.fr e.to_ ws.length).1 = 4 then ⟨1, 1, 4, ⟨#[]⟩, ⟨#[]⟩, 0, e.pos, e.sup, e.vs⟩
  else ⟨lnAt ls (ofPl e.fr e.to_ ws.length).2.1, lnAt la ((ofPl e.fr e.to_ ws.length).2.2 - 1), (ofPl e.fr e.to_ ws.length).1,
    (ofLm ls la ws (ofPl e.fr e.to_ ws.length).2.1 (ofPl e.fr e.to_ ws.length).2.2).1, (ofLm ls la ws (ofPl e.fr e.to_ ws.length).2.1 (ofPl e.fr e.to_ ws.length).2.2).2.1,
    (ofLm ls la ws (ofPl e.fr e.to_ ws.length).2.1 (ofPl e.fr e.to_ ws.length).2.2).2.2.1, e.pos, e.sup, e.vs⟩
def ofI (ls la : List Int) (ws : List ByteArray) (e : En) : Int :=
  if e.fr < 0 ∨ e.to_ < e.fr ∨ (ws.length : Int) < e.to_ then 2
  else if (ofPl e.fr e.to_ ws.length).1 ≠ 4 ∧ (ofLm ls la ws (ofPl e.fr e.to_ ws.length).2.1 (ofPl e.fr e.to_ ws.length).2.2).2.2.2 ≠ 0 then (ofLm ls la ws (ofPl e.fr e.to_ ws.length).2.1 (ofPl e.fr e.to_ ws.length).2.2).2.2.2
  else nteI (ofN ls la ws e)
theorem wWs_mem {ls : List Int} {ws : List ByteArray} {a b : Int} {s : ByteArray} (h : s ∈ wWs ls ws a b) : s ∈ ws := by
  unfold wWs at h
  split at h
  · cases h
  · exact List.mem_of_mem_take (List.mem_of_mem_drop h)
theorem wWs_len (ls : List Int) (ws : List ByteArray) (a b : Int) : (wWs ls ws a b).length ≤ ws.length := by
  unfold wWs
  split
  · exact Nat.zero_le _
  · rw [List.length_drop, List.length_take]; omega
theorem wAt_bound (ls : List Int) (a b : Int) : 0 ≤ wAt ls a b ∧ wAt ls a b ≤ ls.length := by
  have h := fIdx_lt (inB a b) ls
  unfold wAt wFst
  split
  · exact ⟨by omega, by omega⟩
  · exact ⟨by omega, by omega⟩
theorem getD_size {l : List ByteArray} (h : Sz16 l) (i : Nat) : (l.getD i ⟨#[]⟩).size ≤ 65536 := by
  rw [List.getD_eq_getElem?_getD]
  cases hx : l[i]? with
  | none => exact Nat.zero_le _
  | some y => exact h y (List.mem_of_getElem? hx)
theorem ofRes_size {ws : List ByteArray} {x y : Int} (h : Sz16 ws) : (ofRes ws x y).1.size ≤ 65536 ∧ (ofRes ws x y).2.1.size ≤ 65536 := by
  have h0 : (⟨#[]⟩ : ByteArray).size ≤ 65536 := Nat.zero_le _
  unfold ofRes
  split
  · exact ⟨h0, h0⟩
  · split
    · exact ⟨h0, h0⟩
    · refine ⟨getD_size h _, ?_⟩
      show (lastW ws x.toNat y.toNat).size ≤ 65536
      unfold lastW
      split
      · first | exact h0 | exact getD_size h _
      · first | exact getD_size h _ | exact h0
/-- An entry in memory. -/
structure RdE (W : World) (u s : Value) (x : En) : Prop where
  rs : RdS W u x.sup
  rv : RdV W s x.vs
theorem RdE.below {W W' : World} {u s : Value} {x : En} (h : RdE W u s x) (hb : Below W.heap.size W W') : RdE W' u s x := ⟨h.rs.below hb, h.rv.below hb⟩
structure SzE (x : En) : Prop where
  sup : Sz16 x.sup
  vs : ∀ v ∈ x.vs, Sz16 v.ws ∧ Sz16 v.sg
  sl : x.sup.length ≤ 65536
  vl : x.vs.length ≤ 65536
  el : ∀ v ∈ x.vs, v.ws.length ≤ 65536 ∧ v.sg.length ≤ 65536
end Go.Proofs.YtjhdeoniafahbaaGreatDoor
namespace Go.Proofs.YtjhdeoniafahbaaGreatDoor
open Go.RowKit
/-- A list of strings stays where a cell that holds no string is written. -/
theorem rdS_set {W : World} {v : Value} {l : List ByteArray} {B i : Nat} {x y : Value} (h : RdS W v l) (hc : W.cell? ⟨B, i, none⟩ = some x) (hx : ∀ s, x ≠ .string s) : RdS (W.setCell ⟨B, i, none⟩ y) v l := by
  obtain ⟨a, cap, h1, h2, h3, h4⟩ := h
  refine ⟨a, cap, h1, h2, h3, fun j z hz => ?_⟩
  obtain ⟨b, off, e, hcz⟩ := h4 j z hz
  refine ⟨b, off, e, ?_⟩
  rw [World.cell?_setCell_other]
  · exact hcz
  · intro e2
    rw [← e2, hc] at hcz
    exact hx z (Option.some.inj hcz)
/-- What until leaves. -/
def UntR (p : ByteArray → Bool) (l : List ByteArray) (B : Nat) (w : World) (e : Ending) (w' : World) : Prop :=
  ∃ w1, Below w.heap.size w w1 ∧ ((fIdx p l < 0 ∧ e = .returned (.tuple #[.slice none 0 0, .bool false]) ∧ w' = w1) ∨
    ∃ (k : Nat) (v1 v2 : Value), fIdx p l = (k : Int) ∧ e = .returned (.tuple #[v1, .bool true]) ∧ RdS w1 v1 (l.take k) ∧ RdS w1 v2 (l.drop k) ∧ w' = w1.setCell ⟨B, 0, none⟩ v2)
set_option maxRecDepth 100000 in
set_option maxHeartbeats 1000000 in
theorem until_any (K : Nat) (eK : ∀ args w, (callFunc K args).run Tryz.prog w = .ok (.enter K args) w) (p : ByteArray → Bool) (B : Nat) (v : Value) (l : List ByteArray) (w : World) (hrow : Row w B #[v] 86) (hr : RdS w v l)
    (hC : ∀ (x : ByteArray) (W' : World), x ∈ l → Below w.heap.size w W' → Calls Tryz.prog K #[.string x] W' fun e W'' => e = .returned (.bool (p x)) ∧ Below W'.heap.size W' W'') :
    Calls Tryz.prog 58 #[.pointer (some ⟨B, 0, none⟩), .func (.func K) #[] #[]] w fun e w' => UntR p l B w e w' := by
  have HC := hid (indexFnS_any K eK p v l w hr hC)
  have HR0 := hid hrow
  have HRd := hid hr
  have c0 := hrow.cell 0 rfl
  clear hC hrow
  rcases fIdx_cases p l with hI | ⟨k, x, hI, hx, hk, hp⟩
  · have HI : Hid (fIdx p l < 0) := by show _ < _; rw [hI]; decide
    rw [hI] at HC
    clear hI
    go_enter Tryz.func58, Tryz.ntmps58
    go_wp2_with fail
    (with_reducible refine HC.out.mono ?_)
    rintro e w1 ⟨rfl, hB1⟩
    go_wp2
    go_ret2
    exact ⟨_, hB1, .inl ⟨HI.out, rfl, rfl⟩⟩
  · have HI := hid hI
    rw [hI] at HC
    obtain ⟨a, cap, rfl, hlc, hcm, hcell⟩ := hr.open
    obtain ⟨y, b, off, hy, rfl, hcc⟩ := hcell k hk
    have q0 : ¬ (k : Int) < 0 := by omega
    have q1 : (0 : Int) ≤ (k : Int) := by omega
    have q2 : (k : Int) ≤ (l.length : Int) := by omega
    have q3 : (k : Int) ≤ (cap : Int) := by omega
    have q4 : ¬ cap = k := by omega
    clear hI hp hx hcell hy hcc hr
    go_enter Tryz.func58, Tryz.ntmps58
    go_wp2_with fail
    (with_reducible refine HC.out.mono ?_)
    rintro e w1 ⟨rfl, hB1⟩
    have HR1 := HR0.out.below hB1
    have d0 := HR1.cell 0 rfl
    have f0 := HR1.frozen 0
    have HRd1 := hid (HRd.out.below hB1)
    clear HR1
    go_wp2
    go_ret2
    exact ⟨w1, hB1, .inr ⟨k, _, _, HI.out, rfl, HRd1.out.take k (by omega), HRd1.out.drop k (by omega), rfl⟩⟩
theorem gb_below {w w' : World} {r : Option Nat} (h : Below w.heap.size w w') : w.grownBy w' r := ⟨h.os, h.tape, h.output, h.size, fun k hk _ => h.block k hk⟩
theorem gb_tr {a b c : World} {B : Nat} (h : a.grownBy b (some B)) (k : b.grownBy c (some B)) : a.grownBy c (some B) := h.andThen k fun _ e => .inr e
theorem gb_set {a b : World} {B i : Nat} {v : Value} (h : a.grownBy b (some B)) : a.grownBy (b.setCell ⟨B, i, none⟩ v) (some B) :=
  ⟨h.os, h.tape, h.output, by simpa using h.size, fun k hk hne => by
    rw [Below.heap_setCell _ _ _ _ (by rintro rfl; exact hne rfl)]; exact h.block k hk hne⟩
theorem gb_new {a b : World} {r : Option Nat} {p : Addr} {v : Value} (h : a.grownBy b r) (hp : a.heap.size ≤ p.block) : a.grownBy (b.setCell p v) r :=
  ⟨h.os, h.tape, h.output, by simpa using h.size, fun k hk hne => by
    rw [Below.heap_setCell _ _ _ _ (by omega)]; exact h.block k hk hne⟩
theorem Row.gb {a b : World} {B k : Nat} {cs : Array Value} {t : TypeId} (h : Row a k cs t) (hg : a.grownBy b (some B)) (hne : k ≠ B) : Row b k cs t := (hg.block k h.lt (fun e => hne (Option.some.inj e))).trans h
/-- What variant leaves. -/
def VarR (l : List ByteArray) (B : Nat) (w : World) (e : Ending) (w' : World) : Prop :=
  ∃ (au : Option Addr) (nu cu : Nat) (ag : Option Addr) (ns cs : Nat), e = .returned (.tuple #[.agg #[.slice au nu cu, .slice ag ns cs], .bool (vrB l)]) ∧ (vrB l = true → OwS w' (.slice au nu cu) (vrP l).ws ∧ OwS w' (.slice ag ns cs) (vrP l).sg) ∧ w.grownBy w' (some B)
theorem take_join_le (l : List ByteArray) (k : Nat) : (joinB (l.take k)).size ≤ (joinB l).size := by
  have e : ∀ l : List ByteArray, (joinB l).size = (Lib.join (l.map (·.data.toList)) [32]).length := fun _ => rfl
  rw [e, e]
  induction l generalizing k with
  | nil => simp
  | cons x r ih =>
    cases k with
    | zero => simp [Lib.join]
    | succ k =>
      rw [List.take_succ_cons, List.map_cons, List.map_cons, Lib.join_cons, Lib.join_cons, List.length_append, List.length_append]
      have := tail_le (r.map (·.data.toList)) k
      rw [← List.map_take] at this
      omega
where
  tail_le (r : List (List UInt8)) (k : Nat) : (Lib.joinTail [32] (r.take k)).length ≤ (Lib.joinTail [32] r).length := by
    unfold Lib.joinTail
    have h : (r.take k).map (fun x => [32] ++ x) = (r.map fun x => [32] ++ x).take k := List.map_take
    rw [h]
    clear h
    generalize (r.map fun x => ([32] : List UInt8) ++ x) = m
    induction m generalizing k with
    | nil => simp
    | cons y m ih =>
      cases k with
      | zero => simp
      | succ k => simp only [List.take_succ_cons, List.flatten_cons, List.length_append]; have := ih k; omega
theorem drop_join_le (l : List ByteArray) (k : Nat) : (joinB (l.drop k)).size ≤ (joinB l).size := by
  induction k generalizing l with
  | zero => simp
  | succ k ih =>
    cases l with
    | nil => simp
    | cons x r =>
      rw [List.drop_succ_cons]
      refine Nat.le_trans (ih r) ?_
      have e : ∀ l : List ByteArray, (joinB l).size = (Lib.join (l.map (·.data.toList)) [32]).length := fun _ => rfl
      rw [e, e, List.map_cons, Lib.join_cons, List.length_append]
      cases r with
      | nil => simp [Lib.join]
      | cons y r =>
        simp only [List.map_cons, Lib.join_cons, Lib.joinTail, List.flatten_cons, List.length_append]
        omega
set_option maxRecDepth 100000 in
set_option maxHeartbeats 2000000 in
theorem variant_any (B : Nat) (v : Value) (l : List ByteArray) (m : Int) (w0 w : World) (he : Env w0) (hm0 : w0.cell? ⟨0, 0, none⟩ = some (.int .i64 m)) (hb : Below w0.heap.size w0 w) (hlo : w0.heap.size ≤ B) (hrow : Row w B #[v] 86) (hr : RdS w v l) (hlen : l.length ≤ 1048576) (hj : (joinB l).size ≤ 1048576) :
    Calls Tryz.prog 62 #[.pointer (some ⟨B, 0, none⟩)] w fun e w' => VarR l B w e w' := by
  have hb0 := below_al w (.cells #[.slice none 0 0, .slice none 0 0] 63)
  have HB0 := hid hb0
  have HRes := hid (row_nw w #[.slice none 0 0, .slice none 0 0] 63 rfl)
  have HU := hid (until_any 98 (enters_of Tryz.func98 (by kernel_rfl) rfl) opensB B v l _ (hrow.below hb0) (hr.below hb0) (fun x W' _ _ => (opens_any x W').mono fun e w' h => ⟨h.1, by rw [h.2]; exact Below.refl _ _⟩))
  have HV : Hid (vrB l = (decide (0 ≤ fIdx opensB l) && (decide (unqI (joinB (l.take (fIdx opensB l).toNat)) = 0) && sigOk (l.drop (fIdx opensB l).toNat)))) := rfl
  have HP : Hid (vrP l = if fIdx opensB l < 0 then ⟨[], []⟩ else ⟨unqL (joinB (l.take (fIdx opensB l).toNat)), sigL (l.drop (fIdx opensB l).toNat)⟩) := rfl
  have HRow := hid hrow
  have hBlt := hrow.lt
  have HE := fun w' (h : Below w0.heap.size w0 w') => hid (he.below h)
  have HMM := fun w' (h : Below w0.heap.size w0 w') => hid (Below.keeps h _ _ hm0)
  clear hrow hb0 he hm0
  go_enter Tryz.func62, Tryz.ntmps62
  go_wp2_with fail
  (with_reducible refine HU.out.mono ?_)
  rintro e w1 ⟨w2, hB2, ⟨hneg, rfl, rfl⟩ | ⟨k, v1, v2, hk, rfl, hr1, hr2, rfl⟩⟩
  · have HV2 : Hid (vrB l = false) := by show _ = _; rw [HV.out, decide_eq_false (by omega)]; rfl
    have HR2 := HRes.out.below hB2
    have c0 := HR2.cell 0 rfl
    have c1 := HR2.cell 1 rfl
    have f0 := HR2.frozen 0
    have f1 := HR2.frozen 1
    have hR := (HR2.set 0 (.slice none 0 0)).set 1 (.slice none 0 0)
    have z0 := hR.cell 0 rfl
    have z1 := hR.cell 1 rfl
    have HG := hid (gb_new (p := ⟨w.heap.size, 1, none⟩) (v := .slice none 0 0) (gb_new (p := ⟨w.heap.size, 0, none⟩) (v := .slice none 0 0) (gb_below (r := some B) (below_tr HB0.out hB2)) (by simp)) (by simp))
    clear HU HV HP HRow hr hR HR2
    go_wp2_with fail
    exact bodyPost_ret (v := .tuple #[.agg #[.slice none 0 0, .slice none 0 0], .bool false]) (by simp [results, Tryz.f62, go_sem, z0, z1]) rfl ⟨_, _, _, _, _, _, by rw [HV2.out], ⟨fun h => (by rw [HV2.out] at h; cases h), HG.out⟩⟩
  · have hkl : k < l.length := by
      have := fIdx_lt opensB l
      omega
    have HV2 : Hid (vrB l = (decide (unqI (joinB (l.take k)) = 0) && sigOk (l.drop k))) := by
      show _ = _
      rw [HV.out, hk, decide_eq_true (by omega : (0 : Int) ≤ (k : Int))]; rfl
    have HP2 : Hid (vrP l = ⟨unqL (joinB (l.take k)), sigL (l.drop k)⟩) := by
      show _ = _
      rw [HP.out, hk, if_neg (by omega)]; rfl
    have hRow2 := (HRow.out.below HB0.out).below hB2
    have hsz := hB2.size
    have hres2 := HRes.out.below hB2
    have hne : w.heap.size ≠ B := by omega
    have HW3r := hid (hRow2.set 0 v2)
    have HW3s := hid (hres2.other ⟨B, 0, none⟩ v2 hne)
    have HW3a := hid (rdS_set (y := v2) hr1 (hRow2.cell 0 (x := v) rfl) (fun s e => by rw [e] at hr; obtain ⟨_, _, e2, _⟩ := hr; cases e2))
    have HW3b := hid (rdS_set (y := v2) hr2 (hRow2.cell 0 (x := v) rfl) (fun s e => by rw [e] at hr; obtain ⟨_, _, e2, _⟩ := hr; cases e2))
    have HG3 := hid (gb_set (i := 0) (v := v2) (gb_below (r := some B) (below_tr HB0.out hB2)))
    have HB3 := hid (hb.grown HG3.out hb.size (fun k e => by cases e; exact hlo))
    have hj1 := take_join_le l k
    have hj2 := drop_join_le l k
    have HJ := fun w' h => hid (joinX_any v1 (l.take k) w' h (by rw [List.length_take]; omega) (by omega))
    have HUQ := fun w' (h : Below w0.heap.size w0 w') => hid (punq_any (joinB (l.take k)) m w' (HE w' h).out (by omega) (HMM w' h).out)
    have HSG := fun w' h (h2 : Below w0.heap.size w0 w') => hid (psigla_any v2 (l.drop k) m w' h (by rw [List.length_drop]; omega) (by omega) (HMM w' h2).out)
    clear HV HP HU HRow hRow2 hres2 hr hr1 hr2 HE HMM hsz hj1 hj2
    generalize hw3 : w2.setCell ⟨B, 0, none⟩ v2 = w3 at *
    clear hw3 hk
    generalize sigOk (l.drop k) = so at *
    generalize sigL (l.drop k) = sl at *
    generalize unqI (joinB (l.take k)) = ui at *
    generalize unqL (joinB (l.take k)) = ul at *
    generalize joinB (l.take k) = jt at *
    go_wp2_with fail
    (with_reducible refine (HJ _ HW3a.out).out.mono ?_)
    rintro e w4 ⟨rfl, hB4⟩
    have HG4 := hid (gb_tr HG3.out (gb_below hB4))
    have HB4 := hid (hb.grown HG4.out hb.size (fun k e => by cases e; exact hlo))
    have HR4r := hid (HW3r.out.below hB4)
    have HR4s := hid (HW3s.out.below hB4)
    have HD4 := hid (HW3b.out.below hB4)
    clear HW3r HW3s HW3a HW3b HG3 HB3 hB4 HJ
    go_wp2_with fail
    (with_reducible refine (HUQ _ HB4.out).out.mono ?_)
    rintro e w5 ⟨vu, rfl, hru, hB5⟩
    obtain ⟨au, cu, rfl⟩ := hru.form
    generalize ul.length = nu at *
    have HG5 := hid (gb_tr HG4.out (gb_below hB5))
    have HB5 := hid (hb.grown HG5.out hb.size (fun k e => by cases e; exact hlo))
    have HR5r := hid (HR4r.out.below hB5)
    have HR5s := hid (HR4s.out.below hB5)
    have HD5 := hid (HD4.out.below hB5)
    have HU5 := hid hru
    clear HR4r HR4s HD4 HG4 HB4 hB5 HUQ hru
    have cb := HR5r.out.cell 0 (x := v2) rfl
    go_wp2_with fail
    (with_reducible refine (HSG _ HD5.out HB5.out).out.mono ?_)
    rintro e w6 ⟨vs, rfl, hrs, hB6⟩
    obtain ⟨ag, cs, rfl⟩ := hrs.form
    generalize sl.length = ns at *
    have HG6 := hid (gb_tr HG5.out (gb_below hB6))
    have HR6s := hid (HR5s.out.below hB6)
    have HU6 := hid (HU5.out.below hB6)
    have HS6 := hid hrs
    clear HR5r HR5s HD5 HG5 HB5 hB6 HSG hrs HU5 cb
    have r0 := HR6s.out.cell 0 (x := .slice none 0 0) rfl
    have r1 := HR6s.out.cell 1 (x := .slice none 0 0) rfl
    have r3 := HR6s.out.frozen 0
    have r4 := HR6s.out.frozen 1
    have hRa := HR6s.out.set 0 (.slice au nu cu)
    have hR := hRa.set 1 (.slice ag ns cs)
    have z0 := hR.cell 0 (x := (.slice au nu cu)) rfl
    have z1 := hR.cell 1 (x := (.slice ag ns cs)) rfl
    have HG := hid (gb_new (p := ⟨w.heap.size, 1, none⟩) (v := (.slice ag ns cs)) (gb_new (p := ⟨w.heap.size, 0, none⟩) (v := (.slice au nu cu)) HG6.out (by simp)) (by simp))
    have HUF := hid ((HU6.out.setR HR6s.out (i := 0) (by decide) (.slice au nu cu)).setR hRa (i := 1) (by decide) (.slice ag ns cs))
    have HSF := hid ((HS6.out.setR HR6s.out (i := 0) (by decide) (.slice au nu cu)).setR hRa (i := 1) (by decide) (.slice ag ns cs))
    clear hR hRa HR6s HU6 HS6 HG6
    by_cases hu0 : ui = 0
    · subst hu0
      cases so with
      | true =>
        have HV3 : Hid (vrB l = true) := by show _ = _; rw [HV2.out]; simp
        have HX : Hid (OwS ((w6.setCell ⟨w.heap.size, 0, none⟩ (.slice au nu cu)).setCell ⟨w.heap.size, 1, none⟩ (.slice ag ns cs)) (.slice au nu cu) (vrP l).ws ∧ OwS ((w6.setCell ⟨w.heap.size, 0, none⟩ (.slice au nu cu)).setCell ⟨w.heap.size, 1, none⟩ (.slice ag ns cs)) (.slice ag ns cs) (vrP l).sg) := by show _ ∧ _; rw [HP2.out]; exact ⟨HUF.out, HSF.out⟩
        go_wp2_with fail
        exact bodyPost_ret (v := .tuple #[.agg #[.slice au nu cu, .slice ag ns cs], .bool true]) (by simp [results, Tryz.f62, go_sem, z0, z1]) rfl ⟨au, nu, cu, ag, ns, cs, by rw [HV3.out], ⟨fun _ => HX.out, HG.out⟩⟩
      | false =>
        have HV3 : Hid (vrB l = false) := by show _ = _; rw [HV2.out]; simp
        go_wp2_with fail
        exact bodyPost_ret (v := .tuple #[.agg #[.slice au nu cu, .slice ag ns cs], .bool false]) (by simp [results, Tryz.f62, go_sem, z0, z1]) rfl ⟨au, nu, cu, ag, ns, cs, by rw [HV3.out], ⟨fun h => (by rw [HV3.out] at h; cases h), HG.out⟩⟩
    · have hub : (ui == 0) = false := beq_eq_false_iff_ne.2 hu0
      have HV3 : Hid (vrB l = false) := by show _ = _; rw [HV2.out, decide_eq_false hu0]; rfl
      clear hu0
      go_wp2_with fail
      exact bodyPost_ret (v := .tuple #[.agg #[.slice au nu cu, .slice ag ns cs], .bool false]) (by simp [results, Tryz.f62, go_sem, z0, z1]) rfl ⟨_, _, _, _, _, _, by rw [HV3.out], ⟨fun h => (by rw [HV3.out] at h; cases h), HG.out⟩⟩
end Go.Proofs.YtjhdeoniafahbaaGreatDoor
namespace Go.Proofs.YtjhdeoniafahbaaGreatDoor
open Go.RowKit
/-- A note whose lists lie in rows that the call made. -/
def OwN (W : World) (u s : Value) (y : Nt) : Prop := OwS W u y.sup ∧ ∃ (base : Nat) (phs : List VrV), W.ownsRow base 63 2 s phs.length (vrCs phs) ∧ RdVs W phs ∧ phs.map (·.1) = y.vs
theorem OwN.rd {W : World} {u s : Value} {y : Nt} (h : OwN W u s y) : RdN W u s y := by
  obtain ⟨h1, base, phs, h2, h3, h4⟩ := h
  exact ⟨h1.rd, by rw [← h4]; exact RdV.of_own h2 h3⟩
theorem OwN.below {W W' : World} {u s : Value} {y : Nt} (h : OwN W u s y) (hb : Below W.heap.size W W') : OwN W' u s y := by
  obtain ⟨h1, base, phs, h2, h3, h4⟩ := h
  exact ⟨h1.below hb, base, phs, h2.kept (row := none) ⟨hb.os, hb.tape, hb.output, hb.size, fun k hk _ => hb.block k hk⟩ (by cases s.ownBlock <;> simp), h3.below hb, h4⟩
theorem OwN.put {W : World} {u s : Value} {y : Nt} (h : OwN W u s y) {B : Nat} {cs : Array Value} (hr : Row W B cs 30) (i : Nat) (c : Value) : OwN (W.setCell ⟨B, i, none⟩ c) u s y := by
  obtain ⟨h1, base, phs, h2, h3, h4⟩ := h
  exact ⟨h1.setR hr (by decide) _, base, phs, own_setR h2 _ _ (row_own_ne2 hr h2 (by decide)), fun q hq => ⟨(h3 q hq).1.setR hr (by decide) _, (h3 q hq).2.setR hr (by decide) _⟩, h4⟩
def OfR (y : Nt) (err : Int) (w : World) (r : Ending) (w' : World) : Prop :=
  ∃ (y' : Nt) (au : Option Addr) (nu cu : Nat) (av : Option Addr) (nv cv : Nat), r = .returned (.tuple #[.agg (y'.cells (.slice au nu cu) (.slice av nv cv)), .int .i64 err]) ∧ (err = 0 → y' = y ∧ OwN w' (.slice au nu cu) (.slice av nv cv) y) ∧ Below w.heap.size w w'
def zeroN : Array Value := #[.int .i64 0, .int .i64 0, .int .i64 0, .string ⟨#[]⟩, .string ⟨#[]⟩, .int .i64 0, .bool false, .slice none 0 0, .slice none 0 0]
/-- The entry, the result's cells, while 'of' runs. -/
structure OfS (x : En) (u s : Value) (w W : World) : Prop where
  ent : Row W w.heap.size (x.cells u s) 26
  res : Row W (w.heap.size + 1) zeroN 30
  bel : Below w.heap.size w W
theorem OfS.below {x : En} {u s : Value} {w W W' : World} (h : OfS x u s w W) (hb : Below W.heap.size W W') : OfS x u s w W' := ⟨h.ent.below hb, h.res.below hb, below_tr h.bel hb⟩
theorem OfS.al {x : En} {u s : Value} {w W : World} (h : OfS x u s w W) (o : Obj) : OfS x u s w (W.alloc o) := h.below (below_al W o)
theorem OfS.set {x : En} {u s : Value} {w W : World} (h : OfS x u s w W) (p : Addr) (v : Value) (hp : w.heap.size + 2 ≤ p.block) : OfS x u s w (W.setCell p v) := ⟨h.ent.other p v (by omega), h.res.other p v (by omega), h.bel.setCell (by omega) v⟩
theorem row9 {W : World} {B : Nat} {t : TypeId} (h : Row W B zeroN t) (c0 c1 c2 c3 c4 c5 c6 c7 c8 : Value) : Row (((((((((W.setCell ⟨B, 0, none⟩ c0).setCell ⟨B, 1, none⟩ c1).setCell ⟨B, 2, none⟩ c2).setCell ⟨B, 3, none⟩ c3).setCell ⟨B, 4, none⟩ c4).setCell ⟨B, 5, none⟩ c5).setCell ⟨B, 6, none⟩ c6).setCell ⟨B, 7, none⟩ c7).setCell ⟨B, 8, none⟩ c8) B #[c0, c1, c2, c3, c4, c5, c6, c7, c8] t := by
  have h9 := ((((((((h.set 0 c0).set 1 c1).set 2 c2).set 3 c3).set 4 c4).set 5 c5).set 6 c6).set 7 c7).set 8 c8
  simpa [zeroN] using h9
/-- The note while its variants are gathered. -/
def nCs (fr to_ pl : Int) (lf ll : ByteArray) (ln : Int) (pos : Bool) (su sv : Value) : Array Value := #[.int .i64 fr, .int .i64 to_, .int .i64 pl, .string lf, .string ll, .int .i64 ln, .bool pos, su, sv]
def OfC (x : En) (u s : Value) (w : World) (p : Value) (wx : World) : Prop :=
  ∃ B ab cb, p = .pointer (some ⟨B, 0, none⟩) ∧ w.heap.size + 2 ≤ B ∧ Row wx B (nCs 1 1 1 ⟨#[]⟩ ⟨#[]⟩ 0 x.pos (.slice ab x.sup.length cb) (.slice none 0 0)) 30 ∧ OwS wx (.slice ab x.sup.length cb) x.sup ∧ OfS x u s w wx
theorem OfC.fold {x : En} {u s : Value} {w w6 : World} {ad : Option Addr} {c : Nat} (hr6 : OwS w6 (.slice ad x.sup.length c) x.sup) (z1 : OfS x u s w w6) :
    OfC x u s w (.pointer (some ⟨w6.heap.size, 0, none⟩)) (w6.alloc (.cells #[.int .i64 1, .int .i64 1, .int .i64 1, .string ⟨#[]⟩, .string ⟨#[]⟩, .int .i64 0, .bool x.pos, .slice ad x.sup.length c, .slice none 0 0] 30)) :=
  ⟨_, ad, c, rfl, z1.res.lt, row_nw _ _ _ rfl, hr6.below (below_al _ _), z1.al _⟩
theorem OfC.sets {x : En} {u s : Value} {w w6 : World} {ad : Option Addr} {c B : Nat} (zr : Row w6 B zeroN 30) (hB : w.heap.size + 2 ≤ B) (hr6 : OwS w6 (.slice ad x.sup.length c) x.sup) (z1 : OfS x u s w w6) :
    OfC x u s w (.pointer (some ⟨B, 0, none⟩)) (((((((((w6.setCell ⟨B, 0, none⟩ (.int .i64 1)).setCell ⟨B, 1, none⟩ (.int .i64 1)).setCell ⟨B, 2, none⟩ (.int .i64 1)).setCell ⟨B, 3, none⟩ (.string ⟨#[]⟩)).setCell ⟨B, 4, none⟩ (.string ⟨#[]⟩)).setCell ⟨B, 5, none⟩ (.int .i64 0)).setCell ⟨B, 6, none⟩ (.bool x.pos)).setCell ⟨B, 7, none⟩ (.slice ad x.sup.length c)).setCell ⟨B, 8, none⟩ (.slice none 0 0)) := by
  refine ⟨B, ad, c, rfl, hB, row9 zr _ _ _ _ _ _ _ _ _, ?_, ?_⟩
  · have h0 := hr6.setR zr (i := 0) (by decide) (.int .i64 1)
    have r0 := zr.set 0 (.int .i64 1)
    have h1 := h0.setR r0 (i := 1) (by decide) (.int .i64 1)
    have r1 := r0.set 1 (.int .i64 1)
    have h2 := h1.setR r1 (i := 2) (by decide) (.int .i64 1)
    have r2 := r1.set 2 (.int .i64 1)
    have h3 := h2.setR r2 (i := 3) (by decide) (.string ⟨#[]⟩)
    have r3 := r2.set 3 (.string ⟨#[]⟩)
    have h4 := h3.setR r3 (i := 4) (by decide) (.string ⟨#[]⟩)
    have r4 := r3.set 4 (.string ⟨#[]⟩)
    have h5 := h4.setR r4 (i := 5) (by decide) (.int .i64 0)
    have r5 := r4.set 5 (.int .i64 0)
    have h6 := h5.setR r5 (i := 6) (by decide) (.bool x.pos)
    have r6 := r5.set 6 (.bool x.pos)
    have h7 := h6.setR r6 (i := 7) (by decide) (.slice ad x.sup.length c)
    have r7 := r6.set 7 (.slice ad x.sup.length c)
    have h8 := h7.setR r7 (i := 8) (by decide) (.slice none 0 0)
    have r8 := r7.set 8 (.slice none 0 0)
    exact h8
  · have h0 := z1.set ⟨B, 0, none⟩ (.int .i64 1) hB
    have h1 := h0.set ⟨B, 1, none⟩ (.int .i64 1) hB
    have h2 := h1.set ⟨B, 2, none⟩ (.int .i64 1) hB
    have h3 := h2.set ⟨B, 3, none⟩ (.string ⟨#[]⟩) hB
    have h4 := h3.set ⟨B, 4, none⟩ (.string ⟨#[]⟩) hB
    have h5 := h4.set ⟨B, 5, none⟩ (.int .i64 0) hB
    have h6 := h5.set ⟨B, 6, none⟩ (.bool x.pos) hB
    have h7 := h6.set ⟨B, 7, none⟩ (.slice ad x.sup.length c) hB
    exact h7.set ⟨B, 8, none⟩ (.slice none 0 0) hB
/-- .. when its variants are gathered. -/
structure OfL (x : En) (u s : Value) (w : World) (B : Nat) (su sv : Value) (phs : List VrV) (W : World) : Prop where
  os : OfS x u s w W
  row : Row W B (nCs 1 1 1 ⟨#[]⟩ ⟨#[]⟩ 0 x.pos su sv) 30
  sup : OwS W su x.sup
  own : W.ownsRow (w.heap.size + 2) 63 2 sv phs.length (vrCs phs)
  rds : RdVs W phs
theorem OfL.below {x : En} {u s : Value} {w W W' : World} {B : Nat} {su sv : Value} {phs : List VrV} (h : OfL x u s w B su sv phs W) (hb : Below W.heap.size W W') : OfL x u s w B su sv phs W' :=
  ⟨h.os.below hb, h.row.below hb, h.sup.below hb, h.own.kept (row := none) ⟨hb.os, hb.tape, hb.output, hb.size, fun k hk _ => hb.block k hk⟩ (by cases sv.ownBlock <;> simp), h.rds.below hb⟩
theorem OfL.al {x : En} {u s : Value} {w W : World} {B : Nat} {su sv : Value} {phs : List VrV} (h : OfL x u s w B su sv phs W) (o : Obj) : OfL x u s w B su sv phs (W.alloc o) := h.below (below_al W o)
theorem OfL.drew {x : En} {u s : Value} {w W : World} {B : Nat} {su sv : Value} {phs : List VrV} (h : OfL x u s w B su sv phs W) : OfL x u s w B su sv phs W.drew := h.below (Below.refl _ _).drew
/-- A further variant. -/
theorem OfL.push {x : En} {u s : Value} {w W w9 : World} {B : Nat} {su sv sv' : Value} {phs : List VrV} (h : OfL x u s w B su sv phs W) (hBlo : w.heap.size + 2 ≤ B) (p : VrV) (h1 : OwS W p.2.1 p.1.ws) (h2 : OwS W p.2.2 p.1.sg)
    (ho : w9.ownsRow (w.heap.size + 2) 63 2 sv' (phs.length + 1) (vrCs phs ++ [p.2.1, p.2.2])) (hb : Below (w.heap.size + 2) W w9) (hg : W.grownBy w9 sv.ownBlock) :
    OfL x u s w B su sv' (phs ++ [p]) (w9.setCell ⟨B, 8, none⟩ sv') := by
  have hos : OfS x u s w w9 := ⟨(hb.block _ (by omega)).trans h.os.ent, (hb.block _ (by omega)).trans h.os.res, h.os.bel.trans (hb.mono (by omega))⟩
  have hrow : Row w9 B (nCs 1 1 1 ⟨#[]⟩ ⟨#[]⟩ 0 x.pos su sv) 30 := (hg.block _ h.row.lt (Ne.symm (row_own_ne2 h.row h.own (by decide)))).trans h.row
  have hsup : OwS w9 su x.sup := h.sup.grown h.own (by decide) hg
  have g1 : OwS w9 p.2.1 p.1.ws := h1.grown h.own (by decide) hg
  have g2 : OwS w9 p.2.2 p.1.sg := h2.grown h.own (by decide) hg
  refine ⟨hos.set _ _ hBlo, hrow.set 8 sv', hsup.setR hrow (by decide) _, ?_, fun q hq => ?_⟩
  · rw [List.length_append, vrCs_snoc]
    exact own_setR ho _ _ (row_own_ne2 hrow ho (by decide))
  · rcases List.mem_append.1 hq with hq | hq
    · exact ⟨((h.rds q hq).1.grown h.own (by decide) hg).setR hrow (by decide) _, ((h.rds q hq).2.grown h.own (by decide) hg).setR hrow (by decide) _⟩
    · rw [List.mem_singleton.1 hq]
      exact ⟨g1.setR hrow (by decide) _, g2.setR hrow (by decide) _⟩
theorem infoVar : (Tryz.prog.info? 63).map (fun i => (i.zero, i.size, i.bytes)) = some (some (.agg #[.slice none 0 0, .slice none 0 0]), 2, 48) := by kernel_rfl
theorem Row.drew {W : World} {B : Nat} {cs : Array Value} {t : TypeId} (h : Row W B cs t) : Row W.drew B cs t := h.below (Below.refl _ _).drew
theorem OfS.drew {x : En} {u s : Value} {w W : World} (h : OfS x u s w W) : OfS x u s w W.drew := h.below (Below.refl _ _).drew
/-- A note whose fields are filled in, beside the entry and the result's cells. -/
structure OfM (x : En) (u s : Value) (w : World) (B : Nat) (su sv : Value) (phs : List VrV) (N : Nt) (W : World) : Prop where
  os : OfS x u s w W
  row : Row W B (N.cells su sv) 30
  sup : OwS W su x.sup
  own : W.ownsRow (w.heap.size + 2) 63 2 sv phs.length (vrCs phs)
  rds : RdVs W phs
theorem OfL.toM {x : En} {u s : Value} {w W : World} {B : Nat} {su sv : Value} {phs : List VrV} (h : OfL x u s w B su sv phs W) : OfM x u s w B su sv phs ⟨1, 1, 1, ⟨#[]⟩, ⟨#[]⟩, 0, x.pos, x.sup, x.vs⟩ W := ⟨h.os, h.row, h.sup, h.own, h.rds⟩
theorem OfM.below {x : En} {u s : Value} {w W W' : World} {B : Nat} {su sv : Value} {phs : List VrV} {N : Nt} (h : OfM x u s w B su sv phs N W) (hb : Below W.heap.size W W') : OfM x u s w B su sv phs N W' :=
  ⟨h.os.below hb, h.row.below hb, h.sup.below hb, h.own.kept (row := none) ⟨hb.os, hb.tape, hb.output, hb.size, fun k hk _ => hb.block k hk⟩ (by cases sv.ownBlock <;> simp), h.rds.below hb⟩
theorem OfM.al {x : En} {u s : Value} {w W : World} {B : Nat} {su sv : Value} {phs : List VrV} {N : Nt} (h : OfM x u s w B su sv phs N W) (o : Obj) : OfM x u s w B su sv phs N (W.alloc o) := h.below (below_al W o)
theorem OfM.drew {x : En} {u s : Value} {w W : World} {B : Nat} {su sv : Value} {phs : List VrV} {N : Nt} (h : OfM x u s w B su sv phs N W) : OfM x u s w B su sv phs N W.drew := h.below (Below.refl _ _).drew
theorem OfM.rd {x : En} {u s : Value} {w W : World} {B : Nat} {su sv : Value} {phs : List VrV} {N : Nt} (h : OfM x u s w B su sv phs N W) (h1 : N.sup = x.sup) (h2 : phs.map (·.1) = N.vs) : RdN W su sv N :=
  ⟨by rw [h1]; exact h.sup.rd, by rw [← h2]; exact RdV.of_own h.own h.rds⟩
/-- A cell of the note is written. -/
theorem OfM.put {x : En} {u s : Value} {w W : World} {B : Nat} {su sv : Value} {phs : List VrV} {N : Nt} (h : OfM x u s w B su sv phs N W) (hB : w.heap.size + 2 ≤ B) (i : Nat) (c : Value) (N' : Nt) (hN : (N.cells su sv).setIfInBounds i c = N'.cells su sv) : OfM x u s w B su sv phs N' (W.setCell ⟨B, i, none⟩ c) :=
  ⟨h.os.set _ _ hB, by rw [← hN]; exact h.row.set i c, h.sup.setR h.row (by decide) _, own_setR h.own _ _ (row_own_ne2 h.row h.own (by decide)), fun q hq => ⟨(h.rds q hq).1.setR h.row (by decide) _, (h.rds q hq).2.setR h.row (by decide) _⟩⟩
/-- The result's cells are written. -/
structure OfF (x : En) (w : World) (su sv : Value) (phs : List VrV) (W : World) : Prop where
  bel : Below w.heap.size w W
  sup : OwS W su x.sup
  own : W.ownsRow (w.heap.size + 2) 63 2 sv phs.length (vrCs phs)
  rds : RdVs W phs
theorem OfF.put {x : En} {w W : World} {su sv : Value} {phs : List VrV} {B : Nat} {cs : Array Value} (h : OfF x w su sv phs W) (hr : Row W B cs 30) (hB : w.heap.size ≤ B) (i : Nat) (c : Value) : OfF x w su sv phs (W.setCell ⟨B, i, none⟩ c) :=
  ⟨h.bel.setCell (by simpa using hB) c, h.sup.setR hr (by decide) _, own_setR h.own _ _ (row_own_ne2 hr h.own (by decide)), fun q hq => ⟨(h.rds q hq).1.setR hr (by decide) _, (h.rds q hq).2.setR hr (by decide) _⟩⟩
theorem OfM.fin {x : En} {u s : Value} {w W : World} {B : Nat} {su sv : Value} {phs : List VrV} {N : Nt} (h : OfM x u s w B su sv phs N W) :
    Row (((((((((W.setCell ⟨w.heap.size + 1, 0, none⟩ (.int .i64 N.fr)).setCell ⟨w.heap.size + 1, 1, none⟩ (.int .i64 N.to_)).setCell ⟨w.heap.size + 1, 2, none⟩ (.int .i64 N.pl)).setCell ⟨w.heap.size + 1, 3, none⟩ (.string N.lf)).setCell ⟨w.heap.size + 1, 4, none⟩ (.string N.ll)).setCell ⟨w.heap.size + 1, 5, none⟩ (.int .i64 N.ln)).setCell ⟨w.heap.size + 1, 6, none⟩ (.bool N.pos)).setCell ⟨w.heap.size + 1, 7, none⟩ (su)).setCell ⟨w.heap.size + 1, 8, none⟩ (sv)) (w.heap.size + 1) (N.cells su sv) 30 ∧ OfF x w su sv phs (((((((((W.setCell ⟨w.heap.size + 1, 0, none⟩ (.int .i64 N.fr)).setCell ⟨w.heap.size + 1, 1, none⟩ (.int .i64 N.to_)).setCell ⟨w.heap.size + 1, 2, none⟩ (.int .i64 N.pl)).setCell ⟨w.heap.size + 1, 3, none⟩ (.string N.lf)).setCell ⟨w.heap.size + 1, 4, none⟩ (.string N.ll)).setCell ⟨w.heap.size + 1, 5, none⟩ (.int .i64 N.ln)).setCell ⟨w.heap.size + 1, 6, none⟩ (.bool N.pos)).setCell ⟨w.heap.size + 1, 7, none⟩ (su)).setCell ⟨w.heap.size + 1, 8, none⟩ (sv)) := by
  have f0 : OfF x w su sv phs W := ⟨h.os.bel, h.sup, h.own, h.rds⟩
  have r0 := h.os.res
  have f1 := f0.put r0 (by omega) 0 (.int .i64 N.fr)
  have r1 := r0.set 0 (.int .i64 N.fr)
  have f2 := f1.put r1 (by omega) 1 (.int .i64 N.to_)
  have r2 := r1.set 1 (.int .i64 N.to_)
  have f3 := f2.put r2 (by omega) 2 (.int .i64 N.pl)
  have r3 := r2.set 2 (.int .i64 N.pl)
  have f4 := f3.put r3 (by omega) 3 (.string N.lf)
  have r4 := r3.set 3 (.string N.lf)
  have f5 := f4.put r4 (by omega) 4 (.string N.ll)
  have r5 := r4.set 4 (.string N.ll)
  have f6 := f5.put r5 (by omega) 5 (.int .i64 N.ln)
  have r6 := r5.set 5 (.int .i64 N.ln)
  have f7 := f6.put r6 (by omega) 6 (.bool N.pos)
  have r7 := r6.set 6 (.bool N.pos)
  have f8 := f7.put r7 (by omega) 7 (su)
  have r8 := r7.set 7 (su)
  have f9 := f8.put r8 (by omega) 8 (sv)
  have r9 := r8.set 8 (sv)
  exact ⟨row9 h.os.res _ _ _ _ _ _ _ _ _, f9⟩
/-- The nine cells of a note are written into the result's cells. -/
theorem OwN.set9 {W : World} {u s : Value} {y : Nt} (h : OwN W u s y) {B : Nat} {cs : Array Value} (hr : Row W B cs 30) (N : Nt) : OwN (((((((((W.setCell ⟨B, 0, none⟩ (.int .i64 N.fr)).setCell ⟨B, 1, none⟩ (.int .i64 N.to_)).setCell ⟨B, 2, none⟩ (.int .i64 N.pl)).setCell ⟨B, 3, none⟩ (.string N.lf)).setCell ⟨B, 4, none⟩ (.string N.ll)).setCell ⟨B, 5, none⟩ (.int .i64 N.ln)).setCell ⟨B, 6, none⟩ (.bool N.pos)).setCell ⟨B, 7, none⟩ (u)).setCell ⟨B, 8, none⟩ (s)) u s y := by
  have h0 := h.put hr 0 (.int .i64 N.fr)
  have r0 := hr.set 0 (.int .i64 N.fr)
  have h1 := h0.put r0 1 (.int .i64 N.to_)
  have r1 := r0.set 1 (.int .i64 N.to_)
  have h2 := h1.put r1 2 (.int .i64 N.pl)
  have r2 := r1.set 2 (.int .i64 N.pl)
  have h3 := h2.put r2 3 (.string N.lf)
  have r3 := r2.set 3 (.string N.lf)
  have h4 := h3.put r3 4 (.string N.ll)
  have r4 := r3.set 4 (.string N.ll)
  have h5 := h4.put r4 5 (.int .i64 N.ln)
  have r5 := r4.set 5 (.int .i64 N.ln)
  have h6 := h5.put r5 6 (.bool N.pos)
  have r6 := r5.set 6 (.bool N.pos)
  have h7 := h6.put r6 7 (u)
  have r7 := r6.set 7 (u)
  have h8 := h7.put r7 8 (s)
  have r8 := r7.set 8 (s)
  exact h8
theorem bel_set9 {w W : World} {B : Nat} (h : Below w.heap.size w W) (hB : w.heap.size ≤ B) (N : Nt) (u s : Value) : Below w.heap.size w (((((((((W.setCell ⟨B, 0, none⟩ (.int .i64 N.fr)).setCell ⟨B, 1, none⟩ (.int .i64 N.to_)).setCell ⟨B, 2, none⟩ (.int .i64 N.pl)).setCell ⟨B, 3, none⟩ (.string N.lf)).setCell ⟨B, 4, none⟩ (.string N.ll)).setCell ⟨B, 5, none⟩ (.int .i64 N.ln)).setCell ⟨B, 6, none⟩ (.bool N.pos)).setCell ⟨B, 7, none⟩ (u)).setCell ⟨B, 8, none⟩ (s)) := by
  have h0 := h.setCell (p := ⟨B, 0, none⟩) hB (.int .i64 N.fr)
  have h1 := h0.setCell (p := ⟨B, 1, none⟩) hB (.int .i64 N.to_)
  have h2 := h1.setCell (p := ⟨B, 2, none⟩) hB (.int .i64 N.pl)
  have h3 := h2.setCell (p := ⟨B, 3, none⟩) hB (.string N.lf)
  have h4 := h3.setCell (p := ⟨B, 4, none⟩) hB (.string N.ll)
  have h5 := h4.setCell (p := ⟨B, 5, none⟩) hB (.int .i64 N.ln)
  have h6 := h5.setCell (p := ⟨B, 6, none⟩) hB (.bool N.pos)
  have h7 := h6.setCell (p := ⟨B, 7, none⟩) hB (u)
  have h8 := h7.setCell (p := ⟨B, 8, none⟩) hB (s)
  exact h8
theorem zsets_bel {w W : World} (h : Below w.heap.size w W) : Below w.heap.size w (((((((((W.setCell ⟨w.heap.size + 1, 0, none⟩ (.int .i64 0)).setCell ⟨w.heap.size + 1, 1, none⟩ (.int .i64 0)).setCell ⟨w.heap.size + 1, 2, none⟩ (.int .i64 0)).setCell ⟨w.heap.size + 1, 3, none⟩ (.string ⟨#[]⟩)).setCell ⟨w.heap.size + 1, 4, none⟩ (.string ⟨#[]⟩)).setCell ⟨w.heap.size + 1, 5, none⟩ (.int .i64 0)).setCell ⟨w.heap.size + 1, 6, none⟩ (.bool false)).setCell ⟨w.heap.size + 1, 7, none⟩ (.slice none 0 0)).setCell ⟨w.heap.size + 1, 8, none⟩ (.slice none 0 0)) := by
  have h0 := h.setCell (p := ⟨w.heap.size + 1, 0, none⟩) (Nat.le_succ _) (.int .i64 0)
  have h1 := h0.setCell (p := ⟨w.heap.size + 1, 1, none⟩) (Nat.le_succ _) (.int .i64 0)
  have h2 := h1.setCell (p := ⟨w.heap.size + 1, 2, none⟩) (Nat.le_succ _) (.int .i64 0)
  have h3 := h2.setCell (p := ⟨w.heap.size + 1, 3, none⟩) (Nat.le_succ _) (.string ⟨#[]⟩)
  have h4 := h3.setCell (p := ⟨w.heap.size + 1, 4, none⟩) (Nat.le_succ _) (.string ⟨#[]⟩)
  have h5 := h4.setCell (p := ⟨w.heap.size + 1, 5, none⟩) (Nat.le_succ _) (.int .i64 0)
  have h6 := h5.setCell (p := ⟨w.heap.size + 1, 6, none⟩) (Nat.le_succ _) (.bool false)
  have h7 := h6.setCell (p := ⟨w.heap.size + 1, 7, none⟩) (Nat.le_succ _) (.slice none 0 0)
  have h8 := h7.setCell (p := ⟨w.heap.size + 1, 8, none⟩) (Nat.le_succ _) (.slice none 0 0)
  exact h8
theorem OfF.own2 {x : En} {w W : World} {su sv : Value} {phs : List VrV} {N : Nt} (h : OfF x w su sv phs W) (h1 : N.sup = x.sup) (h2 : phs.map (·.1) = N.vs) : OwN W su sv N :=
  ⟨by rw [h1]; exact h.sup, _, phs, h.own, h.rds, h2⟩
theorem OfF.rd {x : En} {w W : World} {su sv : Value} {phs : List VrV} {N : Nt} (h : OfF x w su sv phs W) (h1 : N.sup = x.sup) (h2 : phs.map (·.1) = N.vs) : RdN W su sv N :=
  ⟨by rw [h1]; exact h.sup.rd, by rw [← h2]; exact RdV.of_own h.own h.rds⟩
end Go.Proofs.YtjhdeoniafahbaaGreatDoor
namespace Go.Proofs.YtjhdeoniafahbaaGreatDoor
open Go.RowKit Go.Maps
def oneN : Array Value := #[.int .i64 0, .int .i64 0, .int .i64 1, .string ⟨#[]⟩, .string ⟨#[]⟩, .int .i64 0, .bool false, .slice none 0 0, .slice none 0 0]
/-- The result's cells, the note's cells, while front runs. -/
structure FrN (x : Nt) (u s : Value) (w W : World) : Prop where
  res : Row W w.heap.size zeroN 30
  ent : Row W (w.heap.size + 1) (x.cells u s) 30
  sup : OwS W u x.sup
  bel : Below w.heap.size w W
theorem FrN.below {x : Nt} {u s : Value} {w W W' : World} (h : FrN x u s w W) (hb : Below W.heap.size W W') : FrN x u s w W' := ⟨h.res.below hb, h.ent.below hb, h.sup.below hb, below_tr h.bel hb⟩
theorem FrN.drew {x : Nt} {u s : Value} {w W : World} (h : FrN x u s w W) : FrN x u s w W.drew := h.below (Below.refl _ _).drew
theorem FrN.put {x : Nt} {u s : Value} {w W : World} (h : FrN x u s w W) (i : Nat) (c : Value) (x' : Nt) (hN : (x.cells u s).setIfInBounds i c = x'.cells u s) (hs : x'.sup = x.sup) : FrN x' u s w (W.setCell ⟨w.heap.size + 1, i, none⟩ c) :=
  ⟨h.res.other _ _ (by simp), by rw [← hN]; exact h.ent.set i c, by rw [hs]; exact h.sup.setR h.ent (by decide) _, h.bel.setCell (by simp) c⟩
theorem FrN.putS {x : Nt} {u s : Value} {w W : World} (h : FrN x u s w W) (u' : Value) (x' : Nt) (hN : (x.cells u s).setIfInBounds 7 u' = x'.cells u' s) (hu : OwS W u' x'.sup) : FrN x' u' s w (W.setCell ⟨w.heap.size + 1, 7, none⟩ u') :=
  ⟨h.res.other _ _ (by simp), by rw [← hN]; exact h.ent.set 7 u', hu.setR h.ent (by decide) _, h.bel.setCell (by simp) u'⟩
/-- A cell of another block, behind the note's, is written. -/
theorem FrN.other {x : Nt} {u s : Value} {w W : World} (h : FrN x u s w W) {B : Nat} {cs : Array Value} {t : TypeId} (hr : Row W B cs t) (ht : t ≠ 9) (hB : w.heap.size + 2 ≤ B) (i : Nat) (c : Value) : FrN x u s w (W.setCell ⟨B, i, none⟩ c) :=
  ⟨h.res.other _ _ (by simp; omega), h.ent.other _ _ (by simp; omega), h.sup.setR hr ht _, h.bel.setCell (by simp; omega) c⟩
theorem OwS.set9 {W : World} {u s : Value} {l : List ByteArray} (h : OwS W u l) {B : Nat} {cs : Array Value} (hr : Row W B cs 30) (N : Nt) : OwS (((((((((W.setCell ⟨B, 0, none⟩ (.int .i64 N.fr)).setCell ⟨B, 1, none⟩ (.int .i64 N.to_)).setCell ⟨B, 2, none⟩ (.int .i64 N.pl)).setCell ⟨B, 3, none⟩ (.string N.lf)).setCell ⟨B, 4, none⟩ (.string N.ll)).setCell ⟨B, 5, none⟩ (.int .i64 N.ln)).setCell ⟨B, 6, none⟩ (.bool N.pos)).setCell ⟨B, 7, none⟩ (u)).setCell ⟨B, 8, none⟩ (s)) u l := by
  have ht : (30 : TypeId) ≠ 9 := by decide
  have h0 := h.setR hr (i := 0) ht (.int .i64 N.fr)
  have r0 := hr.set 0 (.int .i64 N.fr)
  have h1 := h0.setR r0 (i := 1) ht (.int .i64 N.to_)
  have r1 := r0.set 1 (.int .i64 N.to_)
  have h2 := h1.setR r1 (i := 2) ht (.int .i64 N.pl)
  have r2 := r1.set 2 (.int .i64 N.pl)
  have h3 := h2.setR r2 (i := 3) ht (.string N.lf)
  have r3 := r2.set 3 (.string N.lf)
  have h4 := h3.setR r3 (i := 4) ht (.string N.ll)
  have r4 := r3.set 4 (.string N.ll)
  have h5 := h4.setR r4 (i := 5) ht (.int .i64 N.ln)
  have r5 := r4.set 5 (.int .i64 N.ln)
  have h6 := h5.setR r5 (i := 6) ht (.bool N.pos)
  have r6 := r5.set 6 (.bool N.pos)
  have h7 := h6.setR r6 (i := 7) ht u
  have r7 := r6.set 7 u
  exact h7.setR r7 (i := 8) ht s
/-- What front answers. -/
def FrQ (l : List ByteArray) (w : World) (r : Ending) (w' : World) : Prop :=
  ∃ (y : Nt) (au : Option Addr) (nu cu : Nat), r = .returned (.tuple #[.agg (y.cells (.slice au nu cu) (.slice none 0 0)), .bool (hdB l)]) ∧ (hdB l = true → y = hdP l ∧ OwS w' (.slice au nu cu) y.sup) ∧ Below w.heap.size w w'
/-- The note is returned. -/
theorem FrN.fin {x : Nt} {au : Option Addr} {nu cu : Nat} {w W : World} (h : FrN x (.slice au nu cu) (.slice none 0 0) w W) {l : List ByteArray} {b : Bool} (hb : hdB l = b) (hy : b = true → x = hdP l) :
    Row (((((((((W.setCell ⟨w.heap.size, 0, none⟩ (.int .i64 x.fr)).setCell ⟨w.heap.size, 1, none⟩ (.int .i64 x.to_)).setCell ⟨w.heap.size, 2, none⟩ (.int .i64 x.pl)).setCell ⟨w.heap.size, 3, none⟩ (.string x.lf)).setCell ⟨w.heap.size, 4, none⟩ (.string x.ll)).setCell ⟨w.heap.size, 5, none⟩ (.int .i64 x.ln)).setCell ⟨w.heap.size, 6, none⟩ (.bool x.pos)).setCell ⟨w.heap.size, 7, none⟩ (.slice au nu cu)).setCell ⟨w.heap.size, 8, none⟩ (.slice none 0 0)) w.heap.size (x.cells (.slice au nu cu) (.slice none 0 0)) 30 ∧
    FrQ l w (.returned (.tuple #[.agg (x.cells (.slice au nu cu) (.slice none 0 0)), .bool b])) (((((((((W.setCell ⟨w.heap.size, 0, none⟩ (.int .i64 x.fr)).setCell ⟨w.heap.size, 1, none⟩ (.int .i64 x.to_)).setCell ⟨w.heap.size, 2, none⟩ (.int .i64 x.pl)).setCell ⟨w.heap.size, 3, none⟩ (.string x.lf)).setCell ⟨w.heap.size, 4, none⟩ (.string x.ll)).setCell ⟨w.heap.size, 5, none⟩ (.int .i64 x.ln)).setCell ⟨w.heap.size, 6, none⟩ (.bool x.pos)).setCell ⟨w.heap.size, 7, none⟩ (.slice au nu cu)).setCell ⟨w.heap.size, 8, none⟩ (.slice none 0 0)) :=
  ⟨row9 h.res _ _ _ _ _ _ _ _ _, ⟨x, au, nu, cu, by rw [hb], fun hh => ⟨hy (by rw [← hb]; exact hh), h.sup.set9 h.res x⟩, bel_set9 h.bel (Nat.le_refl _) x _ _⟩⟩
theorem sg_has (x : Int) : Maps.has sgD (.int .i64 x) = (decide (x = 2) || (decide (x = 3) || decide (x = 4))) := by
  rw [sgD_eq]
  have e : ∀ p : Int, (Lit.int .i64 p).sameKey (.int .i64 x) = decide (x = p) := fun p => by
    show decide (IntKind.i64 = IntKind.i64 ∧ p = x) = decide (x = p)
    by_cases h : x = p
    · rw [decide_eq_true h, decide_eq_true (And.intro rfl h.symm)]
    · rw [decide_eq_false h, decide_eq_false (fun hh => h hh.2.symm)]
  rw [Maps.has_eq]
  simp only [List.any_cons, List.any_nil, e, Bool.or_false]
theorem sg_same (x p : Int) : (Lit.int .i64 p).sameKey (.int .i64 x) = decide (p = x) := by
  show decide (IntKind.i64 = IntKind.i64 ∧ p = x) = decide (p = x)
  by_cases h : p = x
  · rw [decide_eq_true h, decide_eq_true (And.intro rfl h)]
  · rw [decide_eq_false h, decide_eq_false (fun hh => h hh.2)]
theorem sg_at {x : Int} {c : ByteArray} (h : Maps.has sgD (.int .i64 x) = true) (hat : ∀ zd, DataW.atKey sgD (.int .i64 x) zd = .lit (.string c.data.toList)) : (x = 2 ∨ x = 3 ∨ x = 4) ∧ c = sgS x := by
  rw [sg_has] at h
  simp only [Bool.or_eq_true, decide_eq_true_eq] at h
  refine ⟨h, ?_⟩
  have hz := hat (.lit (.string []))
  rw [sgD_eq] at hz
  rcases h with rfl | rfl | rfl
  · exact ba_toL (Lit.string.inj (DataW.lit.inj (hz.symm.trans (show _ = DataW.lit (.string plusB.data.toList) from rfl))))
  · exact ba_toL (Lit.string.inj (DataW.lit.inj (hz.symm.trans (show _ = DataW.lit (.string minB.data.toList) from rfl))))
  · exact ba_toL (Lit.string.inj (DataW.lit.inj (hz.symm.trans (show _ = DataW.lit (.string starB.data.toList) from rfl))))
theorem sgS2 : sgS 2 = plusB := rfl
theorem sgS3 : sgS 3 = minB := rfl
theorem sgS4 : sgS 4 = starB := rfl
/-- What is still to come, and what was met. -/
structure SgI (own : List ByteArray) (left : Lit → Bool) : Prop where
  has : ∀ kl, left kl = true → Maps.has sgD kl = true
  met : own.length ≠ 0 → ∀ p : Int, p = 2 ∨ p = 3 ∨ p = 4 → left (.int .i64 p) = false → own.getD (own.length - 1) ⟨#[]⟩ ≠ sgS p
theorem SgI.start (own : List ByteArray) : SgI own (Maps.has sgD) := ⟨fun _ h => h, fun _ p hp h => by rw [sg_has] at h; rcases hp with rfl | rfl | rfl <;> cases h⟩
theorem SgI.step {own : List ByteArray} {left : Lit → Bool} (h : SgI own left) {x : Int} (hx : own.length ≠ 0 → own.getD (own.length - 1) ⟨#[]⟩ ≠ sgS x) : SgI own (fun z => left z && !z.sameKey (.int .i64 x)) :=
  ⟨fun kl hk => h.has kl (by simp only [Bool.and_eq_true] at hk; exact hk.1), fun h0 p hp hk => by
    rw [sg_same] at hk
    by_cases hpx : p = x
    · rw [hpx]; exact hx h0
    · rw [decide_eq_false hpx] at hk
      exact h.met h0 p hp (by simpa using hk)⟩
theorem SgI.none {own : List ByteArray} {left : Lit → Bool} (h : SgI own left) (hl : ∀ kl, left kl = false) : plcI own = 1 := by
  unfold plcI
  by_cases h0 : own.length = 0
  · rw [if_pos h0]
  · rw [if_neg h0, if_neg (by rw [← sgS2]; exact h.met h0 2 (.inl rfl) (hl _)), if_neg (by rw [← sgS3]; exact h.met h0 3 (.inr (.inl rfl)) (hl _)), if_neg (by rw [← sgS4]; exact h.met h0 4 (.inr (.inr rfl)) (hl _))]
theorem plc_of {own : List ByteArray} (h0 : own.length ≠ 0) {x : Int} (hx : x = 2 ∨ x = 3 ∨ x = 4) (h : own.getD (own.length - 1) ⟨#[]⟩ = sgS x) : plcI own = x := by
  unfold plcI
  rw [if_neg h0, h]
  rcases hx with rfl | rfl | rfl
  · rw [if_pos sgS2]
  · rw [if_neg (by decide), if_pos sgS3]
  · rw [if_neg (by decide), if_neg (by decide), if_pos sgS4]
theorem SgR.below {W W' : World} {rm rr n cnt : Nat} {D : DataW Unit} {left : Lit → Bool} (h : W.ranges Tryz.prog 3 sgR rm rr n D left cnt) (hb : Below W.heap.size W W') : W'.ranges Tryz.prog 3 sgR rm rr n D left cnt :=
  h.kept (row := none) ⟨hb.os, hb.tape, hb.output, hb.size, fun k hk _ => hb.block k hk⟩ (by simp) (by simp)
end Go.Proofs.YtjhdeoniafahbaaGreatDoor
namespace Go.Proofs.YtjhdeoniafahbaaGreatDoor
open Go.RowKit
def zeroE : Array Value := #[.int .i64 0, .int .i64 0, .int .i64 0, .bool false, .slice none 0 0, .slice none 0 0]
theorem row6 {W : World} {B : Nat} {t : TypeId} (h : Row W B zeroE t) (c0 c1 c2 c3 c4 c5 : Value) : Row ((((((W.setCell ⟨B, 0, none⟩ (c0)).setCell ⟨B, 1, none⟩ (c1)).setCell ⟨B, 2, none⟩ (c2)).setCell ⟨B, 3, none⟩ (c3)).setCell ⟨B, 4, none⟩ (c4)).setCell ⟨B, 5, none⟩ (c5)) B #[c0, c1, c2, c3, c4, c5] t := by
  have h9 := (((((h.set 0 c0).set 1 c1).set 2 c2).set 3 c3).set 4 c4).set 5 c5
  simpa [zeroE] using h9
/-- The note, the result's cells, while Resolve runs. -/
structure RsS (x : Nt) (u s : Value) (w W : World) : Prop where
  ent : Row W w.heap.size (x.cells u s) 30
  res : Row W (w.heap.size + 1) zeroE 26
  bel : Below w.heap.size w W
theorem RsS.below {x : Nt} {u s : Value} {w W W' : World} (h : RsS x u s w W) (hb : Below W.heap.size W W') : RsS x u s w W' := ⟨h.ent.below hb, h.res.below hb, below_tr h.bel hb⟩
theorem RsS.al {x : Nt} {u s : Value} {w W : World} (h : RsS x u s w W) (o : Obj) : RsS x u s w (W.alloc o) := h.below (below_al W o)
theorem RsS.drew {x : Nt} {u s : Value} {w W : World} (h : RsS x u s w W) : RsS x u s w W.drew := h.below (Below.refl _ _).drew
theorem RsS.set {x : Nt} {u s : Value} {w W : World} (h : RsS x u s w W) (p : Addr) (v : Value) (hp : w.heap.size + 2 ≤ p.block) : RsS x u s w (W.setCell p v) := ⟨h.ent.other p v (by omega), h.res.other p v (by omega), h.bel.setCell (by omega) v⟩
/-- The entry is laid. -/
def RsC (x : Nt) (u s : Value) (ly : Int) (w : World) (p : Value) (wx : World) : Prop :=
  ∃ B ab cb, p = .pointer (some ⟨B, 0, none⟩) ∧ w.heap.size + 2 ≤ B ∧ Row wx B #[.int .i64 ly, .int .i64 0, .int .i64 0, .bool x.pos, .slice ab x.sup.length cb, .slice none 0 0] 26 ∧ OwS wx (.slice ab x.sup.length cb) x.sup ∧ RsS x u s w wx
theorem RsC.fold {x : Nt} {u s : Value} {ly : Int} {w w6 : World} {ad : Option Addr} {c : Nat} (hr6 : OwS w6 (.slice ad x.sup.length c) x.sup) (z1 : RsS x u s w w6) :
    RsC x u s ly w (.pointer (some ⟨w6.heap.size, 0, none⟩)) (w6.alloc (.cells #[.int .i64 ly, .int .i64 0, .int .i64 0, .bool x.pos, .slice ad x.sup.length c, .slice none 0 0] 26)) :=
  ⟨_, ad, c, rfl, z1.res.lt, row_nw _ _ _ rfl, hr6.below (below_al _ _), z1.al _⟩
theorem RsC.sets {x : Nt} {u s : Value} {ly : Int} {w w6 : World} {ad : Option Addr} {c B : Nat} (zr : Row w6 B zeroE 26) (hB : w.heap.size + 2 ≤ B) (hr6 : OwS w6 (.slice ad x.sup.length c) x.sup) (z1 : RsS x u s w w6) :
    RsC x u s ly w (.pointer (some ⟨B, 0, none⟩)) ((((((w6.setCell ⟨B, 0, none⟩ (.int .i64 ly)).setCell ⟨B, 1, none⟩ (.int .i64 0)).setCell ⟨B, 2, none⟩ (.int .i64 0)).setCell ⟨B, 3, none⟩ (.bool x.pos)).setCell ⟨B, 4, none⟩ (.slice ad x.sup.length c)).setCell ⟨B, 5, none⟩ (.slice none 0 0)) := by
  refine ⟨B, ad, c, rfl, hB, row6 zr _ _ _ _ _ _, ?_, ?_⟩
  · have h0 := hr6.setR zr (i := 0) (by decide) (.int .i64 ly)
    have r0 := zr.set 0 (.int .i64 ly)
    have h1 := h0.setR r0 (i := 1) (by decide) (.int .i64 0)
    have r1 := r0.set 1 (.int .i64 0)
    have h2 := h1.setR r1 (i := 2) (by decide) (.int .i64 0)
    have r2 := r1.set 2 (.int .i64 0)
    have h3 := h2.setR r2 (i := 3) (by decide) (.bool x.pos)
    have r3 := r2.set 3 (.bool x.pos)
    have h4 := h3.setR r3 (i := 4) (by decide) (.slice ad x.sup.length c)
    have r4 := r3.set 4 (.slice ad x.sup.length c)
    have h5 := h4.setR r4 (i := 5) (by decide) (.slice none 0 0)
    have r5 := r4.set 5 (.slice none 0 0)
    exact h5
  · have h0 := z1.set ⟨B, 0, none⟩ (.int .i64 ly) hB
    have h1 := h0.set ⟨B, 1, none⟩ (.int .i64 0) hB
    have h2 := h1.set ⟨B, 2, none⟩ (.int .i64 0) hB
    have h3 := h2.set ⟨B, 3, none⟩ (.bool x.pos) hB
    have h4 := h3.set ⟨B, 4, none⟩ (.slice ad x.sup.length c) hB
    have h5 := h4.set ⟨B, 5, none⟩ (.slice none 0 0) hB
    exact h5
/-- An entry whose fields are filled in, beside the note and the result's cells. -/
structure RsM (x : Nt) (u s : Value) (w : World) (B : Nat) (su sv : Value) (phs : List VrV) (E : En) (W : World) : Prop where
  os : RsS x u s w W
  row : Row W B (E.cells su sv) 26
  sup : OwS W su x.sup
  own : W.ownsRow (w.heap.size + 2) 63 2 sv phs.length (vrCs phs)
  rds : RdVs W phs
theorem RsM.below {x : Nt} {u s : Value} {w W W' : World} {B : Nat} {su sv : Value} {phs : List VrV} {E : En} (h : RsM x u s w B su sv phs E W) (hb : Below W.heap.size W W') : RsM x u s w B su sv phs E W' :=
  ⟨h.os.below hb, h.row.below hb, h.sup.below hb, h.own.kept (row := none) ⟨hb.os, hb.tape, hb.output, hb.size, fun k hk _ => hb.block k hk⟩ (by cases sv.ownBlock <;> simp), h.rds.below hb⟩
theorem RsM.al {x : Nt} {u s : Value} {w W : World} {B : Nat} {su sv : Value} {phs : List VrV} {E : En} (h : RsM x u s w B su sv phs E W) (o : Obj) : RsM x u s w B su sv phs E (W.alloc o) := h.below (below_al W o)
theorem RsM.drew {x : Nt} {u s : Value} {w W : World} {B : Nat} {su sv : Value} {phs : List VrV} {E : En} (h : RsM x u s w B su sv phs E W) : RsM x u s w B su sv phs E W.drew := h.below (Below.refl _ _).drew
theorem RsM.rd {x : Nt} {u s : Value} {w W : World} {B : Nat} {su sv : Value} {phs : List VrV} {E : En} (h : RsM x u s w B su sv phs E W) (h1 : E.sup = x.sup) (h2 : phs.map (·.1) = E.vs) : RdE W su sv E :=
  ⟨by rw [h1]; exact h.sup.rd, by rw [← h2]; exact RdV.of_own h.own h.rds⟩
theorem RsM.put {x : Nt} {u s : Value} {w W : World} {B : Nat} {su sv : Value} {phs : List VrV} {E : En} (h : RsM x u s w B su sv phs E W) (hB : w.heap.size + 2 ≤ B) (i : Nat) (c : Value) (E' : En) (hE : (E.cells su sv).setIfInBounds i c = E'.cells su sv) : RsM x u s w B su sv phs E' (W.setCell ⟨B, i, none⟩ c) :=
  ⟨h.os.set _ _ hB, by rw [← hE]; exact h.row.set i c, h.sup.setR h.row (by decide) _, own_setR h.own _ _ (row_own_ne2 h.row h.own (by decide)), fun q hq => ⟨(h.rds q hq).1.setR h.row (by decide) _, (h.rds q hq).2.setR h.row (by decide) _⟩⟩
/-- A further variant. -/
theorem RsM.push {x : Nt} {u s : Value} {w W w9 : World} {B : Nat} {su sv sv' : Value} {phs : List VrV} {E : En} (h : RsM x u s w B su sv phs E W) (hBlo : w.heap.size + 2 ≤ B) (p : VrV) (h1 : OwS W p.2.1 p.1.ws) (h2 : OwS W p.2.2 p.1.sg)
    (ho : w9.ownsRow (w.heap.size + 2) 63 2 sv' (phs.length + 1) (vrCs phs ++ [p.2.1, p.2.2])) (hb : Below (w.heap.size + 2) W w9) (hg : W.grownBy w9 sv.ownBlock) :
    RsM x u s w B su sv' (phs ++ [p]) E (w9.setCell ⟨B, 5, none⟩ sv') := by
  have hos : RsS x u s w w9 := ⟨(hb.block _ (by omega)).trans h.os.ent, (hb.block _ (by omega)).trans h.os.res, h.os.bel.trans (hb.mono (by omega))⟩
  have hrow : Row w9 B (E.cells su sv) 26 := (hg.block _ h.row.lt (Ne.symm (row_own_ne2 h.row h.own (by decide)))).trans h.row
  have hsup : OwS w9 su x.sup := h.sup.grown h.own (by decide) hg
  have g1 : OwS w9 p.2.1 p.1.ws := h1.grown h.own (by decide) hg
  have g2 : OwS w9 p.2.2 p.1.sg := h2.grown h.own (by decide) hg
  refine ⟨hos.set _ _ hBlo, hrow.set 5 sv', hsup.setR hrow (by decide) _, ?_, fun q hq => ?_⟩
  · rw [List.length_append, vrCs_snoc]
    exact own_setR ho _ _ (row_own_ne2 hrow ho (by decide))
  · rcases List.mem_append.1 hq with hq | hq
    · exact ⟨((h.rds q hq).1.grown h.own (by decide) hg).setR hrow (by decide) _, ((h.rds q hq).2.grown h.own (by decide) hg).setR hrow (by decide) _⟩
    · rw [List.mem_singleton.1 hq]
      exact ⟨g1.setR hrow (by decide) _, g2.setR hrow (by decide) _⟩
/-- An entry whose lists lie in rows that the call made. -/
def OwE (W : World) (u s : Value) (y : En) : Prop := OwS W u y.sup ∧ ∃ (base : Nat) (phs : List VrV), W.ownsRow base 63 2 s phs.length (vrCs phs) ∧ RdVs W phs ∧ phs.map (·.1) = y.vs
theorem OwE.rd {W : World} {u s : Value} {y : En} (h : OwE W u s y) : RdE W u s y := by
  obtain ⟨h1, base, phs, h2, h3, h4⟩ := h
  exact ⟨h1.rd, by rw [← h4]; exact RdV.of_own h2 h3⟩
theorem OwE.put {W : World} {u s : Value} {y : En} (h : OwE W u s y) {B : Nat} {cs : Array Value} (hr : Row W B cs 26) (i : Nat) (c : Value) : OwE (W.setCell ⟨B, i, none⟩ c) u s y := by
  obtain ⟨h1, base, phs, h2, h3, h4⟩ := h
  exact ⟨h1.setR hr (by decide) _, base, phs, own_setR h2 _ _ (row_own_ne2 hr h2 (by decide)), fun q hq => ⟨(h3 q hq).1.setR hr (by decide) _, (h3 q hq).2.setR hr (by decide) _⟩, h4⟩
theorem OwE.set6 {W : World} {u s : Value} {y : En} (h : OwE W u s y) {B : Nat} {cs : Array Value} (hr : Row W B cs 26) (N : En) : OwE ((((((W.setCell ⟨B, 0, none⟩ (.int .i64 N.ly)).setCell ⟨B, 1, none⟩ (.int .i64 N.fr)).setCell ⟨B, 2, none⟩ (.int .i64 N.to_)).setCell ⟨B, 3, none⟩ (.bool N.pos)).setCell ⟨B, 4, none⟩ (u)).setCell ⟨B, 5, none⟩ (s)) u s y := by
  have h0 := h.put hr 0 (.int .i64 N.ly)
  have r0 := hr.set 0 (.int .i64 N.ly)
  have h1 := h0.put r0 1 (.int .i64 N.fr)
  have r1 := r0.set 1 (.int .i64 N.fr)
  have h2 := h1.put r1 2 (.int .i64 N.to_)
  have r2 := r1.set 2 (.int .i64 N.to_)
  have h3 := h2.put r2 3 (.bool N.pos)
  have r3 := r2.set 3 (.bool N.pos)
  have h4 := h3.put r3 4 (u)
  have r4 := r3.set 4 (u)
  have h5 := h4.put r4 5 (s)
  have r5 := r4.set 5 (s)
  exact h5
theorem bel_set6 {w W : World} {B : Nat} (h : Below w.heap.size w W) (hB : w.heap.size ≤ B) (N : En) (u s : Value) : Below w.heap.size w ((((((W.setCell ⟨B, 0, none⟩ (.int .i64 N.ly)).setCell ⟨B, 1, none⟩ (.int .i64 N.fr)).setCell ⟨B, 2, none⟩ (.int .i64 N.to_)).setCell ⟨B, 3, none⟩ (.bool N.pos)).setCell ⟨B, 4, none⟩ (u)).setCell ⟨B, 5, none⟩ (s)) := by
  have h0 := h.setCell (p := ⟨B, 0, none⟩) hB (.int .i64 N.ly)
  have h1 := h0.setCell (p := ⟨B, 1, none⟩) hB (.int .i64 N.fr)
  have h2 := h1.setCell (p := ⟨B, 2, none⟩) hB (.int .i64 N.to_)
  have h3 := h2.setCell (p := ⟨B, 3, none⟩) hB (.bool N.pos)
  have h4 := h3.setCell (p := ⟨B, 4, none⟩) hB (u)
  have h5 := h4.setCell (p := ⟨B, 5, none⟩) hB (s)
  exact h5
theorem zsets6_bel {w W : World} (h : Below w.heap.size w W) : Below w.heap.size w ((((((W.setCell ⟨w.heap.size + 1, 0, none⟩ (.int .i64 0)).setCell ⟨w.heap.size + 1, 1, none⟩ (.int .i64 0)).setCell ⟨w.heap.size + 1, 2, none⟩ (.int .i64 0)).setCell ⟨w.heap.size + 1, 3, none⟩ (.bool false)).setCell ⟨w.heap.size + 1, 4, none⟩ (.slice none 0 0)).setCell ⟨w.heap.size + 1, 5, none⟩ (.slice none 0 0)) := by
  have h0 := h.setCell (p := ⟨w.heap.size + 1, 0, none⟩) (Nat.le_succ _) (.int .i64 0)
  have h1 := h0.setCell (p := ⟨w.heap.size + 1, 1, none⟩) (Nat.le_succ _) (.int .i64 0)
  have h2 := h1.setCell (p := ⟨w.heap.size + 1, 2, none⟩) (Nat.le_succ _) (.int .i64 0)
  have h3 := h2.setCell (p := ⟨w.heap.size + 1, 3, none⟩) (Nat.le_succ _) (.bool false)
  have h4 := h3.setCell (p := ⟨w.heap.size + 1, 4, none⟩) (Nat.le_succ _) (.slice none 0 0)
  have h5 := h4.setCell (p := ⟨w.heap.size + 1, 5, none⟩) (Nat.le_succ _) (.slice none 0 0)
  exact h5
/-- What Resolve answers, for lines that are right, a layer and a valid note. -/
def rsF (ls : List Int) (ws : List ByteArray) (n : Nt) : Int × Int × Int := findRes (wWs ls ws n.fr n.to_) n.lf n.ll n.ln
def rsP (ls : List Int) (ws : List ByteArray) (n : Nt) : Int × Int :=
  if n.pl = 1 then (wAt ls n.fr n.to_ + (rsF ls ws n).1, wAt ls n.fr n.to_ + (rsF ls ws n).2.1) else if n.pl = 2 then (wAt ls n.fr n.to_ + (rsF ls ws n).2.1, wAt ls n.fr n.to_ + (rsF ls ws n).2.1) else (0, 0)
def rsE (ls : List Int) (ws : List ByteArray) (ly : Int) (n : Nt) : En := ⟨ly, (rsP ls ws n).1, (rsP ls ws n).2, n.pos, n.sup, n.vs⟩
def rsI (ls la : List Int) (ws : List ByteArray) (ly : Int) (n : Nt) : Int :=
  if listsI ls la ws.length ≠ 0 then listsI ls la ws.length else if ly < 0 ∨ 62 < ly then 2 else if nteI n ≠ 0 then nteI n
  else if n.pl ≠ 4 ∧ (rsF ls ws n).2.2 ≠ 0 then 26
  else if ofI ls la ws (rsE ls ws ly n) ≠ 0 ∨ ntB (ofN ls la ws (rsE ls ws ly n)) n = false then 26 else 0
end Go.Proofs.YtjhdeoniafahbaaGreatDoor
