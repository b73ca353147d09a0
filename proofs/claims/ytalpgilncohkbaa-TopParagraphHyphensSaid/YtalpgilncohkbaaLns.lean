/-
  paragraph.lines and the function that it hands back.
-/
import Derived.Test.YtalpgilncohkbaaFip
import Derived.Test.YtalpgilncohkbaaWid3
import Derived.Test.YtalpgilncohkbaaIta
namespace Go.Proofs.Ytalpgilncohkbaa
open Go.RowKit
attribute [local go_sem] Oper.semAt_some

theorem wpListIn_load_row {F : Fence} {m : Nat} {P : Program} {ops : Array Oper} {rest : List Oper} {o : Oper} {a : Act} {w : World} {Q : Exit → Act → World → Prop} (hgd : o.guard = none) (ty : TypeId) (x : Operand) (ho : o.op = .load ty x)
    (g : Nat) (hx : a.eval x = .pointer (some ⟨g, 0, none⟩)) (t : TypeId) (cs : Array Value) (fr : Nat × Nat) (d : TypeDesc) (hg : w.heap[g]? = some (.cells cs t fr))
    (hu : P.underlying ty = some d) (hd : (match d with | .struct _ | .array _ _ => true | _ => false) = true) (hi : (P.info? ty).map (·.size) = some cs.size)
    (h : wpListIn F m P ops Q rest (a.put o.dst (.agg cs)) w) : wpListIn F m P ops Q (o :: rest) a w := by
  refine wpListIn_plain hgd fun K hK' => ?_
  unfold Oper.wpIn
  refine ⟨?_, ?_⟩
  · simp [Oper.about, ho]
  · rw [Oper.semAt_plain F _ _ (by rw [ho]; intro c hc'; cases hc')]
    simp only [execOp, ho, hx, Instr.loadAt, Instr.sureAddr, Sem.run_bind, Sem.run_pure, Result.andThen_ok, run_loadVar_row w g t ty cs fr d hg hu hd hi]
    exact hK' _ _ h
/-- What a round keeps: the cells of all blocks but one. -/
structure KpY (Z : Nat) (A B : World) : Prop where
  sz : A.heap.size ≤ B.heap.size
  cl : ∀ (p : Addr) (v : Value), p.block ≠ Z → A.cell? p = some v → B.cell? p = some v
  rw : ∀ (k : Nat) (cs : Array Value) (t : TypeId), k ≠ Z → Row A k cs t → Row B k cs t
theorem KpY.tr {Z : Nat} {A B C : World} (h : KpY Z A B) (k : KpY Z B C) : KpY Z A C :=
  ⟨Nat.le_trans h.sz k.sz, fun p v hp hv => k.cl p v hp (h.cl p v hp hv), fun b cs t hb hr => k.rw b cs t hb (h.rw b cs t hb hr)⟩
theorem cell_obj {W : World} {p : Addr} {v : Value} (h : W.cell? p = some v) : ∃ o : Obj, W.heap[p.block]? = some o ∧ o.isCells = true := by
  unfold World.cell? at h
  cases hh : W.heap[p.block]? with
  | none => rw [hh] at h; cases h
  | some o =>
    rw [hh] at h
    cases o <;> first | exact ⟨_, rfl, rfl⟩ | cases h
theorem KpY.put {Z m : Nat} (W : World) (l : Nat) (o o' : Obj) (_ : m ≤ l) (ho : W.heap[l]? = some o) (hc : o.isCells = false) (_ : o.isWalk = false) : KpY Z W (W.putObj l o') := by
  refine ⟨by simp [World.putObj], fun p v _ hv => ?_, fun k cs t _ hr => ?_⟩
  · obtain ⟨o1, h1, h2⟩ := cell_obj hv
    have hne : p.block ≠ l := fun e => by rw [e, ho] at h1; cases h1; rw [hc] at h2; cases h2
    exact (World.cell?_of_block (World.putObj_heap_other hne)).trans hv
  · have h1 : W.heap[k]? = _ := hr
    have hne : k ≠ l := fun e => by rw [e, ho] at h1; cases h1; cases hc
    exact (World.putObj_heap_other hne).trans h1
theorem KpY.of {Z : Nat} {A B : World} (hb : Below A.heap.size A B) : KpY Z A B := ⟨hb.size, fun _ _ _ hv => Below.keeps hb _ _ hv, fun _ _ _ _ hr => Row.below hr hb⟩
theorem KpY.set (Z : Nat) (A : World) (v : Value) : KpY Z A (A.setCell ⟨Z, 0, none⟩ v) := by
  refine ⟨by simp [World.setCell], fun p x hp hx => ?_, fun k cs t hk hr => hr.other _ _ (by simpa using hk)⟩
  exact (World.cell?_of_block (Below.heap_setCell _ _ _ _ (by simpa using hp))).trans hx
theorem KpY.refl (Z : Nat) (A : World) : KpY Z A A := ⟨Nat.le_refl _, fun _ _ _ h => h, fun _ _ _ _ h => h⟩
/-- The breaks of the feasible lines from an index on, with their costs. -/
def lnsGo (l : List It) (wd : Int) (first : Nat) : Nat → Ms → Nat → List (Nat × Int)
  | _, _, 0 => []
  | to_, m, k + 1 =>
    (if endsF l to_ = true ∧ (fitF l wd m to_).2.2 = true then [(to_, (fitF l wd m to_).1 + penF l to_)] else []) ++
      (if forcedF l to_ = true then [] else lnsGo l wd first (to_ + 1) (match l[to_]? with | some x => if first ≤ to_ then addM m x else m | none => m) k)
def lnsF (l : List It) (wd : Int) (f : Nat) : List (Nat × Int) := lnsGo l wd (beginF l f (l.length - f)) f ⟨0, 0, 0⟩ (l.length + 1 - f)
theorem penF_bd {l : List It} (hS : ∀ x ∈ l, ItS x) (i : Nat) : 0 ≤ penF l i ∧ penF l i ≤ 10000 := by
  unfold penF
  split
  · rename_i x hx
    split
    · rename_i h
      have := hS x (List.mem_of_getElem? hx)
      rcases this with ⟨h1, _⟩ | ⟨h1, _⟩ | ⟨_, _, _, _, h5 | h5⟩
      · omega
      · omega
      · exact absurd h5 h.2
      · exact h5
    · exact ⟨Int.le_refl _, by decide⟩
  · exact ⟨Int.le_refl _, by decide⟩
theorem lnsGo_mem {l : List It} {wd : Int} {first : Nat} (hS : ∀ x ∈ l, ItS x) : ∀ {k to_ : Nat} {m : Ms} {x : Nat × Int}, x ∈ lnsGo l wd first to_ m k → to_ ≤ x.1 ∧ x.1 < to_ + k ∧ 0 ≤ x.2 ∧ x.2 ≤ 20000
  | 0, _, _, _, h => by cases h
  | k + 1, to_, m, x, h => by
    rw [lnsGo] at h
    rcases List.mem_append.1 h with h | h
    · split at h
      · rcases List.mem_singleton.1 h with rfl
        have h1 := fitF_bd l wd m to_
        have h2 := penF_bd hS to_
        exact ⟨Nat.le_refl _, by show to_ < _; omega, by show 0 ≤ (fitF l wd m to_).1 + penF l to_; omega, by show (fitF l wd m to_).1 + penF l to_ ≤ _; omega⟩
      · cases h
    · split at h
      · cases h
      · have := lnsGo_mem hS h; omega
theorem lnsF_mem {l : List It} {wd : Int} {f : Nat} (hS : ∀ x ∈ l, ItS x) (hf : f ≤ l.length) {x : Nat × Int} (h : x ∈ lnsF l wd f) : f ≤ x.1 ∧ x.1 ≤ l.length ∧ 0 ≤ x.2 ∧ x.2 ≤ 20000 := by
  have := lnsGo_mem hS h; omega
theorem lnsGo_len (l : List It) (wd : Int) (first : Nat) : ∀ (k to_ : Nat) (m : Ms), (lnsGo l wd first to_ m k).length ≤ k
  | 0, _, _ => Nat.le_refl _
  | k + 1, to_, m => by
    rw [lnsGo, List.length_append]
    have h1 : (if endsF l to_ = true ∧ (fitF l wd m to_).2.2 = true then [(to_, (fitF l wd m to_).1 + penF l to_)] else []).length ≤ 1 := by split <;> simp
    have h2 : (if forcedF l to_ = true then [] else lnsGo l wd first (to_ + 1) (match l[to_]? with | some x => if first ≤ to_ then addM m x else m | none => m) k).length ≤ k := by
      split
      · exact Nat.zero_le _
      · exact lnsGo_len l wd first k _ _
    omega
/-- The sums up to an index. -/
structure MsI (l : List It) (m : Ms) (i : Nat) : Prop where
  n : 0 ≤ m.n
  s : 0 ≤ m.s
  h : 0 ≤ m.h
  sum : m.n + m.s + m.h ≤ widN l i
theorem wid_nn {x : It} (h : ItS x) : 0 ≤ wid x := by
  have := h.bd
  obtain ⟨h1, _, ⟨h3, _⟩, ⟨h5, _⟩⟩ := this
  unfold wid; omega
theorem widN_step {l : List It} {i : Nat} {x : It} (h : l[i]? = some x) : widN l (i + 1) = widN l i + wid x := by rw [widN, h]
theorem widN_mono {l : List It} (hS : ∀ x ∈ l, ItS x) : ∀ (d i : Nat), widN l i ≤ widN l (i + d)
  | 0, i => Int.le_refl _
  | d + 1, i => by
    have h1 := widN_mono hS d i
    have h2 : widN l (i + d) ≤ widN l (i + d + 1) := by
      rw [widN]
      split
      · rename_i x hx
        have := wid_nn (hS x (List.mem_of_getElem? hx)); omega
      · omega
    rw [← Nat.add_assoc]
    omega
theorem MsI.bd {l : List It} {m : Ms} {i : Nat} (h : MsI l m i) (hS : ∀ x ∈ l, ItS x) (hok : ckIts l = 0) (hi : i ≤ l.length) : MsB m := by
  have h1 := widN_mono hS (l.length - i) i
  rw [show i + (l.length - i) = l.length by omega] at h1
  have h2 := (ckIts_ok hok).2.2
  obtain ⟨a, b, c, d⟩ := h
  exact ⟨⟨a, by omega⟩, ⟨b, by omega⟩, ⟨c, by omega⟩⟩
theorem MsI.skip {l : List It} {m : Ms} {i : Nat} (h : MsI l m i) (hS : ∀ x ∈ l, ItS x) : MsI l m (i + 1) := ⟨h.n, h.s, h.h, by have := widN_mono hS 1 i; have := h.sum; omega⟩
theorem MsI.add {l : List It} {m : Ms} {i : Nat} {x : It} (h : MsI l m i) (hS : ∀ x ∈ l, ItS x) (hx : l[i]? = some x) : MsI l (addM m x) (i + 1) := by
  have hb := (hS x (List.mem_of_getElem? hx)).bd
  obtain ⟨b1, _, ⟨b3, _⟩, ⟨b5, _⟩⟩ := hb
  unfold addM
  split
  · exact h.skip hS
  · obtain ⟨a, b, c, d⟩ := h
    have hw := widN_step hx
    refine ⟨by show 0 ≤ m.n + x.w; omega, by show 0 ≤ m.s + x.s; omega, by show 0 ≤ m.h + x.h; omega, ?_⟩
    show m.n + x.w + (m.s + x.s) + (m.h + x.h) ≤ _
    rw [hw]
    unfold wid
    omega
theorem penW_bd {l : List It} (hS : ∀ x ∈ l, ItS x) (hok : ckIts l = 0) (i : Nat) : 0 ≤ penW l i ∧ penW l i ≤ 1073741824 := by
  unfold penW
  split
  · rename_i x hx
    split
    · have h1 := (hS x (List.mem_of_getElem? hx)).bd
      have h2 := (ckIts_ok hok).2.1 x (List.mem_of_getElem? hx)
      exact ⟨h1.1, h2⟩
    · exact ⟨Int.le_refl _, by decide⟩
  · exact ⟨Int.le_refl _, by decide⟩

set_option maxRecDepth 100000 in
set_option maxHeartbeats 16000000 in
theorem lines1_in (n : Nat) (hn : 1 ≤ n) (l : List It) (wd : Int) (f : Nat) (a : Option Addr) (cap Bl Bf Bw N : Nat) (hS : ∀ x ∈ l, ItS x) (hok : ckIts l = 0) (hf : f ≤ l.length) (hw0 : 0 ≤ wd) (hw1 : wd ≤ 1073741824) (hN : (lnsF l wd f).length ≤ N)
    (M : World → Prop) (hMP : ∀ A, M A → A.cell? ⟨Bl, 0, none⟩ = some (.slice a l.length cap) ∧ A.cell? ⟨Bf, 0, none⟩ = some (.int .i64 (f : Int)) ∧ A.cell? ⟨Bw, 0, none⟩ = some (.int .i64 wd) ∧ RdIt A (.slice a l.length cap) l) (hMB : ∀ A C, M A → Below A.heap.size A C → M C)
    (Kp : World → World → Prop) (hK1 : ∀ A C, Kp A C → M A → M C) (W : World) (hMS : ∀ A k j v, W.heap.size ≤ k → M A → M (A.setCell ⟨k, j, none⟩ v)) (hKr : ∀ A C B cs t, W.heap.size ≤ B → Kp A C → Row A B cs t → Row C B cs t)
    (yl : Nat) (J Jx : List (Nat × Int) → World → Prop)
    (hY : ∀ pre x W, x ∈ lnsF l wd f → J pre W → pre.length < N → YieldAt Fence.wide (n - 1) Try.prog yl #[.int .i64 (x.1 : Int), .int .i64 x.2] W fun e W' =>
      (e = .returned (.bool true) ∧ J (pre ++ [x]) W' ∧ Kp W W') ∨ (e = .returned (.bool false) ∧ Jx (pre ++ [x]) W'))
    (hJA : AbidesFrom W.heap.size J) (hJS : ∀ pre A k j v, W.heap.size ≤ k → J pre A → J pre (A.setCell ⟨k, j, none⟩ v)) (hM : M W) (h0 : J [] W) :
    CallsIn Fence.wide n Try.prog 32 #[.func (.yield yl) #[] #[], .pointer (some ⟨Bl, 0, none⟩), .pointer (some ⟨Bf, 0, none⟩), .pointer (some ⟨Bw, 0, none⟩)] W fun e W' => (∃ v, e = .returned v) ∧
      (J (lnsF l wd f) W' ∨ (∃ pre : List (Nat × Int), (∃ r, pre ++ r = lnsF l wd f) ∧ Jx pre W')) := by
  have HS := hid hS
  have HOK := hid hok
  have hl4 := (ckIts_ok hok).1
  have HJB : Hid (∀ pre W1 W2, J pre W1 → Below W1.heap.size W1 W2 → J pre W2) := fun pre W1 W2 hj hb => hJA _ _ _ none hj ⟨hb.os, hb.tape, hb.output, hb.size, fun k hk _ => hb.block k hk⟩ (fun r e => by cases e)
  have HK1 := hid hK1
  have HMP := hid hMP
  have HMB := hid hMB
  have HKR := hid (fun A C cs (h : Kp A C) => hKr A C W.heap.size cs 75 (Nat.le_refl _) h)
  have HCH : Hid (∀ pre A C, ChgM W.heap.size A C → J pre A → M A → J pre C ∧ M C) := fun pre A C h hj hm => h (fun W1 => J pre W1 ∧ M W1) (fun A D hA hb => ⟨HJB.out _ _ _ hA.1 hb, HMB.out _ _ hA.2 hb⟩) (fun A j v hA => ⟨hJS _ _ _ _ _ (Nat.le_refl _) hA.1, hMS _ _ _ _ (Nat.le_refl _) hA.2⟩) ⟨hj, hm⟩
  have HY := hid hY
  have HNL := hid hN
  have HM0 := hid (hMB _ _ hM (below_al W (.cells (⟨0, 0, 0⟩ : Ms).cells 75)))
  have hJ0 := HJB.out _ _ _ h0 (below_al W (.cells (⟨0, 0, 0⟩ : Ms).cells 75))
  have HR0 := hid (row_nw W (⟨0, 0, 0⟩ : Ms).cells 75 rfl)
  obtain ⟨c1, c2, c3, _⟩ := HMP.out _ HM0.out
  have HBG := fun w' h => hid (begin_any (.slice a l.length cap) l f w' h hf)
  have HBGR := hid (HBG _ (HMP.out _ HM0.out).2.2.2)
  clear hS hok hJA hK1 hMP hMB hKr hMS hJS hY hN hM h0 HBG
  obtain ⟨L, hL⟩ : ∃ L, L = lnsF l wd f := ⟨_, rfl⟩
  have HP0 : Hid (lnsGo l wd (beginF l f (l.length - f)) f ⟨0, 0, 0⟩ (l.length + 1 - f) = L) := hL.symm
  rw [← hL] at HNL HY
  rw [← hL]
  clear hL
  have HFB := hid (beginF_bd l (l.length - f) f)
  have hfb : beginF l f (l.length - f) ≤ l.length := by have := HFB.out; omega
  generalize beginF l f (l.length - f) = fi at *
  unfold Ms.cells at HR0 HM0 hJ0 c1 c2 c3 HBGR
  refine callsIn_of_wp Try.func32 rfl trivial ?_ rfl
  simp only [Try.ntmps32, List.size_toArray, List.length_cons, List.length_nil, Nat.reduceAdd, Nat.reduceSub, Array.replicate_succ, Array.replicate_zero, List.push_toArray, List.append_toArray, List.nil_append, List.cons_append]
  gi_wp2_with (first | (refine ⟨trivial, ?_⟩; gi_at_call 33; refine (callsIn_wide.2 HBGR.out.out).mono ?_; rintro e w2 ⟨rfl, rfl⟩) | fail)
  generalize W.alloc (.cells #[.int .i64 0, .int .i64 0, .int .i64 0] 75) = W0 at *
  obtain ⟨Bm, hBm⟩ : ∃ Bm, Bm = W.heap.size := ⟨_, rfl⟩
  rw [← hBm] at HR0 HCH HKR ⊢
  have HBM := hid hBm
  clear hBm c1 c2 c3 HBGR
  gi_loopw [7] (fun t wr => ∃ (to_ : Nat) (pre : List (Nat × Int)) (m : Ms), f ≤ to_ ∧ to_ ≤ l.length + 1 ∧ t = .int .i64 to_ ∧ Hid (pre ++ lnsGo l wd fi to_ m (l.length + 1 - to_) = L) ∧ J pre wr ∧ Hid (M wr) ∧ Hid (Row wr Bm m.cells 75) ∧ Hid (to_ ≤ l.length → MsI l m to_)) (fun t _ => l.length + 1 - (intOf t).toNat)
  case atStart => exact ⟨f, [], ⟨0, 0, 0⟩, Nat.le_refl _, by omega, rfl, by rw [List.nil_append]; exact HP0.out, hJ0, HM0.out, HR0.out, fun _ => ⟨Int.le_refl _, Int.le_refl _, Int.le_refl _, by have h := widN_mono HS.out f 0; rw [Nat.zero_add] at h; exact h⟩⟩
  case round =>
    rename_i wr
    obtain ⟨to_, pre, m, hft, hto, rfl, HP, hJ, HM, HR, HI⟩ := hrel
    obtain ⟨c1, c2, c3, hrd⟩ := HMP.out _ HM.out
    have HRD := hid hrd
    clear hrd c2
    by_cases hlt : to_ ≤ l.length
    · have hti : (to_ : Int) ≤ (l.length : Int) := by omega
      obtain ⟨k, hk⟩ : ∃ k, l.length + 1 - to_ = k + 1 := ⟨l.length - to_, by omega⟩
      have hk2 : l.length + 1 - (to_ + 1) = k := by omega
      rw [hk, lnsGo] at HP
      have HK := hid hk2
      have HMI := hid (HI.out hlt)
      have HMB2 := hid (HMI.out.bd HS.out HOK.out hlt)
      have HPW := hid (penW_bd HS.out HOK.out to_)
      have HEN := fun w' h => hid (ends_any (.slice a l.length cap) l to_ w' h hlt)
      have HFI := fun w' h => hid (fit_any (.slice a l.length cap) l wd m to_ w' h hlt HMB2.out hw0 hw1 HPW.out)
      have HPE := fun w' h => hid (penalty_any (.slice a l.length cap) l to_ w' h)
      have HFO := fun w' h => hid (forced_any (.slice a l.length cap) l to_ w' h)
      have HFBD := hid (fitF_bd l wd m to_)
      have HPBD := hid (penF_bd HS.out to_)
      clear hk hk2 HI
      cases hen : endsF l to_ with
      | false =>
        have HP2 : Hid (pre ++ (if forcedF l to_ = true then [] else lnsGo l wd fi (to_ + 1) (match l[to_]? with | some x => if fi ≤ to_ then addM m x else m | none => m) k) = L) := by
          have h := HP.out
          have e : (if endsF l to_ = true ∧ (fitF l wd m to_).2.2 = true then [(to_, (fitF l wd m to_).1 + penF l to_)] else ([] : List (Nat × Int))) = [] := if_neg (fun h => by rw [hen] at h; cases h.1)
          rw [e, List.nil_append] at h
          exact h
        have HEN2 := hid (HEN wr HRD.out)
        rw [hen] at HEN2
        obtain ⟨w3, rfl⟩ : ∃ w3, w3 = wr := ⟨_, rfl⟩
        have hJ3 := hJ
        have HM3 := hid HM.out
        have HR3 := hid HR.out
        have HRD3 := hid HRD.out
        clear hen HP HFI HPE HEN hJ HM HR HRD
        have HFO2 := hid (HFO _ HRD3.out)
        cases hfo : forcedF l to_ with
        | true =>
          rw [hfo] at HFO2 HP2
          rw [if_pos rfl, List.append_nil] at HP2
          gi_wp2_with (first | (refine ⟨trivial, ?_⟩; gi_at_call 34; refine (callsIn_wide.2 HEN2.out).mono ?_; rintro e w2 ⟨rfl, rfl⟩) | (refine ⟨trivial, ?_⟩; gi_at_call 37; refine (callsIn_wide.2 HFO2.out).mono ?_; rintro e w6 ⟨rfl, rfl⟩) | fail)
          refine bodyPost_ret (results_none rfl _ _ _) rfl ?_
          exact ⟨⟨_, rfl⟩, .inl (by rw [← HP2.out]; exact hJ3)⟩
        | false =>
          rw [hfo] at HFO2 HP2
          rw [if_neg Bool.false_ne_true] at HP2
          clear hfo
          by_cases hl2 : to_ < l.length
          · have g1 : (to_ : Int) < (l.length : Int) := by omega
            have g0 : (0 : Int) ≤ (to_ : Int) := by omega
            obtain ⟨x, b, off, hx, rfl, d0, d1, d2, d3, d4, d5⟩ := RdIt.at HRD3.out hl2
            rw [hx] at HP2
            have hxb := (HS.out x (List.mem_of_getElem? hx)).bd
            have HMA := hid (HMI.out.add HS.out hx)
            have HMK := hid (HMI.out.skip HS.out)
            obtain ⟨⟨n0, n1⟩, ⟨s0, s1⟩, ⟨h0, h1⟩⟩ := HMB2.out
            obtain ⟨xb1, xb2, ⟨xb3, xb4⟩, ⟨xb5, xb6⟩⟩ := hxb
            clear hx
            by_cases hfi : fi ≤ to_
            · have g2 : (fi : Int) ≤ (to_ : Int) := by omega
              simp only [if_pos hfi] at HP2
              have HAD := hid (add_any Bm m x _ HR3.out ⟨n0, by omega⟩ ⟨s0, by omega⟩ ⟨h0, by omega⟩ ⟨xb1, xb2⟩ ⟨xb3, by omega⟩ ⟨xb5, by omega⟩)
              gi_wp2_with (first | (refine ⟨trivial, ?_⟩; gi_at_call 34; refine (callsIn_wide.2 HEN2.out).mono ?_; rintro e w2 ⟨rfl, rfl⟩) | (refine ⟨trivial, ?_⟩; gi_at_call 37; refine (callsIn_wide.2 HFO2.out).mono ?_; rintro e w6 ⟨rfl, rfl⟩) | (refine ⟨trivial, ?_⟩; gi_at_call 38; refine (callsIn_wide.2 HAD.out).mono ?_; rintro e w5 ⟨⟨rv, rfl⟩, hr5, hc5⟩) | fail)
              obtain ⟨hJ5, hM5⟩ := HCH.out _ _ _ hc5 hJ3 HM3.out
              go_roundw
              case rel => exact ⟨to_ + 1, _, addM m x, by omega, by omega, by go_num, by rw [HK.out]; exact HP2.out, hJ5, hM5, hr5, fun _ => HMA.out⟩
              case measure => simp [intOf]; omega
            · have g2 : ¬ (fi : Int) ≤ (to_ : Int) := by omega
              simp only [if_neg hfi] at HP2
              gi_wp2_with (first | (refine ⟨trivial, ?_⟩; gi_at_call 34; refine (callsIn_wide.2 HEN2.out).mono ?_; rintro e w2 ⟨rfl, rfl⟩) | (refine ⟨trivial, ?_⟩; gi_at_call 37; refine (callsIn_wide.2 HFO2.out).mono ?_; rintro e w6 ⟨rfl, rfl⟩) | fail)
              go_roundw
              case rel => exact ⟨to_ + 1, _, m, by omega, by omega, by go_num, by rw [HK.out]; exact HP2.out, hJ3, HM3.out, HR3.out, fun _ => HMK.out⟩
              case measure => simp [intOf]; omega
          · have g1 : ¬ (to_ : Int) < (l.length : Int) := by omega
            rw [get_none hl2] at HP2
            gi_wp2_with (first | (refine ⟨trivial, ?_⟩; gi_at_call 34; refine (callsIn_wide.2 HEN2.out).mono ?_; rintro e w2 ⟨rfl, rfl⟩) | (refine ⟨trivial, ?_⟩; gi_at_call 37; refine (callsIn_wide.2 HFO2.out).mono ?_; rintro e w6 ⟨rfl, rfl⟩) | fail)
            go_roundw
            case rel => exact ⟨to_ + 1, _, m, by omega, by omega, by go_num, by rw [HK.out]; exact HP2.out, hJ3, HM3.out, HR3.out, fun h => by omega⟩
            case measure => simp [intOf]; omega
      | true =>
        have HEN2 := hid (HEN wr HRD.out)
        rw [hen] at HEN2
        have HFI2 := hid (HFI wr HRD.out)
        clear HEN
        unfold Ms.cells at HFI2
        have HRr : Hid (Row wr Bm #[.int .i64 m.n, .int .i64 m.s, .int .i64 m.h] 75) := HR.out
        cases his : (fitF l wd m to_).2.2 with
        | false =>
          have HP2 : Hid (pre ++ (if forcedF l to_ = true then [] else lnsGo l wd fi (to_ + 1) (match l[to_]? with | some x => if fi ≤ to_ then addM m x else m | none => m) k) = L) := by
            have h := HP.out
            have e : (if endsF l to_ = true ∧ (fitF l wd m to_).2.2 = true then [(to_, (fitF l wd m to_).1 + penF l to_)] else ([] : List (Nat × Int))) = [] := if_neg (fun h => by rw [his] at h; cases h.2)
            rw [e, List.nil_append] at h
            exact h
          clear hen HP HPE
          gi_wp2_with (first | (refine ⟨trivial, ?_⟩; gi_at_call 34; refine (callsIn_wide.2 HEN2.out).mono ?_; rintro e w2 ⟨rfl, rfl⟩) | (refine wpListIn_load_row rfl 75 _ rfl Bm rfl 75 _ (0, 0) _ HRr.out Try.underlying75 rfl (by kernel_rfl) ?_) | (refine ⟨trivial, ?_⟩; gi_at_call 35; refine (callsIn_wide.2 HFI2.out).mono ?_; rintro e w3 ⟨rfl, hb3⟩; rw [his]; have hJ3 := HJB.out _ _ _ hJ hb3; have HM3 := hid (HMB.out _ _ HM.out hb3); have HR3 := hid (HR.out.below hb3); have HRD3 := hid ((HMP.out _ HM3.out).2.2.2); have c1' := (HMP.out _ HM3.out).1; clear hJ HM HR HRr HRD hb3 HFI2 HFI c1) | fail)
          refine ⟨trivial, ?_⟩
          gi_wp2_with fail
          refine ⟨fun _ h => (by cases h), ?_⟩
          have HFO2 := hid (HFO _ HRD3.out)
          cases hfo : forcedF l to_ with
          | true =>
            rw [hfo] at HFO2 HP2
            rw [if_pos rfl, List.append_nil] at HP2
            gi_wp2_with (first | (refine ⟨trivial, ?_⟩; gi_at_call 37; refine (callsIn_wide.2 HFO2.out).mono ?_; rintro e w6 ⟨rfl, rfl⟩) | fail)
            refine bodyPost_ret (results_none rfl _ _ _) rfl ?_
            exact ⟨⟨_, rfl⟩, .inl (by rw [← HP2.out]; exact hJ3)⟩
          | false =>
            rw [hfo] at HFO2 HP2
            rw [if_neg Bool.false_ne_true] at HP2
            clear hfo
            by_cases hl2 : to_ < l.length
            · have g1 : (to_ : Int) < (l.length : Int) := by omega
              have g0 : (0 : Int) ≤ (to_ : Int) := by omega
              obtain ⟨x, b, off, hx, rfl, d0, d1, d2, d3, d4, d5⟩ := RdIt.at HRD3.out hl2
              rw [hx] at HP2
              have hxb := (HS.out x (List.mem_of_getElem? hx)).bd
              have HMA := hid (HMI.out.add HS.out hx)
              have HMK := hid (HMI.out.skip HS.out)
              obtain ⟨⟨n0, n1⟩, ⟨s0, s1⟩, ⟨h0, h1⟩⟩ := HMB2.out
              obtain ⟨xb1, xb2, ⟨xb3, xb4⟩, ⟨xb5, xb6⟩⟩ := hxb
              clear hx
              by_cases hfi : fi ≤ to_
              · have g2 : (fi : Int) ≤ (to_ : Int) := by omega
                simp only [if_pos hfi] at HP2
                have HAD := hid (add_any Bm m x _ HR3.out ⟨n0, by omega⟩ ⟨s0, by omega⟩ ⟨h0, by omega⟩ ⟨xb1, xb2⟩ ⟨xb3, by omega⟩ ⟨xb5, by omega⟩)
                gi_wp2_with (first | (refine ⟨trivial, ?_⟩; gi_at_call 37; refine (callsIn_wide.2 HFO2.out).mono ?_; rintro e w6 ⟨rfl, rfl⟩) | (refine ⟨trivial, ?_⟩; gi_at_call 38; refine (callsIn_wide.2 HAD.out).mono ?_; rintro e w5 ⟨⟨rv, rfl⟩, hr5, hc5⟩) | fail)
                obtain ⟨hJ5, hM5⟩ := HCH.out _ _ _ hc5 hJ3 HM3.out
                go_roundw
                case rel => exact ⟨to_ + 1, _, addM m x, by omega, by omega, by go_num, by rw [HK.out]; exact HP2.out, hJ5, hM5, hr5, fun _ => HMA.out⟩
                case measure => simp [intOf]; omega
              · have g2 : ¬ (fi : Int) ≤ (to_ : Int) := by omega
                simp only [if_neg hfi] at HP2
                gi_wp2_with (first | (refine ⟨trivial, ?_⟩; gi_at_call 37; refine (callsIn_wide.2 HFO2.out).mono ?_; rintro e w6 ⟨rfl, rfl⟩) | fail)
                go_roundw
                case rel => exact ⟨to_ + 1, _, m, by omega, by omega, by go_num, by rw [HK.out]; exact HP2.out, hJ3, HM3.out, HR3.out, fun _ => HMK.out⟩
                case measure => simp [intOf]; omega
            · have g1 : ¬ (to_ : Int) < (l.length : Int) := by omega
              rw [get_none hl2] at HP2
              gi_wp2_with (first | (refine ⟨trivial, ?_⟩; gi_at_call 37; refine (callsIn_wide.2 HFO2.out).mono ?_; rintro e w6 ⟨rfl, rfl⟩) | fail)
              go_roundw
              case rel => exact ⟨to_ + 1, _, m, by omega, by omega, by go_num, by rw [HK.out]; exact HP2.out, hJ3, HM3.out, HR3.out, fun h => by omega⟩
              case measure => simp [intOf]; omega
        | true =>
          have HP2 : Hid ((pre ++ [(to_, (fitF l wd m to_).1 + penF l to_)]) ++ (if forcedF l to_ = true then [] else lnsGo l wd fi (to_ + 1) (match l[to_]? with | some x => if fi ≤ to_ then addM m x else m | none => m) k) = L) := by
            have h := HP.out
            have e : (if endsF l to_ = true ∧ (fitF l wd m to_).2.2 = true then [(to_, (fitF l wd m to_).1 + penF l to_)] else ([] : List (Nat × Int))) = [(to_, (fitF l wd m to_).1 + penF l to_)] := if_pos ⟨hen, his⟩
            rw [e, ← List.append_assoc] at h
            exact h
          have hmem : (to_, (fitF l wd m to_).1 + penF l to_) ∈ L := by rw [← HP2.out]; simp
          have HME := hid hmem
          have hpl : pre.length < N := by
            have h1 := HNL.out
            have h := congrArg List.length HP2.out
            simp only [List.length_append, List.length_singleton] at h
            omega
          have hwc : IntKind.i64.wrap ((fitF l wd m to_).1 + penF l to_) = (fitF l wd m to_).1 + penF l to_ := IntWalk.i64_in _ (by have h1 := HFBD.out; have h2 := HPBD.out; omega)
          clear hen HP hmem
          gi_wp2_with (first | (refine ⟨trivial, ?_⟩; gi_at_call 34; refine (callsIn_wide.2 HEN2.out).mono ?_; rintro e w2 ⟨rfl, rfl⟩) | (refine wpListIn_load_row rfl 75 _ rfl Bm rfl 75 _ (0, 0) _ HRr.out Try.underlying75 rfl (by kernel_rfl) ?_) | (refine ⟨trivial, ?_⟩; gi_at_call 35; refine (callsIn_wide.2 HFI2.out).mono ?_; rintro e w3 ⟨rfl, hb3⟩; rw [his]; have hJ3 := HJB.out _ _ _ hJ hb3; have HM3 := hid (HMB.out _ _ HM.out hb3); have HR3 := hid (HR.out.below hb3); have HRD3 := hid ((HMP.out _ HM3.out).2.2.2); have c1' := (HMP.out _ HM3.out).1; clear hJ HM HR HRr HRD hb3 HFI2 HFI c1) | fail)
          refine ⟨trivial, ?_⟩
          gi_at_call 36
          refine (callsIn_wide.2 (HPE _ HRD3.out).out).mono ?_
          rintro e w4 ⟨rfl, rfl⟩
          have HYk := hid (HY.out pre (to_, (fitF l wd m to_).1 + penF l to_) _ HME.out hJ3 hpl)
          obtain ⟨fn, tmps, assign, body, hy, hR⟩ := HYk.out
          try dsimp only at hy
          gi_wp2_with fail
          refine hR.mono ?_
          rintro e W4 (⟨rfl, hJ4, hk4⟩ | ⟨rfl, hJx4⟩)
          · have HM4 := hid (HK1.out _ _ hk4 HM3.out)
            have HR4 := hid (HKR.out _ _ _ hk4 HR3.out)
            have HRD4 := hid ((HMP.out _ HM4.out).2.2.2)
            have d1' := (HMP.out _ HM4.out).1
            clear hy hR HYk hJ3 HM3 HR3 HRD3 hk4 c1'
            have hJ3 := hJ4
            have HM3 := hid HM4.out
            have HR3 := hid HR4.out
            have HRD3 := hid HRD4.out
            clear hJ4 HM4 HR4 HRD4
            have HFO2 := hid (HFO _ HRD3.out)
            cases hfo : forcedF l to_ with
            | true =>
              rw [hfo] at HFO2 HP2
              rw [if_pos rfl, List.append_nil] at HP2
              gi_wp2_with (first | (refine ⟨trivial, ?_⟩; gi_at_call 37; refine (callsIn_wide.2 HFO2.out).mono ?_; rintro e w6 ⟨rfl, rfl⟩) | fail)
              refine bodyPost_ret (results_none rfl _ _ _) rfl ?_
              exact ⟨⟨_, rfl⟩, .inl (by rw [← HP2.out]; exact hJ3)⟩
            | false =>
              rw [hfo] at HFO2 HP2
              rw [if_neg Bool.false_ne_true] at HP2
              clear hfo
              by_cases hl2 : to_ < l.length
              · have g1 : (to_ : Int) < (l.length : Int) := by omega
                have g0 : (0 : Int) ≤ (to_ : Int) := by omega
                obtain ⟨x, b, off, hx, rfl, d0, d1, d2, d3, d4, d5⟩ := RdIt.at HRD3.out hl2
                rw [hx] at HP2
                have hxb := (HS.out x (List.mem_of_getElem? hx)).bd
                have HMA := hid (HMI.out.add HS.out hx)
                have HMK := hid (HMI.out.skip HS.out)
                obtain ⟨⟨n0, n1⟩, ⟨s0, s1⟩, ⟨h0, h1⟩⟩ := HMB2.out
                obtain ⟨xb1, xb2, ⟨xb3, xb4⟩, ⟨xb5, xb6⟩⟩ := hxb
                clear hx
                by_cases hfi : fi ≤ to_
                · have g2 : (fi : Int) ≤ (to_ : Int) := by omega
                  simp only [if_pos hfi] at HP2
                  have HAD := hid (add_any Bm m x _ HR3.out ⟨n0, by omega⟩ ⟨s0, by omega⟩ ⟨h0, by omega⟩ ⟨xb1, xb2⟩ ⟨xb3, by omega⟩ ⟨xb5, by omega⟩)
                  gi_wp2_with (first | (refine ⟨trivial, ?_⟩; gi_at_call 37; refine (callsIn_wide.2 HFO2.out).mono ?_; rintro e w6 ⟨rfl, rfl⟩) | (refine ⟨trivial, ?_⟩; gi_at_call 38; refine (callsIn_wide.2 HAD.out).mono ?_; rintro e w5 ⟨⟨rv, rfl⟩, hr5, hc5⟩) | fail)
                  obtain ⟨hJ5, hM5⟩ := HCH.out _ _ _ hc5 hJ3 HM3.out
                  go_roundw
                  case rel => exact ⟨to_ + 1, _, addM m x, by omega, by omega, by go_num, by rw [HK.out]; exact HP2.out, hJ5, hM5, hr5, fun _ => HMA.out⟩
                  case measure => simp [intOf]; omega
                · have g2 : ¬ (fi : Int) ≤ (to_ : Int) := by omega
                  simp only [if_neg hfi] at HP2
                  gi_wp2_with (first | (refine ⟨trivial, ?_⟩; gi_at_call 37; refine (callsIn_wide.2 HFO2.out).mono ?_; rintro e w6 ⟨rfl, rfl⟩) | fail)
                  go_roundw
                  case rel => exact ⟨to_ + 1, _, m, by omega, by omega, by go_num, by rw [HK.out]; exact HP2.out, hJ3, HM3.out, HR3.out, fun _ => HMK.out⟩
                  case measure => simp [intOf]; omega
              · have g1 : ¬ (to_ : Int) < (l.length : Int) := by omega
                rw [get_none hl2] at HP2
                gi_wp2_with (first | (refine ⟨trivial, ?_⟩; gi_at_call 37; refine (callsIn_wide.2 HFO2.out).mono ?_; rintro e w6 ⟨rfl, rfl⟩) | fail)
                go_roundw
                case rel => exact ⟨to_ + 1, _, m, by omega, by omega, by go_num, by rw [HK.out]; exact HP2.out, hJ3, HM3.out, HR3.out, fun h => by omega⟩
                case measure => simp [intOf]; omega
          · gi_wp2
            refine bodyPost_ret (results_none rfl _ _ _) rfl ?_
            exact ⟨⟨_, rfl⟩, .inr ⟨_, ⟨_, HP2.out⟩, hJx4⟩⟩
    · have hti : ¬ (to_ : Int) ≤ (l.length : Int) := by omega
      have HD : Hid (pre = L) := by
        have h := HP.out
        rw [show l.length + 1 - to_ = 0 by omega, lnsGo, List.append_nil] at h
        exact h
      clear HP
      gi_wp2
      go_end0
      exact ⟨⟨_, rfl⟩, .inl (by rw [← HD.out]; exact hJ)⟩
end Go.Proofs.Ytalpgilncohkbaa
