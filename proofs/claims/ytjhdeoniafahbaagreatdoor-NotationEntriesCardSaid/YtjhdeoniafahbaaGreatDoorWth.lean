/-
  notation.within.
-/
import Derived.Test.YtjhdeoniafahbaaGreatDoorJ06
import Derived.Test.YtjhdeoniafahbaaGreatDoorOccI
namespace Go.Proofs.YtjhdeoniafahbaaGreatDoor
open Go.RowKit

def inB (a b k : Int) : Bool := decide (a ≤ k) && decide (k ≤ b)
def wFst (ls : List Int) (a b : Int) : Int := fIdx (inB a b) ls
def wEnd (ls : List Int) (a b : Int) : Nat := (wFst ls a b).toNat + ((ls.drop (wFst ls a b).toNat).takeWhile (inB a b)).length
def wWs (ls : List Int) (ws : List ByteArray) (a b : Int) : List ByteArray := if wFst ls a b < 0 then [] else (ws.take (wEnd ls a b)).drop (wFst ls a b).toNat
def wAt (ls : List Int) (a b : Int) : Int := if wFst ls a b < 0 then 0 else wFst ls a b

set_option maxHeartbeats 400000 in
theorem indexFnI_any (K : Nat) (cap2 : Array Value) (eK : ∀ args w, (callFunc K args).run Tryz.prog w = .ok (.enter K args) w) (p : Int → Bool) (v : Value) (l : List Int) (w : World) (hr : RdI w v l)
    (hC : ∀ (x : Int) (W' : World), x ∈ l → Below w.heap.size w W' → Calls Tryz.prog K (#[.int .i64 x] ++ cap2) W' fun e W'' => e = .returned (.bool (p x)) ∧ Below W'.heap.size W' W'') :
    Calls Tryz.prog 84 #[v, .func (.func K) #[] cap2] w fun e w' => e = .returned (.int .i64 (fIdx p l)) ∧ Below w.heap.size w w' := by
  obtain ⟨a, cap, rfl, hlc, hcm, hcell⟩ := hr.open
  have HCell := hid hcell; clear hcell
  have HC := hid hC; clear hC
  go_enter Tryz.func84, Tryz.ntmps84
  go_wp2
  go_loopw [8] (fun i wr => ∃ k : Nat, k ≤ l.length ∧ i = .int .i64 k ∧ Hid (∀ y ∈ l.take k, p y = false) ∧ Below w.heap.size w wr) (fun i _ => l.length - (intOf i).toNat)
  case atStart => exact ⟨0, Nat.zero_le _, rfl, by simp [Hid], Below.refl _ _⟩
  case round =>
    rename_i wr
    obtain ⟨k, hk, rfl, HK, hB⟩ := hrel
    by_cases hlt : k < l.length
    · obtain ⟨x, b, off, hx, rfl, hc0⟩ := HCell.out k hlt
      have hc := Below.keeps hB _ _ hc0
      clear hc0
      have HX := hid hx; clear hx
      have HM := hid (List.mem_of_getElem? HX.out)
      have HCx := hid (HC.out x wr HM.out hB)
      by_cases hp : p x = true
      · have HP := hid hp
        rw [hp] at HCx
        clear hp
        go_wp2_with fail
        refine HCx.out.mono ?_
        rintro e w' ⟨rfl, hB2⟩
        go_wp2
        go_ret
        exact ⟨ret_int (fIdx_hit _ l k x HK.out HX.out HP.out).symm, below_tr hB hB2⟩
      · have hp' : p x = false := by simpa using hp
        have HP := hid hp'
        rw [hp'] at HCx
        clear hp hp'
        go_wp2_with fail
        refine HCx.out.mono ?_
        rintro e w' ⟨rfl, hB2⟩
        go_wp2
        go_roundw
        case rel => exact ⟨k + 1, by omega, by go_num, take_none HK.out HX.out HP.out, below_tr hB hB2⟩
        case measure => simp [intOf]; omega
    · go_wp2
      go_ret
      refine ⟨ret_int ?_, hB⟩
      have h := HK.out
      rw [List.take_of_length_le (by omega)] at h
      exact (fIdx_none _ l h).symm

set_option maxHeartbeats 1000000 in
theorem within1_any (a b k : Int) (B1 B2 : Nat) (w : World) (h1 : Row w B1 #[.int .i64 a] 3) (h2 : Row w B2 #[.int .i64 b] 3) :
    Calls Tryz.prog 83 #[.int .i64 k, .pointer (some ⟨B1, 0, none⟩), .pointer (some ⟨B2, 0, none⟩)] w fun e w' => e = .returned (.bool (inB a b k)) ∧ w = w' := by
  have c1 := h1.cell 0 (x := .int .i64 a) rfl
  have c2 := h2.cell 0 (x := .int .i64 b) rfl
  have HD : Hid (inB a b k = (decide (a ≤ k) && decide (k ≤ b))) := rfl
  generalize inB a b k = r at *
  clear h1 h2
  by_cases q1 : a ≤ k
  · by_cases q2 : k ≤ b
    · have HV : Hid (r = true) := by show _ = _; rw [HD.out, decide_eq_true q1, decide_eq_true q2]; rfl
      clear HD
      go_enter Tryz.func83, Tryz.ntmps83
      go_wp2
      go_ret
      exact ⟨ret_bool HV.out.symm, rfl⟩
    · have HV : Hid (r = false) := by show _ = _; rw [HD.out, decide_eq_false q2, Bool.and_false]
      clear HD
      go_enter Tryz.func83, Tryz.ntmps83
      go_wp2
      go_ret
      exact ⟨ret_bool HV.out.symm, rfl⟩
  · have HV : Hid (r = false) := by show _ = _; rw [HD.out, decide_eq_false q1, Bool.false_and]
    clear HD
    go_enter Tryz.func83, Tryz.ntmps83
    go_wp2
    go_ret
    exact ⟨ret_bool HV.out.symm, rfl⟩

theorem tw_len {α : Type} {p : α → Bool} : ∀ {l : List α} {m : Nat}, (∀ y ∈ l.take m, p y = true) → (l.length ≤ m ∨ ∃ x, l[m]? = some x ∧ p x = false) → (l.takeWhile p).length = min m l.length
  | [], m, _, _ => by simp
  | a :: r, 0, _, h => by
    rcases h with h | ⟨x, hx, hp⟩
    · simp at h
    · have : a = x := by simpa using hx
      subst this
      rw [List.takeWhile_cons, if_neg (by rw [hp]; simp)]; simp
  | a :: r, m + 1, h, h2 => by
    have ha := h a (by simp)
    rw [List.takeWhile_cons, if_pos ha, List.length_cons]
    have := tw_len (l := r) (m := m) (fun y hy => h y (by rw [List.take_succ_cons]; exact List.mem_cons_of_mem _ hy)) (by
      rcases h2 with h2 | ⟨x, hx, hp⟩
      · left; simp at h2; omega
      · right; exact ⟨x, by simpa using hx, hp⟩)
    rw [this, List.length_cons]; omega

set_option maxRecDepth 100000 in
set_option maxHeartbeats 4000000 in
theorem within_any (v s : Value) (ls : List Int) (ws : List ByteArray) (a b : Int) (w : World) (hv : RdI w v ls) (hs : RdS w s ws) (hl : ls.length = ws.length) (_hn : ls.length ≤ 65536) :
    Calls Tryz.prog 43 #[v, s, .int .i64 a, .int .i64 b] w fun e w' => ∃ r, e = .returned (.tuple #[.int .i64 (wAt ls a b), r]) ∧ RdS w' r (wWs ls ws a b) ∧ Below w.heap.size w w' := by
  have hb0 := below_al w (.cells #[.int .i64 a] 3)
  have hb1 := below_al (w.alloc (.cells #[.int .i64 a] 3)) (.cells #[.int .i64 b] 3)
  have HB0 := hid (below_tr hb0 hb1)
  have hr1 := (row_nw w #[.int .i64 a] 3 rfl).al (.cells #[.int .i64 b] 3)
  have hr2 := row_nw (w.alloc (.cells #[.int .i64 a] 3)) #[.int .i64 b] 3 rfl
  rw [show (w.alloc (.cells #[.int .i64 a] 3)).heap.size = w.heap.size + 1 by simp] at hr2
  have HV := fun w' (h : Below w.heap.size w w') => hid (hv.below h)
  have HS := fun w' (h : Below w.heap.size w w') => hid (hs.below h)
  obtain ⟨a1, c1, rfl, hl1, hm1, hC1⟩ := hv.open
  obtain ⟨a2, c2, rfl, hl2, hm2, hC2⟩ := hs.open
  have HC1 := hid hC1
  have HC2 := hid hC2
  have HR1 := hid hr1
  have HR2 := hid hr2
  have hII := indexFnI_any 83 #[.pointer (some ⟨w.heap.size, 0, none⟩), .pointer (some ⟨w.heap.size + 1, 0, none⟩)] (enters_of Tryz.func83 (by kernel_rfl) rfl) (inB a b) (.slice a1 ls.length c1) ls _ (HV _ HB0.out).out (fun x W' _ hB => (within1_any a b x w.heap.size (w.heap.size + 1) W' (hr1.below hB) (hr2.below hB)).mono fun e w' h => ⟨h.1, by rw [h.2]; exact Below.refl _ _⟩)
  have HII := hid hII
  have HA : Hid (wAt ls a b = if fIdx (inB a b) ls < 0 then 0 else fIdx (inB a b) ls) := rfl
  have HW : Hid (wWs ls ws a b = if fIdx (inB a b) ls < 0 then [] else (ws.take ((fIdx (inB a b) ls).toNat + ((ls.drop (fIdx (inB a b) ls).toNat).takeWhile (inB a b)).length)).drop (fIdx (inB a b) ls).toNat) := rfl
  have HL := hid hl
  clear hb0 hb1 hr1 hr2 hC1 hC2 hII hv hs hl
  go_enter Tryz.func43, Tryz.ntmps43
  go_wp2_with fail
  (with_reducible refine HII.out.mono ?_)
  rintro e w3 ⟨rfl, hB3⟩
  have HR1b := hid (HR1.out.below hB3)
  have HR2b := hid (HR2.out.below hB3)
  have HB3 := hid (below_tr HB0.out hB3)
  clear hB3 HII HR1 HR2 HB0
  rcases fIdx_cases (inB a b) ls with hI | ⟨f, x, hI, hx, hf, hp⟩
  · have HA2 : Hid (wAt ls a b = 0) := by show _ = _; rw [HA.out, hI]; rfl
    have HW2 : Hid (wWs ls ws a b = []) := by show _ = _; rw [HW.out, hI]; rfl
    rw [hI]
    clear HA HW hI
    go_wp2
    go_ret2
    exact ⟨_, by rw [HA2.out]; rfl, by rw [HW2.out]; exact Rd.nil _, HB3.out⟩
  · have HA2 : Hid (wAt ls a b = (f : Int)) := by show _ = _; rw [HA.out, hI, if_neg (by omega)]
    have HW2 : Hid (wWs ls ws a b = (ws.take (f + ((ls.drop f).takeWhile (inB a b)).length)).drop f) := by show _ = _; rw [HW.out, hI, if_neg (by omega)]; rfl
    rw [hI]
    have hf0 : ¬ (f : Int) < 0 := by omega
    have hf2 : f < ws.length := by have := HL.out; omega
    obtain ⟨_, b2, o2, _, ha2, _⟩ := HC2.out f hf2
    subst ha2
    clear HA HW hI hx hp
    go_wp2_with fail
    go_loopw [12] (fun i wr => ∃ m : Nat, f + m ≤ ws.length ∧ i = .int .i64 ((f + m : Nat) : Int) ∧ Hid (∀ y ∈ (ls.drop f).take m, inB a b y = true) ∧ Hid (Below w3.heap.size w3 wr)) (fun i _ => ws.length - (intOf i).toNat)
    case atStart => exact ⟨0, by omega, by simp, by simp [Hid], Below.refl _ _⟩
    case round =>
      obtain ⟨m, hm, rfl, HM, HB⟩ := hrel
      have HBw := hid (HB3.out.trans (HB.out.mono HB3.out.size))
      have hfin : ∀ w', Below wr.heap.size wr w' → (ws.length ≤ f + m ∨ ∃ x, ls[f + m]? = some x ∧ inB a b x = false) → wWs ls ws a b = (ws.take (f + m)).drop f := by
        intro w' _ h
        have h1 := tw_len (l := ls.drop f) (m := m) HM.out (by
          rcases h with h | ⟨x, hx, hp⟩
          · left; rw [List.length_drop, HL.out]; omega
          · right; exact ⟨x, by rw [List.getElem?_drop]; exact hx, hp⟩)
        rw [HW2.out, h1, List.length_drop, HL.out, Nat.min_eq_left (by omega)]
      have HF := hid hfin
      clear hfin
      obtain ⟨e0, he0⟩ : ∃ e0, e0 = f + m := ⟨_, rfl⟩
      rw [← he0] at hm HF ⊢
      have HE0 := hid he0
      have q1 : (0 : Int) ≤ (f : Int) := by omega
      have q2 : (f : Int) ≤ (e0 : Int) := by omega
      have q3 : (e0 : Int) ≤ (ws.length : Int) := by omega
      have q4 : (e0 : Int) ≤ (c2 : Int) := by omega
      have q5 : ¬ c2 = f := by omega
      have HSL : Hid (∀ w', Below w.heap.size w w' → RdS w' (.slice (some ⟨b2, o2 + f, none⟩) (e0 - f) (c2 - f)) ((ws.take e0).drop f)) := fun w' h => by
        have h1 := ((HS w' h).out.take e0 (by omega)).drop f (by rw [List.length_take]; omega)
        exact h1
      by_cases hlt : e0 < ws.length
      · have hki : (e0 : Int) < (ws.length : Int) := by omega
        obtain ⟨x, b1, o1, hx, rfl, d1⟩ := HC1.out e0 (by have := HL.out; omega)
        have e1 := Below.keeps HBw.out _ _ d1
        have HX := hid hx
        have q6 : (e0 : Int) < (ls.length : Int) := by have := HL.out; omega
        have HCL := hid (within1_any a b x w.heap.size (w.heap.size + 1) wr (HR1b.out.below HB.out) (HR2b.out.below HB.out))
        clear d1 hx
        cases hin : inB a b x with
        | true =>
          rw [hin] at HCL
          have HM2 : Hid (∀ y ∈ (ls.drop f).take (m + 1), inB a b y = true) := by
            intro y hy
            rw [List.take_add_one, List.getElem?_drop, ← HE0.out, HX.out, List.mem_append] at hy
            rcases hy with hy | hy
            · exact HM.out y hy
            · have : y = x := by simpa using hy
              rw [this]; exact hin
          clear hin he0
          go_wp2_with fail
          (with_reducible refine HCL.out.mono ?_)
          rintro e w5 ⟨rfl, rfl⟩
          go_wp2_with fail
          go_roundw
          case rel => exact ⟨m + 1, by have := HE0.out; omega, by have := HE0.out; subst this; go_num, HM2.out, HB.out⟩
          case measure => simp [intOf]; omega
        | false =>
          rw [hin] at HCL
          have HF2 := hid (HF.out wr (Below.refl _ _) (.inr ⟨x, HX.out, hin⟩))
          clear hin he0 HF
          go_wp2_with fail
          (with_reducible refine HCL.out.mono ?_)
          rintro e w5 ⟨rfl, rfl⟩
          go_wp2_with fail
          go_quiet (fail)
          go_wp2
          go_ret2
          exact ⟨_, by rw [HA2.out]; rfl, by rw [HF2.out]; exact (HSL.out _ (below_drewN HBw.out _)), below_drewN HBw.out _⟩
      · have hki : ¬ (e0 : Int) < (ws.length : Int) := by omega
        have HF2 := hid (HF.out wr (Below.refl _ _) (.inl (by omega)))
        clear he0 HF
        go_wp2_with fail
        go_quiet (fail)
        go_wp2
        go_ret2
        exact ⟨_, by rw [HA2.out]; rfl, by rw [HF2.out]; exact (HSL.out _ (below_drewN HBw.out _)), below_drewN HBw.out _⟩
end Go.Proofs.YtjhdeoniafahbaaGreatDoor
