/-
  paragraph.parts.
-/
import Derived.Test.YtalpgilncohkbaaPts
import Derived.Test.YtalpgilncohkbaaPre
namespace Go.Proofs.Ytalpgilncohkbaa
open Go.RowKit

theorem cloneI_any (v : Value) (l : List Int) (w : World) (hv : RdI w v l) (hl : l.length ≤ 1000000) :
    Calls Try.prog 43 #[v] w fun e w' => ∃ v', e = .returned v' ∧ w'.ownsRow w.heap.size 3 1 v' l.length (l.map (Value.int .i64)) ∧ Below w.heap.size w w' := by
  obtain ⟨a, cap, rfl, hlc, hcm, hcell⟩ := hv.open
  cases a with
  | none =>
    have h0 : l = [] := by
      cases l with
      | nil => rfl
      | cons x r =>
        obtain ⟨y, b, off, _, e, _⟩ := hcell 0 (by simp)
        cases e
    subst h0
    refine (Try.slices_Clone_int_nil 0 cap w).mono ?_
    rintro e w' ⟨rfl, rfl⟩
    exact ⟨_, rfl, World.ownsRow_nil _ _ _ _, Below.refl _ _⟩
  | some ad =>
    by_cases h0 : l.length = 0
    · have h1 := List.eq_nil_of_length_eq_zero h0
      subst h1
      refine (Try.slices_Clone_int_zero ad cap w).mono ?_
      rintro e w' ⟨v', rfl, h, _, hb⟩
      exact ⟨_, rfl, h, hb⟩
    · obtain ⟨x0, b, off, hx0, e, _⟩ := hcell 0 (by omega)
      cases e
      refine (Try.slices_Clone_int b off l.length cap l w (Nat.le_refl _) (by omega) (fun j hj => ?_)).mono ?_
      · obtain ⟨x, b', off', hx, e, hc⟩ := hcell j hj
        cases e
        rw [hc, List.getD_eq_getElem?_getD, hx]; rfl
      · rintro e w' ⟨v', rfl, h, _, hb⟩
        rw [List.take_of_length_le (Nat.le_refl _)] at h
        exact ⟨_, rfl, h, hb⟩

/-- Where the j-th part begins. -/
def pv (ps : List Nat) (j : Nat) : Nat := if j = 0 then 0 else ps.getD (j - 1) 0
def pcN (s : ByteArray) (ps : List Nat) : Nat → List ByteArray
  | 0 => []
  | j + 1 => pcN s ps j ++ [s.extract (pv ps j) (ps.getD j 0)]
theorem pcN_len (s : ByteArray) (ps : List Nat) : ∀ j, (pcN s ps j).length = j
  | 0 => rfl
  | j + 1 => by rw [pcN, List.length_append, pcN_len s ps j]; rfl
theorem pcN_get (s : ByteArray) (ps : List Nat) : ∀ n j, j < n → (pcN s ps n)[j]? = some (s.extract (pv ps j) (ps.getD j 0))
  | 0, _, h => by omega
  | n + 1, j, h => by
    rw [pcN]
    by_cases hj : j < n
    · rw [List.getElem?_append_left (by rw [pcN_len]; exact hj), pcN_get s ps n j hj]
    · have e : j = n := by omega
      subst e
      rw [List.getElem?_append_right (by rw [pcN_len]; exact Nat.le_refl _), pcN_len, Nat.sub_self]; rfl
def ptE (P : List Grp) (s : ByteArray) : List Nat := ptsF P s ++ [s.size]
def prtF (P : List Grp) (s : ByteArray) : List ByteArray := if isWordB s = true then pcN s (ptE P s) (ptE P s).length else [s]
theorem up_pv {n : Nat} : ∀ (L : List Nat) (f : Nat), Upw f L n → ∀ j, j < L.length + 1 → (if j = 0 then f else (L ++ [n]).getD (j - 1) 0) < (L ++ [n]).getD j 0 ∧ (L ++ [n]).getD j 0 ≤ n
  | [], f, h, j, hj => by
    have e : j = 0 := by simp at hj; omega
    subst e
    exact ⟨h, Nat.le_refl _⟩
  | x :: r, f, h, 0, _ => ⟨h.1, Nat.le_of_lt (Upw.lt h.2)⟩
  | x :: r, f, h, j + 1, hj => by
    have ih := up_pv r x h.2 j (by simp at hj; omega)
    rw [if_neg (by omega), Nat.add_sub_cancel]
    cases j with
    | zero => exact ih
    | succ j => exact ih
theorem ptE_bd (P : List Grp) {s : ByteArray} (h1 : 1 ≤ s.size) {j : Nat} (hj : j < (ptE P s).length) : pv (ptE P s) j < (ptE P s).getD j 0 ∧ (ptE P s).getD j 0 ≤ s.size := by
  have h := up_pv (ptsF P s) 0 (ptsF_up P s h1) j (by unfold ptE at hj; rw [List.length_append] at hj; simpa using hj)
  exact h
theorem isWordB_pos {s : ByteArray} (h4 : isWordB s = true) : 1 ≤ s.size := by
  unfold isWordB at h4
  simp only [Bool.and_eq_true, decide_eq_true_eq] at h4
  have := h4.1.1.1.1
  omega
theorem rdS_own {W : World} {base n : Nat} {v : Value} {l : List ByteArray} (h : W.ownsRow base 9 1 v n (l.map Value.string)) (e : l.length = n) : RdS W v l := by subst e; exact Rd.of_own h
theorem infoStrP : (Try.prog.info? 9).map (fun i => (i.zero, i.size, i.bytes)) = some (some (.string ⟨#[]⟩), 1, 16) := by kernel_rfl

/-- A row of strings of its own. -/
def OwnS (W : World) (v : Value) (l : List ByteArray) : Prop := ∃ base, W.ownsRow base 9 1 v l.length (l.map Value.string)
theorem OwnS.rd {W : World} {v : Value} {l : List ByteArray} (h : OwnS W v l) : RdS W v l := by obtain ⟨b, h⟩ := h; exact Rd.of_own h
theorem OwnS.below {W W' : World} {v : Value} {l : List ByteArray} (h : OwnS W v l) (hb : Below W.heap.size W W') : OwnS W' v l := by obtain ⟨b, h⟩ := h; exact ⟨b, own_belowX h hb⟩
theorem OwnS.one (w : World) (s : ByteArray) : OwnS (w.alloc (.cells #[.string s] 9)) (.slice (some ⟨w.heap.size, 0, none⟩) 1 1) [s] :=
  ⟨w.heap.size, rfl, .inr ⟨w.heap.size, 1, #[.string s], rfl, Nat.le_refl _, heap_alloc_new w _, Nat.le_refl _, by unfold maxLen; omega, rfl, rfl⟩⟩
set_option maxRecDepth 100000 in
set_option maxHeartbeats 4000000 in
theorem parts_any (v : Value) (P : List Grp) (s : ByteArray) (w : World) (hv : RdG w v P) (hz : SzG P) (hok : hchkI P = 0) (hs : s.size ≤ 20) :
    Calls Try.prog 29 #[v, .string s] w fun e w' => ∃ v1, e = .returned (.tuple #[v1, .int .i64 0]) ∧ OwnS w' v1 (prtF P s) ∧ Below w.heap.size w w' := by
  have HW := hid (isWord_any s w (by omega))
  have HPF : Hid (prtF P s = if isWordB s = true then pcN s (ptE P s) (ptE P s).length else [s]) := rfl
  cases hw : isWordB s with
  | false =>
    rw [hw] at HW HPF
    clear hw hv hz hok
    go_enter Try.func29, Try.ntmps29
    go_wp2_with fail
    refine HW.out.mono ?_
    rintro e w1 ⟨rfl, hb1⟩
    have HC := hid (OwnS.one w1 s)
    have HB := hid (below_tr hb1 (below_al w1 (.cells #[.string s] 9)))
    clear hb1
    go_wp2_with fail
    refine bodyPost_ret (results_tmp2 rfl _ _ _) rfl ?_
    exact ⟨_, rfl, by rw [HPF.out, if_neg (by simp)]; exact HC.out, HB.out⟩
  | true =>
    have hs1 := isWordB_pos hw
    have h0 : hckI P s = 0 := by unfold hckI; rw [if_neg (by simp [hok]), if_neg (by simp [hw])]
    have HPT := hid (fun w' (h : RdG w' v P) => hpoints_any v P s w' h hz hs)
    rw [hw, if_pos rfl] at HPF
    rw [hw] at HW
    have HV := hid hv
    have HE := hid h0
    obtain ⟨aP, cP, rfl, _, _, _⟩ := hv.open
    clear hv hz hok hw
    go_enter Try.func29, Try.ntmps29
    go_wp2_with fail
    refine HW.out.mono ?_
    rintro e w1 ⟨rfl, hb1⟩
    have HB1 := hid hb1
    have HV1 := hid (HV.out.below hb1)
    clear hb1 HV HW
    go_wp2_with fail
    refine (HPT.out _ HV1.out).mono ?_
    rintro e w2 ⟨v1, rfl, hv1, hb2⟩
    rw [HE.out]
    have HV2 := hid (hv1 HE.out)
    have HB2 := hid (below_tr HB1.out hb2)
    clear hv1 hb2 HV1 HB1 HPT h0
    obtain ⟨Q, hQ⟩ : ∃ Q, Q = ptsF P s := ⟨_, rfl⟩
    have hQl : Q.length ≤ 20 := by
      have h1 := ptN_len (clL s) (levF P s) (levF P s).length
      have h2 := levF_len P s
      have h3 := clN_le s
      rw [hQ]
      show (ptN _ _ _).length ≤ _
      omega
    have HPE : Hid (ptE P s = Q ++ [s.size]) := by show _ = _; rw [hQ]; rfl
    rw [← hQ] at HV2
    have HBD : Hid (∀ j, j < (Q ++ [s.size]).length → pv (Q ++ [s.size]) j < (Q ++ [s.size]).getD j 0 ∧ (Q ++ [s.size]).getD j 0 ≤ s.size) := fun j hj => by
      have h := ptE_bd P hs1 (j := j) (by rw [HPE.out]; exact hj)
      rwa [HPE.out] at h
    have HCL := hid (cloneI_any v1 (Q.map Int.ofNat) w2 HV2.out (by rw [List.length_map]; omega))
    rw [HPE.out] at HPF
    clear hQ
    obtain ⟨a1, c1, rfl, _, _, _⟩ := HV2.out.open
    have hml : (Q.map Int.ofNat).length = Q.length := List.length_map _
    rw [hml] at HCL
    go_wp2_with fail
    refine HCL.out.mono ?_
    rintro e w3 ⟨v3, rfl, ho3, hb3⟩
    have HB3 := hid (below_tr HB2.out hb3)
    have hsz3 : w2.heap.size ≤ w3.heap.size := hb3.size
    have HB23 := hid hb3
    clear hb3 HV2 HCL hml
    go_upto_region 9 with (at_builtin; refine wpList_ap2 rfl _ _ 38 rfl w2.heap.size 3 Try.underlying38 infoCI rfl (by decide) (by decide) _ _ _ rfl ho3 [.int .i64 (s.size : Int)] rfl (by simp [Value.oneCell']) rfl (by simp) (by omega) hsz3 ?_; intro g4 cap4 w4 ho4 hb4 hgr4 hat4 _; clear hgr4 hat4)
    have HB4 := hid (HB2.out.trans ((HB23.out.trans hb4).mono HB2.out.size))
    obtain ⟨ps, hps⟩ : ∃ ps, ps = Q ++ [s.size] := ⟨_, rfl⟩
    have hpl : ps.length = Q.length + 1 := by rw [hps, List.length_append]; rfl
    have HE4 : Hid (RdI w4 (.slice (some ⟨g4, 0, none⟩) (Q.length + 1) cap4) (ps.map Int.ofNat)) := by
      have e : (ps.map Int.ofNat).length = Q.length + 1 := by rw [List.length_map, hpl]
      have h2 : w4.ownsRow w2.heap.size 3 1 (.slice (some ⟨g4, 0, none⟩) (Q.length + 1) cap4) (ps.map Int.ofNat).length ((ps.map Int.ofNat).map (Value.int .i64)) := by
        rw [e, hps, List.map_append, List.map_append]
        exact ho4
      exact Rd.of_own (enc := Value.int .i64) h2
    rw [← hps] at HBD HPF
    have HPL := hid hpl
    clear ho4 hb4 HB23 HB2 HB3 ho3 hsz3 hps hpl HPE
    go_wp2_with fail
    obtain ⟨W0, rfl⟩ : ∃ W0 : World, W0 = w4 := ⟨_, rfl⟩
    go_loopw [8, 9, 33] (fun v8 a9 i wr => ∃ j : Nat, j ≤ Q.length + 1 ∧ i = .int .i64 j ∧ a9 = .int .i64 (pv ps j : Nat) ∧ Hid (wr.ownsRow W0.heap.size 9 1 v8 j ((pcN s ps j).map Value.string)) ∧ Hid (Below W0.heap.size W0 wr)) (fun _ _ i _ => Q.length + 1 - (intOf i).toNat)
    case atStart => exact ⟨0, Nat.zero_le _, rfl, rfl, World.ownsRow_nil _ _ _ _, Below.refl _ _⟩
    case round =>
      obtain ⟨j, hj, rfl, rfl, HO, HB⟩ := hrel
      by_cases hlt : j < Q.length + 1
      · have hti : (j : Int) < (Q.length : Int) + 1 := by omega
        have hj0 : (0 : Int) ≤ (j : Int) := by omega
        obtain ⟨x, bE, oE, hx, hxa, hc⟩ := (HE4.out.below HB.out).open51 (i := j) (by rw [List.length_map, HPL.out]; exact hlt)
        cases hxa
        rw [Nat.zero_add] at hc
        have hbd := HBD.out j (by rw [HPL.out]; exact hlt)
        have hxe : x = ((ps.getD j 0 : Nat) : Int) := by
          rw [List.getElem?_map] at hx
          rw [List.getD_eq_getElem?_getD]
          cases hp : ps[j]? with
          | none => rw [hp] at hx; cases hx
          | some y => rw [hp] at hx; cases hx; rfl
        have HPC : Hid (pcN s ps (j + 1) = pcN s ps j ++ [s.extract (pv ps j) (ps.getD j 0)]) := rfl
        have HPV : Hid (pv ps (j + 1) = ps.getD j 0) := rfl
        subst hxe
        have ho := HO.out
        have hsz := HB.out.size
        generalize pv ps j = p0 at *
        generalize ps.getD j 0 = p1 at *
        have q0 : (0 : Int) ≤ (p0 : Int) := by omega
        have q1 : (p0 : Int) ≤ (p1 : Int) := by omega
        have q2 : (p1 : Int) ≤ (s.size : Int) := by omega
        clear hx
        go_wp2_with (at_builtin; refine wpList_ap2 rfl _ _ 23 rfl W0.heap.size 9 Try.underlying23 infoStrP rfl (by decide) (by decide) _ _ _ rfl ho [.string (s.extract p0 p1)] rfl (by simp [Value.oneCell']) rfl (by simp) (by omega) hsz ?_; intro g5 cap5 w5 ho5 hb5 hgr5 hat5 _; clear hgr5 hat5)
        go_roundw
        case rel => exact ⟨j + 1, by omega, by go_num, by rw [HPV.out], by unfold Hid; rw [HPC.out, List.map_append]; exact ho5, HB.out.trans hb5⟩
        case measure => simp [intOf]; omega
      · obtain rfl : j = Q.length + 1 := by omega
        have hti : ¬ (Q.length : Int) + 1 < (Q.length : Int) + 1 := by omega
        go_wp2_with fail
        refine bodyPost_ret (results_tmp2 rfl _ _ _) rfl ?_
        exact ⟨_, rfl, by rw [HPF.out, HPL.out]; exact ⟨_, by rw [pcN_len]; exact HO.out⟩, HB4.out.trans (HB.out.mono HB4.out.size)⟩
end Go.Proofs.Ytalpgilncohkbaa
