/-
  The reference's checkLines, window.
-/
import Derived.Test.YtjhdeoniafahbaaGreatDoorWth
import Derived.Test.YtjhdeoniafahbaaGreatDoorJ03
namespace Go.Proofs.YtjhdeoniafahbaaGreatDoor
open Go.RowKit

set_option maxRecDepth 100000 in
set_option maxHeartbeats 4000000 in
theorem rlists_any (v u s : Value) (ls la : List Int) (ws : List ByteArray) (w : World) (hv : RdI w v ls) (hu : RdI w u la) (hs : RdS w s ws) :
    Calls Tryz.prog 39 #[v, u, s] w fun e w' => e = .returned (.int .i64 (listsI ls la ws.length)) ∧ Below w.heap.size w w' := by
  obtain ⟨a1, c1, rfl, hl1, hm1, hC1⟩ := hv.open
  obtain ⟨a2, c2, rfl, hl2, hm2, hC2⟩ := hu.open
  obtain ⟨a3, c3, rfl, hl3, hm3, _⟩ := hs.open
  have HC1 := hid hC1
  have HC2 := hid hC2
  clear hC1 hC2 hv hu hs
  have HD : Hid (listsI ls la ws.length = if ls.length ≠ ws.length ∨ la.length ≠ ws.length then 9 else if 4096 < ws.length then 4 else lnGo none ls la) := rfl
  generalize hn : ws.length = n at *
  by_cases n1 : ls.length = n
  · by_cases n2 : la.length = n
    · by_cases n3 : 4096 < n
      · have i3 : (4096 : Int) < (n : Int) := by omega
        have HV : Hid (listsI ls la n = 4) := by show _ = _; rw [HD.out, if_neg (by omega), if_pos n3]
        rw [n1, n2]
        clear n1 n2
        go_enter Tryz.func39, Tryz.ntmps39
        go_wp2
        go_ret
        exact ⟨ret_int HV.out.symm, Below.refl _ _⟩
      · have i3 : ¬ (4096 : Int) < (n : Int) := by omega
        have HV : Hid (listsI ls la n = lnGo none ls la) := by show _ = _; rw [HD.out, if_neg (by omega), if_neg n3]
        have HN1 := hid n1
        have HN2 := hid n2
        rw [n1, n2]
        rw [n1] at hl1
        rw [n2] at hl2
        clear n1 n2 HD
        go_enter Tryz.func39, Tryz.ntmps39
        go_wp2_with fail
        go_loopw [7] (fun i wr => ∃ k : Nat, k ≤ n ∧ i = .int .i64 k ∧ Hid (lnGo none ls la = lnGo (prevL la k) (ls.drop k) (la.drop k)) ∧ Hid (Below w.heap.size w wr)) (fun i _ => n - (intOf i).toNat)
        case atStart => exact ⟨0, Nat.zero_le _, rfl, rfl, Below.refl _ _⟩
        case round =>
          obtain ⟨k, hk, rfl, HE, HB⟩ := hrel
          by_cases hlt : k < n
          · obtain ⟨a, b1, o1, ha, rfl, d1⟩ := HC1.out k (by have := HN1.out; omega)
            obtain ⟨b, b2, o2, hb, rfl, d2⟩ := HC2.out k (by have := HN2.out; omega)
            have hki : (k : Int) < (n : Int) := by omega
            have hk0 : (0 : Int) ≤ (k : Int) := by omega
            have e1 := Below.keeps HB.out _ _ d1
            have e2 := Below.keeps HB.out _ _ d2
            have HL := hid (lnGo_at ha hb)
            clear d1 d2
            have h2 : min a b < 1 ∨ 4096 < max a b → Hid (listsI ls la n = 2) := fun m => by show _ = _; rw [HV.out, HE.out, HL.out, if_pos m]
            by_cases m1 : a < 1
            · have HV2 := h2 (by omega)
              clear HL HE HV h2
              go_wp2_with fail
              try go_quiet (fail)
              go_wp2
              go_ret
              exact ⟨ret_int HV2.out.symm, by first | exact HB.out | exact below_drewN HB.out _⟩
            by_cases m2 : 4096 < a
            · have HV2 := h2 (by omega)
              clear HL HE HV h2
              go_wp2
              go_ret
              exact ⟨ret_int HV2.out.symm, HB.out⟩
            by_cases m3 : b < 1
            · have HV2 := h2 (by omega)
              clear HL HE HV h2
              go_wp2
              go_ret
              exact ⟨ret_int HV2.out.symm, HB.out⟩
            by_cases m4 : 4096 < b
            · have HV2 := h2 (by omega)
              clear HL HE HV h2
              go_wp2
              go_ret
              exact ⟨ret_int HV2.out.symm, HB.out⟩
            have HL2 : Hid (lnGo (prevL la k) (ls.drop k) (la.drop k) = if b < a ∨ lnBad (prevL la k) a = true then 10 else lnGo (prevL la (k + 1)) (ls.drop (k + 1)) (la.drop (k + 1))) := by
              show _ = _
              rw [HL.out, if_neg (by omega)]
            clear HL h2
            by_cases m5 : b < a
            · have HV2 : Hid (listsI ls la n = 10) := by show _ = _; rw [HV.out, HE.out, HL2.out, if_pos (.inl m5)]
              clear HL2 HE HV
              go_wp2_with fail
              go_quiet (fail)
              go_wp2
              go_ret
              exact ⟨ret_int HV2.out.symm, by first | exact below_drewN HB.out _ | exact HB.out⟩
            have m5d : decide (b < a) = false := decide_eq_false m5
            by_cases k0 : k = 0
            · have HE2 : Hid (lnGo none ls la = lnGo (prevL la (k + 1)) (ls.drop (k + 1)) (la.drop (k + 1))) := by
                show _ = _
                rw [HE.out, HL2.out, if_neg]
                rintro (h | h)
                · exact m5 h
                · unfold prevL at h; rw [if_pos k0] at h; cases h
              clear HL2 HE
              subst k0
              have hki0 : (0 : Int) < (n : Int) := by omega
              simp only [Nat.add_zero] at e1 e2
              clear hki hk0
              go_wp2_with fail
              go_quiet (fail)
              go_wp2_with fail
              go_roundw
              case rel => exact ⟨0 + 1, by omega, by go_num, HE2.out, by first | exact below_drewN HB.out _ | exact HB.out⟩
              case measure => simp [intOf]; omega
            · have k0i : (0 : Int) < (k : Int) := by omega
              have k0n : 0 < k := by omega
              have k0d : decide (0 < k) = true := decide_eq_true k0n
              have k0e : decide ((0 : Int) < (k : Int)) = true := decide_eq_true k0i
              obtain ⟨q, b2', o2', hq, eq2, d3⟩ := HC2.out (k - 1) (by have := HN2.out; omega)
              cases eq2
              have e3 := Below.keeps HB.out _ _ d3
              have hkm : (k : Int) - 1 = ((k - 1 : Nat) : Int) := by omega
              have hP : Hid (prevL la k = some q) := by show _ = _; unfold prevL; rw [if_neg k0]; exact hq
              have hkw : IntKind.i64.wrap ((k : Int) - 1) = ((k - 1 : Nat) : Int) := by rw [IntWalk.i64_in _ (by omega)]; exact hkm
              have q1 : (0 : Int) ≤ ((k - 1 : Nat) : Int) := by omega
              have q2 : ((k - 1 : Nat) : Int) < (n : Int) := by omega
              clear d3 hkm
              by_cases m6 : a < q
              · have HV2 : Hid (listsI ls la n = 10) := by show _ = _; rw [HV.out, HE.out, HL2.out, if_pos (.inr (by rw [hP.out]; exact decide_eq_true m6))]
                clear HL2 HE HV hP
                clear k0; generalize k - 1 = k1 at *
                go_wp2_with fail
                go_quiet (fail)
                go_wp2
                go_ret
                exact ⟨ret_int HV2.out.symm, by first | exact below_drewN HB.out _ | exact HB.out⟩
              · have HE2 : Hid (lnGo none ls la = lnGo (prevL la (k + 1)) (ls.drop (k + 1)) (la.drop (k + 1))) := by
                  show _ = _
                  rw [HE.out, HL2.out, if_neg]
                  rintro (h | h)
                  · exact m5 h
                  · rw [hP.out] at h; exact m6 (of_decide_eq_true h)
                have m6d : decide (a < q) = false := decide_eq_false m6
                clear HL2 HE hP
                clear k0; generalize k - 1 = k1 at *
                go_wp2_with fail
                go_quiet (fail)
                go_wp2_with fail
                go_roundw
                case rel => exact ⟨k + 1, by omega, by go_num, HE2.out, by first | exact below_drewN HB.out _ | exact HB.out⟩
                case measure => simp [intOf]; omega
          · have hki : ¬ (k : Int) < (n : Int) := by omega
            have HV2 : Hid (listsI ls la n = 0) := by
              show _ = _
              rw [HV.out, HE.out, List.drop_of_length_le (by have := HN1.out; omega)]
              rfl
            go_wp2
            go_ret
            exact ⟨ret_int HV2.out.symm, HB.out⟩
    · have b1 : ((ls.length : Int) != (n : Int)) = false := by rw [n1]; simp
      have b2 : ((la.length : Int) != (n : Int)) = true := bne_iff_ne.2 (by omega)
      have HV : Hid (listsI ls la n = 9) := by show _ = _; rw [HD.out, if_pos (.inr n2)]
      clear HD n1 n2
      go_enter Tryz.func39, Tryz.ntmps39
      go_wp2
      go_ret
      exact ⟨ret_int HV.out.symm, Below.refl _ _⟩
  · have b1 : ((ls.length : Int) != (n : Int)) = true := bne_iff_ne.2 (by omega)
    have HV : Hid (listsI ls la n = 9) := by show _ = _; rw [HD.out, if_pos (.inl n1)]
    clear HD n1
    go_enter Tryz.func39, Tryz.ntmps39
    go_wp2
    go_ret
    exact ⟨ret_int HV.out.symm, Below.refl _ _⟩

/-- The words that begin in lines from a to b. -/
def winF (ls : List Int) (ws : List ByteArray) (a b : Int) : List ByteArray := ((ls.zip ws).filter fun p => inB a b p.1).map (·.2)
def winTo (ls : List Int) (ws : List ByteArray) (a b : Int) (k : Nat) : List ByteArray := (((ls.zip ws).take k).filter fun p => inB a b p.1).map (·.2)
theorem winTo_succ {ls : List Int} {ws : List ByteArray} {k : Nat} {x : Int} {s : ByteArray} (a b : Int) (hx : ls[k]? = some x) (hs : ws[k]? = some s) :
    winTo ls ws a b (k + 1) = winTo ls ws a b k ++ if inB a b x = true then [s] else [] := by
  have hz : (ls.zip ws)[k]? = some (x, s) := by rw [List.getElem?_zip_eq_some]; exact ⟨hx, hs⟩
  unfold winTo
  rw [List.take_add_one, hz, List.filter_append, List.map_append]
  congr 1
  by_cases h : inB a b x = true
  · simp [h]
  · simp [h]
theorem winTo_all {ls : List Int} {ws : List ByteArray} (a b : Int) {k : Nat} (h : ws.length ≤ k) : winTo ls ws a b k = winF ls ws a b := by
  unfold winTo winF
  rw [List.take_of_length_le (by rw [List.length_zip]; omega)]
theorem winTo_len (ls : List Int) (ws : List ByteArray) (a b : Int) (k : Nat) : (winTo ls ws a b k).length ≤ k := by
  unfold winTo
  rw [List.length_map]
  exact Nat.le_trans (List.length_filter_le _ _) (by rw [List.length_take]; omega)
theorem fIdx_app_eq {α : Type} (p : α → Bool) (a b : List α) : fIdx p (a ++ b) = if 0 ≤ fIdx p a then fIdx p a else if 0 ≤ fIdx p b then fIdx p b + a.length else -1 := by
  unfold fIdx
  rw [List.findIdx?_append]
  cases a.findIdx? p with
  | some i => simp
  | none =>
    cases b.findIdx? p with
    | some j => simp <;> omega
    | none => simp
/-- Nothing found so far: no word. -/
theorem winTo_none {ls : List Int} {ws : List ByteArray} {a b : Int} {k : Nat} (hl : ls.length = ws.length) (h : (winTo ls ws a b k).length = 0) : fIdx (inB a b) (ls.take k) = -1 := by
  refine fIdx_none _ _ fun x hx => ?_
  obtain ⟨i, hi⟩ := List.getElem?_of_mem hx
  have hlt := (List.getElem?_eq_some_iff.1 hi).1
  rw [List.length_take] at hlt
  rw [List.getElem?_take, if_pos (by omega)] at hi
  have hs : ws[i]? = some (ws[i]'(by omega)) := List.getElem?_eq_getElem _
  cases hb : inB a b x with
  | false => rfl
  | true =>
    have hm : (x, ws[i]'(by omega)) ∈ ((ls.zip ws).take k).filter fun p => inB a b p.1 := by
      rw [List.mem_filter]
      refine ⟨?_, hb⟩
      have hz : (ls.zip ws)[i]? = some (x, ws[i]'(by omega)) := by rw [List.getElem?_zip_eq_some]; exact ⟨hi, hs⟩
      refine List.mem_of_getElem? (i := i) ?_
      rw [List.getElem?_take, if_pos (by omega)]
      exact hz
    have := List.length_pos_of_mem hm
    unfold winTo at h
    rw [List.length_map] at h
    omega
theorem winTo_some {ls : List Int} {ws : List ByteArray} {a b : Int} {k : Nat} (hl : ls.length = ws.length) (h : (winTo ls ws a b k).length ≠ 0) : 0 ≤ fIdx (inB a b) (ls.take k) := by
  have h1 := fIdx_pos (inB a b) (ls.take k)
  refine of_decide_eq_true (h1.trans ?_)
  rw [List.any_eq_true]
  cases hw : ((ls.zip ws).take k).filter fun p => inB a b p.1 with
  | nil => unfold winTo at h; rw [hw] at h; simp at h
  | cons p r =>
    have hm : p ∈ ((ls.zip ws).take k).filter fun p => inB a b p.1 := by rw [hw]; exact List.mem_cons_self
    rw [List.mem_filter] at hm
    obtain ⟨hp, hb⟩ := hm
    refine ⟨p.1, ?_, hb⟩
    obtain ⟨i, hi⟩ := List.getElem?_of_mem hp
    have hlt := (List.getElem?_eq_some_iff.1 hi).1
    rw [List.length_take] at hlt
    rw [List.getElem?_take, if_pos (by omega)] at hi
    obtain ⟨h3, _⟩ := List.getElem?_zip_eq_some.1 hi
    refine List.mem_of_getElem? (i := i) ?_
    rw [List.getElem?_take, if_pos (by omega)]
    exact h3
def wAtTo (ls : List Int) (a b : Int) (k : Nat) : Int := if fIdx (inB a b) (ls.take k) < 0 then 0 else fIdx (inB a b) (ls.take k)
theorem wAtTo_no {ls : List Int} {a b x : Int} {k : Nat} (hx : ls[k]? = some x) (h : inB a b x = false) : wAtTo ls a b (k + 1) = wAtTo ls a b k := by
  have e : fIdx (inB a b) (ls.take (k + 1)) = fIdx (inB a b) (ls.take k) := by
    rw [List.take_add_one, hx, fIdx_app_eq]
    have h0 : fIdx (inB a b) (some x).toList = -1 := fIdx_none _ _ (by simp [h])
    rw [h0]
    have := fIdx_cases (inB a b) (ls.take k)
    split
    · rfl
    · rw [if_neg (by omega)]
      rcases this with h1 | ⟨j, _, h1, _⟩
      · omega
      · omega
  unfold wAtTo
  rw [e]
theorem wAtTo_old {ls : List Int} {ws : List ByteArray} {a b x : Int} {k : Nat} (hl : ls.length = ws.length) (hx : ls[k]? = some x) (h : (winTo ls ws a b k).length ≠ 0) : wAtTo ls a b (k + 1) = wAtTo ls a b k := by
  have h0 := winTo_some hl h
  have e : fIdx (inB a b) (ls.take (k + 1)) = fIdx (inB a b) (ls.take k) := by
    rw [List.take_add_one, hx, fIdx_app_eq, if_pos h0]
  unfold wAtTo
  rw [e]
theorem wAtTo_new {ls : List Int} {ws : List ByteArray} {a b x : Int} {k : Nat} (hl : ls.length = ws.length) (hx : ls[k]? = some x) (hb : inB a b x = true) (h : (winTo ls ws a b k).length = 0) : wAtTo ls a b (k + 1) = (k : Int) := by
  have h0 := winTo_none hl h
  have hlt := (List.getElem?_eq_some_iff.1 hx).1
  have e : fIdx (inB a b) (ls.take (k + 1)) = (k : Int) := by
    rw [List.take_add_one, hx, fIdx_app_eq, if_neg (by omega)]
    have h1 : fIdx (inB a b) (some x).toList = ((0 : Nat) : Int) := fIdx_hit _ _ 0 x (by simp) (by simp) hb
    rw [h1, if_pos (by omega), List.length_take]
    omega
  unfold wAtTo
  rw [e, if_neg (by omega)]
theorem own_slice {W : World} {base size n : Nat} {e : TypeId} {v : Value} {xs : List Value} (h : W.ownsRow base e size v n xs) : ∃ ad cap, v = .slice ad n cap := by
  rcases h.2 with ⟨rfl, hn⟩ | ⟨g, cap, cur, rfl, _⟩
  · exact ⟨none, 0, by rw [hn]⟩
  · exact ⟨_, _, rfl⟩

set_option maxRecDepth 100000 in
set_option maxHeartbeats 4000000 in
theorem rwindow_any (v s : Value) (ls : List Int) (ws : List ByteArray) (f t : Int) (w : World) (hv : RdI w v ls) (hs : RdS w s ws) (hlw : ls.length = ws.length) (hlen : ws.length ≤ 65536) :
    Calls Tryz.prog 40 #[v, s, .int .i64 f, .int .i64 t] w fun e w' => ∃ r, e = .returned (.tuple #[r, .int .i64 (wAt ls f t)]) ∧ RdS w' r (winF ls ws f t) ∧ Below w.heap.size w w' := by
  obtain ⟨a1, c1, rfl, hl1, hm1, hC1⟩ := hv.open
  obtain ⟨a3, c3, rfl, hl3, hm3, hC3⟩ := hs.open
  have HC1 := hid hC1
  have HC3 := hid hC3
  have HL := hid hlw
  clear hC1 hC3 hv hs
  have HEND : Hid (∀ k, ws.length ≤ k → wAtTo ls f t k = wAt ls f t) := fun k hk => by
    unfold wAtTo wAt wFst
    rw [List.take_of_length_le (by omega)]
  rw [hlw] at hl1 ⊢
  clear hlw
  go_enter Tryz.func40, Tryz.ntmps40
  go_wp2
  go_loopw [10, 11, 12] (fun ov fv i wr => ∃ (k : Nat) (ad : Option Addr) (m cp : Nat) (q : Int), k ≤ ws.length ∧ i = .int .i64 k ∧ ov = .slice ad m cp ∧ fv = .int .i64 q ∧ Hid (q = wAtTo ls f t k) ∧ Hid (m = (winTo ls ws f t k).length) ∧
    Hid (wr.ownsRow w.heap.size 9 1 (.slice ad m cp) m ((winTo ls ws f t k).map Value.string)) ∧ Hid (Below w.heap.size w wr)) (fun _ _ i _ => ws.length - (intOf i).toNat)
  case atStart => exact ⟨0, some ⟨w.heap.size, 0, none⟩, 0, 0, 0, Nat.zero_le _, rfl, rfl, rfl, rfl, rfl, World.ownsRow_made w #[] 0 (Nat.le_refl _) (Nat.zero_le _) rfl, below_al w _⟩
  case round =>
    obtain ⟨k, ad, m, cp, q, hk, rfl, rfl, rfl, HQ, HM, HO, HB⟩ := hrel
    by_cases hlt : k < ws.length
    · obtain ⟨x, b1, o1, hx, rfl, d1⟩ := HC1.out k (by have := HL.out; omega)
      obtain ⟨y, b3, o3, hy, rfl, d3⟩ := HC3.out k hlt
      have hki : (k : Int) < (ws.length : Int) := by omega
      have hk0 : (0 : Int) ≤ (k : Int) := by omega
      have e1 := Below.keeps HB.out _ _ d1
      have e3 := Below.keeps HB.out _ _ d3
      have HS := hid (winTo_succ f t hx hy)
      have hno : inB f t x = false → Hid (wAtTo ls f t (k + 1) = wAtTo ls f t k) := fun h => wAtTo_no hx h
      have hold : (winTo ls ws f t k).length ≠ 0 → Hid (wAtTo ls f t (k + 1) = wAtTo ls f t k) := fun h => wAtTo_old HL.out hx h
      have hnew : inB f t x = true → (winTo ls ws f t k).length = 0 → Hid (wAtTo ls f t (k + 1) = (k : Int)) := fun h1 h2 => wAtTo_new HL.out hx h1 h2
      clear d1 d3 hx hy
      have skip : inB f t x = false → ∃ (k' : Nat) (ad' : Option Addr) (m' cp' : Nat) (q' : Int), k' ≤ ws.length ∧ (Value.int .i64 (k + 1 : Nat)) = .int .i64 k' ∧ Value.slice ad m cp = .slice ad' m' cp' ∧ Value.int .i64 q = .int .i64 q' ∧ Hid (q' = wAtTo ls f t k') ∧ Hid (m' = (winTo ls ws f t k').length) ∧
          Hid (wr.ownsRow w.heap.size 9 1 (.slice ad' m' cp') m' ((winTo ls ws f t k').map Value.string)) ∧ Hid (Below w.heap.size w wr) := fun h => by
        have e : winTo ls ws f t (k + 1) = winTo ls ws f t k := by rw [HS.out, if_neg (by rw [h]; simp), List.append_nil]
        exact ⟨k + 1, ad, m, cp, q, by omega, rfl, rfl, rfl, by show _ = _; rw [HQ.out, (hno h).out], by show _ = _; rw [e]; exact HM.out, by show World.ownsRow _ _ _ _ _ _ _; rw [e]; exact HO.out, HB.out⟩
      by_cases m1 : x < f
      · have HK := hid (skip (by unfold inB; rw [decide_eq_false (by omega)]; rfl))
        have m1d : ¬ f ≤ x := by omega
        clear skip hno hold hnew HS HQ HM
        go_wp2_with fail
        go_roundw
        case rel => exact by simpa using HK.out
        case measure => simp [intOf]; omega
      have m1d : f ≤ x := by omega
      by_cases m2 : t < x
      · have HK := hid (skip (by unfold inB; rw [decide_eq_false (show ¬ x ≤ t by omega)]; simp))
        have m2d : ¬ x ≤ t := by omega
        clear skip hno hold hnew HS HQ HM
        go_wp2_with fail
        go_roundw
        case rel => exact by simpa using HK.out
        case measure => simp [intOf]; omega
      have m2d : x ≤ t := by omega
      have hin : inB f t x = true := by unfold inB; rw [decide_eq_true m1d, decide_eq_true m2d]; rfl
      have HE2 : Hid (winTo ls ws f t (k + 1) = winTo ls ws f t k ++ [y]) := by show _ = _; rw [HS.out, if_pos hin]
      have HNX : Hid (∀ (q' : Int) (v' : Value) (W' : World), W'.ownsRow w.heap.size 9 1 v' (m + 1) ((winTo ls ws f t k).map Value.string ++ [.string y]) → Below w.heap.size w W' → q' = wAtTo ls f t (k + 1) →
          ∃ (k' : Nat) (ad' : Option Addr) (m' cp' : Nat) (q2 : Int), k' ≤ ws.length ∧ (Value.int .i64 (k + 1 : Nat)) = .int .i64 k' ∧ v' = .slice ad' m' cp' ∧ Value.int .i64 q' = .int .i64 q2 ∧ Hid (q2 = wAtTo ls f t k') ∧ Hid (m' = (winTo ls ws f t k').length) ∧
          Hid (W'.ownsRow w.heap.size 9 1 (.slice ad' m' cp') m' ((winTo ls ws f t k').map Value.string)) ∧ Hid (Below w.heap.size w W')) := by
        intro q' v' W' ho hb hq
        obtain ⟨ad', cp', rfl⟩ := own_slice ho
        refine ⟨k + 1, ad', m + 1, cp', q', by omega, rfl, rfl, rfl, hq, ?_, ?_, hb⟩
        · show _ = _; rw [HE2.out, List.length_append, ← HM.out]; rfl
        · show World.ownsRow _ _ _ _ _ _ _; rw [HE2.out, List.map_append]; exact ho
      have hml := winTo_len ls ws f t k
      have hm16 : m ≤ 65536 := by have := HM.out; omega
      have hown := HO.out
      have hBs := HB.out.size
      by_cases m3 : m = 0
      · have HW := hid (hnew hin (by have := HM.out; omega)).out.symm
        have m3b : ((m : Int) == 0) = true := by rw [m3]; rfl
        clear skip hno hold hnew HS HQ HM HE2 hin hml m3
        go_wp2_with (at_builtin; refine wpList_ap rfl _ _ 23 rfl w.heap.size 9 Tryz.underlying23 infoStr rfl (by decide) (by decide) (.slice ad m cp) m ((winTo ls ws f t k).map Value.string) rfl hown [.string y] rfl (by simp [Value.oneCell']) rfl (by simp) (by omega) hBs ?_; intro v' w4 hown' hb1 _)
        have HO4 := hid (HNX.out _ v' w4 hown' (HB.out.trans hb1) HW.out)
        clear hown' hb1 HNX HW hown
        go_wp2_with fail
        go_roundw
        case rel => exact by simpa using HO4.out
        case measure => simp [intOf]; omega
      · have m3b : ((m : Int) == 0) = false := beq_eq_false_iff_ne.2 (by omega)
        have HW : Hid (q = wAtTo ls f t (k + 1)) := by show _ = _; rw [HQ.out, (hold (by have := HM.out; omega)).out]
        clear skip hno hold hnew HS HQ HM HE2 hin hml
        go_wp2_with (at_builtin; refine wpList_ap rfl _ _ 23 rfl w.heap.size 9 Tryz.underlying23 infoStr rfl (by decide) (by decide) (.slice ad m cp) m ((winTo ls ws f t k).map Value.string) rfl hown [.string y] rfl (by simp [Value.oneCell']) rfl (by simp) (by omega) hBs ?_; intro v' w4 hown' hb1 _)
        have HO4 := hid (HNX.out _ v' w4 hown' (HB.out.trans hb1) HW.out)
        clear hown' hb1 HNX HW hown
        go_wp2_with fail
        go_roundw
        case rel => exact by simpa using HO4.out
        case measure => simp [intOf]; omega
    · have hki : ¬ (k : Int) < (ws.length : Int) := by omega
      have HV : Hid (q = wAt ls f t) := by show _ = _; rw [HQ.out, HEND.out k (by omega)]
      have HO2 : Hid (wr.ownsRow w.heap.size 9 1 (.slice ad m cp) m ((winF ls ws f t).map Value.string)) := by
        have h := HO.out
        rw [winTo_all f t (by omega)] at h
        exact h
      have HM2 : Hid (m = (winF ls ws f t).length) := by have h := HM.out; rw [winTo_all f t (by omega)] at h; exact h
      clear HO HM HQ HEND
      go_wp2
      go_ret2
      refine ⟨.slice ad m cp, by rw [HV.out]; rfl, ?_, HB.out⟩
      have h := HO2.out
      rw [HM2.out] at h ⊢
      exact Rd.of_own h
end Go.Proofs.YtjhdeoniafahbaaGreatDoor
