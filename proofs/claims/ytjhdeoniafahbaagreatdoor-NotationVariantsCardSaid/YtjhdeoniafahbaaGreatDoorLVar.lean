/-
  P45.6: NotationVariants.
-/
import Derived.Test.YtjhdeoniafahbaaGreatDoorLSup
namespace Go.Proofs.YtjhdeoniafahbaaGreatDoor
open Go.RowKit

/-- One of the variants. -/
theorem RdV.sub {W : World} {b off n c : Nat} {l : List Vr} (h : RdV W (.slice (some ⟨b, off, none⟩) n c) l) {k : Nat} {v : Vr} (hv : l[k]? = some v) : RdV W (.slice (some ⟨b, off + k * 2, none⟩) 1 (c - k)) [v] := by
  obtain ⟨a, cap, e, h2, h3, h4⟩ := h
  cases e
  obtain ⟨b', off', u, s, e, c0, c1, hr, hs⟩ := h4 k v hv
  cases e
  have hlt := (List.getElem?_eq_some_iff.1 hv).1
  refine ⟨some ⟨b, off + k * 2, none⟩, c - k, rfl, by simp; omega, by omega, fun i x hx => ?_⟩
  match i, hx with
  | 0, hx => cases hx; exact ⟨b, off + k * 2, u, s, rfl, by simpa using c0, by simpa using c1, hr, hs⟩
theorem cutW_any (s : ByteArray) (m : Int) (w : World) (hs : s.size < 4294967281) (hm : w.cell? ⟨0, 0, none⟩ = some (.int .i64 m)) (a b : ByteArray) (h : Lib.cut s.data.toList [32, 93, 32] = (a.data.toList, b.data.toList, true)) :
    Calls Tryz.prog 25 #[.string s, .string ⟨#[32, 93, 32]⟩] w fun e w' => e = .returned (.tuple #[.string a, .string b, .bool true]) ∧ Below w.heap.size w w' := by
  refine (Go.Proofs.Any.strings_Cut { Tryz.laysM145 with } s ⟨#[32, 93, 32]⟩ m w hs hm).mono ?_
  rintro e w' ⟨rfl, n, rfl⟩
  refine ⟨?_, below_drewN (Below.refl _ _) n⟩
  show Ending.returned (.tuple #[.string ⟨(Lib.cut s.data.toList [32, 93, 32]).1.toArray⟩, .string ⟨(Lib.cut s.data.toList [32, 93, 32]).2.1.toArray⟩, .bool (Lib.cut s.data.toList [32, 93, 32]).2.2]) = _
  rw [h]
theorem joinS_any (v : Value) (l : List ByteArray) (sep : ByteArray) (w : World) (hr : RdS w v l) (hn : l ≠ []) (hlen : l.length ≤ 140737488355328) (hj : (Lib.join (l.map (·.data.toList)) sep.data.toList).length ≤ 140737488355328) :
    Calls Tryz.prog 26 #[v, .string sep] w fun e w' => e = .returned (.string ⟨(Lib.join (l.map (·.data.toList)) sep.data.toList).toArray⟩) ∧ Below w.heap.size w w' := by
  obtain ⟨a, cap, rfl, hlc, hcm, hcell⟩ := hr.open
  obtain ⟨x, b, off, hx, rfl, hc0⟩ := hcell 0 (by cases l with | nil => exact absurd rfl hn | cons _ _ => simp)
  refine (Tryz.strings_Join b off cap l sep w (fun j y hy => by
        obtain ⟨x, b', off', hx', e, hc⟩ := hcell j (List.getElem?_eq_some_iff.1 hy).1
        cases e
        rw [hy] at hx'; cases hx'
        exact hc) (World.block_lt_of_cell? _ _ hc0) (by omega) hlc hj).mono ?_
  rintro e w' ⟨rfl, hB⟩
  exact ⟨rfl, hB⟩
def oneL (x : Nt) (k : Nat) : Option Vr := x.vs[k]?
/-- The notations of the variants. -/
def bitL (x : Nt) (k : Nat) : List ByteArray := (x.vs.take k).map fun v => joinB (oneV v)
set_option maxRecDepth 100000 in
set_option maxHeartbeats 8000000 in
theorem lvar_any (x : Nt) (u s : Value) (m : Int) (w : World) (he : Env w) (hm : w.cell? ⟨0, 0, none⟩ = some (.int .i64 m)) (hr : RdN w u s x) (hz : SzN0 x) :
    Calls Tryz.prog 7 #[.agg (x.cells u s)] w fun e w' => e = .returned (.bool true) ∧ Below w.heap.size w w' := by
  have HE := fun w' (h : Below w.heap.size w w') => hid (he.below h)
  have HM := fun w' (h : Below w.heap.size w w') => hid (Below.keeps h _ _ hm)
  have HAW := fun w' (h : Below w.heap.size w w') => hid (awake45_any m w' (HE w' h).out (HM w' h).out)
  obtain ⟨au, cu, rfl, _, _, _⟩ := hr.rs.open
  obtain ⟨av, cv, rfl, hvc, _, hvcell⟩ := hr.rv.open
  have HAV : Hid (0 < x.vs.length → ∃ b o, av = some ⟨b, o, none⟩) := fun h => by
    obtain ⟨_, b, o, _, _, _, e, _⟩ := hvcell 0 h
    exact ⟨b, o, e⟩
  have HCV : Hid (x.vs.length ≤ cv) := hvc
  clear hvc hvcell
  have HRU := hid hr.rs
  have HRV := hid hr.rv
  have HNV : Hid (gnB x = false → x.vs.length ≤ 4) := fun h => (nt_small h).vl
  have HNL := hid (rfl : x.vs.length = x.vs.length)
  generalize x.sup.length = nu at *
  generalize hnv0 : x.vs.length = nv at *
  have HR := fun w' (h : Below w.heap.size w w') => hid (hr.below h)
  have HB0 := hid (below_al w (.cells (x.cells (.slice au nu cu) (.slice av nv cv)) 30))
  have HN0 := hid (row_nw w (x.cells (.slice au nu cu) (.slice av nv cv)) 30 rfl)
  have HG := hid (greatN_any x (.slice au nu cu) (.slice av nv cv) _ (HR _ HB0.out).out hz)
  have HNS := fun h => hid (nt_small (x := x) h)
  have HCK := fun w' (h : Below w.heap.size w w') hz => hid (pchk_any x (.slice au nu cu) (.slice av nv cv) w' (HE w' h).out (HR w' h).out hz)
  have HPX := fun w' (h : Below w.heap.size w w') hz => hid (pprt_any x (.slice au nu cu) (.slice av nv cv) w' (HE w' h).out (HR w' h).out hz)
  clear he hm hr hz HR HNL
  have HNL := hid hnv0
  clear hnv0
  unfold Nt.cells at HB0 HN0 HG HCK HPX ⊢
  have c0 := HN0.out.cell 0 (x := .int .i64 x.fr) rfl
  have c1 := HN0.out.cell 1 (x := .int .i64 x.to_) rfl
  have c2 := HN0.out.cell 2 (x := .int .i64 x.pl) rfl
  have c3 := HN0.out.cell 3 (x := .string x.lf) rfl
  have c4 := HN0.out.cell 4 (x := .string x.ll) rfl
  have c5 := HN0.out.cell 5 (x := .int .i64 x.ln) rfl
  have c6 := HN0.out.cell 6 (x := .bool x.pos) rfl
  have c7 := HN0.out.cell 7 (x := .slice au nu cu) rfl
  have c8 := HN0.out.cell 8 (x := .slice av nv cv) rfl
  go_enter Tryz.func7, Tryz.ntmps7
  go_upto_region 1 with fail
  generalize w.alloc (.cells #[.int .i64 x.fr, .int .i64 x.to_, .int .i64 x.pl, .string x.lf, .string x.ll, .int .i64 x.ln, .bool x.pos, .slice au nu cu, .slice av nv cv] 30) = W0 at *
  obtain ⟨bn, hbn⟩ : ∃ b, b = w.heap.size := ⟨_, rfl⟩
  rw [← hbn] at HN0 c0 c1 c2 c3 c4 c5 c6 c7 c8 ⊢
  have HBN := hid hbn
  clear hbn
  cases hg : gnB x with
  | true =>
    rw [hg] at HG
    clear hg HNV HNS HCK HPX
    go_wp2_with fail
    (with_reducible refine HG.out.mono ?_)
    rintro e w1 ⟨rfl, hB⟩
    have HB1 := hid (below_tr HB0.out hB)
    have HN1 := hid (HN0.out.below hB)
    clear hB
    clear c0 c1 c2 c3 c4 c5 c6 c7 c8
    go_wp2_with fail
    (with_reducible refine (HAW _ HB1.out).out.mono ?_)
    rintro e wa ⟨rfl, hBa⟩
    go_wp2
    go_ret
    exact ⟨rfl, below_tr HB1.out hBa⟩
  | false =>
    have HSM := HNS hg
    have HSZ := hid (nt_sz HSM.out)
    have HN4 := hid (HNV.out hg)
    have HPE := hid (prE_small HSM.out)
    rw [hg] at HG
    clear hg HNV HNS
    have HNV := HN4
    clear HN4
    go_wp2_with fail
    (with_reducible refine HG.out.mono ?_)
    rintro e w1 ⟨rfl, hB⟩
    have HB1 := hid (below_tr HB0.out hB)
    have HN1 := hid (HN0.out.below hB)
    clear hB
    clear c0 c1 c2 c3 c4 c5 c6 c7 c8
    have c0 := HN1.out.cell 0 (x := .int .i64 x.fr) rfl
    have c1 := HN1.out.cell 1 (x := .int .i64 x.to_) rfl
    have c2 := HN1.out.cell 2 (x := .int .i64 x.pl) rfl
    have c3 := HN1.out.cell 3 (x := .string x.lf) rfl
    have c4 := HN1.out.cell 4 (x := .string x.ll) rfl
    have c5 := HN1.out.cell 5 (x := .int .i64 x.ln) rfl
    have c6 := HN1.out.cell 6 (x := .bool x.pos) rfl
    have c7 := HN1.out.cell 7 (x := .slice au nu cu) rfl
    have c8 := HN1.out.cell 8 (x := .slice av nv cv) rfl
    have HC1 := HCK _ HB1.out HSZ.out
    clear HCK HG
    by_cases hE : nteI x = 0
    · have HNE := hid hE
      have HVO := fun v (hv : v ∈ x.vs) => variants_one (x := x) HNE.out HSM.out hv
      have HVA := hid (variants_all (x := x) hE)
      have h0v := (note_ok hE).v0
      have HP0 : Hid (prE x = 0) := by show _ = _; rw [HPE.out, hE]
      have hn0 : 0 < nv := by
        rw [← HNL.out]
        exact List.length_pos_iff.2 h0v
      obtain ⟨bv, ov, rfl⟩ := HAV.out hn0
      rw [hE] at HC1
      clear hE HPE HAV h0v
      go_wp2_with fail
      (with_reducible refine HC1.out.mono ?_)
      rintro e w2 ⟨rfl, hB⟩
      have HB2 := hid (below_tr HB1.out hB)
      have HN2 := hid (HN1.out.below hB)
      clear hB
      clear c0 c1 c2 c3 c4 c5 c6 c7 c8
      have c0 := HN2.out.cell 0 (x := .int .i64 x.fr) rfl
      have c1 := HN2.out.cell 1 (x := .int .i64 x.to_) rfl
      have c2 := HN2.out.cell 2 (x := .int .i64 x.pl) rfl
      have c3 := HN2.out.cell 3 (x := .string x.lf) rfl
      have c4 := HN2.out.cell 4 (x := .string x.ll) rfl
      have c5 := HN2.out.cell 5 (x := .int .i64 x.ln) rfl
      have c6 := HN2.out.cell 6 (x := .bool x.pos) rfl
      have c7 := HN2.out.cell 7 (x := .slice au nu cu) rfl
      have c8 := HN2.out.cell 8 (x := .slice (some ⟨bv, ov, none⟩) nv cv) rfl
      have HP2 := HPX _ HB2.out HSZ.out
      have hps : prS x = prN x := by unfold prS; rw [if_pos HP0.out]
      rw [HP0.out, hps] at HP2
      have hxn : (prN x).size ≤ 65536 := prN_small (note_ok HNE.out) HSM.out
      clear HPX HC1 hps
      generalize hpn : prN x = pn at *
      have HPN := hid hpn
      clear hpn
      go_wp2_with fail
      (with_reducible refine HP2.out.mono ?_)
      rintro e w3 ⟨rfl, hB⟩
      have HB3 := hid (below_tr HB2.out hB)
      have HN3 := hid (HN2.out.below hB)
      clear hB
      clear c0 c1 c2 c3 c4 c5 c6 c7 c8
      have c8 := HN3.out.cell 8 (x := .slice (some ⟨bv, ov, none⟩) nv cv) rfl
      have HW3 : Hid (w.heap.size ≤ w3.heap.size) := HB3.out.size
      have HN3lt : Hid (bn < w3.heap.size) := HN3.out.lt
      have HN0p := hid hn0
      clear HB1 HN1 HB2 HN2 HP2 hn0
      go_wp2_with fail
      clear c8
      go_loopw [5, 6, 32] (fun bgv rv iv wr => ∃ k : Nat, k ≤ nv ∧ iv = .int .i64 k ∧ Hid (∃ bg : ByteArray, bgv = .string bg ∧ Hid (bg = if k = 0 then ⟨#[]⟩ else joinB (frontL x))) ∧ wr.ownsRow w3.heap.size 9 1 rv k ((bitL x k).map Value.string) ∧ Hid (Below w.heap.size w wr) ∧ Hid (Row wr bn #[.int .i64 x.fr, .int .i64 x.to_, .int .i64 x.pl, .string x.lf, .string x.ll, .int .i64 x.ln, .bool x.pos, .slice au nu cu, .slice (some ⟨bv, ov, none⟩) nv cv] 30) ∧ Hid (w3.heap.size ≤ wr.heap.size))
        (fun _ _ iv _ => nv - (intOf iv).toNat)
      case atStart => exact ⟨0, Nat.zero_le _, rfl, ⟨_, rfl, rfl⟩, World.ownsRow_nil _ _ _ _, HB3, HN3, Nat.le_refl _⟩
      case round =>
        rename_i wr
        obtain ⟨k, hk, rfl, HBG, hown, HBw, HNw, HWr⟩ := hrel
        obtain ⟨bg, rfl, HBG2⟩ := HBG.out
        clear HBG
        have c0 := HNw.out.cell 0 (x := .int .i64 x.fr) rfl
        have c1 := HNw.out.cell 1 (x := .int .i64 x.to_) rfl
        have c2 := HNw.out.cell 2 (x := .int .i64 x.pl) rfl
        have c3 := HNw.out.cell 3 (x := .string x.lf) rfl
        have c4 := HNw.out.cell 4 (x := .string x.ll) rfl
        have c5 := HNw.out.cell 5 (x := .int .i64 x.ln) rfl
        have c6 := HNw.out.cell 6 (x := .bool x.pos) rfl
        have c7 := HNw.out.cell 7 (x := .slice au nu cu) rfl
        have c8 := HNw.out.cell 8 (x := .slice (some ⟨bv, ov, none⟩) nv cv) rfl
        by_cases hkn : k < nv
        · have hki : (k : Int) < (nv : Int) := by omega
          have HKN := hid hkn
          obtain ⟨v, hv, HD0, HD1⟩ : ∃ v : Vr, x.vs[k]? = some v ∧ Hid (v ∈ x.vs) ∧ Hid (oneL x k = some v) := by
            have h := List.getElem?_eq_getElem (l := x.vs) (i := k) (by rw [HNL.out]; exact hkn)
            exact ⟨_, h, List.getElem_mem _, h⟩
          have HV1 := hid (HVO v HD0.out)
          have HSZ1 := hid (nt_sz (one_small HSM.out HD0.out))
          have hsub := HRV.out.sub hv
          have hal := below_al wr (.cells ((one1 x v).cells (.slice au nu cu) (.slice (some ⟨bv, ov + k * 2, none⟩) 1 (cv - k))) 30)
          have HB5 := hid (below_tr HBw.out hal)
          have HSr0 : Hid (wr.heap.size ≤ (wr.alloc (.cells ((one1 x v).cells (.slice au nu cu) (.slice (some ⟨bv, ov + k * 2, none⟩) 1 (cv - k))) 30)).heap.size) := hal.size
          have HN5 := hid (HNw.out.below hal)
          have HO5 := hid (row_nw wr ((one1 x v).cells (.slice au nu cu) (.slice (some ⟨bv, ov + k * 2, none⟩) 1 (cv - k))) 30 rfl)
          have HPR := hid (pprt_any (one1 x v) (.slice au nu cu) (.slice (some ⟨bv, ov + k * 2, none⟩) 1 (cv - k)) _ (HE _ HB5.out).out ⟨HRU.out.below HB5.out, hsub.below HB5.out⟩ HSZ1.out)
          have hps : prS (one1 x v) = prN (one1 x v) := by unfold prS; rw [if_pos HV1.out.1]
          rw [hps, HV1.out.1] at HPR
          have hown5 := hid (own_below hown hal)
          have hsn : (prN (one1 x v)).size ≤ 65536 := by
            have h0 := HV1.out.1
            unfold prE at h0
            split at h0
            · split at h0
              · cases h0
              · omega
            · rename_i hc; exact absurd h0 hc
          have HCU := fun w' (h : Below w.heap.size w w') => hid (cutW_any (prN (one1 x v)) m w' (by omega) (HM w' h).out (joinB (frontL x)) (joinB (oneV v)) HV1.out.2)
          generalize prN (one1 x v) = sn at *
          unfold Nt.cells at HB5 HN5 HO5 HPR hown5 HSr0
          dsimp only [one1] at HB5 HN5 HO5 HPR hown5 HSr0
          have w1 : IntKind.i64.wrap ((k : Int) + 1) = ((k + 1 : Nat) : Int) := by have := HNV.out; rw [IntWalk.i64_in _ (by omega)]; rfl
          have w2 : (0 : Int) ≤ (k : Int) := by omega
          have w3 : (k : Int) ≤ ((k + 1 : Nat) : Int) := by omega
          have w4 : ((k + 1 : Nat) : Int) ≤ (cv : Int) := by have := HCV.out; omega
          have w5 : k ≤ k + 1 := by omega
          have w6 : k + 1 ≤ cv := by have := HCV.out; omega
          have w7 : ¬ cv = k := by have := HCV.out; omega
          have w8 : k + 1 - k = 1 := by omega
          have c8a := cell_al c8 (.cells #[.int .i64 x.fr, .int .i64 x.to_, .int .i64 x.pl, .string x.lf, .string x.ll, .int .i64 x.ln, .bool x.pos, .slice au nu cu, .slice (some ⟨bv, ov, none⟩) nv cv] 30)
          clear hv hsub hal hps hsn HD0 HV1 HSZ1
          go_upto_region 12 with fail
          generalize wr.alloc (.cells #[.int .i64 x.fr, .int .i64 x.to_, .int .i64 x.pl, .string x.lf, .string x.ll, .int .i64 x.ln, .bool x.pos, .slice au nu cu, .slice (some ⟨bv, ov + k * 2, none⟩) 1 (cv - k)] 30) = W5 at *
          obtain ⟨b5, hb5⟩ : ∃ b, b = wr.heap.size := ⟨_, rfl⟩
          rw [← hb5] at HO5 ⊢
          clear hb5
          clear c8a w1 w2 w3 w4 w5 w6 w7 w8 c0 c1 c2 c3 c4 c5 c6 c7 c8 HBw HNw hown
          have d0 := HO5.out.cell 0 (x := .int .i64 x.fr) rfl
          have d1 := HO5.out.cell 1 (x := .int .i64 x.to_) rfl
          have d2 := HO5.out.cell 2 (x := .int .i64 x.pl) rfl
          have d3 := HO5.out.cell 3 (x := .string x.lf) rfl
          have d4 := HO5.out.cell 4 (x := .string x.ll) rfl
          have d5 := HO5.out.cell 5 (x := .int .i64 x.ln) rfl
          have d6 := HO5.out.cell 6 (x := .bool x.pos) rfl
          have d7 := HO5.out.cell 7 (x := .slice au nu cu) rfl
          have d8 := HO5.out.cell 8 (x := .slice (some ⟨bv, ov + k * 2, none⟩) 1 (cv - k)) rfl
          go_wp2_with fail
          (with_reducible refine HPR.out.mono ?_)
          rintro e w6 ⟨rfl, hB⟩
          have HB6 := hid (below_tr HB5.out hB)
          have HN6 := hid (HN5.out.below hB)
          have hown6 := hid (own_below hown5.out hB)
          have HSr : Hid (wr.heap.size ≤ w6.heap.size) := by show _ ≤ _; have := HSr0.out; have := hB.size; omega
          clear hB HPR HB5 HN5 HO5 hown5 d0 d1 d2 d3 d4 d5 d6 d7 d8
          go_wp2_with fail
          (with_reducible refine (HCU _ HB6.out).out.mono ?_)
          rintro e w7 ⟨rfl, hB⟩
          have HB7 := hid (below_tr HB6.out hB)
          have HN7 := hid (HN6.out.below hB)
          have hown7 := own_below hown6.out hB
          have hsz7 : w3.heap.size ≤ w7.heap.size := Nat.le_trans HWr.out (Nat.le_trans HSr.out hB.size)
          clear hB HCU HB6 HN6 hown6
          have HKB : Hid (k = 0 ∨ bg = joinB (frontL x)) := by
            by_cases h : k = 0
            · exact .inl h
            · refine .inr ?_
              rw [HBG2.out, if_neg h]
          have HFB : Hid (joinB (frontL x) = if k + 1 = 0 then ⟨#[]⟩ else joinB (frontL x)) := by show _ = _; rw [if_neg (by omega)]
          have HBT : Hid ((bitL x (k + 1)).map Value.string = (bitL x k).map Value.string ++ [.string (joinB (oneV v))]) := by
            show _ = _
            have h1 : x.vs[k]? = some v := HD1.out
            unfold bitL
            rw [List.take_add_one, h1]; simp
          have hkk : k ≤ 1000 := by have := HNV.out; omega
          clear HBG2 HD1
          generalize joinB (oneV v) = ob at *
          obtain ⟨fb, hfb⟩ : ∃ fb, fb = joinB (frontL x) := ⟨_, rfl⟩
          rw [← hfb] at HKB HFB ⊢
          have HFBE := hid hfb
          clear hfb
          by_cases q1 : (0 : Int) < (k : Int)
          · have hbg : bg = fb := by
              rcases HKB.out with h | h
              · omega
              · exact h
            subst hbg
            clear HKB
            go_wp2_with (at_builtin; refine wpList_ap rfl _ _ 23 rfl w3.heap.size 9 Tryz.underlying23 infoStr rfl (by decide) (by decide) u6 k ((bitL x k).map Value.string) rfl hown7 [.string ob] rfl (by simp [Value.oneCell']) rfl (by simp) (by omega) hsz7 ?_; intro v' w8 hown' hb1 _)
            go_roundw
            case rel => exact ⟨k + 1, by omega, by go_num, ⟨_, rfl, by show _ = _; rw [← HFBE.out]; exact HFB.out⟩, by rw [HBT.out]; exact hown', HB7.out.trans (hb1.mono HW3.out), (hb1.block _ (by have := HN3lt.out; omega)).trans HN7.out, by have := hb1.size; show _ ≤ _; omega⟩
            case measure => simp [intOf]; omega
          · clear HKB
            go_wp2_with (at_builtin; refine wpList_ap rfl _ _ 23 rfl w3.heap.size 9 Tryz.underlying23 infoStr rfl (by decide) (by decide) u6 k ((bitL x k).map Value.string) rfl hown7 [.string ob] rfl (by simp [Value.oneCell']) rfl (by simp) (by omega) hsz7 ?_; intro v' w8 hown' hb1 _)
            go_roundw
            case rel => exact ⟨k + 1, by omega, by go_num, ⟨_, rfl, by show _ = _; rw [← HFBE.out]; exact HFB.out⟩, by rw [HBT.out]; exact hown', HB7.out.trans (hb1.mono HW3.out), (hb1.block _ (by have := HN3lt.out; omega)).trans HN7.out, by have := hb1.size; show _ ≤ _; omega⟩
            case measure => simp [intOf]; omega
        · have hki : ¬ (k : Int) < (nv : Int) := by omega
          obtain rfl : k = nv := by omega
          have hbg : bg = joinB (frontL x) := by rw [HBG2.out, if_neg (by have := HN0p.out; omega)]
          have hlen : (bitL x k).length = k := by unfold bitL; rw [List.length_map, List.length_take, HNL.out]; omega
          have hrd : RdS wr u6 (bitL x k) := Rd.of_own (by rw [hlen]; exact hown)
          have hall : bitL x k = x.vs.map fun v => joinB (oneV v) := by unfold bitL; rw [← HNL.out, List.take_length]
          have hva := HVA.out
          have hjm : (x.vs.map fun u => (joinB (oneV u)).data.toList) = (bitL x k).map (·.data.toList) := by rw [hall, List.map_map]; rfl
          rw [hjm] at hva
          have hlens := congrArg List.length hva
          simp only [List.length_append, List.length_cons, ba_len] at hlens
          have HJ := hid (joinS_any u6 (bitL x k) ⟨#[32, 124, 32]⟩ wr hrd (fun e => by rw [e] at hlen; simp at hlen; have := HN0p.out; omega) (by rw [hlen]; have := HNV.out; omega) (by show (Lib.join _ [32, 124, 32]).length ≤ _; omega))
          have hje : (⟨(Lib.join ((bitL x k).map (·.data.toList)) [32, 124, 32]).toArray⟩ : ByteArray).data.toList = Lib.join ((bitL x k).map (·.data.toList)) [32, 124, 32] := by simp
          have hjn : ∀ sp : ByteArray, sp = ⟨#[32, 124, 32]⟩ → (⟨(Lib.join ((bitL x k).map (·.data.toList)) sp.data.toList).toArray⟩ : ByteArray) = ⟨(Lib.join ((bitL x k).map (·.data.toList)) [32, 124, 32]).toArray⟩ := fun sp h => by subst h; rfl
          rw [hjn _ rfl] at HJ
          rw [← hje] at hva hlens
          obtain ⟨fb, hfb⟩ : ∃ fb, fb = joinB (frontL x) := ⟨_, rfl⟩
          rw [← hfb] at hva hlens hbg
          obtain rfl : bg = fb := hbg
          clear hje hjn hjm hall hrd hown hlen hfb HBG2
          generalize (⟨(Lib.join ((bitL x k).map (·.data.toList)) [32, 124, 32]).toArray⟩ : ByteArray) = jn at *
          have hpe : pn = (bg ++ ⟨#[32, 93, 32]⟩) ++ jn := by
            refine ba_ext ?_
            rw [hva]
            simp
          have hbq : (pn.toList == ((bg ++ ⟨#[32, 93, 32]⟩) ++ jn).toList) = true := by rw [ba_beq, decide_eq_true hpe]
          have z1 : ¬ 9223372036854775807 < bg.size + 3 := by rw [ba_len] at hlens; omega
          have z2 : ¬ 9223372036854775807 < bg.size + 3 + jn.size := by rw [ba_len] at hlens; omega
          clear hva hlens hpe
          go_wp2_with fail
          (with_reducible refine HJ.out.mono ?_)
          rintro e w6 ⟨rfl, hB⟩
          have HB6 := hid (below_tr HBw.out hB)
          clear hB
          go_wp2_with fail
          (with_reducible refine (HAW _ HB6.out).out.mono ?_)
          rintro e wa ⟨rfl, hBa⟩
          go_wp2
          go_ret
          exact ⟨rfl, below_tr HB6.out hBa⟩
    · have hEb : (nteI x == 0) = false := beq_eq_false_iff_ne.2 hE
      clear HPX HPE
      go_wp2_with fail
      (with_reducible refine HC1.out.mono ?_)
      rintro e w2 ⟨rfl, hB⟩
      have HB2 := hid (below_tr HB1.out hB)
      have HN2 := hid (HN1.out.below hB)
      clear hB
      clear c0 c1 c2 c3 c4 c5 c6 c7 c8
      go_wp2_with fail
      (with_reducible refine (HAW _ HB2.out).out.mono ?_)
      rintro e wa ⟨rfl, hBa⟩
      go_wp2
      go_ret
      exact ⟨rfl, below_tr HB2.out hBa⟩
end Go.Proofs.YtjhdeoniafahbaaGreatDoor
