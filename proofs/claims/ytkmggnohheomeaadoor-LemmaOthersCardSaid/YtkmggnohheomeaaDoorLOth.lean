/-
  P43.7: the walk of LemmaOthers.
-/
import Derived.Test.YtkmggnohheomeaaDoorLEach
import Derived.Test.YtkmggnohheomeaaDoorInsW
namespace Go.Proofs.YtkmggnohheomeaaDoor
open Go.RowKit

theorem cloneS_any (v : Value) (ws : List ByteArray) (w : World) (hr : RdS w v ws) (hn : 0 < ws.length) (hl : ws.length ≤ 1000) :
    Calls Tryd.prog 22 #[v] w fun e w' => ∃ v', e = .returned v' ∧ w'.ownsRow w.heap.size 9 1 v' ws.length (ws.map Value.string) ∧ Below w.heap.size w w' := by
  obtain ⟨a, cap, rfl, hlc, hcm, hcell⟩ := hr.open
  obtain ⟨x, b, off, hx, rfl, hc0⟩ := hcell 0 hn
  refine (Tryd.slices_Clone_string b off ws.length cap ws w (Nat.le_refl _) (by omega) (fun j hj => ?_)).mono ?_
  · obtain ⟨x, b', off', hx', e, hc⟩ := hcell j hj
    cases e
    rw [hc, List.getD_eq_getElem?_getD, hx']; rfl
  · rintro e w' ⟨v', rfl, h1, _, h3⟩
    rw [List.take_length] at h1
    exact ⟨v', rfl, h1, h3⟩

/-- What the drawn call of Insert wants, in whatever order its arguments were laid. -/
theorem insertR_any (ws : List ByteArray) (k : Nat) (o : ByteArray) (v : Value) (n0 vb : Nat) (W w : World) (hk : k ≤ ws.length) (hlen : 0 < ws.length) (hlen2 : ws.length ≤ 1000) (h : (∃ base, W.heap.size ≤ base ∧ base ≤ w.heap.size ∧ w.ownsRow base 9 1 v ws.length (ws.map Value.string)) ∧ w.heap[vb]? = some (.cells #[.string o] 9 (0, 0)) ∧ v.ownBlock ≠ some vb) (hb : Below W.heap.size W w) :
    Calls Tryd.prog 21 #[v, .int .i64 k, .slice (some ⟨vb, 0, none⟩) 1 1] w fun e w' => ∃ v', e = .returned v' ∧ RdS w' v' (insW ws k o) ∧ Below W.heap.size W w' := by
  obtain ⟨⟨base, h1, h2, h3⟩, h4, h5⟩ := h
  refine (insert_any ws k o v base vb w hk hlen hlen2 h3 h2 h4 h5).mono ?_
  rintro e w' ⟨v', rfl, hr, hB⟩
  exact ⟨v', rfl, hr, hb.trans (hB.mono h1)⟩

theorem ba_neq {a b : ByteArray} (h : a ≠ b) : (a.toList == b.toList) = false := by rw [ba_beq]; simpa using h

set_option maxRecDepth 100000 in
set_option maxHeartbeats 4000000 in
theorem loth_any (v : Value) (ws : List ByteArray) (u1 u2 u3 : Nat) (o : ByteArray) (w : World) (he : Env w) (hr : RdS w v ws) (hz : Szs ws) (h1 : u1 < 256) (h2 : u2 < 256) (h3 : u3 < 256) (ho : o.size ≤ maxLen) :
    Calls Tryd.prog 8 #[v, .int .u8 u1, .int .u8 u2, .int .u8 u3, .string o] w fun e w' => e = .returned (.bool true) ∧ Below w.heap.size w w' := by
  have HF := hid (fine_any v ws w he hr hz)
  have HE := fun w' (h : Below w.heap.size w w') => hid (he.below h)
  have HF1 := fun w' (h : Below w.heap.size w w') => hid (fine_any (.slice (some ⟨w'.heap.size, 0, none⟩) 1 1) [o] _ (he.below (below_tr h (below_al w' (.cells #[.string o] 9)))) (rdS_one w' o) (szs_one ho))
  cases hf : fineB ws with
  | false =>
    rw [hf] at HF
    obtain ⟨a, cap, rfl, hlc, hcm, _⟩ := hr.open
    clear HF1
    go_enter Tryd.func8, Tryd.ntmps8
    go_wp2_with fail
    refine HF.out.mono ?_
    rintro e w1 ⟨rfl, hB1⟩
    go_wp2_with fail
    refine (awake43_any _ (HE _ hB1).out).mono ?_
    rintro e w2 ⟨rfl, hB2⟩
    go_wp2
    go_ret
    exact ⟨rfl, below_tr hB1 hB2⟩
  | true =>
    rw [hf] at HF
    obtain ⟨hlen, hwd, hsz⟩ := fine_all hf
    have hck := fine_check hf
    by_cases hn : ws.length = 0
    · obtain rfl : ws = [] := List.eq_nil_of_length_eq_zero hn
      obtain ⟨a, cap, rfl, hlc, hcm, _⟩ := hr.open
      simp only [List.length_nil] at HF
      clear hr hn hlen hwd hsz hck hz HF1
      go_enter Tryd.func8, Tryd.ntmps8
      go_wp2_with fail
      refine HF.out.mono ?_
      rintro e w1 ⟨rfl, hB1⟩
      go_wp2_with fail
      refine (awake43_any _ (HE _ hB1).out).mono ?_
      rintro e w2 ⟨rfl, hB2⟩
      go_wp2
      go_ret
      exact ⟨rfl, below_tr hB1 hB2⟩
    · have hni : ¬ (ws.length : Int) = 0 := by omega
      by_cases h11 : 11 < ws.length
      · have h11i : (11 : Int) < (ws.length : Int) := by omega
        obtain ⟨a, cap, rfl, hlc, hcm, _⟩ := hr.open
        clear HF1 hr hlen hwd hsz hck hz
        go_enter Tryd.func8, Tryd.ntmps8
        go_wp2_with fail
        refine HF.out.mono ?_
        rintro e w1 ⟨rfl, hB1⟩
        go_wp2_with fail
        refine (awake43_any _ (HE _ hB1).out).mono ?_
        rintro e w2 ⟨rfl, hB2⟩
        go_wp2
        go_ret
        exact ⟨rfl, below_tr hB1 hB2⟩
      · have h11i : ¬ (11 : Int) < (ws.length : Int) := by omega
        have hle : (ws.length : Int) ≤ 11 := by omega
        have hnb : ((ws.length : Int) == 0) = false := by rw [beq_eq_false_iff_ne]; omega
        cases hfo : fineB [o] with
        | false =>
          rw [hfo] at HF1
          obtain ⟨a, cap, rfl, hlc, hcm, _⟩ := hr.open
          clear hr hlen hwd hsz hck hz
          go_enter Tryd.func8, Tryd.ntmps8
          go_wp2_with fail
          refine HF.out.mono ?_
          rintro e w1 ⟨rfl, hB1⟩
          go_wp2_with fail
          refine (HF1 _ hB1).out.mono ?_
          rintro e w2 ⟨rfl, hB2⟩
          have hb2 := below_tr hB1 (below_tr (below_al w1 (.cells #[.string o] 9)) hB2)
          clear hB2 HF1 HF
          go_wp2_with fail
          refine (awake43_any _ (HE _ hb2).out).mono ?_
          rintro e w3 ⟨rfl, hB3⟩
          go_wp2
          go_ret
          exact ⟨rfl, below_tr hb2 hB3⟩
        | true =>
          rw [hfo] at HF1
          obtain ⟨how, hos⟩ := fine_one hfo
          have hne : ∀ s ∈ ws, s.size ≠ 0 := fun s hs => wordB_ne (hwd s hs)
          have hA := Nat.mod_lt u1 (show 0 < ws.length by omega)
          have hB := Nat.mod_lt u2 (show 0 < ws.length - u1 % ws.length by omega)
          have HP1 := fun w' (h : RdS w' v ws) => hid (part_any v ws u1 u2 w' h h1 h2 (by omega) hlen)
          obtain ⟨a, ha⟩ : ∃ a, a = u1 % ws.length := ⟨_, rfl⟩
          obtain ⟨b, hb⟩ : ∃ b, b = u1 % ws.length + 1 + u2 % (ws.length - u1 % ws.length) := ⟨_, rfl⟩
          have hab : a < b := by omega
          have hbl : b ≤ ws.length := by omega
          rw [← hb, ← ha] at HP1
          clear ha hb hA hB
          have hsz2 : ∀ s ∈ ws, s.size ≤ 65536 := fun s hs => by have := hsz s hs; omega
          have HO1 := fun w' (h : Env w') (h2 : RdS w' v ws) => hid (of_any ws a b v w' h h2 hsz2 (by omega) hck hab hbl hne)
          have hol := occ_len (ws := ws) (by omega) (ws.getD a ⟨#[]⟩) (lastW ws a b)
          have hnn : ofNum (occ ws (ws.getD a ⟨#[]⟩) (lastW ws a b)) (a, b - 1) ≤ 182 := by
            unfold ofNum
            split
            · omega
            · have := numP_le (p := (a, b - 1)) (occ_sorted ws (ws.getD a ⟨#[]⟩) (lastW ws a b)); omega
          have hlk := found_lem hwd hab hbl (n := ofNum (occ ws (ws.getD a ⟨#[]⟩) (lastW ws a b)) (a, b - 1)) (by omega)
          have e1 : ws[a]? = some (ws.getD a ⟨#[]⟩) := by rw [List.getD_eq_getElem?_getD, List.getElem?_eq_getElem (by omega)]; rfl
          have e2 : ws[b - 1]? = some (ws.getD (b - 1) ⟨#[]⟩) := by rw [List.getD_eq_getElem?_getD, List.getElem?_eq_getElem (by omega)]; rfl
          have hfs : (ws.getD a ⟨#[]⟩).size ≤ 65536 := hsz2 _ (List.mem_of_getElem? e1)
          have hls : (lastW ws a b).size ≤ 65536 := by
            unfold lastW
            split
            · show (0 : Nat) ≤ 65536; omega
            · exact hsz2 _ (List.mem_of_getElem? e2)
          obtain ⟨k, hk⟩ : ∃ k, k = u3 % (ws.length + 1) := ⟨_, rfl⟩
          have hkl : k ≤ ws.length := by have := Nat.mod_lt u3 (show 0 < ws.length + 1 by omega); omega
          have hkm : (u3 : Int).tmod ((ws.length : Int) + 1) = (k : Int) := by
            rw [Int.tmod_eq_emod_of_nonneg (by omega), hk, show (ws.length : Int) + 1 = ((ws.length + 1 : Nat) : Int) by omega]; exact (Int.natCast_emod _ _).symm
          have hkz : ¬ (ws.length : Int) + 1 = 0 := by omega
          have HKM := hid hkm
          clear hk hkm
          have hmz : ∀ s ∈ insW ws k o, s.size ≤ 65536 := fun s hs => by
            rcases insW_mem hs with rfl | hs
            · omega
            · exact hsz2 s hs
          have hmc := insW_check (o := o) hkl hlen hwd how
          have hml : (insW ws k o).length ≤ 13 := by rw [insW_len hkl]; omega
          have HFN := fun v' w' (h : Env w') (h2 : RdS w' v' (insW ws k o)) => hid (find_any (insW ws k o) _ _ _ v' w' h h2 hmz hfs hls hml hmc hlk)
          have HPL := hid (fun hf hl => others_plain hne hlen hab hbl hkl (o := o) hf hl)
          have HCL := fun w' (h2 : RdS w' v ws) => hid (cloneS_any v ws w' h2 (by omega) (by omega))
          have HIN := fun v' vb (W w' : World) h h' => hid (insertR_any ws k o v' 0 vb W w' hkl (by omega) (by omega) h h')
          have HGA : Hid (ws.getD a ⟨#[]⟩ = ws.getD a ⟨#[]⟩) := rfl
          obtain ⟨ad, cap, rfl, hlc, hcm, hcell⟩ := hr.open
          obtain ⟨s1, b1, o1, hs1, rfl, hc1⟩ := hcell a (by omega)
          obtain ⟨s2, b2, o2, hs2, he2, hc2⟩ := hcell (b - 1) (by omega)
          cases he2
          have g1 : ws.getD a ⟨#[]⟩ = s1 := by rw [List.getD_eq_getElem?_getD, hs1]; rfl
          have g2 : ws.getD (b - 1) ⟨#[]⟩ = s2 := by rw [List.getD_eq_getElem?_getD, hs2]; rfl
          simp only [g1, g2] at *
          generalize ofNum (occ ws s1 (lastW ws a b)) (a, b - 1) = n at *
          generalize lastW ws a b = L at *
          have HRD := hid hr
          clear he hz hwd hsz hck hne hsz2 hcell hol hlk e1 e2 hfs hls hs1 hs2 g1 g2 hr HGA hmz hmc hml how hos hf hfo
          have ha4i : (a : Int) < (ws.length : Int) := by omega
          have ha0 : (0 : Int) ≤ (a : Int) := by omega
          have hbi : IntKind.i64.wrap ((b : Int) - 1) = (b : Int) - 1 := IntWalk.i64_in _ (by omega)
          have hbj : (b : Int) - 1 < (ws.length : Int) := by omega
          have hbk : ((b : Int) - 1).toNat = b - 1 := by omega
          have hbm : (0 : Int) ≤ (b : Int) - 1 := by omega
          by_cases ho1 : o = s1
          · have hq : (o.toList == s1.toList) = true := by rw [ho1]; simp
            clear HPL HFN HCL HIN HO1 ho1 HKM hkz
            go_enter Tryd.func8, Tryd.ntmps8
            go_wp2_with fail
            refine HF.out.mono ?_
            rintro e w1 ⟨rfl, hB1⟩
            go_wp2_with fail
            refine (HF1 _ hB1).out.mono ?_
            rintro e w2 ⟨rfl, hB2⟩
            have hb2 := below_tr hB1 (below_tr (below_al w1 (.cells #[.string o] 9)) hB2)
            clear hB1 hB2 HF1 HF
            go_wp2_with fail
            refine (HP1 _ (HRD.out.below hb2)).out.mono ?_
            rintro e w3 ⟨rfl, hB3⟩
            have hb3 := below_tr hb2 hB3
            have k1 := Below.keeps hb3 _ _ hc1
            have k2 := Below.keeps hb3 _ _ hc2
            clear hb2 hB3 HP1 hc1 hc2
            go_wp2_with fail
            refine (awake43_any _ (HE _ hb3).out).mono ?_
            rintro e w4 ⟨rfl, hB4⟩
            go_wp2
            go_ret
            exact ⟨rfl, below_tr hb3 hB4⟩
          · have hq := ba_neq ho1
            by_cases ho2 : o = s2
            · have hq2 : (o.toList == s2.toList) = true := by rw [ho2]; simp
              clear HPL HFN HCL HIN HO1 ho1 ho2 HKM hkz
              go_enter Tryd.func8, Tryd.ntmps8
              go_wp2_with fail
              refine HF.out.mono ?_
              rintro e w1 ⟨rfl, hB1⟩
              go_wp2_with fail
              refine (HF1 _ hB1).out.mono ?_
              rintro e w2 ⟨rfl, hB2⟩
              have hb2 := below_tr hB1 (below_tr (below_al w1 (.cells #[.string o] 9)) hB2)
              clear hB1 hB2 HF1 HF
              go_wp2_with fail
              refine (HP1 _ (HRD.out.below hb2)).out.mono ?_
              rintro e w3 ⟨rfl, hB3⟩
              have hb3 := below_tr hb2 hB3
              have k1 := Below.keeps hb3 _ _ hc1
              have k2 := Below.keeps hb3 _ _ hc2
              clear hb2 hB3 HP1 hc1 hc2
              go_wp2_with fail
              refine (awake43_any _ (HE _ hb3).out).mono ?_
              rintro e w4 ⟨rfl, hB4⟩
              go_wp2
              go_ret
              exact ⟨rfl, below_tr hb3 hB4⟩
            · have hq2 := ba_neq ho2
              obtain ⟨f1, f2, f3⟩ := HPL.out (fun h => ho1 h.symm) (fun h => ho2 h.symm)
              rw [f1, f2, f3] at HFN
              clear f1 f2 f3 HPL ho1 ho2
              go_enter Tryd.func8, Tryd.ntmps8
              go_wp2_with fail
              refine HF.out.mono ?_
              rintro e w1 ⟨rfl, hB1⟩
              go_wp2_with fail
              refine (HF1 _ hB1).out.mono ?_
              rintro e w2 ⟨rfl, hB2⟩
              have hb2 := below_tr hB1 (below_tr (below_al w1 (.cells #[.string o] 9)) hB2)
              clear hB1 hB2 HF1 HF
              go_wp2_with fail
              refine (HP1 _ (HRD.out.below hb2)).out.mono ?_
              rintro e w3 ⟨rfl, hB3⟩
              have hb3 := below_tr hb2 hB3
              have k1 := Below.keeps hb3 _ _ hc1
              have k2 := Below.keeps hb3 _ _ hc2
              clear hb2 hB3 HP1 hc1 hc2
              go_wp2_with fail
              clear k1 k2
              refine (HO1 _ (HE _ hb3).out (HRD.out.below hb3)).out.mono ?_
              rintro e w4 ⟨rfl, hB4⟩
              have hb4 := below_tr hb3 hB4
              have hb5 := below_tr hb4 (below_al w4 (.cells #[.string s1, .string L, .int .i64 n] 28))
              have ha5 := hid (row_nw w4 #[.string s1, .string L, .int .i64 n] 28 rfl)
              clear hB4 HO1 hb3
              have hkm := HKM.out
              have hkm2 : (u3 : Int) % ((ws.length : Int) + 1) = (k : Int) := by rw [← hkm, Int.tmod_eq_emod_of_nonneg (by omega)]
              go_wp2_with fail
              clear hkm hkm2 HKM hkz
              generalize w4.alloc (.cells #[.string s1, .string L, .int .i64 n] 28) = w5 at *
              refine (HCL _ (HRD.out.below hb5)).out.mono ?_
              rintro e w6 ⟨v6, rfl, hown, hB6⟩
              have HI6 := HIN v6 w6.heap.size w5 (w6.alloc (.cells #[.string o] 9)) ⟨⟨w5.heap.size, Nat.le_refl _, Nat.le_trans hB6.size (below_al _ _).size, own_below hown (below_al _ _)⟩, heap_alloc_new _ _, fun e => by have := (hown.lt _ e).2; omega⟩ (below_tr hB6 (below_al _ _))
              clear hown hB6 HIN HCL
              go_wp2_with fail
              refine HI6.out.mono ?_
              rintro e w7 ⟨v7, rfl, hr7, hB7⟩
              have hb7 := below_tr hb5 hB7
              have ha7 := hid (ha5.out.below hB7)
              have p0 := ha7.out.cell 0 rfl
              have p1 := ha7.out.cell 1 rfl
              have p2 := ha7.out.cell 2 rfl
              have HF7 := HFN v7 w7 (HE _ hb7).out hr7
              have hwa : IntKind.i64.wrap ((a : Int) + 1) = (a : Int) + 1 := IntWalk.i64_in _ (by omega)
              have hwb : IntKind.i64.wrap ((b : Int) + 1) = (b : Int) + 1 := IntWalk.i64_in _ (by omega)
              obtain ⟨ad7, cap7, rfl, _, _, _⟩ := hr7.open
              clear hr7 hB7 HI6 hb5 ha5 HFN
              rcases (show (k ≤ a ∧ k < b) ∨ (¬ k ≤ a ∧ k < b) ∨ (¬ k ≤ a ∧ ¬ k < b) by omega) with ⟨h5, h6⟩ | ⟨h5, h6⟩ | ⟨h5, h6⟩
              · rw [if_pos h5, if_pos h6] at HF7
                have h5i : (k : Int) ≤ (a : Int) := by omega
                have h6i : (k : Int) < (b : Int) := by omega
                go_wp2_with fail
                refine HF7.out.mono ?_
                rintro e w8 ⟨rfl, hB8⟩
                have hb8 := below_tr hb7 hB8
                clear hB8 HF7 hb7
                go_wp2_with fail
                refine (awake43_any _ (HE _ hb8).out).mono ?_
                rintro e w9 ⟨rfl, hB9⟩
                go_wp2
                go_ret
                exact ⟨rfl, below_tr hb8 hB9⟩
              · rw [if_neg h5, if_pos h6] at HF7
                have h5i : ¬ (k : Int) ≤ (a : Int) := by omega
                have h6i : (k : Int) < (b : Int) := by omega
                go_wp2_with fail
                refine HF7.out.mono ?_
                rintro e w8 ⟨rfl, hB8⟩
                have hb8 := below_tr hb7 hB8
                clear hB8 HF7 hb7
                go_wp2_with fail
                refine (awake43_any _ (HE _ hb8).out).mono ?_
                rintro e w9 ⟨rfl, hB9⟩
                go_wp2
                go_ret
                exact ⟨rfl, below_tr hb8 hB9⟩
              · rw [if_neg h5, if_neg h6] at HF7
                have h5i : ¬ (k : Int) ≤ (a : Int) := by omega
                have h6i : ¬ (k : Int) < (b : Int) := by omega
                go_wp2_with fail
                refine HF7.out.mono ?_
                rintro e w8 ⟨rfl, hB8⟩
                have hb8 := below_tr hb7 hB8
                clear hB8 HF7 hb7
                go_wp2_with fail
                refine (awake43_any _ (HE _ hb8).out).mono ?_
                rintro e w9 ⟨rfl, hB9⟩
                go_wp2
                go_ret
                exact ⟨rfl, below_tr hb8 hB9⟩
theorem lothI_any (v : Value) (ws : List ByteArray) (b1 b2 b3 : Int) (o : ByteArray) (w : World) (he : Env w) (hr : RdS w v ws) (hz : Szs ws) (r1 : 0 ≤ b1 ∧ b1 < 256) (r2 : 0 ≤ b2 ∧ b2 < 256) (r3 : 0 ≤ b3 ∧ b3 < 256) (ho : o.size ≤ maxLen) :
    Calls Tryd.prog 8 #[v, .int .u8 b1, .int .u8 b2, .int .u8 b3, .string o] w fun e w' => e = .returned (.bool true) ∧ Below w.heap.size w w' := by
  obtain ⟨u1, rfl⟩ := Int.eq_ofNat_of_zero_le r1.1
  obtain ⟨u2, rfl⟩ := Int.eq_ofNat_of_zero_le r2.1
  obtain ⟨u3, rfl⟩ := Int.eq_ofNat_of_zero_le r3.1
  exact loth_any v ws u1 u2 u3 o w he hr hz (by omega) (by omega) (by omega) ho
end Go.Proofs.YtkmggnohheomeaaDoor
