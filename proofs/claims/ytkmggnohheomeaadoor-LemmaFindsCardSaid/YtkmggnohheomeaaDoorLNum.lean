/-
  P43.5: the walk of LemmaNumbers.
-/
import Derived.Test.YtkmggnohheomeaaDoorLFound
import Derived.Test.YtkmggnohheomeaaDoorSame43
import Derived.Test.YtkmggnohheomeaaDoorPlNum
namespace Go.Proofs.YtkmggnohheomeaaDoor
open Go.RowKit

/-- A further row of two, in a block of its own. -/
theorem tws_push {W w1 : World} {base : Nat} {pre : List (Nat × Nat)} {v : Value} {vs : List Value} (hown : W.ownsRow base 36 1 v pre.length vs) (htw : Tws W base pre vs) (hsz : base ≤ W.heap.size) (x : Nat × Nat)
    (hgr : (W.alloc (.cells #[.int .i64 (x.1 : Int), .int .i64 (x.2 : Int)] 3)).grownBy w1 v.ownBlock) : Tws w1 base (pre ++ [x]) (vs ++ [.slice (some ⟨W.heap.size, 0, none⟩) 2 2]) := by
  have hs1 : (W.alloc (.cells #[.int .i64 (x.1 : Int), .int .i64 (x.2 : Int)] 3)).heap.size = W.heap.size + 1 := by simp
  have hal := below_al W (.cells #[.int .i64 (x.1 : Int), .int .i64 (x.2 : Int)] 3)
  have hvs : vs.length = pre.length := by have := hown.1; omega
  have hty : ∀ r cs, W.heap[r]? = some (.cells cs 3 (0, 0)) → v.ownBlock ≠ some r := fun r cs hh e => by
    rcases hown.2 with ⟨rfl, _⟩ | ⟨g', cap', cur, rfl, _, hgb, _⟩
    · cases e
    · cases e
      rw [hh] at hgb; cases hgb
  intro i p hi
  rcases Nat.lt_or_ge i pre.length with h5 | h5
  · rw [List.getElem?_append_left h5] at hi
    obtain ⟨r, g1, g2, g3⟩ := htw i p hi
    have hlt := (Array.getElem?_eq_some_iff.1 g3).1
    refine ⟨r, by rw [List.getElem?_append_left (by omega)]; exact g1, g2, ?_⟩
    exact ((hgr.block r (by omega) (fun e => hty r _ g3 e.symm)).trans (hal.block r hlt)).trans g3
  · rw [List.getElem?_append_right h5] at hi
    have hz : i - pre.length = 0 := by
      have := (List.getElem?_eq_some_iff.1 hi).1
      simp at this; omega
    rw [hz] at hi
    have hi' : x = p := by simpa using hi
    subst hi'
    refine ⟨W.heap.size, by rw [List.getElem?_append_right (by omega), hvs, hz]; rfl, hsz, ?_⟩
    refine (hgr.block W.heap.size (by omega) (fun e => ?_)).trans (heap_alloc_new W _)
    have := (hown.lt _ e.symm).2
    omega
/-- What the loops keep: the pairs ahead of the place q are collected, and where p came. -/
structure NumI (w : World) (oc : List (Nat × Nat)) (p q : Nat × Nat) (ov av : Value) (W : World) : Prop where
  own : ∃ vs, W.ownsRow w.heap.size 36 1 ov (ahead oc q).length vs ∧ Tws W w.heap.size (ahead oc q) vs
  at_ : av = .int .i64 ((numP p (ahead oc q) : Int) - 1)
  bel : Below w.heap.size w W
theorem NumI.open {w W : World} {oc : List (Nat × Nat)} {p q : Nat × Nat} {ov av : Value} (h : NumI w oc p q ov av W) : ∃ ad cp vs, ov = .slice ad (ahead oc q).length cp ∧ av = .int .i64 ((numP p (ahead oc q) : Int) - 1) ∧
    W.ownsRow w.heap.size 36 1 (.slice ad (ahead oc q).length cp) (ahead oc q).length vs ∧ Tws W w.heap.size (ahead oc q) vs := by
  obtain ⟨⟨vs, h1, h2⟩, h3, h4⟩ := h
  rcases h1.2 with ⟨rfl, h0⟩ | ⟨g, c, cur, rfl, _⟩
  · rw [h0] at h1 ⊢; exact ⟨_, _, vs, rfl, h3, h1, h2⟩
  · exact ⟨_, _, vs, rfl, h3, h1, h2⟩
theorem tws_below {W W' : World} {n₀ : Nat} {pre : List (Nat × Nat)} {vs : List Value} (h : Tws W n₀ pre vs) (hb : Below W.heap.size W W') : Tws W' n₀ pre vs := fun i x hx =>
  let ⟨r, g1, g2, g3⟩ := h i x hx
  ⟨r, g1, g2, (hb.block r (Array.getElem?_eq_some_iff.1 g3).1).trans g3⟩
theorem NumI.below {w W W' : World} {oc : List (Nat × Nat)} {p q : Nat × Nat} {ov av : Value} (h : NumI w oc p q ov av W) (hb : Below W.heap.size W W') : NumI w oc p q ov av W' := by
  obtain ⟨⟨vs, h1, h2⟩, h3, h4⟩ := h
  exact ⟨⟨vs, own_below h1 hb, tws_below h2 hb⟩, h3, below_tr h4 hb⟩
theorem NumI.skip {w W : World} {oc : List (Nat × Nat)} (hs : oc.Pairwise pLt) {p : Nat × Nat} {i j : Nat} {ov av : Value} (h : NumI w oc p (i, j) ov av W) (hn : (i, j) ∉ oc) : NumI w oc p (i, j + 1) ov av W := by
  have e : ahead oc (i, j + 1) = ahead oc (i, j) := by rw [ahead_step i j hs, if_neg hn, List.append_nil]
  obtain ⟨h1, h2, h3⟩ := h
  rw [← e] at h1 h2
  exact ⟨h1, h2, h3⟩
theorem NumI.row {w W : World} {oc : List (Nat × Nat)} {n : Nat} (hin : ∀ p ∈ oc, p.1 ≤ p.2 ∧ p.2 < n) {p : Nat × Nat} {i : Nat} {ov av : Value} (h : NumI w oc p (i, n) ov av W) : NumI w oc p (i + 1, i + 1) ov av W := by
  obtain ⟨h1, h2, h3⟩ := h
  rw [← ahead_row hin i] at h1 h2
  exact ⟨h1, h2, h3⟩
theorem NumI.push {w W w1 : World} {oc : List (Nat × Nat)} (hs : oc.Pairwise pLt) {p : Nat × Nat} {i j g cap : Nat} {v : Value} {vs : List Value} (hB : Below w.heap.size w W) (hn : (i, j) ∈ oc)
    (hown : W.ownsRow w.heap.size 36 1 v (ahead oc (i, j)).length vs) (htw : Tws W w.heap.size (ahead oc (i, j)) vs)
    (hown' : w1.ownsRow w.heap.size 36 1 (.slice (some ⟨g, 0, none⟩) ((ahead oc (i, j)).length + 1) cap) ((ahead oc (i, j)).length + 1) (vs ++ [.slice (some ⟨W.heap.size, 0, none⟩) 2 2]))
    (hgr : (W.alloc (.cells #[.int .i64 (i : Int), .int .i64 (j : Int)] 3)).grownBy w1 v.ownBlock) :
    NumI w oc p (i, j + 1) (.slice (some ⟨g, 0, none⟩) ((ahead oc (i, j)).length + 1) cap) (.int .i64 (if (i, j) = p then ((ahead oc (i, j)).length : Int) else (numP p (ahead oc (i, j)) : Int) - 1)) w1 := by
  have e : ahead oc (i, j + 1) = ahead oc (i, j) ++ [(i, j)] := by rw [ahead_step i j hs, if_pos hn]
  have hal := below_al W (.cells #[.int .i64 (i : Int), .int .i64 (j : Int)] 3)
  refine ⟨⟨vs ++ [.slice (some ⟨W.heap.size, 0, none⟩) 2 2], ?_, ?_⟩, ?_, ?_⟩
  · rw [e, List.length_append, List.length_singleton]; exact hown'
  · rw [e]; exact tws_push hown htw hB.size (i, j) hgr
  · rw [e, numP_snoc]
    split <;> simp
  · exact (below_tr hB hal).grown hgr (below_tr hB hal).size (fun k hk => (hown.lt k hk).1)
theorem NumI.start (w : World) (oc : List (Nat × Nat)) (p : Nat × Nat) : NumI w oc p (0, 0) (.slice none 0 0) (.int .i64 (-1)) w := by
  refine ⟨⟨[], ?_, ?_⟩, ?_, Below.refl _ _⟩
  · rw [ahead_zero]; exact World.ownsRow_nil _ _ _ _
  · rw [ahead_zero]; intro i x hx; simp at hx
  · rw [ahead_zero]; rfl
theorem NumI.fin {w W : World} {oc : List (Nat × Nat)} {n : Nat} (hin : ∀ p ∈ oc, p.1 ≤ p.2 ∧ p.2 < n) {p : Nat × Nat} {ov av : Value} (h : NumI w oc p (n, n) ov av W) : RdP W ov oc ∧ av = .int .i64 ((numP p oc : Int) - 1) := by
  obtain ⟨⟨vs, h1, h2⟩, h3, _⟩ := h
  rw [ahead_all hin] at h1 h2 h3
  exact ⟨rdP_of h1 h2, h3⟩

set_option maxRecDepth 100000 in
set_option maxHeartbeats 1600000 in
theorem lnum_any (v : Value) (ws : List ByteArray) (u1 u2 : Nat) (w : World) (he : Env w) (hr : RdS w v ws) (hz : Szs ws) (h1 : u1 < 256) (h2 : u2 < 256) :
    Calls Tryd.prog 4 #[v, .int .u8 u1, .int .u8 u2] w fun e w' => e = .returned (.bool true) ∧ Below w.heap.size w w' := by
  have HF := hid (fine_any v ws w he hr hz)
  have HE := fun w' (h : Below w.heap.size w w') => hid (he.below h)
  cases hf : fineB ws with
  | false =>
    rw [hf] at HF
    obtain ⟨a, cap, rfl, hlc, hcm, _⟩ := hr.open
    go_enter Tryd.func4, Tryd.ntmps4
    go_wp2_with fail
    refine HF.out.mono ?_
    rintro e w1 ⟨rfl, hB1⟩
    go_wp2_with fail
    refine (awake43_any _ (HE _ hB1).out).mono ?_
    rintro e w2 ⟨rfl, hB2⟩
    go_wp2
    go_ret
    exact ⟨rfl, below_tr hB1 hB2⟩
  | true =>
    rw [hf] at HF
    obtain ⟨hlen, hwd, hsz⟩ := fine_all hf
    have hck := fine_check hf
    by_cases hn : ws.length = 0
    · obtain rfl : ws = [] := List.eq_nil_of_length_eq_zero hn
      obtain ⟨a, cap, rfl, hlc, hcm, _⟩ := hr.open
      simp only [List.length_nil] at HF
      clear hr hn hlen hwd hsz hck hz
      go_enter Tryd.func4, Tryd.ntmps4
      go_wp2_with fail
      refine HF.out.mono ?_
      rintro e w1 ⟨rfl, hB1⟩
      go_wp2_with fail
      refine (awake43_any _ (HE _ hB1).out).mono ?_
      rintro e w2 ⟨rfl, hB2⟩
      go_wp2
      go_ret
      exact ⟨rfl, below_tr hB1 hB2⟩
    · have hni : ¬ (ws.length : Int) = 0 := by omega
      have hne : ∀ s ∈ ws, s.size ≠ 0 := fun s hs => wordB_ne (hwd s hs)
      have hA := Nat.mod_lt u1 (show 0 < ws.length by omega)
      have hB := Nat.mod_lt u2 (show 0 < ws.length - u1 % ws.length by omega)
      have HP1 := fun w' (h : RdS w' v ws) => hid (part_any v ws u1 u2 w' h h1 h2 (by omega) hlen)
      obtain ⟨a, ha⟩ : ∃ a, a = u1 % ws.length := ⟨_, rfl⟩
      obtain ⟨b, hb⟩ : ∃ b, b = u1 % ws.length + 1 + u2 % (ws.length - u1 % ws.length) := ⟨_, rfl⟩
      have hab : a < b := by omega
      have hbl : b ≤ ws.length := by omega
      rw [← hb, ← ha] at HP1
      clear ha hb hA hB
      have hsz2 : ∀ s ∈ ws, s.size ≤ 65536 := fun s hs => by have := hsz s hs; omega
      have HO1 := fun w' (h : Env w') (h2 : RdS w' v ws) => hid (of_any ws a b v w' h h2 hsz2 (by omega) hck hab hbl hne)
      have hmem := part_mem hne hab hbl
      have hol := occ_len (ws := ws) (by omega) (ws.getD a ⟨#[]⟩) (lastW ws a b)
      have HS := hid (occ_sorted ws (ws.getD a ⟨#[]⟩) (lastW ws a b))
      have HIN := hid (occ_in (ws := ws) (f := ws.getD a ⟨#[]⟩) (l := lastW ws a b))
      have HMC := hid (fun i j hij hj si sj s1 s2 ei ej e1 e2 => occ_mem hne hab hbl (i := i) (j := j) (si := si) (sj := sj) (s1 := s1) (s2 := s2) hij hj ei ej e1 e2)
      have hlk := found_lem hwd hab hbl (n := 0) (by omega)
      have e1 : ws[a]? = some (ws.getD a ⟨#[]⟩) := by rw [List.getD_eq_getElem?_getD, List.getElem?_eq_getElem (by omega)]; rfl
      have e2 : ws[b - 1]? = some (ws.getD (b - 1) ⟨#[]⟩) := by rw [List.getD_eq_getElem?_getD, List.getElem?_eq_getElem (by omega)]; rfl
      have hfs : (ws.getD a ⟨#[]⟩).size ≤ 65536 := hsz2 _ (List.mem_of_getElem? e1)
      have hls : (lastW ws a b).size ≤ 65536 := by
        unfold lastW
        split
        · show (0 : Nat) ≤ 65536; omega
        · exact hsz2 _ (List.mem_of_getElem? e2)
      have HOC := fun w' (h : Env w') (h2 : RdS w' v ws) => hid (occs_any ws _ _ v w' h h2 hsz2 hfs hls (by omega) hck hlk)
      have HPO := hid (numP_pos_of (occ_sorted ws (ws.getD a ⟨#[]⟩) (lastW ws a b)) hmem)
      have HNL := hid (show numP (a, b - 1) (occ ws (ws.getD a ⟨#[]⟩) (lastW ws a b)) ≤ 182 from by have := numP_le (p := (a, b - 1)) (occ_sorted ws (ws.getD a ⟨#[]⟩) (lastW ws a b)); omega)
      have HON : Hid (ofNum (occ ws (ws.getD a ⟨#[]⟩) (lastW ws a b)) (a, b - 1) = if (occ ws (ws.getD a ⟨#[]⟩) (lastW ws a b)).length = 1 then 0 else numP (a, b - 1) (occ ws (ws.getD a ⟨#[]⟩) (lastW ws a b))) := rfl
      generalize ofNum (occ ws (ws.getD a ⟨#[]⟩) (lastW ws a b)) (a, b - 1) = n at *
      generalize occ ws (ws.getD a ⟨#[]⟩) (lastW ws a b) = oc at *
      obtain ⟨ad, cap, rfl, hlc, hcm, hcell⟩ := hr.open
      obtain ⟨s1, b1, o1, hs1, rfl, hc1⟩ := hcell a (by omega)
      obtain ⟨s2, b2, o2, hs2, he2, hc2⟩ := hcell (b - 1) (by omega)
      cases he2
      have g1 : ws.getD a ⟨#[]⟩ = s1 := by rw [List.getD_eq_getElem?_getD, hs1]; rfl
      have g2 : ws.getD (b - 1) ⟨#[]⟩ = s2 := by rw [List.getD_eq_getElem?_getD, hs2]; rfl
      simp only [g1, g2] at *
      have HRD := hid hr
      have HC := hid hcell
      have HMD : Hid (∀ i j si sj, i ≤ j → j < ws.length → ws[i]? = some si → ws[j]? = some sj → ((i, j) ∈ oc ↔ si = s1 ∧ sj = s2 ∧ (i = j ↔ b - a = 1))) := fun i j si sj h3 h4 h5 h6 => HMC.out i j h3 h4 si sj s1 s2 h5 h6 hs1 hs2
      clear HMC
      generalize lastW ws a b = L at *
      clear he hz hwd hsz hck hne hsz2 hcell hlk e1 e2 hfs hls hs1 hs2 g1 g2 hr
      go_enter Tryd.func4, Tryd.ntmps4
      go_wp2_with fail
      refine HF.out.mono ?_
      rintro e w1 ⟨rfl, hB1⟩
      go_wp2_with fail
      refine (HP1 _ (HRD.out.below hB1)).out.mono ?_
      rintro e w2 ⟨rfl, hB2⟩
      have hb2 := below_tr hB1 hB2
      go_wp2_with fail
      refine (HO1 _ (HE _ hb2).out (HRD.out.below hb2)).out.mono ?_
      rintro e w3 ⟨rfl, hB3⟩
      have hb3 := below_tr hb2 hB3
      have hb4 := below_tr hb3 (below_al w3 (.cells #[.string s1, .string L, .int .i64 n] 28))
      have ha4 := hid (row_nw w3 #[.string s1, .string L, .int .i64 n] 28 rfl)
      have c0 := ha4.out.cell 0 rfl
      have c1 := ha4.out.cell 1 rfl
      clear hB1 hB2 hb2 hB3 hb3 HP1 HF HO1
      go_wp2_with fail
      generalize w3.alloc (.cells #[.string s1, .string L, .int .i64 n] 28) = w4 at *
      refine (HOC _ (HE _ hb4).out (HRD.out.below hb4)).out.mono ?_
      rintro e w5 ⟨u, rfl, hru, hB5⟩
      have HRU := hid hru
      have HB5 := hid (below_tr hb4 hB5)
      have HA5 := hid (ha4.out.below hB5)
      have HC1 := hid (Below.keeps HB5.out _ _ hc1)
      have HC2 := hid (Below.keeps HB5.out _ _ hc2)
      clear hb4 ha4 hB5 HOC hc1 hc2 c0 c1 hru
      go_wp2_with fail
      go_loopw [13, 14, 57] (fun ov av i wr => ∃ k : Nat, k ≤ ws.length ∧ i = .int .i64 k ∧ NumI w5 oc (a, b - 1) (k, k) ov av wr) (fun _ _ i _ => ws.length - (intOf i).toNat)
      case atStart => exact ⟨0, by omega, rfl, NumI.start _ _ _⟩
      case round =>
        obtain ⟨k, hk, rfl, HI⟩ := hrel
        by_cases hlt : k < ws.length
        · obtain ⟨si, bi, oi, hsi, hbi, hci⟩ := HC.out k hlt
          cases hbi
          obtain ⟨adv, capv, vs0, rfl, rfl, _, _⟩ := HI.open
          have hki : (k : Int) < (ws.length : Int) := by omega
          go_wp2_with fail
          have HSI := hid hsi
          have HCI := hid hci
          clear hsi hci
          go_loopw [13, 14, 16] (fun ov av i wi => ∃ j : Nat, k ≤ j ∧ j ≤ ws.length ∧ i = .int .i64 j ∧ NumI w5 oc (a, b - 1) (k, j) ov av wi) (fun _ _ i _ => ws.length - (intOf i).toNat)
          case atStart => exact ⟨k, Nat.le_refl _, by omega, rfl, HI⟩
          case round =>
            clear HI
            obtain ⟨j, hkj, hj, rfl, HJ⟩ := hrel
            by_cases hjl : j < ws.length
            · obtain ⟨sj, bj, oj, hsj, hbj, hcj⟩ := HC.out j hjl
              cases hbj
              obtain ⟨adw, capw, vs1, rfl, rfl, hown, htw⟩ := HJ.open
              have hji : (j : Int) < (ws.length : Int) := by omega
              have HD := hid (HMD.out k j si sj hkj hjl HSI.out hsj)
              have HBj := hid (below_tr HB5.out HJ.bel)
              have dci := Below.keeps HBj.out _ _ HCI.out
              have dcj := Below.keeps HBj.out _ _ hcj
              have dc1 := Below.keeps HJ.bel _ _ HC1.out
              have dc2 := Below.keeps HJ.bel _ _ HC2.out
              have hai : (a : Int) < (ws.length : Int) := by omega
              have hbi : IntKind.i64.wrap ((b : Int) - 1) = (b : Int) - 1 := IntWalk.i64_in _ (by omega)
              have hbj : (b : Int) - 1 < (ws.length : Int) := by omega
              have hbk : ((b : Int) - 1).toNat = b - 1 := by omega
              have hbm : (0 : Int) ≤ (b : Int) - 1 := by omega
              have hba : IntKind.i64.wrap ((b : Int) - (a : Int)) = (b : Int) - (a : Int) := IntWalk.i64_in _ (by omega)
              have HJI := hid HJ
              have HSJ := hid hsj
              clear hsj hcj HJ
              by_cases hm : (k, j) ∈ oc
              · obtain ⟨rfl, rfl, hif⟩ := HD.out.1 hm
                have q1 : (!si.toList == si.toList) = false := by simp
                have q2 : (!sj.toList == sj.toList) = false := by simp
                have HRW := fun (nq g cap : Nat) (w1 : World) h1 h2 => hid (NumI.push (W := wr.drewN nq) (g := g) (cap := cap) (w1 := w1) (p := (a, b - 1)) HS.out (below_tr HJI.out.bel (below_drewN (Below.refl wr.heap.size wr) nq)) hm (own_below hown (below_drewN (Below.refl wr.heap.size wr) nq)) (tws_below htw (below_drewN (Below.refl wr.heap.size wr) nq)) h1 h2)
                have hln := mem_len (l := oc) (q := (k, j))
                by_cases hkj2 : k = j
                · subst hkj2
                  have e := Option.some.inj (HSI.out.symm.trans HSJ.out)
                  subst e
                  have q4 : (b : Int) - (a : Int) = 1 := by have := hif.1 rfl; omega
                  clear hif hkj dcj
                  go_wp2_with fail
                  go_quiet (fail)
                  have HPW := HRW nq
                  have hown1 := own_below (own_below hown (below_drewN (Below.refl wr.heap.size wr) nq)) (below_al _ (.cells #[.int .i64 (k : Int), .int .i64 (k : Int)] 3))
                  have HSZ : Hid (w5.heap.size ≤ ((wr.drewN nq).alloc (.cells #[.int .i64 (k : Int), .int .i64 (k : Int)] 3)).heap.size) := hid (Nat.le_trans (Nat.le_trans HJI.out.bel.size (below_drewN (Below.refl wr.heap.size wr) nq).size) (below_al _ _).size)
                  clear HRW q4 dci dc1 dc2 hown htw HD HBj
                  generalize wr.drewN nq = wq at *
                  by_cases hA : (k, k) = (a, b - 1)
                  · simp only [if_pos hA] at HPW
                    have qa : ((k : Int) == (a : Int)) = true := by have : k = a := congrArg Prod.fst hA; simp; omega
                    have qb : ((k : Int) == (b : Int) - 1) = true := by have : k = b - 1 := congrArg Prod.snd hA; simp; omega
                    clear hA
                    go_wp2_with (first | (at_builtin; refine wpList_ap2 rfl _ _ 33 rfl w5.heap.size 36 Tryd.underlying33 infoSl43 rfl (by decide) (by decide) _ _ _ rfl hown1 [.slice (some ⟨wq.heap.size, 0, none⟩) 2 2] rfl (by simp [Value.oneCell']) rfl (by simp) (by omega) HSZ.out ?_; intro g9 cap9 w9 hown9 hb9 hg9 _ _; have HP := HPW g9 cap9 w9 hown9 hg9; clear hown1 hown9 hb9 hg9))
                    go_roundw
                    case rel => exact ⟨k + 1, by omega, by omega, by go_num, HP.out⟩
                    case measure => simp [intOf]; omega
                  · simp only [if_neg hA] at HPW
                    by_cases hA1 : k = a
                    · have qb : ((k : Int) == (b : Int) - 1) = false := beq_eq_false_iff_ne.2 (fun e => hA (by rw [Prod.mk.injEq]; exact ⟨hA1, by omega⟩))
                      have qa : ((k : Int) == (a : Int)) = true := by simp; omega
                      clear hA hA1
                      go_wp2_with (first | (at_builtin; refine wpList_ap2 rfl _ _ 33 rfl w5.heap.size 36 Tryd.underlying33 infoSl43 rfl (by decide) (by decide) _ _ _ rfl hown1 [.slice (some ⟨wq.heap.size, 0, none⟩) 2 2] rfl (by simp [Value.oneCell']) rfl (by simp) (by omega) HSZ.out ?_; intro g9 cap9 w9 hown9 hb9 hg9 _ _; have HP := HPW g9 cap9 w9 hown9 hg9; clear hown1 hown9 hb9 hg9))
                      go_roundw
                      case rel => exact ⟨k + 1, by omega, by omega, by go_num, HP.out⟩
                      case measure => simp [intOf]; omega
                    · have qa : ((k : Int) == (a : Int)) = false := beq_eq_false_iff_ne.2 (fun e => hA1 (by omega))
                      clear hA hA1
                      go_wp2_with (first | (at_builtin; refine wpList_ap2 rfl _ _ 33 rfl w5.heap.size 36 Tryd.underlying33 infoSl43 rfl (by decide) (by decide) _ _ _ rfl hown1 [.slice (some ⟨wq.heap.size, 0, none⟩) 2 2] rfl (by simp [Value.oneCell']) rfl (by simp) (by omega) HSZ.out ?_; intro g9 cap9 w9 hown9 hb9 hg9 _ _; have HP := HPW g9 cap9 w9 hown9 hg9; clear hown1 hown9 hb9 hg9))
                      go_roundw
                      case rel => exact ⟨k + 1, by omega, by omega, by go_num, HP.out⟩
                      case measure => simp [intOf]; omega
                · have q4 : ¬ (b : Int) - (a : Int) = 1 := fun e => hkj2 (hif.2 (by omega))
                  have q3 : ¬ (k : Int) = (j : Int) := by omega
                  have q6 : (!((k : Int) == (j : Int)) == ((b : Int) - (a : Int) == 1)) = false := by rw [beq_eq_false_iff_ne.2 q3, beq_eq_false_iff_ne.2 q4]; rfl
                  clear hif
                  go_wp2_with fail
                  go_quiet (fail)
                  clear q3
                  have HPW := HRW nq
                  have hown1 := own_below (own_below hown (below_drewN (Below.refl wr.heap.size wr) nq)) (below_al _ (.cells #[.int .i64 (k : Int), .int .i64 (j : Int)] 3))
                  have HSZ : Hid (w5.heap.size ≤ ((wr.drewN nq).alloc (.cells #[.int .i64 (k : Int), .int .i64 (j : Int)] 3)).heap.size) := hid (Nat.le_trans (Nat.le_trans HJI.out.bel.size (below_drewN (Below.refl wr.heap.size wr) nq).size) (below_al _ _).size)
                  clear HRW q4 dci dc1 dc2 hown htw HD HBj
                  generalize wr.drewN nq = wq at *
                  by_cases hA : (k, j) = (a, b - 1)
                  · simp only [if_pos hA] at HPW
                    have qa : ((k : Int) == (a : Int)) = true := by have : k = a := congrArg Prod.fst hA; simp; omega
                    have qb : ((j : Int) == (b : Int) - 1) = true := by have : j = b - 1 := congrArg Prod.snd hA; simp; omega
                    clear hA
                    go_wp2_with (first | (at_builtin; refine wpList_ap2 rfl _ _ 33 rfl w5.heap.size 36 Tryd.underlying33 infoSl43 rfl (by decide) (by decide) _ _ _ rfl hown1 [.slice (some ⟨wq.heap.size, 0, none⟩) 2 2] rfl (by simp [Value.oneCell']) rfl (by simp) (by omega) HSZ.out ?_; intro g9 cap9 w9 hown9 hb9 hg9 _ _; have HP := HPW g9 cap9 w9 hown9 hg9; clear hown1 hown9 hb9 hg9))
                    go_roundw
                    case rel => exact ⟨j + 1, by omega, by omega, by go_num, HP.out⟩
                    case measure => simp [intOf]; omega
                  · simp only [if_neg hA] at HPW
                    by_cases hA1 : k = a
                    · have qb : ((j : Int) == (b : Int) - 1) = false := beq_eq_false_iff_ne.2 (fun e => hA (by rw [Prod.mk.injEq]; exact ⟨hA1, by omega⟩))
                      have qa : ((k : Int) == (a : Int)) = true := by simp; omega
                      clear hA hA1
                      go_wp2_with (first | (at_builtin; refine wpList_ap2 rfl _ _ 33 rfl w5.heap.size 36 Tryd.underlying33 infoSl43 rfl (by decide) (by decide) _ _ _ rfl hown1 [.slice (some ⟨wq.heap.size, 0, none⟩) 2 2] rfl (by simp [Value.oneCell']) rfl (by simp) (by omega) HSZ.out ?_; intro g9 cap9 w9 hown9 hb9 hg9 _ _; have HP := HPW g9 cap9 w9 hown9 hg9; clear hown1 hown9 hb9 hg9))
                      go_roundw
                      case rel => exact ⟨j + 1, by omega, by omega, by go_num, HP.out⟩
                      case measure => simp [intOf]; omega
                    · have qa : ((k : Int) == (a : Int)) = false := beq_eq_false_iff_ne.2 (fun e => hA1 (by omega))
                      clear hA hA1
                      go_wp2_with (first | (at_builtin; refine wpList_ap2 rfl _ _ 33 rfl w5.heap.size 36 Tryd.underlying33 infoSl43 rfl (by decide) (by decide) _ _ _ rfl hown1 [.slice (some ⟨wq.heap.size, 0, none⟩) 2 2] rfl (by simp [Value.oneCell']) rfl (by simp) (by omega) HSZ.out ?_; intro g9 cap9 w9 hown9 hb9 hg9 _ _; have HP := HPW g9 cap9 w9 hown9 hg9; clear hown1 hown9 hb9 hg9))
                      go_roundw
                      case rel => exact ⟨j + 1, by omega, by omega, by go_num, HP.out⟩
                      case measure => simp [intOf]; omega
              · by_cases he1 : si = s1
                · subst he1
                  have q1 : (!si.toList == si.toList) = false := by simp
                  by_cases he2 : sj = s2
                  · subst he2
                    have q2 : (!sj.toList == sj.toList) = false := by simp
                    by_cases hkj2 : k = j
                    · subst hkj2
                      have e := Option.some.inj (HSI.out.symm.trans HSJ.out)
                      subst e
                      have hd : b - a ≠ 1 := fun e => hm (HD.out.2 ⟨rfl, rfl, ⟨fun _ => e, fun _ => rfl⟩⟩)
                      have q4 : ((b : Int) - (a : Int) == 1) = false := by simp; omega
                      have q5 : ¬ (b : Int) - (a : Int) = 1 := by omega
                      clear hkj dcj
                      go_wp2_with fail
                      go_quiet (fail)
                      have HQ := hid ((HJI.out.skip HS.out hm).below (below_drewN (Below.refl _ _) nq))
                      clear hown htw dci dc1 dc2
                      go_wp2_with fail
                      go_roundw
                      case rel => exact ⟨k + 1, by omega, by omega, by go_num, HQ.out⟩
                      case measure => simp [intOf]; omega
                    · have hd : b - a = 1 := Classical.byContradiction fun e => hm (HD.out.2 ⟨rfl, rfl, ⟨fun h => absurd h hkj2, fun h => absurd h e⟩⟩)
                      have q3 : ((k : Int) == (j : Int)) = false := by simp; omega
                      have q4 : ((b : Int) - (a : Int) == 1) = true := by simp; omega
                      have q5 : (b : Int) - (a : Int) = 1 := by omega
                      go_wp2_with fail
                      go_quiet (fail)
                      have HQ := hid ((HJI.out.skip HS.out hm).below (below_drewN (Below.refl _ _) nq))
                      clear hown htw dci dc1 dc2
                      go_wp2_with fail
                      go_roundw
                      case rel => exact ⟨j + 1, by omega, by omega, by go_num, HQ.out⟩
                      case measure => simp [intOf]; omega
                  · have q2 : (!sj.toList == s2.toList) = true := by rw [ba_beq]; simpa using he2
                    go_wp2_with fail
                    go_quiet (fail)
                    have HQ := hid ((HJI.out.skip HS.out hm).below (below_drewN (Below.refl _ _) nq))
                    clear hown htw dci dc1 dc2
                    go_wp2_with fail
                    go_roundw
                    case rel => exact ⟨j + 1, by omega, by omega, by go_num, HQ.out⟩
                    case measure => simp [intOf]; omega
                · have q1 : (!si.toList == s1.toList) = true := by rw [ba_beq]; simpa using he1
                  go_wp2_with fail
                  go_quiet (fail)
                  have HQ := hid ((HJI.out.skip HS.out hm).below (below_drewN (Below.refl _ _) nq))
                  clear hown htw dci dc1 dc2
                  go_wp2_with fail
                  go_roundw
                  case rel => exact ⟨j + 1, by omega, by omega, by go_num, HQ.out⟩
                  case measure => simp [intOf]; omega
            · have hji : ¬ (j : Int) < (ws.length : Int) := by omega
              have hjn : j = ws.length := by omega
              rw [hjn] at HJ
              have HJ2 := hid (NumI.row HIN.out HJ)
              go_wp2_with fail
              go_roundw
              case rel => exact ⟨k + 1, by omega, by go_num, HJ2.out⟩
              case measure => simp [intOf]; omega
        · have hki : ¬ (k : Int) < (ws.length : Int) := by omega
          have hkn : k = ws.length := by omega
          rw [hkn] at HI
          have HBI := HI.bel
          obtain ⟨hrp, rfl⟩ := NumI.fin HIN.out HI
          have HBw := hid (below_tr HB5.out HBI)
          have HST := hid (sameT_any _ _ oc _ (HRU.out.below HBI) hrp)
          have HA := hid (HA5.out.below HBI)
          obtain ⟨au, cu, hu, _, _, _⟩ := HRU.out.open
          subst hu
          generalize numP (a, b - 1) oc = m at *
          have hm1 : ¬ (m : Int) - 1 < 0 := by have := HPO.out; omega
          clear HI hrp HBI hkn hk hki HA5 HB5 HRU HMD HC
          go_wp2_with fail
          refine HST.out.mono ?_
          rintro e w6 ⟨rfl, hB6⟩
          have c2 := (HA.out.below hB6).cell 2 rfl
          have HB7 := hid (below_tr HBw.out hB6)
          clear hB6 HST HA HBw
          by_cases ho : oc.length = 1
          · have hn0 : n = 0 := by rw [HON.out, if_pos ho]
            subst hn0
            have hoi : (oc.length : Int) = 1 := by omega
            clear ho HON
            go_wp2_with fail
            refine (awake43_any _ (HE _ HB7.out).out).mono ?_
            rintro e w8 ⟨rfl, hB8⟩
            go_wp2
            go_ret
            exact ⟨rfl, below_tr HB7.out hB8⟩
          · have hn0 : n = m := by rw [HON.out, if_neg ho]
            subst hn0
            have hoi : ¬ (oc.length : Int) = 1 := by omega
            have hw : IntKind.i64.wrap (n : Int) = (n : Int) := IntWalk.i64_in _ (by have := HNL.out; omega)
            have hw2 : (n : Int) - 1 + 1 = (n : Int) := by omega
            generalize (n : Int) - 1 = m1 at *
            clear ho HON
            go_wp2_with fail
            refine (awake43_any _ (HE _ HB7.out).out).mono ?_
            rintro e w8 ⟨rfl, hB8⟩
            go_wp2
            go_ret
            exact ⟨rfl, below_tr HB7.out hB8⟩
theorem lnumI_any (v : Value) (ws : List ByteArray) (b1 b2 : Int) (w : World) (he : Env w) (hr : RdS w v ws) (hz : Szs ws) (r1 : 0 ≤ b1 ∧ b1 < 256) (r2 : 0 ≤ b2 ∧ b2 < 256) :
    Calls Tryd.prog 4 #[v, .int .u8 b1, .int .u8 b2] w fun e w' => e = .returned (.bool true) ∧ Below w.heap.size w w' := by
  obtain ⟨u1, rfl⟩ := Int.eq_ofNat_of_zero_le r1.1
  obtain ⟨u2, rfl⟩ := Int.eq_ofNat_of_zero_le r2.1
  exact lnum_any v ws u1 u2 w he hr hz (by omega) (by omega)
end Go.Proofs.YtkmggnohheomeaaDoor
