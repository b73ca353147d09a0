/-
  pagebreak.newSums.
-/
import Derived.Test.YtlneimjenjpbnaaDoorNsm
import Derived.Test.YtlneimjenjpbnaaDoorJ01
import Derived.Test.YtlneimjenjpbnaaDoorStA
namespace Go.Proofs.YtlneimjenjpbnaaDoor
open Go.RowKit

theorem own_newI (W : World) (x : Int) (base : Nat) (hb : base ≤ W.heap.size) : (W.alloc (.cells #[.int .i64 x] 3)).ownsRow base 3 1 (.slice (some ⟨W.heap.size, 0, none⟩) 1 1) 1 [.int .i64 x] :=
  ⟨rfl, .inr ⟨W.heap.size, 1, #[.int .i64 x], rfl, hb, row_nw W _ _ rfl, Nat.le_refl _, by unfold maxLen; omega, rfl, rfl⟩⟩
set_option maxRecDepth 100000 in
set_option maxHeartbeats 8000000 in
theorem nsums_any (p : PP) (vl vn vp : Value) (w : World) (hr : RdP5 w vl vn vp p) (hok : PpOk p) :
    Calls Tryd.prog 29 #[.agg (ppC p vl vn vp)] w fun e w' => ∃ B, e = .returned (.pointer (some ⟨B, 0, none⟩)) ∧ w.heap.size ≤ B ∧ SmR w' B p ∧ Below w.heap.size w w' := by
  have HOK := hid hok
  have HRD := fun w' (h : Below w.heap.size w w') => hid (hr.below h)
  obtain ⟨a1, c1, rfl, _, _, _⟩ := hr.l.open
  obtain ⟨a2, c2, rfl, hl2, hm2, _⟩ := hr.n.open
  obtain ⟨a3, c3, rfl, _, _, _⟩ := hr.s.open
  have hn4 := hok.n4
  have HI0 : Hid (NsI w p (.slice a1 p.lines.length c1) (.slice a2 p.notes.length c2) (.slice a3 p.pens.length c3) (.slice (some ⟨w.heap.size + 1, 0, none⟩) 1 1) (.slice none 0 0) [0] [] []
      (((w.alloc (.cells (ppC p (.slice a1 p.lines.length c1) (.slice a2 p.notes.length c2) (.slice a3 p.pens.length c3)) 38)).alloc (.cells #[.int .i64 0] 3)).alloc
        (.cells #[.slice a1 p.lines.length c1, .slice a2 p.notes.length c2, .slice a3 p.pens.length c3, .int .i64 p.h, .int .i64 p.gap, .slice (some ⟨w.heap.size + 1, 0, none⟩) 1 1, .slice none 0 0] 78))) := by
    have h1 := own_newI (w.alloc (.cells (ppC p (.slice a1 p.lines.length c1) (.slice a2 p.notes.length c2) (.slice a3 p.pens.length c3)) 38)) 0 w.heap.size (by simp)
    rw [show (w.alloc (.cells (ppC p (.slice a1 p.lines.length c1) (.slice a2 p.notes.length c2) (.slice a3 p.pens.length c3)) 38)).heap.size = w.heap.size + 1 by simp] at h1
    refine ⟨((row_nw w _ _ rfl).al _).al _, row_nw _ _ _ (by simp), own_belowX h1 (below_al _ _), .inl ⟨rfl, rfl, rfl⟩, fun i v hv => by simp at hv, below_tr (below_tr (below_al w _) (below_al _ _)) (below_al _ _)⟩
  clear hr hok
  unfold ppC at HI0
  go_enter Tryd.func29, Tryd.ntmps29
  unfold ppC
  go_upto_region 2 with fail
  generalize ((w.alloc (.cells #[.slice a1 p.lines.length c1, .slice a2 p.notes.length c2, .slice a3 p.pens.length c3, .int .i64 p.h, .int .i64 p.gap] 38)).alloc (.cells #[.int .i64 0] 3)).alloc
        (.cells #[.slice a1 p.lines.length c1, .slice a2 p.notes.length c2, .slice a3 p.pens.length c3, .int .i64 p.h, .int .i64 p.gap, .slice (some ⟨w.heap.size + 1, 0, none⟩) 1 1, .slice none 0 0] 78) = W0 at *
  have c1' := HI0.out.pb.cell 1 (x := .slice a2 p.notes.length c2) rfl
  have s6 : W0.cell? ⟨w.heap.size + 1 + 1, 6, none⟩ = some (.slice none 0 0) := HI0.out.sb.cell 6 (x := .slice none 0 0) rfl
  have f6 : W0.frozen? ⟨w.heap.size + 1 + 1, 6, none⟩ = false := HI0.out.sb.frozen 6
  go_upto_if 16 with fail
  go_cut [] from 13 to 25 (fun wx => ∃ vb vs, Hid (NsI w p (.slice a1 p.lines.length c1) (.slice a2 p.notes.length c2) (.slice a3 p.pens.length c3) (.slice (some ⟨w.heap.size + 1, 0, none⟩) 1 1) vb [0] vs (mixM p 0 0 p.nb) wx))
  case first =>
    by_cases hn0 : p.notes.length = 0
    · have h0i : ¬ (0 : Int) < (p.notes.length : Int) := by omega
      have hnn : p.nb = 0 := by
        unfold PP.nb
        rw [List.eq_nil_of_length_eq_zero hn0]; rfl
      have HM : Hid (mixM p 0 0 p.nb = []) := by show _ = _; rw [hnn]; rfl
      clear hn0 hnn
      go_wp2_with fail
      go_meet
      exact ⟨_, _, by rw [HM.out]; exact HI0.out⟩
    · obtain ⟨_, _, he2, _, _, hcell⟩ := (HRD W0 HI0.out.bel).out.n.open
      cases he2
      obtain ⟨row0, b, off, u0, hx0, rfl, e0, hu0⟩ := hcell 0 (Nat.pos_of_ne_zero hn0)
      rw [Nat.add_zero] at e0
      obtain ⟨au0, cu0, rfl, _, _, _⟩ := hu0.open
      have h0i : (0 : Int) < (p.notes.length : Int) := by omega
      have h0n : 0 < p.notes.length := by omega
      have hr0 : row0.length = p.nb := by
        unfold PP.nb
        rw [List.headD_eq_head?_getD, List.head?_eq_getElem?, hx0]; rfl
      have HR0 := hid hr0
      have hr16 : row0.length ≤ 16 := by have := HOK.out.nb; omega
      clear hn0 hx0 hu0 hr0 hcell
      obtain ⟨i8, hi8, hz80, hz81, hz82⟩ := info_parts infoSlP
      obtain ⟨nb, hnb⟩ : ∃ nb, nb = row0.length := ⟨_, rfl⟩
      rw [← hnb] at HR0 hr16 e0
      have HMZ : Hid (mixM p 0 0 p.nb = List.replicate nb []) := by show _ = _; rw [← HR0.out]; exact mixM_zero p nb
      clear hnb HR0
      go_wp2_with (at_make; refine wpList_make_full _ rfl _ _ 33 rfl w.heap.size 32 i8 (.slice none 0 0) 1 Tryd.underlying33 hi8 hz80 hz81 .i64 .i64 _ _ nb rfl rfl rfl rfl (by rw [hz82]; omega) (by unfold maxLen; omega) HI0.out.bel.size ?_; intro w2 hown2 hg2; have hb2 : Below W0.heap.size W0 w2 := ⟨hg2.os, hg2.tape, hg2.output, hg2.size, fun k hk => hg2.block k hk (by simp)⟩; have s6b : w2.cell? ⟨w.heap.size + 1 + 1, 6, none⟩ = some (.slice none 0 0) := Below.keeps hb2 _ _ s6; have f6b : w2.frozen? ⟨w.heap.size + 1 + 1, 6, none⟩ = false := (HI0.out.sb.below hb2).frozen 6)
      obtain ⟨hG2, _⟩ := own_full hown2
      have hGr : Row w2 W0.heap.size (List.replicate nb (Value.slice none 0 0)).toArray 32 := by
        have h : w2.heap[W0.heap.size]? = some (.cells (madeCells #[Value.slice none 0 0] (nb * 1)).toList.toArray 32 (0, 0)) := hG2
        rw [Nat.mul_one, toList_madeCells_one] at h
        exact h
      have HM2 := hid (HI0.out.made hb2 hGr HI0.out.bel.size)
      clear hown2 hg2 hb2 hG2 hGr s6b f6b
      go_meet
      exact ⟨_, _, by rw [HMZ.out]; exact HM2.out⟩
  case rest =>
    obtain ⟨vb, vs, HI1⟩ := hcut
    clear HI0 s6 f6 c1'
    obtain ⟨av, rfl⟩ := HI1.out.vbf
    rw [mixM_len] at HI1
    obtain ⟨nb, hnb⟩ : ∃ nb, nb = p.nb := ⟨_, rfl⟩
    rw [← hnb] at HI1
    have HNB := hid hnb
    have hnb16 : nb ≤ 16 := by have := HOK.out.nb; omega
    clear hnb
    have s6 : wc.cell? ⟨w.heap.size + 1 + 1, 6, none⟩ = some (.slice av nb nb) := HI1.out.sb.cell 6 (x := .slice av nb nb) rfl
    go_upto_block 0 with fail
    clear s6
    go_cut [4] from 31 to 41 (fun _ wx => ∃ vs, Hid (NsI w p (.slice a1 p.lines.length c1) (.slice a2 p.notes.length c2) (.slice a3 p.pens.length c3) (.slice (some ⟨w.heap.size + 1, 0, none⟩) 1 1) (.slice av nb nb) [0] vs (mixM p 1 0 nb) wx))
    case first =>
      go_wp2_with fail
      go_loopw [31] (fun i wr => ∃ (k : Nat) (vs : List Value), k ≤ nb ∧ i = .int .i64 k ∧ Hid (NsI w p (.slice a1 p.lines.length c1) (.slice a2 p.notes.length c2) (.slice a3 p.pens.length c3) (.slice (some ⟨w.heap.size + 1, 0, none⟩) 1 1) (.slice av nb nb) [0] vs (mixM p 0 k nb) wr)) (fun i _ => nb - (intOf i).toNat)
      case atStart => exact ⟨0, vs, Nat.zero_le _, rfl, HI1.out⟩
      case round =>
        rename_i wr
        obtain ⟨k, vs2, hk, rfl, HI⟩ := hrel
        clear HI1
        by_cases hlt : k < nb
        · have hki : (k : Int) < (nb : Int) := by omega
          have hk0 : (0 : Int) ≤ (k : Int) := by omega
          obtain ⟨G, rfl, hGlo, hOM⟩ := HI.out.bG (by rw [mixM_len]; omega)
          obtain ⟨v, hv, hvc, hvf, hvo⟩ := hOM.at (i := k) (by rw [mixM_len]; exact hlt)
          have s6 : wr.cell? ⟨w.heap.size + 1 + 1, 6, none⟩ = some (.slice (some ⟨G, 0, none⟩) nb nb) := HI.out.sb.cell 6 (x := .slice (some ⟨G, 0, none⟩) nb nb) rfl
          have hGl := hOM.outer.lt
          have d0 : (wr.alloc (.cells #[.int .i64 0] 3)).cell? ⟨G, k, none⟩ = some v := cell_al hvc _
          have e0 : (wr.alloc (.cells #[.int .i64 0] 3)).frozen? ⟨G, k, none⟩ = false := frozen_al hvf hGl _
          have HI2 : Hid (NsI w p (.slice a1 p.lines.length c1) (.slice a2 p.notes.length c2) (.slice a3 p.pens.length c3) (.slice (some ⟨w.heap.size + 1, 0, none⟩) 1 1) (.slice (some ⟨G, 0, none⟩) nb nb) [0] (vs2.set k (.slice (some ⟨wr.heap.size, 0, none⟩) 1 1)) (mixM p 0 (k + 1) nb) ((wr.alloc (.cells #[.int .i64 0] 3)).setCell ⟨G, k, none⟩ (.slice (some ⟨wr.heap.size, 0, none⟩) 1 1))) := by
            have hml := mixM_len p 0 k nb
            have h : NsI w p (.slice a1 p.lines.length c1) (.slice a2 p.notes.length c2) (.slice a3 p.pens.length c3) (.slice (some ⟨w.heap.size + 1, 0, none⟩) 1 1) (.slice (some ⟨G, 0, none⟩) (mixM p 0 k nb).length (mixM p 0 k nb).length) [0] vs2 (mixM p 0 k nb) wr := by rw [hml]; exact HI.out
            have h2 := NsI.blk (row' := [0]) h hv (List.getElem?_eq_getElem (by rw [mixM_len]; exact hlt)) (r := none) (World.grownBy_alloc wr (.cells #[.int .i64 0] 3) none) (.inl rfl) ((below_al wr _).mono HI.out.bel.size) (own_newI wr 0 w.heap.size HI.out.bel.size) (.inr (Nat.le_refl _))
            rw [List.length_set, hml] at h2
            have h3 := mixM_set p (i := 0) hlt
            rw [show prefL (col p k) (0 + 1) = [0] from rfl] at h3
            rw [h3] at h2
            exact h2
          clear HI hOM hv hvo hvc hvf hGl
          go_wp2_with fail
          go_roundw
          case rel => exact ⟨k + 1, _, by omega, by go_num, HI2.out⟩
          case measure => simp [intOf]; omega
        · have hki : ¬ (k : Int) < (nb : Int) := by omega
          obtain rfl : k = nb := by omega
          have HI2 := HI.out
          rw [mixM_all] at HI2
          have HI3 := hid HI2
          clear HI HI2
          go_wp2_with fail
          go_meet
          exact ⟨_, HI3.out⟩
    case rest =>
      obtain ⟨vs1, HI2⟩ := hcut
      clear HI1
      have c0 := HI2.out.pb.cell 0 (x := .slice a1 p.lines.length c1) rfl
      go_wp2_with fail
      clear c0
      go_loopw [45] (fun iv wr => ∃ (i : Nat) (sl : Value) (vs : List Value), i ≤ p.lines.length ∧ iv = .int .i64 i ∧ Hid (NsI w p (.slice a1 p.lines.length c1) (.slice a2 p.notes.length c2) (.slice a3 p.pens.length c3) sl (.slice av nb nb) (prefL p.lines (i + 1)) vs (mixM p (i + 1) 0 nb) wr)) (fun iv _ => p.lines.length - (intOf iv).toNat)
      case atStart => exact ⟨0, _, vs1, Nat.zero_le _, rfl, HI2.out⟩
      case round =>
        rename_i wr
        obtain ⟨i, sl, vs2, hi, rfl, HI⟩ := hrel
        clear HI2
        by_cases hlt : i < p.lines.length
        · have hki : (i : Int) < (p.lines.length : Int) := by omega
          obtain ⟨_, _, he1, _, _, hcell⟩ := (HRD wr HI.out.bel).out.l.open
          cases he1
          obtain ⟨x, b1, o1, hx, rfl, d1⟩ := hcell i hlt
          have hlo := HI.out.lo
          rw [prefL_len] at hlo
          obtain ⟨g, cap, rfl, hgc, hgl⟩ := own_sl hlo (by omega)
          clear hlo
          have d2 := hgl i (.int .i64 (sumTo p.lines i)) (by rw [List.getElem?_map, prefL_at p.lines (by omega)]; rfl)
          clear hcell hgl
          have hik : (i : Int) < (i : Int) + 1 := by omega
          have hi0 : (0 : Int) ≤ (i : Int) := by omega
          go_upto_region 12 with fail
          have hsm := sumTo_bd HOK.out.ls i
          have hxb := HOK.out.ls x (List.mem_of_getElem? hx)
          have HX := hid hx
          obtain ⟨s, hs⟩ : ∃ s, s = sumTo p.lines i := ⟨_, rfl⟩
          rw [← hs] at d2 hsm
          have hsum : Go.IntKind.i64.wrap (s + x) = s + x := IntWalk.i64_in (s + x) (by omega)
          have HSX := hid hs
          have s5 : wr.cell? ⟨w.heap.size + 1 + 1, 5, none⟩ = some (.slice (some ⟨g, 0, none⟩) (i + 1) cap) := HI.out.sb.cell 5 (x := .slice (some ⟨g, 0, none⟩) (i + 1) cap) rfl
          have s5a := cell_al s5 (.cells #[.int .i64 (s + x)] 3)
          have hI := HI.out
          have hn4 := HOK.out.n4
          clear HI hx hs hsm hxb
          go_cut [] from 50 to 67 (fun wx => ∃ (g cap : Nat), Hid (NsI w p (.slice (some ⟨b1, o1, none⟩) p.lines.length c1) (.slice a2 p.notes.length c2) (.slice a3 p.pens.length c3) (.slice (some ⟨g, 0, none⟩) (i + 1 + 1) cap) (.slice av nb nb) (prefL p.lines (i + 1 + 1)) vs2 (mixM p (i + 1) 0 nb) wx))
          case first =>
            go_region_law (first
              | (refine step_ap rfl (.tmp 54) (.tmp 64) 32 rfl w.heap.size 3 Tryd.underlying32 infoIntP rfl (by decide) (by decide) (.slice (some ⟨g, 0, none⟩) (i + 1) cap) (i + 1) ((prefL p.lines (i + 1)).map (Value.int .i64)) ?_ ?_ 1 (by decide) [.int .i64 (s + x)] rfl ?_ wr.heap.size ?_ ?_ ?_ ?_ ?_; (focus (simp [Act.eval]; done)); (focus (exact NsI.lo2 (w := w) (p := p) (by first | exact hI.drew.al _ | exact (hI.al _).drew))); (focus (simp [Value.oneCell']; done)); (focus (simp [Act.eval]; done)); (focus (intro j u hj; exact cell_nw wr #[.int .i64 (s + x)] _ j (by simpa using hj))); (focus omega); (focus (exact (NsI.bel (w := w) (p := p) (by first | exact hI.drew.al _ | exact (hI.al _).drew)).size)); intro g9 c9 w9 ho9 hb9 hg9 hat9; have zr := NsI.sbG (w := w) (p := p) (by first | exact hI.drew.al _ | exact (hI.al _).drew) hg9; have q5 : w9.cell? ⟨w.heap.size + 1 + 1, 5, none⟩ = some (.slice (some ⟨g, 0, none⟩) (i + 1) cap) := zr.cell 5 (x := .slice (some ⟨g, 0, none⟩) (i + 1) cap) rfl; have f5 : w9.frozen? ⟨w.heap.size + 1 + 1, 5, none⟩ = false := zr.frozen 5; have HI9 := hid (NsI.line2 (w := w) (p := p) (by first | exact hI.drew.al _ | exact (hI.al _).drew) HX.out hg9 hb9 (by rw [← HSX.out]; exact ho9) hat9)))
            all_goals (go_wp2_with fail; go_meet)
            all_goals exact ⟨_, _, HI9.out⟩
          case rest =>
            obtain ⟨g3, cap3, HI3⟩ := hcut
            clear hI s5 s5a d1 d2 hsum HX HSX
            have s6 : wc.cell? ⟨w.heap.size + 1 + 1, 6, none⟩ = some (.slice av nb nb) := HI3.out.sb.cell 6 (x := .slice av nb nb) rfl
            go_wp2_with fail
            clear s6
            go_loopw [73] (fun kv wq => ∃ (k : Nat) (vs : List Value), k ≤ nb ∧ kv = .int .i64 k ∧ Hid (NsI w p (.slice (some ⟨b1, o1, none⟩) p.lines.length c1) (.slice a2 p.notes.length c2) (.slice a3 p.pens.length c3) (.slice (some ⟨g3, 0, none⟩) (i + 1 + 1) cap3) (.slice av nb nb) (prefL p.lines (i + 1 + 1)) vs (mixM p (i + 1) k nb) wq)) (fun kv _ => nb - (intOf kv).toNat)
            case atStart => exact ⟨0, vs2, Nat.zero_le _, rfl, HI3.out⟩
            case round =>
              obtain ⟨k, vs4, hk, rfl, HI⟩ := hrel
              clear HI3
              by_cases hltk : k < nb
              · have hkk : (k : Int) < (nb : Int) := by omega
                have hk0 : (0 : Int) ≤ (k : Int) := by omega
                obtain ⟨G, rfl, hGlo, hOM⟩ := HI.out.bG (by rw [mixM_len]; omega)
                obtain ⟨v, hv, hvc, hvf, hvo⟩ := hOM.at (i := k) (by rw [mixM_len]; exact hltk)
                have hm : (mixM p (i + 1) k nb)[k]'(by rw [mixM_len]; exact hltk) = prefL (col p k) (i + 1) := by
                  have h := mixM_at p (i + 1) k nb hltk
                  rw [if_neg (by omega)] at h
                  exact (List.getElem?_eq_some_iff.1 h).2
                rw [hm, prefL_len] at hvo
                obtain ⟨gb, capb, rfl, hgbc, hgbl⟩ := own_sl hvo (by omega)
                have e2 := hgbl i (.int .i64 (sumTo (col p k) i)) (by rw [List.getElem?_map, prefL_at (col p k) (by omega)]; rfl)
                have hltn : i < p.notes.length := by rw [HOK.out.nl]; exact hlt
                have hltni : (i : Int) < (p.notes.length : Int) := by omega
                obtain ⟨_, _, he2, _, _, hcell⟩ := (HRD _ HI.out.bel).out.n.open
                cases he2
                obtain ⟨row, b2, o2, u2, hrx, rfl, e3, hu2⟩ := hcell i hltn
                have hrl : row.length = nb := by rw [HOK.out.nr row (List.mem_of_getElem? hrx), HNB.out]
                obtain ⟨a4, c4, rfl, _, _, hcell4⟩ := hu2.open
                rw [hrl] at hcell4 e3
                obtain ⟨y, b4, o4, hy, rfl, e4⟩ := hcell4 k hltk
                have hyb := HOK.out.ns row (List.mem_of_getElem? hrx) y (List.mem_of_getElem? hy)
                have hsb := sumTo_bd (col_bd HOK.out k) i
                have hcx : (col p k)[i]? = some y := by rw [col_at p k hrx, List.getD_eq_getElem?_getD, hy]; rfl
                have HX := hid hcx
                obtain ⟨s, hs⟩ : ∃ s, s = sumTo (col p k) i := ⟨_, rfl⟩
                rw [← hs] at e2 hsb
                have hn4 := HOK.out.n4
                have hsum : Go.IntKind.i64.wrap (s + y) = s + y := IntWalk.i64_in (s + y) (by omega)
                have HSX := hid hs
                have HV := hid hv
                have s6 : wr.cell? ⟨w.heap.size + 1 + 1, 6, none⟩ = some (.slice (some ⟨G, 0, none⟩) nb nb) := HI.out.sb.cell 6 (x := .slice (some ⟨G, 0, none⟩) nb nb) rfl
                have s6a := cell_al s6 (.cells #[.int .i64 (s + y)] 3)
                have p1 : wr.cell? ⟨w.heap.size, 1, none⟩ = some (.slice (some ⟨b2, o2, none⟩) p.notes.length c2) := HI.out.pb.cell 1 (x := .slice (some ⟨b2, o2, none⟩) p.notes.length c2) rfl
                have hI := HI.out
                clear HI hcell hcell4 hu2 hy hrx hcx hs hyb hsb hn4 hv hOM hgbl hm hrl hvf
                go_upto_region 16 with fail
                go_region_law (first
                  | (refine step_ap rfl (.tmp 83) (.tmp 97) 32 rfl w.heap.size 3 Tryd.underlying32 infoIntP rfl (by decide) (by decide) (.slice (some ⟨gb, 0, none⟩) (i + 1) capb) (i + 1) ((prefL (col p k) (i + 1)).map (Value.int .i64)) ?_ ?_ 1 (by decide) [.int .i64 (s + y)] rfl ?_ wr.heap.size ?_ ?_ ?_ ?_ ?_; (focus (simp [Act.eval]; done)); (focus (exact NsI.bk2 (w := w) (p := p) (nb := nb) (by first | exact hI.drew.al _ | exact (hI.al _).drew) hltk HV.out)); (focus (simp [Value.oneCell']; done)); (focus (simp [Act.eval]; done)); (focus (intro j u hj; exact cell_nw wr #[.int .i64 (s + y)] _ j (by simpa using hj))); (focus omega); (focus (exact (NsI.bel (w := w) (p := p) (by first | exact hI.drew.al _ | exact (hI.al _).drew)).size)); intro g9 c9 w9 ho9 hb9 hg9 hat9; have zr := NsI.bkG (w := w) (p := p) (nb := nb) (by first | exact hI.drew.al _ | exact (hI.al _).drew) (mixM_len _ _ _ _) hltk HV.out hg9; have q5 := zr.1; have q6 := zr.2.1; have q7 := zr.2.2; have HI9 := hid (NsI.blk2 (w := w) (p := p) (nb := nb) (by first | exact hI.drew.al _ | exact (hI.al _).drew) hltk HV.out HX.out hg9 hb9 (by rw [← HSX.out]; exact ho9) hat9)))
                all_goals (go_wp2_with fail; go_roundw)
                all_goals (first | (simp [intOf]; omega; done) | exact ⟨k + 1, _, by omega, by go_num, HI9.out⟩)
              · have hkk : ¬ (k : Int) < (nb : Int) := by omega
                obtain rfl : k = nb := by omega
                have HI2 := HI.out
                rw [mixM_all] at HI2
                have HI4 := hid HI2
                clear HI HI2
                go_wp2_with fail
                go_roundw
                case rel => exact ⟨i + 1, _, _, by omega, by go_num, HI4.out⟩
                case measure => simp [intOf]; omega
        · have hki : ¬ (i : Int) < (p.lines.length : Int) := by omega
          obtain rfl : i = p.lines.length := by omega
          clear hi hlt
          go_wp2_with fail
          go_ret
          exact ⟨_, rfl, by omega, HI.out.rd (HRD _ HI.out.bel).out rfl (by rw [HNB.out]; rfl) (by have := HOK.out.nb; omega), HI.out.bel⟩
end Go.Proofs.YtlneimjenjpbnaaDoor
