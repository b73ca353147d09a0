/-
  The reference's Parse. Printed by genrpa.py.
-/
import Derived.Test.YtkjapeafhcdnkaaDoorRPn
import Derived.Test.YtkjapeafhcdnkaaDoorPlR
import Derived.Laws.OwnMore
import Derived.Maps.Range
namespace Go.Proofs.YtkjapeafhcdnkaaDoor
open Go.RowKit

theorem setCell_same {W : World} {g i : Nat} {cs : Array Value} {t : TypeId} {v : Value} (hg : W.heap[g]? = some (.cells cs t (0, 0))) (hc : cs[i]? = some v) : W.setCell ⟨g, i, none⟩ v = W := by
  have hh : (W.setCell ⟨g, i, none⟩ v).heap = W.heap := by
    apply Array.ext_getElem?
    intro k
    by_cases hk : k = g
    · subst hk
      rw [heap_setCell_same W k i cs t v hg, hg]
      congr 2
      apply Array.ext_getElem?
      intro j
      by_cases hj : i = j
      · subst hj
        have hlt := (Array.getElem?_eq_some_iff.1 hc).1
        rw [Array.getElem?_setIfInBounds_self_of_lt hlt, hc]
      · rw [Array.getElem?_setIfInBounds_ne hj]
    · exact heap_setCell_other W ⟨g, i, none⟩ k v hk
  show ({ W with heap := (W.setCell ⟨g, i, none⟩ v).heap } : World) = W
  rw [hh]
theorem own_set_same {W : World} {base g cap n s : Nat} {e : TypeId} {xs : List Value} (h : W.ownsRow base e s (.slice (some ⟨g, 0, none⟩) n cap) n xs) {j : Nat} {u : Value} (hu : xs[j]? = some u) : W.setCell ⟨g, j, none⟩ u = W := by
  rcases h.2 with ⟨h', _⟩ | ⟨g', cap', cur, h', _, hg, _, _, _, ht⟩
  · simp at h'
  · simp only [Value.slice.injEq, Option.some.injEq, Addr.mk.injEq, and_true, true_and] at h'
    obtain ⟨rfl, rfl⟩ := h'
    refine setCell_same hg ?_
    rw [← ht, List.getElem?_take] at hu
    split at hu
    · rw [← Array.getElem?_toList]; exact hu
    · cases hu
theorem grown_set (w : World) (b c : Nat) (v : Value) : w.grownBy (w.setCell ⟨b, c, none⟩ v) (some b) :=
  ⟨rfl, rfl, rfl, by simp, fun k _ hk => heap_setCell_other w ⟨b, c, none⟩ k v (fun e => hk (by simp [e]))⟩
theorem grown_al (W : World) (o : Obj) (row : Option Nat) : W.grownBy (W.alloc o) row :=
  ⟨rfl, rfl, rfl, by simp, fun k hk _ => Below.heap_alloc W o k hk⟩

/-- A page of no boxes, its row of boxes the value h. -/
theorem PgI.addH {W w' : World} {base : Nat} {v v' h : Value} {ps : List Pg} {n : Int} {phs : List (Pg × Value)} (h1 : phs.map (·.1) = ps) (h2 : W.ownsRow base 34 2 v ps.length (pgCs phs)) (h3 : ∀ ph ∈ phs, W.ownsRow base 42 6 ph.2 ph.1.bx.length (boxCs ph.1.bx))
    (h4 : phs.Pairwise fun a b => ∀ g, a.2.ownBlock = some g → b.2.ownBlock ≠ some g) (h0 : W.ownsRow base 42 6 h 0 []) (hap : ∀ ph ∈ phs, ∀ g, ph.2.ownBlock = some g → h.ownBlock ≠ some g)
    (hown : w'.ownsRow base 34 2 v' (ps.length + 1) (pgCs phs ++ [.int .i64 n, h])) (hg : W.grownBy w' v.ownBlock) : PgI w' base v' (ps ++ [⟨n, []⟩]) := by
  refine ⟨⟨phs ++ [(⟨n, []⟩, h)], by simp [h1], ?_, ?_, ?_⟩⟩
  · rw [pgCs_snoc, List.length_append]; exact hown
  · intro ph hp
    rcases List.mem_append.1 hp with hp | hp
    · exact kept_of (h3 ph hp) hg (fun g hgo => own_ne (h3 ph hp) h2 (by decide) hgo)
    · have : ph = (⟨n, []⟩, h) := by simpa using hp
      subst this
      exact kept_of h0 hg (fun g hgo => own_ne h0 h2 (by decide) hgo)
  · rw [List.pairwise_append]
    refine ⟨h4, List.pairwise_singleton _ _, fun a ha b hb g hga => ?_⟩
    have : b = (⟨n, []⟩, h) := by simpa using hb
    subst this
    exact hap a ha g hga
/-- The last page is written back, with one box more: its cells, and what the whole reads as behind that. -/
theorem PgI.put {W w9 : World} {o : Obj} {base gv capv g9 cap9 : Nat} {init : List (Pg × Value)} {p : Pg} {h : Value} {b : Bx}
    (h2 : W.ownsRow base 34 2 (.slice (some ⟨gv, 0, none⟩) (init.length + 1) capv) (init.length + 1) (pgCs (init ++ [(p, h)])))
    (h3 : ∀ ph ∈ init ++ [(p, h)], W.ownsRow base 42 6 ph.2 ph.1.bx.length (boxCs ph.1.bx)) (h4 : (init ++ [(p, h)]).Pairwise fun a b => ∀ g, a.2.ownBlock = some g → b.2.ownBlock ≠ some g)
    (hown : w9.ownsRow base 42 6 (.slice (some ⟨g9, 0, none⟩) (p.bx.length + 1) cap9) (p.bx.length + 1) (boxCs p.bx ++ b.cl)) (hg : (W.alloc o).grownBy w9 h.ownBlock) (hh : h.ownBlock = some g9 ∨ (W.alloc o).heap.size < g9) :
    PgI ((((w9.setCell ⟨W.heap.size, 1, none⟩ (.slice (some ⟨g9, 0, none⟩) (p.bx.length + 1) cap9)).setCell ⟨gv, init.length * 2, none⟩ (.int .i64 p.num)).setCell ⟨gv, init.length * 2 + 1, none⟩ (.slice (some ⟨g9, 0, none⟩) (p.bx.length + 1) cap9))) base (.slice (some ⟨gv, 0, none⟩) (init.length + 1) capv) (init.map (·.1) ++ [⟨p.num, p.bx ++ [b]⟩]) ∧
    (w9.setCell ⟨W.heap.size, 1, none⟩ (.slice (some ⟨g9, 0, none⟩) (p.bx.length + 1) cap9)).ownsRow base 34 2 (.slice (some ⟨gv, 0, none⟩) (init.length + 1) capv) (init.length + 1) (pgCs (init ++ [(p, h)])) := by
  have hlast := h3 (p, h) (by simp)
  have hsz : (W.alloc o).heap.size = W.heap.size + 1 := by simp
  have hne : g9 ≠ W.heap.size := by
    rcases hh with e | e
    · have := (hlast.lt g9 e).2; omega
    · omega
  have hgW : W.grownBy w9 h.ownBlock := (grown_al W o _).trans hg
  have hgS : W.grownBy (w9.setCell ⟨W.heap.size, 1, none⟩ (.slice (some ⟨g9, 0, none⟩) (p.bx.length + 1) cap9)) h.ownBlock :=
    hgW.andThen (grown_set w9 W.heap.size 1 _) (fun j hj => .inl (by cases hj; exact Nat.le_refl _))
  have hownS := kept_of hown (grown_set w9 W.heap.size 1 (.slice (some ⟨g9, 0, none⟩) (p.bx.length + 1) cap9)) (fun g hgo e => by
    have e1 : g9 = g := by simpa [Value.ownBlock] using hgo
    have e2 : W.heap.size = g := by simpa using e
    omega)
  have hv1 := kept_of h2 hgS (fun g hgo => own_ne h2 hlast (by decide) hgo)
  have hat : (pgCs (init ++ [(p, h)]))[init.length * 2]? = some (.int .i64 p.num) := by
    rw [pgCs_snoc, List.getElem?_append_right (by rw [pgCs_len]; omega), pgCs_len, Nat.sub_self]; rfl
  rw [own_set_same hv1 hat]
  refine ⟨(PgI.push h2 h3 h4 hownS hgS (fun g hgo => ?_)).1, hv1⟩
  have e1 : g9 = g := by simpa [Value.ownBlock] using hgo
  rcases hh with e | e
  · exact .inl (by rw [e, e1])
  · exact .inr (by omega)
theorem pgW_list : pgW.toList = [112, 97, 103, 101, 32] := by decide +kernel
theorem RdPg.mt (W : World) (a : Option Addr) : RdPg W (.slice a 0 0) [] := ⟨a, 0, rfl, Nat.le_refl _, Nat.zero_le _, fun i x h => by simp at h⟩
/-- What is told of the reference's Parse. -/
def ParRR (s : ByteArray) (w : World) (e : Ending) (w' : World) : Prop := ∃ v x, e = .returned (.tuple #[v, .int .i64 x]) ∧ ((∃ ps, parR s = some ps ∧ RdPg w' v ps ∧ x = 0) ∨ (parR s = none ∧ RdPg w' v [] ∧ x = 3)) ∧ Below w.heap.size w w'
theorem parRR_no {s : ByteArray} {w w' : World} (a : Option Addr) (h : parR s = none) (hB : Below w.heap.size w w') : ParRR s w (.returned (.tuple #[.slice a 0 0, .int .i64 3])) w' := ⟨_, _, rfl, .inr ⟨h, RdPg.mt w' a, rfl⟩, hB⟩

set_option maxRecDepth 100000 in
set_option maxHeartbeats 4000000 in
theorem rparse_any (s : ByteArray) (w : World) (hs : s.size ≤ 300) : Calls Tryd.prog 23 #[.string s] w fun e w' => ParRR s w e w' := by
  have hsi : ¬ (1048576 : Int) < (s.size : Int) := by omega
  have HP0 : Hid (PgI (w.alloc (.cells #[] 34)) w.heap.size (.slice (some ⟨w.heap.size, 0, none⟩) 0 0) []) := ⟨⟨[], rfl, World.ownsRow_made w #[] 0 (Nat.le_refl _) (Nat.zero_le _) rfl, by simp, .nil⟩⟩
  have HB1 := hid (below_al w (.cells #[] 34))
  go_enter Tryd.func23, Tryd.ntmps23
  go_wp2_with fail
  generalize w.alloc (.cells #[] 34) = w1 at *
  go_loopw [4, 5] (fun ov i wr => ∃ (k : Nat) (ps : List Pg) (av : Option Addr) (cv : Nat), k ≤ s.size ∧ i = .int .i64 k ∧ ov = .slice av ps.length cv ∧ Hid (PgI wr w.heap.size (.slice av ps.length cv) ps) ∧ Hid (wtP ps ≤ 64 * k) ∧ Hid (∀ qs, parR s = some qs → Todo qs ps (s.data.toList.drop k)) ∧ Hid (Below w.heap.size w wr)) (fun _ i _ => s.size - (intOf i).toNat)
  case atStart => exact ⟨0, [], _, _, Nat.zero_le _, rfl, rfl, HP0.out, Nat.le_refl _, fun qs h => todo_start h, HB1.out⟩
  case round =>
    obtain ⟨k, ps, av, cv, hk, rfl, rfl, HPG, HWT, HTD, HB⟩ := hrel
    clear HP0 HB1
    by_cases hlt : k < s.size
    · have hki : (k : Int) < (s.size : Int) := by omega
      go_wp2_with fail
      go_loop [6] (fun q => ∃ e : Nat, k ≤ e ∧ e ≤ s.size ∧ q = .int .i64 e ∧ Hid ((10 : UInt8) ∉ (s.data.toList.drop k).take (e - k))) (fun q => s.size - (intOf q).toNat)
      case atStart => exact ⟨k, Nat.le_refl _, hk, rfl, by simp [Hid]⟩
      case round =>
        obtain ⟨e, hke, hes, rfl, HN⟩ := hrel
        by_cases hel : e < s.size
        · have hei : (e : Int) < (s.size : Int) := by omega
          by_cases h10 : s[e] = 10
          · have h10i : ((s[e].toNat : Int) != 10) = false := by rw [h10]; rfl
            have hene : ((e : Int) == (s.size : Int)) = false := beq_eq_false_iff_ne.2 (by omega)
            have hk0 : (0 : Int) ≤ (k : Int) := by omega
            have hke2 : (k : Int) ≤ (e : Int) := by omega
            have he0 : (0 : Int) ≤ (e : Int) := by omega
            have hei2 : (e : Int) ≤ (s.size : Int) := by omega
            have HRD : Hid (∀ qs, parR s = some qs → (∃ n, 1 ≤ n ∧ n ≤ 1024 ∧ s.extract k e = pgW ++ itoaB n ∧ Todo qs (ps ++ [⟨n, []⟩]) (s.data.toList.drop (e + 1))) ∨
                (∃ b, boxI b = 0 ∧ ps ≠ [] ∧ boxL b = (s.extract k e).data.toList ++ [10] ∧ Todo qs (putBx ps b) (s.data.toList.drop (e + 1)))) := fun qs h => todo_read (HTD.out qs h) hke hel HN.out (by rw [rnum_byte s e hel, h10])
            have HLS : Hid ((s.extract k e).size = e - k) := by
              show _ = _
              rw [ByteArray.size_extract]; omega
            have HBL := fun w' => hid (rbox_any (s.extract k e) w' (by rw [HLS.out]; omega))
            have HLD := hid (ext_list s k e)
            clear HN HTD h10
            by_cases h5 : 5 < e - k
            · have h5i : (5 : Int) < ((e - k : Nat) : Int) := by omega
              have h5j : (5 : Int) ≤ ((e - k : Nat) : Int) := by omega
              have hnu := fun w' => hid (rnum_any ((s.extract k e).extract 5 (e - k)) w' (by rw [ByteArray.size_extract]; omega))
              have hb : (((s.extract k e).extract 0 5).toList == [112, 97, 103, 101, 32]) = decide ((s.extract k e).extract 0 5 = pgW) := by
                rw [← ba_beq, pgW_list]
              by_cases hp : (s.extract k e).extract 0 5 = pgW
              · rw [decide_eq_true hp] at hb
                have HT2 : Hid (∀ qs, parR s = some qs → Todo qs (ps ++ [⟨numR ((s.extract k e).extract 5 (e - k)), []⟩]) (s.data.toList.drop (e + 1))) := fun qs h => by
                  rcases HRD.out qs h with ⟨n, n1, n2, e1, e2⟩ | ⟨b, hb, _, e1, _⟩
                  · rw [← HLS.out, e1, (page_line (by omega)).2.2, numR_itoa (by omega) (by omega)]; exact e2
                  · exact absurd hp (box_line hb e1)
                have HW2 : Hid (wtP (ps ++ [⟨numR ((s.extract k e).extract 5 (e - k)), []⟩]) ≤ 64 * (e + 1)) := by
                  have h1 := wtP_page ps (numR ((s.extract k e).extract 5 (e - k)))
                  have h2 := HWT.out
                  show _ ≤ _
                  omega
                have hpl : ps.length ≤ 20000 := by have := wtP_len ps; have := HWT.out; omega
                clear HRD HBL HLD hp HWT
                generalize numR ((s.extract k e).extract 5 (e - k)) = nn at *
                obtain ⟨phs, h1, h2, h3, h4⟩ := HPG.out.ex
                have hbe := HB.out.size
                have HBA := hid (below_tr HB.out (below_al wr (.cells #[] 42)))
                have HH2 := hid (own_below h2 (below_al wr (.cells #[] 42)))
                have HADD := fun w' v' (a : World.ownsRow w' w.heap.size 34 2 v' (ps.length + 1) (pgCs phs ++ [.int .i64 nn, .slice (some ⟨wr.heap.size, 0, none⟩) 0 0])) b => hid (PgI.addH (W := wr.alloc (.cells #[] 42)) (w' := w') (v' := v') (n := nn) h1 HH2.out (fun ph hp => own_below (h3 ph hp) (below_al wr (.cells #[] 42))) h4
                  (World.ownsRow_made wr #[] 0 hbe (Nat.zero_le _) rfl) (fun ph hp g hg e => absurd ((h3 ph hp).lt g hg).2 (by
                    have : wr.heap.size = g := by simpa [Value.ownBlock] using e
                    omega)) a b)
                have hsz := HBA.out.size
                clear h1 h2 h3 h4
                go_wp2_with fail
                refine (hnu _).out.mono ?_
                rintro e2 w3 ⟨rfl, rfl⟩
                clear hnu HPG
                go_wp2_with (at_builtin; refine wpList_ap2 rfl _ _ 22 rfl w.heap.size 34 Tryd.underlying22 infoPg rfl (by decide) (by decide) _ _ _ rfl HH2.out [.int .i64 nn, .slice (some ⟨wr.heap.size, 0, none⟩) 0 0] rfl (by simp [Value.oneCell']) rfl (by simp) (by omega) hsz ?_; intro g9 cap9 w9 hown9 hb9 hg9 hat9 hlt9)
                go_roundw
                case rel => exact ⟨e + 1, ps ++ [(⟨nn, []⟩ : Pg)], some ⟨g9, 0, none⟩, cap9, by omega, by go_num, by rw [List.length_append]; rfl, by rw [List.length_append]; exact (HADD _ _ hown9 hg9).out, HW2.out, HT2.out, HBA.out.trans hb9⟩
                case measure => simp [intOf]; omega
              · rw [decide_eq_false hp] at hb
                have HNP : Hid (∀ n : Int, 0 ≤ n → s.extract k e ≠ pgW ++ itoaB n) := fun n hn h => hp (by rw [h]; exact (page_line hn).2.1)
                clear hp hnu
                go_wp2_with fail
                refine (HBL _).out.mono ?_
                rintro e2 w2 ⟨⟨b, ok, rfl, hbs, hbq⟩, hB2⟩
                have HQ9 : Hid (∀ qs, parR s = some qs → ps ≠ [] ∧ ok = true ∧ Todo qs (putBx ps b) (s.data.toList.drop (e + 1))) := fun qs h => by
                  rcases HRD.out qs h with ⟨n, n1, n2, e1, _⟩ | ⟨b', hb', hp', e1, e2⟩
                  · exact absurd e1 (HNP.out n (by omega))
                  · obtain ⟨rfl, hok⟩ := hbq b' hb' e1
                    exact ⟨hp', hok, e2⟩
                have HPG2 := hid (HPG.out.below hB2)
                have HB2 := hid (below_tr HB.out hB2)
                have htx : b.text.size ≤ e - k := by rw [HLS.out] at hbs; omega
                clear HRD HNP HBL HLD hbq hB2 HPG HB hbs
                cases ok with
                | false =>
                  have HR : Hid (parR s = none) := by
                    cases h : parR s with
                    | none => rfl
                    | some qs => exact absurd (HQ9.out qs h).2.1 (by simp)
                  have hB9 := below_tr (below_tr HB2.out (below_al w2 (.cells #[.int .i64 b.kind, .int .i64 b.x, .int .i64 b.y, .int .i64 b.wd, .int .i64 b.blk, .string b.text] 42))) (below_al _ (.cells #[] 34))
                  go_wp2_with fail
                  go_ret2
                  exact parRR_no _ HR.out hB9
                | true =>
                  by_cases hps : ps = []
                  · have HR : Hid (parR s = none) := by
                      cases h : parR s with
                      | none => rfl
                      | some qs => exact absurd hps (HQ9.out qs h).1
                    have hB9 := below_tr (below_tr HB2.out (below_al w2 (.cells #[.int .i64 b.kind, .int .i64 b.x, .int .i64 b.y, .int .i64 b.wd, .int .i64 b.blk, .string b.text] 42))) (below_al _ (.cells #[] 34))
                    have hpl0 : ((ps.length : Int) == 0) = true := by rw [hps]; rfl
                    clear hps HQ9 HPG2
                    go_wp2_with fail
                    go_ret2
                    exact parRR_no _ HR.out hB9
                  · have HQ10 : Hid (∀ qs, parR s = some qs → Todo qs (putBx ps b) (s.data.toList.drop (e + 1))) := fun qs h => (HQ9.out qs h).2.2
                    have HW2 : Hid (wtP (putBx ps b) ≤ 64 * (e + 1)) := by
                      have h1 := wtP_put hps b
                      have h2 := HWT.out
                      show _ ≤ _
                      omega
                    have HBN : Hid (∀ p ∈ ps, p.bx.length ≤ 20000) := fun p hp => by
                      have h1 := wtP_mem ps p hp
                      have h2 := wtB_len p.bx
                      have h3 := HWT.out
                      omega
                    have hpl : ps.length ≤ 20000 := by have := wtP_len ps; have := HWT.out; omega
                    obtain ⟨phs, g1, g2, g3, g4⟩ := (HPG2.out.below (below_al w2 (.cells #[.int .i64 b.kind, .int .i64 b.x, .int .i64 b.y, .int .i64 b.wd, .int .i64 b.blk, .string b.text] 42))).ex
                    have HRB := hid (row_nw w2 #[.int .i64 b.kind, .int .i64 b.x, .int .i64 b.y, .int .i64 b.wd, .int .i64 b.blk, .string b.text] 42 rfl)
                    have HB3 := hid (below_tr HB2.out (below_al w2 (.cells #[.int .i64 b.kind, .int .i64 b.x, .int .i64 b.y, .int .i64 b.wd, .int .i64 b.blk, .string b.text] 42)))
                    obtain ⟨ini, p, h, rfl, hip⟩ : ∃ (ini : List (Pg × Value)) (p : Pg) (h : Value), phs = ini ++ [(p, h)] ∧ ps = ini.map (·.1) ++ [p] := by
                      rcases List.eq_nil_or_concat phs with e | ⟨x, y, e⟩
                      · rw [e] at g1; exact absurd g1.symm hps
                      · rw [List.concat_eq_append] at e
                        exact ⟨x, y.1, y.2, e, by rw [← g1, e]; simp⟩
                    have hn : ps.length = ini.length + 1 := by rw [hip]; simp
                    have HIP : Hid (putBx ps b = ini.map (·.1) ++ [⟨p.num, p.bx ++ [b]⟩]) := by show _ = _; rw [hip, putBx_at]
                    have HPL : Hid ((putBx ps b).length = ps.length) := by show _ = _; rw [HIP.out, hip]; simp
                    have hpb := HBN.out p (by rw [hip]; simp)
                    have hpne : ((ps.length : Int) == 0) = false := beq_eq_false_iff_ne.2 (by omega)
                    obtain ⟨gv, capv, hge⟩ := Go.Proofs.YtkjapeafhcdnkaaDoor.form_of g2 (by omega)
                    cases hge
                    have hrow := g3 (p, h) (by simp)
                    obtain ⟨ah, ch, rfl⟩ : ∃ ah ch, h = .slice ah p.bx.length ch := by
                      obtain ⟨ah, ch, e, _⟩ := own_form hrow
                      exact ⟨ah, ch, e⟩
                    have hw0 : IntKind.i64.wrap ((ps.length : Int) - 1) = (ini.length : Int) := by rw [show (ps.length : Int) - 1 = ini.length by omega]; exact IntWalk.i64_in _ (by omega)
                    have hw1 : (ini.length : Int) < (ps.length : Int) := by omega
                    have hw2 : (0 : Int) ≤ (ini.length : Int) := by omega
                    clear hip g1 HQ9 HPG2 HWT HBN HB2 hps
                    have HNO := hid (ne_own hrow)
                    have HGV := hid (g2.lt gv rfl)
                    have HH2 := hid g2
                    have HH3 := hid g3
                    have HH4 := hid g4
                    have HRO := hid hrow
                    clear g2 g3 g4 hrow
                    go_upto_region 18 with fail
                    generalize w2.alloc (.cells #[.int .i64 b.kind, .int .i64 b.x, .int .i64 b.y, .int .i64 b.wd, .int .i64 b.blk, .string b.text] 42) = w3 at *
                    have c0 : w3.cell? ⟨gv, ini.length * 2, none⟩ = some (.int .i64 p.num) := (World.ownsRow.cellAt HH2.out (ini.length * 2) (by omega)).trans (by rw [pgCs_snoc, List.getElem?_append_right (by rw [pgCs_len]; omega), pgCs_len, Nat.sub_self]; rfl)
                    have c1 : w3.cell? ⟨gv, ini.length * 2 + 1, none⟩ = some (.slice ah p.bx.length ch) := (World.ownsRow.cellAt HH2.out (ini.length * 2 + 1) (by omega)).trans (by rw [pgCs_snoc, List.getElem?_append_right (by rw [pgCs_len]; omega), pgCs_len, show ini.length * 2 + 1 - ini.length * 2 = 1 by omega]; rfl)
                    have HRP := hid (row_nw w3 #[.int .i64 p.num, .slice ah p.bx.length ch] 34 rfl)
                    have HRB4 := hid (HRB.out.al (.cells #[.int .i64 p.num, .slice ah p.bx.length ch] 34))
                    have HB4 := hid (below_tr HB3.out (below_al w3 (.cells #[.int .i64 p.num, .slice ah p.bx.length ch] 34)))
                    have HRO4 := hid (own_below HRO.out (below_al w3 (.cells #[.int .i64 p.num, .slice ah p.bx.length ch] 34)))
                    have HPUT := fun (w9 : World) (g9 cap9 : Nat) a1 a2 a3 => hid (PgI.put (W := w3) (w9 := w9) (o := .cells #[.int .i64 p.num, .slice ah p.bx.length ch] 34) (g9 := g9) (cap9 := cap9) (b := b) (hn.symm ▸ HH2.out) HH3.out HH4.out a1 a2 a3)
                    have hq0 := HRP.out.cell 0 rfl
                    have hq1 := HRP.out.cell 1 rfl
                    have hqf0 := HRP.out.frozen 0
                    have hqf1 := HRP.out.frozen 1
                    have d0 := HRB4.out.cell 0 rfl
                    have d1 := HRB4.out.cell 1 rfl
                    have d2 := HRB4.out.cell 2 rfl
                    have d3 := HRB4.out.cell 3 rfl
                    have d4 := HRB4.out.cell 4 rfl
                    have d5 := HRB4.out.cell 5 rfl
                    have hsz4 := HB4.out.size
                    have hgvlt := HGV.out.2
                    have hbz3 : w.heap.size ≤ w3.heap.size := HB3.out.size
                    have hgne : (gv = w3.heap.size) = False := eq_false (by omega)
                    have HNE : Hid (∀ g, (Value.slice (some ⟨gv, 0, none⟩) ps.length cv).ownBlock = some g → (Value.slice ah p.bx.length ch).ownBlock ≠ some g) := fun g hgo => own_ne HH2.out HRO.out (by decide) hgo
                    have HA0 : Hid ((pgCs (ini ++ [(p, .slice ah p.bx.length ch)]))[ini.length * 2]? = some (.int .i64 p.num)) := by
                      show _ = _
                      rw [pgCs_snoc, List.getElem?_append_right (by rw [pgCs_len]; omega), pgCs_len, Nat.sub_self]; rfl
                    have HA1 : Hid ((pgCs (ini ++ [(p, .slice ah p.bx.length ch)]))[ini.length * 2 + 1]? = some (.slice ah p.bx.length ch)) := by
                      show _ = _
                      rw [pgCs_snoc, List.getElem?_append_right (by rw [pgCs_len]; omega), pgCs_len, show ini.length * 2 + 1 - ini.length * 2 = 1 by omega]; rfl
                    go_wp2_with (at_builtin; refine wpList_ap2 rfl _ _ 32 rfl w.heap.size 42 Tryd.underlying32 infoBx rfl (by decide) (by decide) _ p.bx.length _ rfl HRO4.out [.int .i64 b.kind, .int .i64 b.x, .int .i64 b.y, .int .i64 b.wd, .int .i64 b.blk, .string b.text] rfl (by simp [Value.oneCell']) rfl (by simp) (by omega) hsz4 ?_; intro g9 cap9 w9 hown9 hb9 hg9 hat9 hlt9; have hPU := HPUT w9 g9 cap9 hown9 hg9 hat9; have hv9 := kept_of (own_below HH2.out (below_al w3 (.cells #[.int .i64 p.num, .slice ah p.bx.length ch] 34))) hg9 (fun g hgo => HNE.out g hgo); have k0 := (hg9.cell_far ⟨w3.heap.size, 0, none⟩ (by simp) HNO.out).trans hq0; have k1 := (hg9.cell_far ⟨w3.heap.size, 1, none⟩ (by simp) HNO.out).trans hq1; have kf := (hg9.frozen_far ⟨w3.heap.size, 1, none⟩ (by simp) HNO.out).trans hqf1; have e0 := (World.ownsRow.cellAt hv9 (ini.length * 2) (by omega)).trans HA0.out; have e1 := (World.ownsRow.cellAt hv9 (ini.length * 2 + 1) (by omega)).trans HA1.out; have f0 := World.ownsRow.frozenAt hv9 (ini.length * 2); have f1 := World.ownsRow.frozenAt hv9 (ini.length * 2 + 1); have HO9 := hid hown9; have HB9 := hid hb9; clear hown9 hb9 hg9 hat9 hv9)
                    have HBQ := hid ((((HB4.out.trans HB9.out).setCell (p := ⟨w3.heap.size, 1, none⟩) hbz3 (.slice (some ⟨g9, 0, none⟩) (p.bx.length + 1) cap9)).setCell (p := ⟨gv, ini.length * 2, none⟩) HGV.out.1 (.int .i64 p.num)).setCell (p := ⟨gv, ini.length * 2 + 1, none⟩) HGV.out.1 (.slice (some ⟨g9, 0, none⟩) (p.bx.length + 1) cap9))
                    go_roundw
                    case rel => exact ⟨e + 1, putBx ps b, some ⟨gv, 0, none⟩, cv, by omega, by go_num, by rw [HPL.out, hn], by rw [HPL.out, HIP.out, hn]; exact hPU.out.1, HW2.out, HQ10.out, HBQ.out⟩
                    case measure => simp [intOf]; omega
            · have h5i : ¬ (5 : Int) < ((e - k : Nat) : Int) := by omega
              have HNP : Hid (∀ n : Int, 0 ≤ n → s.extract k e ≠ pgW ++ itoaB n) := fun n hn h => h5 (by rw [← HLS.out, h]; exact (page_line hn).1)
              go_wp2_with fail
              refine (HBL _).out.mono ?_
              rintro e2 w2 ⟨⟨b, ok, rfl, hbs, hbq⟩, hB2⟩
              have HQ9 : Hid (∀ qs, parR s = some qs → ps ≠ [] ∧ ok = true ∧ Todo qs (putBx ps b) (s.data.toList.drop (e + 1))) := fun qs h => by
                rcases HRD.out qs h with ⟨n, n1, n2, e1, _⟩ | ⟨b', hb', hp', e1, e2⟩
                · exact absurd e1 (HNP.out n (by omega))
                · obtain ⟨rfl, hok⟩ := hbq b' hb' e1
                  exact ⟨hp', hok, e2⟩
              have HPG2 := hid (HPG.out.below hB2)
              have HB2 := hid (below_tr HB.out hB2)
              have htx : b.text.size ≤ e - k := by rw [HLS.out] at hbs; omega
              clear HRD HNP HBL HLD hbq hB2 HPG HB hbs
              cases ok with
              | false =>
                have HR : Hid (parR s = none) := by
                  cases h : parR s with
                  | none => rfl
                  | some qs => exact absurd (HQ9.out qs h).2.1 (by simp)
                have hB9 := below_tr (below_tr HB2.out (below_al w2 (.cells #[.int .i64 b.kind, .int .i64 b.x, .int .i64 b.y, .int .i64 b.wd, .int .i64 b.blk, .string b.text] 42))) (below_al _ (.cells #[] 34))
                go_wp2_with fail
                go_ret2
                exact parRR_no _ HR.out hB9
              | true =>
                by_cases hps : ps = []
                · have HR : Hid (parR s = none) := by
                    cases h : parR s with
                    | none => rfl
                    | some qs => exact absurd hps (HQ9.out qs h).1
                  have hB9 := below_tr (below_tr HB2.out (below_al w2 (.cells #[.int .i64 b.kind, .int .i64 b.x, .int .i64 b.y, .int .i64 b.wd, .int .i64 b.blk, .string b.text] 42))) (below_al _ (.cells #[] 34))
                  have hpl0 : ((ps.length : Int) == 0) = true := by rw [hps]; rfl
                  clear hps HQ9 HPG2
                  go_wp2_with fail
                  go_ret2
                  exact parRR_no _ HR.out hB9
                · have HQ10 : Hid (∀ qs, parR s = some qs → Todo qs (putBx ps b) (s.data.toList.drop (e + 1))) := fun qs h => (HQ9.out qs h).2.2
                  have HW2 : Hid (wtP (putBx ps b) ≤ 64 * (e + 1)) := by
                    have h1 := wtP_put hps b
                    have h2 := HWT.out
                    show _ ≤ _
                    omega
                  have HBN : Hid (∀ p ∈ ps, p.bx.length ≤ 20000) := fun p hp => by
                    have h1 := wtP_mem ps p hp
                    have h2 := wtB_len p.bx
                    have h3 := HWT.out
                    omega
                  have hpl : ps.length ≤ 20000 := by have := wtP_len ps; have := HWT.out; omega
                  obtain ⟨phs, g1, g2, g3, g4⟩ := (HPG2.out.below (below_al w2 (.cells #[.int .i64 b.kind, .int .i64 b.x, .int .i64 b.y, .int .i64 b.wd, .int .i64 b.blk, .string b.text] 42))).ex
                  have HRB := hid (row_nw w2 #[.int .i64 b.kind, .int .i64 b.x, .int .i64 b.y, .int .i64 b.wd, .int .i64 b.blk, .string b.text] 42 rfl)
                  have HB3 := hid (below_tr HB2.out (below_al w2 (.cells #[.int .i64 b.kind, .int .i64 b.x, .int .i64 b.y, .int .i64 b.wd, .int .i64 b.blk, .string b.text] 42)))
                  obtain ⟨ini, p, h, rfl, hip⟩ : ∃ (ini : List (Pg × Value)) (p : Pg) (h : Value), phs = ini ++ [(p, h)] ∧ ps = ini.map (·.1) ++ [p] := by
                    rcases List.eq_nil_or_concat phs with e | ⟨x, y, e⟩
                    · rw [e] at g1; exact absurd g1.symm hps
                    · rw [List.concat_eq_append] at e
                      exact ⟨x, y.1, y.2, e, by rw [← g1, e]; simp⟩
                  have hn : ps.length = ini.length + 1 := by rw [hip]; simp
                  have HIP : Hid (putBx ps b = ini.map (·.1) ++ [⟨p.num, p.bx ++ [b]⟩]) := by show _ = _; rw [hip, putBx_at]
                  have HPL : Hid ((putBx ps b).length = ps.length) := by show _ = _; rw [HIP.out, hip]; simp
                  have hpb := HBN.out p (by rw [hip]; simp)
                  have hpne : ((ps.length : Int) == 0) = false := beq_eq_false_iff_ne.2 (by omega)
                  obtain ⟨gv, capv, hge⟩ := Go.Proofs.YtkjapeafhcdnkaaDoor.form_of g2 (by omega)
                  cases hge
                  have hrow := g3 (p, h) (by simp)
                  obtain ⟨ah, ch, rfl⟩ : ∃ ah ch, h = .slice ah p.bx.length ch := by
                    obtain ⟨ah, ch, e, _⟩ := own_form hrow
                    exact ⟨ah, ch, e⟩
                  have hw0 : IntKind.i64.wrap ((ps.length : Int) - 1) = (ini.length : Int) := by rw [show (ps.length : Int) - 1 = ini.length by omega]; exact IntWalk.i64_in _ (by omega)
                  have hw1 : (ini.length : Int) < (ps.length : Int) := by omega
                  have hw2 : (0 : Int) ≤ (ini.length : Int) := by omega
                  clear hip g1 HQ9 HPG2 HWT HBN HB2 hps
                  have HNO := hid (ne_own hrow)
                  have HGV := hid (g2.lt gv rfl)
                  have HH2 := hid g2
                  have HH3 := hid g3
                  have HH4 := hid g4
                  have HRO := hid hrow
                  clear g2 g3 g4 hrow
                  go_upto_region 18 with fail
                  generalize w2.alloc (.cells #[.int .i64 b.kind, .int .i64 b.x, .int .i64 b.y, .int .i64 b.wd, .int .i64 b.blk, .string b.text] 42) = w3 at *
                  have c0 : w3.cell? ⟨gv, ini.length * 2, none⟩ = some (.int .i64 p.num) := (World.ownsRow.cellAt HH2.out (ini.length * 2) (by omega)).trans (by rw [pgCs_snoc, List.getElem?_append_right (by rw [pgCs_len]; omega), pgCs_len, Nat.sub_self]; rfl)
                  have c1 : w3.cell? ⟨gv, ini.length * 2 + 1, none⟩ = some (.slice ah p.bx.length ch) := (World.ownsRow.cellAt HH2.out (ini.length * 2 + 1) (by omega)).trans (by rw [pgCs_snoc, List.getElem?_append_right (by rw [pgCs_len]; omega), pgCs_len, show ini.length * 2 + 1 - ini.length * 2 = 1 by omega]; rfl)
                  have HRP := hid (row_nw w3 #[.int .i64 p.num, .slice ah p.bx.length ch] 34 rfl)
                  have HRB4 := hid (HRB.out.al (.cells #[.int .i64 p.num, .slice ah p.bx.length ch] 34))
                  have HB4 := hid (below_tr HB3.out (below_al w3 (.cells #[.int .i64 p.num, .slice ah p.bx.length ch] 34)))
                  have HRO4 := hid (own_below HRO.out (below_al w3 (.cells #[.int .i64 p.num, .slice ah p.bx.length ch] 34)))
                  have HPUT := fun (w9 : World) (g9 cap9 : Nat) a1 a2 a3 => hid (PgI.put (W := w3) (w9 := w9) (o := .cells #[.int .i64 p.num, .slice ah p.bx.length ch] 34) (g9 := g9) (cap9 := cap9) (b := b) (hn.symm ▸ HH2.out) HH3.out HH4.out a1 a2 a3)
                  have hq0 := HRP.out.cell 0 rfl
                  have hq1 := HRP.out.cell 1 rfl
                  have hqf0 := HRP.out.frozen 0
                  have hqf1 := HRP.out.frozen 1
                  have d0 := HRB4.out.cell 0 rfl
                  have d1 := HRB4.out.cell 1 rfl
                  have d2 := HRB4.out.cell 2 rfl
                  have d3 := HRB4.out.cell 3 rfl
                  have d4 := HRB4.out.cell 4 rfl
                  have d5 := HRB4.out.cell 5 rfl
                  have hsz4 := HB4.out.size
                  have hgvlt := HGV.out.2
                  have hbz3 : w.heap.size ≤ w3.heap.size := HB3.out.size
                  have hgne : (gv = w3.heap.size) = False := eq_false (by omega)
                  have HNE : Hid (∀ g, (Value.slice (some ⟨gv, 0, none⟩) ps.length cv).ownBlock = some g → (Value.slice ah p.bx.length ch).ownBlock ≠ some g) := fun g hgo => own_ne HH2.out HRO.out (by decide) hgo
                  have HA0 : Hid ((pgCs (ini ++ [(p, .slice ah p.bx.length ch)]))[ini.length * 2]? = some (.int .i64 p.num)) := by
                    show _ = _
                    rw [pgCs_snoc, List.getElem?_append_right (by rw [pgCs_len]; omega), pgCs_len, Nat.sub_self]; rfl
                  have HA1 : Hid ((pgCs (ini ++ [(p, .slice ah p.bx.length ch)]))[ini.length * 2 + 1]? = some (.slice ah p.bx.length ch)) := by
                    show _ = _
                    rw [pgCs_snoc, List.getElem?_append_right (by rw [pgCs_len]; omega), pgCs_len, show ini.length * 2 + 1 - ini.length * 2 = 1 by omega]; rfl
                  go_wp2_with (at_builtin; refine wpList_ap2 rfl _ _ 32 rfl w.heap.size 42 Tryd.underlying32 infoBx rfl (by decide) (by decide) _ p.bx.length _ rfl HRO4.out [.int .i64 b.kind, .int .i64 b.x, .int .i64 b.y, .int .i64 b.wd, .int .i64 b.blk, .string b.text] rfl (by simp [Value.oneCell']) rfl (by simp) (by omega) hsz4 ?_; intro g9 cap9 w9 hown9 hb9 hg9 hat9 hlt9; have hPU := HPUT w9 g9 cap9 hown9 hg9 hat9; have hv9 := kept_of (own_below HH2.out (below_al w3 (.cells #[.int .i64 p.num, .slice ah p.bx.length ch] 34))) hg9 (fun g hgo => HNE.out g hgo); have k0 := (hg9.cell_far ⟨w3.heap.size, 0, none⟩ (by simp) HNO.out).trans hq0; have k1 := (hg9.cell_far ⟨w3.heap.size, 1, none⟩ (by simp) HNO.out).trans hq1; have kf := (hg9.frozen_far ⟨w3.heap.size, 1, none⟩ (by simp) HNO.out).trans hqf1; have e0 := (World.ownsRow.cellAt hv9 (ini.length * 2) (by omega)).trans HA0.out; have e1 := (World.ownsRow.cellAt hv9 (ini.length * 2 + 1) (by omega)).trans HA1.out; have f0 := World.ownsRow.frozenAt hv9 (ini.length * 2); have f1 := World.ownsRow.frozenAt hv9 (ini.length * 2 + 1); have HO9 := hid hown9; have HB9 := hid hb9; clear hown9 hb9 hg9 hat9 hv9)
                  have HBQ := hid ((((HB4.out.trans HB9.out).setCell (p := ⟨w3.heap.size, 1, none⟩) hbz3 (.slice (some ⟨g9, 0, none⟩) (p.bx.length + 1) cap9)).setCell (p := ⟨gv, ini.length * 2, none⟩) HGV.out.1 (.int .i64 p.num)).setCell (p := ⟨gv, ini.length * 2 + 1, none⟩) HGV.out.1 (.slice (some ⟨g9, 0, none⟩) (p.bx.length + 1) cap9))
                  go_roundw
                  case rel => exact ⟨e + 1, putBx ps b, some ⟨gv, 0, none⟩, cv, by omega, by go_num, by rw [HPL.out, hn], by rw [HPL.out, HIP.out, hn]; exact hPU.out.1, HW2.out, HQ10.out, HBQ.out⟩
                  case measure => simp [intOf]; omega
          · have h10i : ((s[e].toNat : Int) != 10) = true := by
              simp only [bne_iff_ne, ne_eq]
              exact fun e => h10 (UInt8.toNat_inj.1 (by have : (10 : UInt8).toNat = 10 := rfl; omega))
            have HN2 : Hid ((10 : UInt8) ∉ (s.data.toList.drop k).take (e + 1 - k)) := by
              show _ ∉ _
              rw [show e + 1 - k = (e - k) + 1 by omega, List.take_add_one, List.getElem?_drop, show k + (e - k) = e by omega, rnum_byte s e hel, List.mem_append, not_or]
              exact ⟨HN.out, by simpa using fun x => h10 x.symm⟩
            clear h10 HN
            go_wp2
            go_round
            case rel => exact ⟨e + 1, by omega, by omega, by go_num, HN2.out⟩
            case measure => simp [intOf]; omega
        · have hei : ¬ (e : Int) < (s.size : Int) := by omega
          have hene : ((e : Int) == (s.size : Int)) = true := beq_iff_eq.2 (by omega)
          have HR : Hid (parR s = none) := by
            cases h : parR s with
            | none => rfl
            | some qs =>
              have hl : (s.data.toList.drop k).length = s.size - k := by rw [List.length_drop, data_size]
              have hne : s.data.toList.drop k ≠ [] := fun e => by rw [e] at hl; simp at hl; omega
              have hn := HN.out
              rw [List.take_of_length_le (by omega)] at hn
              exact absurd (todo_nl (HTD.out qs h) hne) hn
          have hB9 := below_tr HB.out (below_al wr (.cells #[] 34))
          go_wp2
          go_ret2
          exact parRR_no _ HR.out hB9
    · have hki : ¬ (k : Int) < (s.size : Int) := by omega
      have hkn : k = s.size := by omega
      have HWS := hid (wt_sz (l := ps) (by have := HWT.out; omega))
      have hpl : ps.length ≤ 1000 := by have := wtP_len ps; have := HWT.out; omega
      have HTE : Hid (∀ qs, parR s = some qs → ps = qs) := fun qs h => by
        have h1 := HTD.out qs h
        rw [List.drop_of_length_le (by rw [data_size]; omega)] at h1
        exact todo_end h1
      have HPN := hid (rPrint_any _ ps wr HPG.out.rd HWS.out (fun h => by have := wt_print h; have := HWT.out; omega))
      have hpv : prrV ps = pprV ps := if_neg (by omega)
      rw [hpv] at HPN
      unfold pprV at HPN
      clear hpv HTD HWT HWS
      by_cases hf : firstP ps = 0
      · rw [if_pos hf] at HPN
        have hb := ba_beq (⟨(printL ps).toArray⟩ : ByteArray) s
        have HT : Hid ((⟨(printL ps).toArray⟩ : ByteArray) = s → parR s = some ps) := fun h => by rw [← h]; exact par_print hf (by omega)
        have HT2 : Hid (∀ qs, parR s = some qs → (⟨(printL ps).toArray⟩ : ByteArray) = s) := fun qs h => by
          rw [HTE.out qs h]; exact (par_back h).1
        generalize (⟨(printL ps).toArray⟩ : ByteArray) = T at *
        by_cases hT : T = s
        · rw [decide_eq_true hT] at hb
          have HR := hid (HT.out hT)
          clear hT hf
          go_wp2_with fail
          refine HPN.out.mono ?_
          rintro e w3 ⟨rfl, hB3⟩
          go_wp2
          go_ret2
          exact ⟨_, _, rfl, .inl ⟨ps, HR.out, (HPG.out.below hB3).rd, rfl⟩, below_tr HB.out hB3⟩
        · rw [decide_eq_false hT] at hb
          have HR : Hid (parR s = none) := by
            cases h : parR s with
            | none => rfl
            | some qs => exact absurd (HT2.out qs h) hT
          clear hT hf
          go_wp2_with fail
          refine HPN.out.mono ?_
          rintro e w3 ⟨rfl, hB3⟩
          have hB9 := below_tr (below_tr HB.out hB3) (below_al w3 (.cells #[] 34))
          go_wp2
          go_ret2
          exact parRR_no _ HR.out hB9
      · rw [if_neg hf] at HPN
        have HR : Hid (parR s = none) := by
          cases h : parR s with
          | none => rfl
          | some qs => exact absurd (by rw [HTE.out qs h]; exact (par_back h).2.1) hf
        have hfn : (firstP ps != 0) = true := by rw [bne_iff_ne]; exact hf
        clear hf
        generalize firstP ps = x at *
        go_wp2_with fail
        refine HPN.out.mono ?_
        rintro e w3 ⟨rfl, hB3⟩
        have hB9 := below_tr (below_tr HB.out hB3) (below_al w3 (.cells #[] 34))
        go_wp2
        go_ret2
        exact parRR_no _ HR.out hB9
end Go.Proofs.YtkjapeafhcdnkaaDoor
