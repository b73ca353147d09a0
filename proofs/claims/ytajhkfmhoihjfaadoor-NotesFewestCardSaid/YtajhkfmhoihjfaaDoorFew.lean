/-
  P50.4: the walk of NotesFewest.
-/
import Derived.Test.YtajhkfmhoihjfaaDoorBack
import Derived.Deep.QuietTactic
import Derived.BigQuiet
namespace Go.Proofs.YtajhkfmhoihjfaaDoor
open Go.RowKit Go.Shelf

theorem infoStrF : (Tryd.prog.info? 9).map (fun i => (i.zero, i.size, i.bytes)) = some (some (.string ⟨#[]⟩), 1, 16) := by kernel_rfl

/-- Where the other division stands behind k words: its lines, and the words that are in none of them yet. -/
structure DivAt (st : St) (ws : List ByteArray) (k : Nat) (D : List (List ByteArray)) (own : List ByteArray) (room : Int) : Prop where
  flat : D.flatten ++ own = ws.take k
  div : Div st st.width D
  rm : room = if D = [] then st.width else st.width - st.letter
  last : k = ws.length → own = []
theorem DivAt.start {st : St} {ws : List ByteArray} (h : ws ≠ []) : DivAt st ws 0 [] [] st.width :=
  ⟨by simp, trivial, rfl, fun e => absurd (List.eq_nil_of_length_eq_zero e.symm) h⟩
theorem DivAt.go {st : St} {ws : List ByteArray} {k : Nat} {D : List (List ByteArray)} {own : List ByteArray} {room : Int} {x : ByteArray} (h : DivAt st ws k D own room) (hx : ws[k]? = some x) (hl : k + 1 < ws.length) : DivAt st ws (k + 1) D (own ++ [x]) room :=
  ⟨by rw [List.take_add_one, hx, ← List.append_assoc, h.flat]; rfl, h.div, h.rm, fun e => by omega⟩
theorem DivAt.close {st : St} {ws : List ByteArray} {k : Nat} {D : List (List ByteArray)} {own : List ByteArray} {room : Int} {x : ByteArray} (h : DivAt st ws k D own room) (hx : ws[k]? = some x) (hf : 1 < (own ++ [x]).length → wL st (own ++ [x]) ≤ room) : DivAt st ws (k + 1) (D ++ [own ++ [x]]) [] (st.width - st.letter) := by
  refine ⟨?_, h.div.snoc (by simp) (fun hl => by rw [← h.rm]; exact hf hl), by rw [if_neg (by simp)], fun _ => rfl⟩
  rw [List.flatten_append, List.flatten_singleton, List.append_nil, List.take_add_one, hx, ← List.append_assoc, h.flat]; rfl
theorem DivAt.done {st : St} {ws : List ByteArray} {D : List (List ByteArray)} {own : List ByteArray} {room : Int} (h : DivAt st ws ws.length D own room) (h1 : 0 ≤ st.letter) (h2 : 0 ≤ st.sp) : (setL st ws).length ≤ D.length := by
  have e := h.flat
  rw [h.last rfl, List.append_nil, List.take_of_length_le (Nat.le_refl _)] at e
  exact setL_least h1 h2 h.div e

set_option maxHeartbeats 2000000 in
set_option maxRecDepth 100000 in
theorem few_any (s : ByteArray) (a b c d : Int) (m : Int) (w : World) (ha : 0 ≤ a ∧ a < 65536) (hb : 0 ≤ b ∧ b < 65536) (hc : 0 ≤ c ∧ c < 65536) (_hd : 0 ≤ d ∧ d < 4294967296) (hm : w.cell? ⟨0, 0, none⟩ = some (.int .i64 m)) :
    Calls Tryd.prog 5 #[.string s, .int .u16 a, .int .u16 b, .int .u16 c, .int .u32 d] w fun e w' => e = .returned (.bool true) ∧ Below w.heap.size w w' := by
  have HF := hid (fine_any s w)
  cases hf : fineB s with
  | false =>
    rw [hf] at HF
    go_enter Tryd.func5, Tryd.ntmps5
    go_wp2_with fail
    refine HF.out.mono ?_
    rintro e w1 ⟨rfl, hB1⟩
    have hm1 := Below.keeps hB1 _ _ hm
    have HB1 := hid hB1
    clear hB1 hm HF
    go_wp2_with fail
    refine (awake_any m _ hm1).mono ?_
    rintro e w2 ⟨rfl, hB2⟩
    have HB2 := hid (below_tr HB1.out hB2)
    clear hB2
    go_wp2
    go_ret
    exact ⟨rfl, HB2.out⟩
  | true =>
    rw [hf] at HF
    obtain ⟨hs1, hn1⟩ := fine_of hf
    have HST' := fun w' => hid (lstyle_any a b c w' ha hb hc)
    have ra : 0 ≤ a % 1000 ∧ a % 1000 < 1000 := by omega
    have rb : 0 ≤ b % 100 ∧ b % 100 < 100 := by omega
    have rc : 0 ≤ c % 100 ∧ c % 100 < 100 := by omega
    obtain ⟨st, hst⟩ : ∃ st, st = stW (a % 1000) (b % 100) (c % 100) := ⟨_, rfl⟩
    have i1 : styleI st = 0 := by rw [hst]; exact stW_ok (by omega) rb rc
    have lw : 0 ≤ st.width ∧ st.width < 1000 := by rw [hst]; exact ra
    have lb : 0 ≤ st.letter ∧ st.letter < 100 := by rw [hst]; exact rb
    have lc : 0 ≤ st.sp ∧ st.sp < 100 := by rw [hst]; exact rc
    have HSet := fun w' h => hid (nSet_any st s m w' h)
    have HT := fun w' h => hid (ntext_any s m w' h)
    have hlen : (setL st (splitS s)).length ≤ 101 ∧ (splitS s).length ≤ 101 := by
      obtain ⟨_, kl, ks, _⟩ := style_ok i1
      have := setL_len kl.1 ks.1 (splitS s)
      have := split_le hs1
      omega
    have hwds : Wds 100 (splitS s) := fun x hx => Nat.le_trans (splitS_size s x hx) hs1
    have hne := split_ne s
    have HDone := hid (fun D own room (h : DivAt st (splitS s) (splitS s).length D own room) => h.done lb.1 lc.1)
    have HWID := fun v l w' (hr : RdS w' v l) (h1 : l.length ≤ 1000) (h2 : Wds 100 l) => hid (lwidth_any st v l w' hr h1 h2 lb lc)
    rw [(setR_eq i1 hn1).1, (setR_eq i1 hn1).2] at HSet
    have hnl : noteL s = splitS s := by unfold noteL; rw [if_pos hn1]
    rw [hnl, hn1] at HT
    rw [← hst] at HST'
    obtain ⟨n, hn⟩ : ∃ n, n = (setL st (splitS s)).length := ⟨_, rfl⟩
    rw [← hn] at HDone hlen
    generalize hPL : (setL st (splitS s)).map joinB = PL at *
    have hpl : PL.length = n := by rw [← hPL, List.length_map, hn]
    generalize splitS s = ws at *
    have HPL := hid hpl
    clear hst i1 hf hs1 hn1 ra rb rc hPL hn hpl hnl
    have HWD := hid hwds
    have HNE := hid hne
    obtain ⟨hn101, hw101⟩ := hlen
    clear hwds hne
    unfold St.cells at HSet HST' HWID
    go_enter Tryd.func5, Tryd.ntmps5
    go_wp2_with fail
    refine HF.out.mono ?_
    rintro e w1 ⟨rfl, hB1⟩
    have hm1 := Below.keeps hB1 _ _ hm
    have HB1 := hid hB1
    clear hB1 hm HF
    go_wp2_with fail
    refine (HST' _).out.mono ?_
    rintro e w2 ⟨rfl, hB2⟩
    have hm2 := Below.keeps hB2 _ _ hm1
    have HB2 := hid (below_tr HB1.out hB2)
    clear hB2 hm1 HB1 HST'
    have HST3 : Hid ((w2.alloc (.cells st.cells 25)).heap[w2.heap.size]? = some (.cells st.cells 25 (0, 0))) := World.alloc_heap_new w2 (.cells st.cells 25)
    have HLT : Hid (w2.heap.size < (w2.alloc (.cells st.cells 25)).heap.size) := by simp [Hid]
    have hm3 := cell_al hm2 (.cells st.cells 25)
    have HB3 := hid (below_tr HB2.out (below_al w2 (.cells st.cells 25)))
    have HM3 := hid hm3
    clear hm2 HB2
    unfold St.cells at hm3
    go_wp2_with fail
    refine (HSet _ hm3).out.mono ?_
    rintro e w4 ⟨v4, rfl, hr4, hB4⟩
    change Below (w2.alloc (.cells st.cells 25)).heap.size (w2.alloc (.cells st.cells 25)) w4 at hB4
    obtain ⟨a4, cap4, rfl, hlc4, hcm4, _⟩ := hr4.open
    have hst4 := (hB4.block w2.heap.size HLT.out).trans HST3.out
    have hm4 := Below.keeps hB4 _ _ HM3.out
    have HB4 := hid (below_tr HB3.out hB4)
    have HLT4 : Hid (w2.heap.size < w4.heap.size) := Nat.lt_of_lt_of_le HLT.out hB4.size
    have HST4 := hid hst4
    have HM4 := hid hm4
    clear hB4 hst4 hm3 HST3 HM3 HLT HB3 HSet hr4
    rw [HPL.out] at hlc4 ⊢
    go_wp2_with fail
    refine (HT _ hm4).out.mono ?_
    rintro e w5 ⟨v5, rfl, hr5, hB5⟩
    obtain ⟨a5, cap5, rfl, hlc5, hcm5, hcell5⟩ := hr5.open
    have hst5 := (hB5.block w2.heap.size HLT4.out).trans HST4.out
    have HM5 := hid (Below.keeps hB5 _ _ HM4.out)
    have HLT5 : Hid (w2.heap.size < w5.heap.size) := Nat.lt_of_lt_of_le HLT4.out hB5.size
    have HB5 := hid (below_tr HB4.out hB5)
    have HST5 := hid hst5
    have HC5 := hid hcell5
    obtain ⟨f0, f1, f2, f3, f4, f5, f6, f7, f8, f9, f10, f11, f12⟩ := st_facts hst5
    clear hB5 HB4 HLT4 HST4 HM4 hm4 HT hr5 hcell5 hst5
    go_wp2_with fail
    go_quiet (fail)
    have hbq := below_drewN (Below.refl w5.heap.size w5) nq
    have HB6 := hid (below_tr HB5.out hbq)
    have HM6 := hid (Below.keeps hbq _ _ HM5.out)
    have HLT6 : Hid (w2.heap.size < (w5.drewN nq).heap.size) := HLT5.out
    have HST6 : Hid ((w5.drewN nq).heap[w2.heap.size]? = some (.cells st.cells 25 (0, 0))) := HST5.out
    have HC6 : Hid (∀ i, i < ws.length → ∃ x b off, ws[i]? = some x ∧ a5 = some ⟨b, off, none⟩ ∧ (w5.drewN nq).cell? ⟨b, off + i, none⟩ = some (.string x)) := HC5.out
    clear hbq HB5 HM5 HLT5 HST5 HC5 f0 f1 f2 f3 f4 f5 f6 f7 f8 f9 f10 f11 f12
    generalize w5.drewN nq = w6 at *
    go_wp2
    go_loopw [16, 17, 18, 50] (fun li rm ov i wr => ∃ (k : Nat) (D : List (List ByteArray)) (own : List ByteArray) (room : Int), k ≤ ws.length ∧ i = .int .i64 k ∧ li = .int .i64 D.length ∧ rm = .int .i64 room ∧ Hid (DivAt st ws k D own room) ∧ D.length ≤ k ∧ own.length ≤ k ∧ (-100 ≤ room ∧ room < 1000) ∧
        wr.ownsRow w6.heap.size 9 1 ov own.length (own.map Value.string) ∧ Hid (Below w6.heap.size w6 wr)) (fun _ _ _ i _ => ws.length - (intOf i).toNat)
    case atStart => exact ⟨0, [], [], st.width, by omega, rfl, rfl, rfl, DivAt.start HNE.out, by simp, by simp, by omega, World.ownsRow_nil _ _ _ _, Below.refl _ _⟩
    case round =>
      obtain ⟨k, D, own, room, hk, rfl, rfl, rfl, HD, hDk, hok, hroom, hown, HB⟩ := hrel
      by_cases hlt : k < ws.length
      · obtain ⟨x, b5, off5, hx, rfl, hc0⟩ := HC6.out k hlt
        have hc := Below.keeps HB.out _ _ hc0
        have HX := hid hx
        have HSZ := hid HB.out.size
        have HNEW := hid (show Wds 100 (own ++ [x]) from fun y hy => by
          have h := HD.out.flat
          rcases List.mem_append.1 hy with h1 | h1
          · exact HWD.out y (List.mem_of_mem_take (by rw [← h]; exact List.mem_append.2 (.inr h1)))
          · have : y = x := by simpa using h1
            subst this; exact HWD.out _ (List.mem_of_getElem? HX.out))
        have HPush := hid (fun (w3 : World) (v' : Value) (h : w3.ownsRow w6.heap.size 9 1 v' (own.length + 1) (own.map Value.string ++ [Value.string x])) => show w3.ownsRow w6.heap.size 9 1 v' (own ++ [x]).length ((own ++ [x]).map Value.string) by simpa using h)
        clear hc0 hx
        have g1 : 0 ≤ (k : Int) % 32 := by omega
        have g2 : (k : Int) % 32 < 32 := by omega
        by_cases hls : k + 1 < ws.length
        · have hli : (k : Int) + 1 < (ws.length : Int) := by omega
          have HGO := hid (HD.out.go HX.out hls)
          by_cases h1p : 0 < own.length
          · have h1i : (1 : Int) < (own.length : Int) + 1 := by omega
            go_wp2_with (at_builtin; refine wpList_ap2 rfl _ _ 23 rfl w6.heap.size 9 Tryd.underlying23 infoStrF rfl (by decide) (by decide) _ _ _ rfl hown [.string x] rfl (by simp [Value.oneCell']) rfl (by simp) (by omega) HSZ.out ?_; intro g9 cap9 w1 hown' hb1 _ _ _; have HOWN := hid hown'; have HB9 := hid (HB.out.trans hb1); have HST9 := hid ((HB9.out.block w2.heap.size HLT6.out).trans HST6.out); obtain ⟨f0, f1, f2, f3, f4, f5, f6, f7, f8, f9, f10, f11, f12⟩ := st_facts HST9.out; clear hown' hb1)
            · have hown9 := HPush.out _ _ HOWN.out
              refine ⟨⟨k + 1, D, own ++ [x], room, by omega, by go_num, rfl, rfl, HGO.out, by omega, by rw [List.length_append, List.length_singleton]; omega, by omega, hown9, HB9.out⟩, by simp [intOf]; omega⟩
            · clear HGO
              have hown9 := HPush.out _ _ HOWN.out
              have hr9 : RdS w1 (.slice (some ⟨g9, 0, none⟩) (own.length + 1) cap9) (own ++ [x]) := by
                have h := Rd.of_own hown9
                exact h
              have HM9 := hid (Below.keeps HB9.out _ _ HM6.out)
              have HLT9 : Hid (w2.heap.size < w1.heap.size) := Nat.lt_of_lt_of_le HLT6.out HB9.out.size
              have HLEN := hid (show (own ++ [x]).length = own.length + 1 by simp)
              clear hown hown9 HPush HB HOWN
              have hW9 := hid (HWID _ (own ++ [x]) w1 hr9 (by rw [HLEN.out]; omega) HNEW.out)
              by_cases hfit : room < wL st (own ++ [x])
              · refine hW9.out.out.mono ?_
                rintro e w10 ⟨rfl, hB10⟩
                have hm10 := Below.keeps hB10 _ _ HM9.out
                have HB10 := hid (below_tr HB6.out (below_tr HB9.out hB10))
                clear hB10 f0 f1 f2 f3 f4 f5 f6 f7 f8 f9 f10 f11 f12 HWID hr9
                go_wp2_with fail
                refine (awake_any m _ hm10).mono ?_
                rintro e w11 ⟨rfl, hB11⟩
                have HBE := hid (below_tr HB10.out hB11)
                clear hB11
                go_wp2
                go_ret
                exact ⟨rfl, HBE.out⟩
              · have HD2 := hid (HD.out.close HX.out (fun _ => by omega))
                refine hW9.out.out.mono ?_
                rintro e w10 ⟨rfl, hB10⟩
                have HB10 := hid (below_tr HB9.out hB10)
                have HST10 := hid ((hB10.block w2.heap.size HLT9.out).trans HST9.out)
                clear hB10 f0 f1 f2 f3 f4 f5 f6 f7 f8 f9 f10 f11 f12 HWID hr9
                obtain ⟨f0, f1, f2, f3, f4, f5, f6, f7, f8, f9, f10, f11, f12⟩ := st_facts HST10.out
                go_wp2_with fail
                have hwr1 : IntKind.i64.wrap ((D.length : Int) + 1) = (D.length : Int) + 1 := IntWalk.i64_in _ (by omega)
                have hwr2 : IntKind.i64.wrap (st.width - st.letter) = st.width - st.letter := IntWalk.i64_in _ (by omega)
                go_quiet (fail)
                clear hwr1 hwr2
                have HB11 := hid (below_tr HB10.out (below_drewN (Below.refl w10.heap.size w10) nq))
                clear f0 f1 f2 f3 f4 f5 f6 f7 f8 f9 f10 f11 f12
                generalize w10.drewN nq = w12 at *
                go_wp2
                go_roundw
                case rel => exact ⟨k + 1, D ++ [own ++ [x]], [], st.width - st.letter, by omega, by go_num, by rw [List.length_append, List.length_singleton]; go_num, rfl, HD2.out, by rw [List.length_append, List.length_singleton]; omega, by simp, by omega, World.ownsRow_nil _ _ _ _, HB11.out⟩
                case measure => simp [intOf]; omega
          · have h1i : ¬ (1 : Int) < (own.length : Int) + 1 := by omega
            go_wp2_with (at_builtin; refine wpList_ap2 rfl _ _ 23 rfl w6.heap.size 9 Tryd.underlying23 infoStrF rfl (by decide) (by decide) _ _ _ rfl hown [.string x] rfl (by simp [Value.oneCell']) rfl (by simp) (by omega) HSZ.out ?_; intro g9 cap9 w1 hown' hb1 _ _ _; have HOWN := hid hown'; have HB9 := hid (HB.out.trans hb1); have HST9 := hid ((HB9.out.block w2.heap.size HLT6.out).trans HST6.out); obtain ⟨f0, f1, f2, f3, f4, f5, f6, f7, f8, f9, f10, f11, f12⟩ := st_facts HST9.out; clear hown' hb1)
            · have hown9 := HPush.out _ _ HOWN.out
              refine ⟨⟨k + 1, D, own ++ [x], room, by omega, by go_num, rfl, rfl, HGO.out, by omega, by rw [List.length_append, List.length_singleton]; omega, by omega, hown9, HB9.out⟩, by simp [intOf]; omega⟩
            · clear HGO
              have hown9 := HPush.out _ _ HOWN.out
              have hr9 : RdS w1 (.slice (some ⟨g9, 0, none⟩) (own.length + 1) cap9) (own ++ [x]) := by
                have h := Rd.of_own hown9
                exact h
              have HM9 := hid (Below.keeps HB9.out _ _ HM6.out)
              have HLT9 : Hid (w2.heap.size < w1.heap.size) := Nat.lt_of_lt_of_le HLT6.out HB9.out.size
              have HLEN := hid (show (own ++ [x]).length = own.length + 1 by simp)
              clear hown hown9 HPush HB HOWN
              have HD2 := hid (HD.out.close HX.out (fun h => by rw [HLEN.out] at h; omega))
              have HB10 := HB9
              clear HWID hr9
              have hwr1 : IntKind.i64.wrap ((D.length : Int) + 1) = (D.length : Int) + 1 := IntWalk.i64_in _ (by omega)
              have hwr2 : IntKind.i64.wrap (st.width - st.letter) = st.width - st.letter := IntWalk.i64_in _ (by omega)
              go_quiet (fail)
              clear hwr1 hwr2
              have HB11 := hid (below_tr HB10.out (below_drewN (Below.refl w1.heap.size w1) nq))
              clear f0 f1 f2 f3 f4 f5 f6 f7 f8 f9 f10 f11 f12
              generalize w1.drewN nq = w12 at *
              go_wp2
              go_roundw
              case rel => exact ⟨k + 1, D ++ [own ++ [x]], [], st.width - st.letter, by omega, by go_num, by rw [List.length_append, List.length_singleton]; go_num, rfl, HD2.out, by rw [List.length_append, List.length_singleton]; omega, by simp, by omega, World.ownsRow_nil _ _ _ _, HB11.out⟩
              case measure => simp [intOf]; omega
        · have hli : ¬ (k : Int) + 1 < (ws.length : Int) := by omega
          by_cases h1p : 0 < own.length
          · have h1i : (1 : Int) < (own.length : Int) + 1 := by omega
            go_wp2_with (at_builtin; refine wpList_ap2 rfl _ _ 23 rfl w6.heap.size 9 Tryd.underlying23 infoStrF rfl (by decide) (by decide) _ _ _ rfl hown [.string x] rfl (by simp [Value.oneCell']) rfl (by simp) (by omega) HSZ.out ?_; intro g9 cap9 w1 hown' hb1 _ _ _; have HOWN := hid hown'; have HB9 := hid (HB.out.trans hb1); have HST9 := hid ((HB9.out.block w2.heap.size HLT6.out).trans HST6.out); obtain ⟨f0, f1, f2, f3, f4, f5, f6, f7, f8, f9, f10, f11, f12⟩ := st_facts HST9.out; clear hown' hb1)
            have hown9 := HPush.out _ _ HOWN.out
            have hr9 : RdS w1 (.slice (some ⟨g9, 0, none⟩) (own.length + 1) cap9) (own ++ [x]) := by
              have h := Rd.of_own hown9
              exact h
            have HM9 := hid (Below.keeps HB9.out _ _ HM6.out)
            have HLT9 : Hid (w2.heap.size < w1.heap.size) := Nat.lt_of_lt_of_le HLT6.out HB9.out.size
            have HLEN := hid (show (own ++ [x]).length = own.length + 1 by simp)
            clear hown hown9 HPush HB HOWN
            have hW9 := hid (HWID _ (own ++ [x]) w1 hr9 (by rw [HLEN.out]; omega) HNEW.out)
            by_cases hfit : room < wL st (own ++ [x])
            · refine hW9.out.out.mono ?_
              rintro e w10 ⟨rfl, hB10⟩
              have hm10 := Below.keeps hB10 _ _ HM9.out
              have HB10 := hid (below_tr HB6.out (below_tr HB9.out hB10))
              clear hB10 f0 f1 f2 f3 f4 f5 f6 f7 f8 f9 f10 f11 f12 HWID hr9
              go_wp2_with fail
              refine (awake_any m _ hm10).mono ?_
              rintro e w11 ⟨rfl, hB11⟩
              have HBE := hid (below_tr HB10.out hB11)
              clear hB11
              go_wp2
              go_ret
              exact ⟨rfl, HBE.out⟩
            · have HD2 := hid (HD.out.close HX.out (fun _ => by omega))
              refine hW9.out.out.mono ?_
              rintro e w10 ⟨rfl, hB10⟩
              have HB10 := hid (below_tr HB9.out hB10)
              have HST10 := hid ((hB10.block w2.heap.size HLT9.out).trans HST9.out)
              clear hB10 f0 f1 f2 f3 f4 f5 f6 f7 f8 f9 f10 f11 f12 HWID hr9
              obtain ⟨f0, f1, f2, f3, f4, f5, f6, f7, f8, f9, f10, f11, f12⟩ := st_facts HST10.out
              go_wp2_with fail
              have hwr1 : IntKind.i64.wrap ((D.length : Int) + 1) = (D.length : Int) + 1 := IntWalk.i64_in _ (by omega)
              have hwr2 : IntKind.i64.wrap (st.width - st.letter) = st.width - st.letter := IntWalk.i64_in _ (by omega)
              go_quiet (fail)
              clear hwr1 hwr2
              have HB11 := hid (below_tr HB10.out (below_drewN (Below.refl w10.heap.size w10) nq))
              clear f0 f1 f2 f3 f4 f5 f6 f7 f8 f9 f10 f11 f12
              generalize w10.drewN nq = w12 at *
              go_wp2
              go_roundw
              case rel => exact ⟨k + 1, D ++ [own ++ [x]], [], st.width - st.letter, by omega, by go_num, by rw [List.length_append, List.length_singleton]; go_num, rfl, HD2.out, by rw [List.length_append, List.length_singleton]; omega, by simp, by omega, World.ownsRow_nil _ _ _ _, HB11.out⟩
              case measure => simp [intOf]; omega
          · have h1i : ¬ (1 : Int) < (own.length : Int) + 1 := by omega
            go_wp2_with (at_builtin; refine wpList_ap2 rfl _ _ 23 rfl w6.heap.size 9 Tryd.underlying23 infoStrF rfl (by decide) (by decide) _ _ _ rfl hown [.string x] rfl (by simp [Value.oneCell']) rfl (by simp) (by omega) HSZ.out ?_; intro g9 cap9 w1 hown' hb1 _ _ _; have HOWN := hid hown'; have HB9 := hid (HB.out.trans hb1); have HST9 := hid ((HB9.out.block w2.heap.size HLT6.out).trans HST6.out); obtain ⟨f0, f1, f2, f3, f4, f5, f6, f7, f8, f9, f10, f11, f12⟩ := st_facts HST9.out; clear hown' hb1)
            have hown9 := HPush.out _ _ HOWN.out
            have hr9 : RdS w1 (.slice (some ⟨g9, 0, none⟩) (own.length + 1) cap9) (own ++ [x]) := by
              have h := Rd.of_own hown9
              exact h
            have HM9 := hid (Below.keeps HB9.out _ _ HM6.out)
            have HLT9 : Hid (w2.heap.size < w1.heap.size) := Nat.lt_of_lt_of_le HLT6.out HB9.out.size
            have HLEN := hid (show (own ++ [x]).length = own.length + 1 by simp)
            clear hown hown9 HPush HB HOWN
            have HD2 := hid (HD.out.close HX.out (fun h => by rw [HLEN.out] at h; omega))
            have HB10 := HB9
            clear HWID hr9
            have hwr1 : IntKind.i64.wrap ((D.length : Int) + 1) = (D.length : Int) + 1 := IntWalk.i64_in _ (by omega)
            have hwr2 : IntKind.i64.wrap (st.width - st.letter) = st.width - st.letter := IntWalk.i64_in _ (by omega)
            go_quiet (fail)
            clear hwr1 hwr2
            have HB11 := hid (below_tr HB10.out (below_drewN (Below.refl w1.heap.size w1) nq))
            clear f0 f1 f2 f3 f4 f5 f6 f7 f8 f9 f10 f11 f12
            generalize w1.drewN nq = w12 at *
            go_wp2
            go_roundw
            case rel => exact ⟨k + 1, D ++ [own ++ [x]], [], st.width - st.letter, by omega, by go_num, by rw [List.length_append, List.length_singleton]; go_num, rfl, HD2.out, by rw [List.length_append, List.length_singleton]; omega, by simp, by omega, World.ownsRow_nil _ _ _ _, HB11.out⟩
            case measure => simp [intOf]; omega
      · obtain rfl : k = ws.length := by omega
        have hle := HDone.out D own room HD.out
        have hlei : (n : Int) ≤ (D.length : Int) := by omega
        have HBA := hid (below_tr HB6.out HB.out)
        have hm7 := Below.keeps HB.out _ _ HM6.out
        clear hown
        go_wp2_with fail
        refine (awake_any m _ hm7).mono ?_
        rintro e w8 ⟨rfl, hB8⟩
        have HBE := hid (below_tr HBA.out hB8)
        clear hB8
        go_wp2
        go_ret
        exact ⟨rfl, HBE.out⟩
end Go.Proofs.YtajhkfmhoihjfaaDoor
