/-
  P50.2: the plain law and the walk of NotesBack.
-/
import Derived.Test.YtajhkfmhoihjfaaDoorWider
namespace Go.Proofs.YtajhkfmhoihjfaaDoor
open Go.RowKit Go.Shelf

theorem setR_eq {st : St} {s : ByteArray} (h1 : styleI st = 0) (h2 : noteI s = 0) : setI st s = 0 ∧ setR st s = (setL st (splitS s)).map joinB := by
  have hi : setI st s = 0 := by unfold setI; rw [if_neg (by omega)]; exact h2
  exact ⟨hi, by unfold setR; rw [if_pos hi]⟩
theorem joinB_lines {L : List (List ByteArray)} (h : ∀ p ∈ L, p ≠ []) : joinB (L.map joinB) = joinB L.flatten := by
  have e := join_flat (sep := [32]) (L := L.map fun p => p.map (·.data.toList)) fun p hp => by
    obtain ⟨q, hq, rfl⟩ := List.mem_map.1 hp
    intro e
    exact h q hq (List.map_eq_nil_iff.1 e)
  apply ba_ext
  unfold joinB
  rw [List.map_map, ← List.map_flatten] at e
  rw [List.map_map]
  exact e
/-- The lines of a note, joined. -/
theorem back_facts {st : St} {s : ByteArray} (h1 : styleI st = 0) (h2 : noteI s = 0) (h3 : s.size ≤ 100) :
    joinI (setR st s) = 0 ∧ joinT (setR st s) = s ∧ joinB (setR st s) = s ∧ (setR st s).length = (setL st (splitS s)).length ∧ (setR st s).length ≤ 101 ∧ noteL s = splitS s := by
  obtain ⟨_, kl, ks, _⟩ := style_ok h1
  have hfl := setL_flat kl.1 ks.1 (splitS s)
  have hne := setL_ne kl.1 ks.1 (splitS s)
  have hle := setL_len kl.1 ks.1 (splitS s)
  have hpos := setL_pos (st := st) (split_ne s)
  have hs := split_le h3
  obtain ⟨_, hr⟩ := setR_eq h1 h2
  have hj : joinB (setR st s) = s := by rw [hr, joinB_lines hne, hfl]; exact joinB_split s
  have hlen : (setR st s).length = (setL st (splitS s)).length := by rw [hr, List.length_map]
  have hf : firstI (setR st s) = 0 := firstI_zero fun x hx => by
    rw [hr] at hx
    obtain ⟨p, hp, rfl⟩ := List.mem_map.1 hx
    refine note_line (n := 100) (hne p hp) (fun y hy => ?_) ?_
    · have hy2 : y ∈ splitS s := by rw [← hfl]; exact List.mem_flatten.2 ⟨p, hp, hy⟩
      have hw := note_words h2 y hy2
      exact ⟨hw.ne, hw.no, hw.ok, Nat.le_trans hw.le h3⟩
    · have : p.length ≤ (splitS s).length := by
        rw [← hfl]
        exact List.Sublist.length_le (List.sublist_flatten_of_mem hp)
      omega
  have hI : joinI (setR st s) = 0 := by
    unfold joinI
    rw [if_neg (by omega), if_pos hf, hj, if_neg (by omega)]
  exact ⟨hI, by unfold joinT; rw [if_pos hI, hj], hj, hlen, by omega, by unfold noteL; rw [if_pos h2]⟩

theorem run_max_int4b {P : Program} {w : World} (ts : Array TypeId) (t : TypeId) (k : IntKind) (x : Int) : (Builtin.max_ ts t #[.int k x, .int k x, .int k x, .int k x]).run P w = .ok (.int k x) w := by
  simp [Builtin.max_, Builtin.max2, go_sem]
attribute [local go_sem] run_max_int4b

set_option maxHeartbeats 2000000 in
set_option maxRecDepth 100000 in
theorem back_any (s : ByteArray) (a b c : Int) (m : Int) (w : World) (ha : 0 ≤ a ∧ a < 65536) (hb : 0 ≤ b ∧ b < 65536) (hc : 0 ≤ c ∧ c < 65536) (hm : w.cell? ⟨0, 0, none⟩ = some (.int .i64 m)) :
    Calls Tryd.prog 4 #[.string s, .int .u16 a, .int .u16 b, .int .u16 c] w fun e w' => e = .returned (.bool true) ∧ Below w.heap.size w w' := by
  have HF := hid (fine_any s w)
  cases hf : fineB s with
  | false =>
    rw [hf] at HF
    go_enter Tryd.func4, Tryd.ntmps4
    go_wp2_with fail
    refine HF.out.mono ?_
    rintro e w1 ⟨rfl, hB1⟩
    have hm1 := Below.keeps hB1 _ _ hm
    have HB1 := hid hB1
    clear hB1 hm HF
    go_wp2_with fail
    refine (awake_any m _ hm1).mono ?_
    rintro e w2 ⟨rfl, hB2⟩
    have HB2 := hid (below_tr HB1.out hB2)
    clear hB2
    go_wp2
    go_ret
    exact ⟨rfl, HB2.out⟩
  | true =>
    rw [hf] at HF
    obtain ⟨hs1, hn1⟩ := fine_of hf
    have HST' := fun w' => hid (lstyle_any a b c w' ha hb hc)
    have ra : 0 ≤ a % 1000 ∧ a % 1000 < 1000 := by omega
    have rb : 0 ≤ b % 100 ∧ b % 100 < 100 := by omega
    have rc : 0 ≤ c % 100 ∧ c % 100 < 100 := by omega
    obtain ⟨st, hst⟩ : ∃ st, st = stW (a % 1000) (b % 100) (c % 100) := ⟨_, rfl⟩
    have i1 : styleI st = 0 := by rw [hst]; exact stW_ok (by omega) rb rc
    have nh : st.nh = 10 := by rw [hst]; rfl
    obtain ⟨e1, n1, _⟩ := height_of i1 hn1 hs1 nh
    obtain ⟨j1, j2, j3, j4, j5, j6⟩ := back_facts i1 hn1 hs1
    have HSet := fun w' h => hid (nSet_any st s m w' h)
    have HH := fun w' h => hid (nheight_any st s m w' h)
    have HJ := fun v w' h k => hid (njoin_any v (setR st s) m w' h (by omega) k)
    have HT := fun w' h => hid (ntext_any s m w' h)
    have HJo := fun v w' h => hid (join_any v (setR st s) w' h (by omega) (by rw [← joinB_size, j3]; omega))
    have HSp := fun w' h => hid (split_any s m w' (by omega) h)
    have HE := fun v u w' h k => hid (equalS_any v u (splitS s) (splitS s) w' h k)
    rw [decide_eq_true (rfl : splitS s = splitS s)] at HE
    rw [(setR_eq i1 hn1).1] at HSet
    rw [← hst] at HST'
    rw [e1, n1, ← j4] at HH
    rw [j1, j2] at HJ
    rw [j3] at HJo
    rw [j6, hn1] at HT
    generalize setR st s = L at *
    generalize splitS s = wds at *
    clear hst i1 e1 n1 j1 j2 j3 j4 j6 hf hs1 hn1 ra rb rc nh
    unfold St.cells at HSet HH HST'
    go_enter Tryd.func4, Tryd.ntmps4
    go_wp2_with fail
    refine HF.out.mono ?_
    rintro e w1 ⟨rfl, hB1⟩
    have hm1 := Below.keeps hB1 _ _ hm
    have HB1 := hid hB1
    clear hB1 hm HF
    go_wp2_with fail
    refine (HST' _).out.mono ?_
    rintro e w2 ⟨rfl, hB2⟩
    have hm2 := Below.keeps hB2 _ _ hm1
    have HB2 := hid (below_tr HB1.out hB2)
    clear hB2 hm1 HB1 HST'
    have HST3 : Hid ((w2.alloc (.cells st.cells 25)).heap[w2.heap.size]? = some (.cells st.cells 25 (0, 0))) := World.alloc_heap_new w2 (.cells st.cells 25)
    have HLT : Hid (w2.heap.size < (w2.alloc (.cells st.cells 25)).heap.size) := by simp [Hid]
    have hm3 := cell_al hm2 (.cells st.cells 25)
    have HB3 := hid (below_tr HB2.out (below_al w2 (.cells st.cells 25)))
    have HM3 := hid hm3
    clear hm2 HB2
    unfold St.cells at hm3
    go_wp2_with fail
    refine (HSet _ hm3).out.mono ?_
    rintro e w4 ⟨v4, rfl, hr4, hB4⟩
    change Below (w2.alloc (.cells st.cells 25)).heap.size (w2.alloc (.cells st.cells 25)) w4 at hB4
    obtain ⟨a4, cap4, rfl, hlc4, hcm4, _⟩ := hr4.open
    have hst4 := (hB4.block w2.heap.size HLT.out).trans HST3.out
    have hm4 := Below.keeps hB4 _ _ HM3.out
    have HB4 := hid (below_tr HB3.out hB4)
    have HLT4 : Hid (w2.heap.size < w4.heap.size) := Nat.lt_of_lt_of_le HLT.out hB4.size
    have HST4 := hid hst4
    have HM4 := hid hm4
    have HR4 := hid hr4
    clear hB4 hst4 hm3 HST3 HM3 HLT HB3 HSet hr4
    go_wp2_with fail
    refine (HJ _ _ HR4.out hm4).out.mono ?_
    rintro e w5 ⟨rfl, hB5⟩
    have HR5 := hid (HR4.out.below hB5)
    have hm5 := Below.keeps hB5 _ _ HM4.out
    have HM5 := hid hm5
    have HST5 := hid ((hB5.block w2.heap.size HLT4.out).trans HST4.out)
    have HLT5 : Hid (w2.heap.size < w5.heap.size) := Nat.lt_of_lt_of_le HLT4.out hB5.size
    have HB5 := hid (below_tr HB4.out hB5)
    clear hB5 HB4 HLT4 HST4 HM4 HR4 hm4 HJ
    go_wp2_with fail
    refine (HT _ hm5).out.mono ?_
    rintro e w6 ⟨v6, rfl, hr6, hB6⟩
    obtain ⟨a6, cap6, rfl, hlc6, hcm6, _⟩ := hr6.open
    have HR6 := hid (HR5.out.below hB6)
    have HW6 := hid hr6
    have hm6 := Below.keeps hB6 _ _ HM5.out
    have HM6 := hid hm6
    have hst6 := (hB6.block w2.heap.size HLT5.out).trans HST5.out
    have HB6 := hid (below_tr HB5.out hB6)
    obtain ⟨f0, f1, f2, f3, f4, f5, f6, f7, f8, f9, f10, f11, f12⟩ := st_facts hst6
    clear hB6 HB5 HLT5 HST5 HM5 HR5 hm5 HT hr6 hst6
    go_wp2_with fail
    refine (HH _ hm6).out.mono ?_
    rintro e w7 ⟨rfl, hB7⟩
    have HR7 := hid (HR6.out.below hB7)
    have HW7 := hid (HW6.out.below hB7)
    have HM7 := hid (Below.keeps hB7 _ _ HM6.out)
    have HB7 := hid (below_tr HB6.out hB7)
    clear hB7 HB6 HM6 HR6 HW6 hm6 HH f0 f1 f2 f3 f4 f5 f6 f7 f8 f9 f10 f11 f12
    go_wp2_with fail
    refine (HJo _ _ HR7.out).out.mono ?_
    rintro e w8 ⟨rfl, hB8⟩
    have HW8 := hid (HW7.out.below hB8)
    have hm8 := Below.keeps hB8 _ _ HM7.out
    have HM8 := hid hm8
    have HB8 := hid (below_tr HB7.out hB8)
    clear hB8 HB7 HM7 HR7 HW7 HJo
    go_wp2_with fail
    refine (HSp _ hm8).out.mono ?_
    rintro e w9 ⟨v9, rfl, hr9, hB9⟩
    have HW9 := hid (HW8.out.below hB9)
    have HR9 := hid hr9
    obtain ⟨a9, cap9, rfl, hlc9, hcm9, _⟩ := hr9.open
    have HM9 := hid (Below.keeps hB9 _ _ HM8.out)
    have HB9 := hid (below_tr HB8.out hB9)
    clear hB9 HB8 HM8 HW8 HSp hm8 hr9
    go_wp2_with fail
    refine (HE _ _ _ HR9.out HW9.out).out.mono ?_
    rintro e w10 ⟨rfl, hB10⟩
    have hm10 := Below.keeps hB10 _ _ HM9.out
    have HB10 := hid (below_tr HB9.out hB10)
    clear hB10 HB9 HM9 HW9 HR9 HE
    go_wp2_with fail
    refine (awake_any m _ hm10).mono ?_
    rintro e w11 ⟨rfl, hB11⟩
    have HBE := hid (below_tr HB10.out hB11)
    clear hB11
    go_wp2
    go_ret
    exact ⟨rfl, HBE.out⟩
end Go.Proofs.YtajhkfmhoihjfaaDoor
