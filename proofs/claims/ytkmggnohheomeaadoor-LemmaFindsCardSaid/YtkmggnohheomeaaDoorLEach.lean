/-
  P43.6: the walk of LemmaEach.
-/
import Derived.Test.YtkmggnohheomeaaDoorLFound
import Derived.Test.YtkmggnohheomeaaDoorSame43
import Derived.Test.YtkmggnohheomeaaDoorPlNum
namespace Go.Proofs.YtkmggnohheomeaaDoor
open Go.RowKit

theorem rdS_one (W : World) (s : ByteArray) : RdS (W.alloc (.cells #[.string s] 9)) (.slice (some ⟨W.heap.size, 0, none⟩) 1 1) [s] := by
  refine ⟨_, 1, rfl, Nat.le_refl _, by unfold maxLen; omega, fun i x hx => ⟨_, _, rfl, ?_⟩⟩
  match i, hx with
  | 0, hx => cases hx; exact cell_nw W _ _ 0 rfl
theorem szs_one {s : ByteArray} (h : s.size ≤ maxLen) : Szs [s] := fun x hx => by
  have : x = s := by simpa using hx
  rw [this]; exact h
theorem fine_one {s : ByteArray} (h : fineB [s] = true) : wordB s = true ∧ s.size ≤ 66 := by
  obtain ⟨_, h2, h3⟩ := fine_all h
  exact ⟨h2 s (by simp), h3 s (by simp)⟩
theorem lemCk_ok {f l : ByteArray} (hf : wordB f = true) (hl : l.size = 0 ∨ wordB l = true) {n : Nat} (hn : n ≤ 65536) : lemCk f l n = 0 := by
  unfold lemCk
  rw [hf]
  have : (decide (l.size ≠ 0) && !wordB l) = false := by
    rcases hl with h | h
    · rw [h]; rfl
    · rw [h]; simp
  rw [this, if_neg (by simp), if_neg (by omega)]
theorem run_max2j {P : Program} {w : World} (ts : Array TypeId) (t : TypeId) (k : IntKind) (n m : Nat) (h : max n 1 = m + 1) : (Builtin.max_ ts t #[.int k n, .int k 1]).run P w = .ok (.int k ((m : Int) + 1)) w := by
  have hm : (m : Int) + 1 = if (n : Int) < 1 then 1 else (n : Int) := by split <;> omega
  rw [hm]
  simp [Builtin.max_, Builtin.max2, go_sem]
theorem run_max2z {P : Program} {w : World} (ts : Array TypeId) (t : TypeId) (k : IntKind) : (Builtin.max_ ts t #[.int k 0, .int k 1]).run P w = .ok (.int k 1) w := by
  simp [Builtin.max_, Builtin.max2, go_sem]
/-- What a number n finds in a list of occurrences. -/
theorem each_cases (oc : List (Nat × Nat)) (hb : ∀ p ∈ oc, p.2 ≤ 1000) (n : Nat) :
    (∃ p, ((n = 0 ∧ oc.length = 1) ∨ (0 < n ∧ n ≤ oc.length ∧ 1 < oc.length)) ∧ oc[max n 1 - 1]? = some p ∧ findE oc n = 0 ∧ findF oc n = p.1 ∧ findT oc n = (p.2 : Int) + 1 ∧ p.2 ≤ 1000) ∨
    (n = 0 ∧ 1 < oc.length ∧ findE oc n = 16 ∧ findF oc n = 0 ∧ findT oc n = 0) ∨
    (n = 0 ∧ oc.length = 0 ∧ findE oc n = 6 ∧ findF oc n = 0 ∧ findT oc n = 0) ∨
    (0 < n ∧ oc.length < n ∧ findE oc n = 6 ∧ findF oc n = 0 ∧ findT oc n = 0) ∨
    (0 < n ∧ n ≤ oc.length ∧ oc.length = 1 ∧ findE oc n = 6 ∧ findF oc n = 0 ∧ findT oc n = 0) := by
  have hno : ∀ k, k ≠ 0 → findE oc n = k → findE oc n = k ∧ findF oc n = 0 ∧ findT oc n = 0 := fun k hk h => by
    refine ⟨h, ?_, ?_⟩
    · unfold findF; rw [if_neg (by omega)]
    · unfold findT; rw [if_neg (by omega)]
  by_cases h1 : (n = 0 ∧ oc.length = 1) ∨ (0 < n ∧ n ≤ oc.length ∧ 1 < oc.length)
  · have hE : findE oc n = 0 := by
      unfold findE endE
      rw [if_neg (by omega), if_neg (by omega), if_neg (by omega)]
    have hlt : max n 1 - 1 < oc.length := by omega
    have hp : oc[max n 1 - 1]? = some oc[max n 1 - 1] := List.getElem?_eq_getElem hlt
    have hpb := hb _ (List.mem_of_getElem? hp)
    refine .inl ⟨_, h1, hp, hE, ?_, ?_, hpb⟩
    · unfold findF; rw [if_pos hE]; unfold fOf; rw [hp]
    · unfold findT; rw [if_pos hE]; unfold tOf; rw [hp]; exact wrap_small hpb
  · refine .inr ?_
    by_cases h2 : n = 0
    · by_cases h3 : oc.length = 0
      · exact .inr (.inl ⟨h2, h3, hno 6 (by omega) (by unfold findE endE; rw [if_pos h3])⟩)
      · exact .inl ⟨h2, by omega, hno 16 (by omega) (by unfold findE endE; rw [if_neg h3, if_pos (by omega)])⟩
    · by_cases h3 : n ≤ oc.length
      · exact .inr (.inr (.inr ⟨by omega, h3, by omega, hno 6 (by omega) (by unfold findE endE; rw [if_neg (by omega), if_neg (by omega), if_pos (by omega)])⟩))
      · refine .inr (.inr (.inl ⟨by omega, by omega, hno 6 (by omega) ?_⟩))
        unfold findE endE
        by_cases h4 : oc.length = 0
        · rw [if_pos h4]
        · rw [if_neg h4, if_neg (by omega), if_pos (by omega)]

set_option maxRecDepth 100000 in
set_option maxHeartbeats 6000000 in
theorem leach_any (v : Value) (ws : List ByteArray) (f l : ByteArray) (w : World) (he : Env w) (hr : RdS w v ws) (hz : Szs ws) (hf : f.size ≤ maxLen) (hl : l.size ≤ maxLen) :
    Calls Tryd.prog 7 #[v, .string f, .string l] w fun e w' => e = .returned (.bool true) ∧ Below w.heap.size w w' := by
  have HF := hid (fine_any v ws w he hr hz)
  have HE := fun w' (h : Below w.heap.size w w') => hid (he.below h)
  have HF1 := fun w' (h : Below w.heap.size w w') => hid (fine_any (.slice (some ⟨w'.heap.size, 0, none⟩) 1 1) [f] _ (he.below (below_tr h (below_al w' (.cells #[.string f] 9)))) (rdS_one w' f) (szs_one hf))
  have HF2 := fun w' (h : Below w.heap.size w w') => hid (fine_any (.slice (some ⟨w'.heap.size, 0, none⟩) 1 1) [l] _ (he.below (below_tr h (below_al w' (.cells #[.string l] 9)))) (rdS_one w' l) (szs_one hl))
  have hE := ba_isE l
  cases h0 : fineB ws with
  | false =>
    rw [h0] at HF
    obtain ⟨a, cap, rfl, hlc, hcm, _⟩ := hr.open
    clear hE HF1 HF2
    go_enter Tryd.func7, Tryd.ntmps7
    go_wp2_with fail
    refine HF.out.mono ?_
    rintro e w1 ⟨rfl, hB1⟩
    go_wp2_with fail
    refine (awake43_any _ (HE _ hB1).out).mono ?_
    rintro e w2 ⟨rfl, hB2⟩
    go_wp2
    go_ret
    exact ⟨rfl, below_tr hB1 hB2⟩
  | true =>
    rw [h0] at HF
    obtain ⟨hlen, hwd, hsz⟩ := fine_all h0
    have hck := fine_check h0
    cases h1 : fineB [f] with
    | false =>
      rw [h1] at HF1
      obtain ⟨a, cap, rfl, hlc, hcm, _⟩ := hr.open
      clear hE HF2
      go_enter Tryd.func7, Tryd.ntmps7
      go_wp2_with fail
      refine HF.out.mono ?_
      rintro e w1 ⟨rfl, hB1⟩
      go_wp2_with fail
      refine (HF1 _ hB1).out.mono ?_
      rintro e w2 ⟨rfl, hB2⟩
      have hb2 := below_tr hB1 (below_tr (below_al w1 (.cells #[.string f] 9)) hB2)
      clear hB2 HF1 HF
      go_wp2_with fail
      refine (awake43_any _ (HE _ hb2).out).mono ?_
      rintro e w3 ⟨rfl, hB3⟩
      go_wp2
      go_ret
      exact ⟨rfl, below_tr hb2 hB3⟩
    | true =>
      rw [h1] at HF1
      obtain ⟨hfw, hfs⟩ := fine_one h1
      by_cases h2 : l.size ≠ 0 ∧ fineB [l] = false
      · obtain ⟨h2, h3⟩ := h2
        rw [h3] at HF2
        rw [decide_eq_false h2] at hE
        obtain ⟨a, cap, rfl, hlc, hcm, _⟩ := hr.open
        go_enter Tryd.func7, Tryd.ntmps7
        go_wp2_with fail
        refine HF.out.mono ?_
        rintro e w1 ⟨rfl, hB1⟩
        go_wp2_with fail
        refine (HF1 _ hB1).out.mono ?_
        rintro e w2 ⟨rfl, hB2⟩
        have hb2 := below_tr hB1 (below_tr (below_al w1 (.cells #[.string f] 9)) hB2)
        clear hB2 HF1 HF
        go_wp2_with fail
        refine (HF2 _ hb2).out.mono ?_
        rintro e w3 ⟨rfl, hB3⟩
        have hb3 := below_tr hb2 (below_tr (below_al w2 (.cells #[.string l] 9)) hB3)
        clear hB3 HF2
        go_wp2_with fail
        refine (awake43_any _ (HE _ hb3).out).mono ?_
        rintro e w4 ⟨rfl, hB4⟩
        go_wp2
        go_ret
        exact ⟨rfl, below_tr hb3 hB4⟩
      · have hlw : l.size = 0 ∨ (l.size ≠ 0 ∧ fineB [l] = true) := by
          by_cases h : l.size = 0
          · exact .inl h
          · cases h3 : fineB [l] with
            | true => exact .inr ⟨h, rfl⟩
            | false => exact absurd ⟨h, h3⟩ h2
        clear h2
        have hlw2 : (l.size = 0 ∨ wordB l = true) ∧ l.size ≤ 66 := by
          rcases hlw with h | ⟨_, h⟩
          · exact ⟨.inl h, by omega⟩
          · exact ⟨.inr (fine_one h).1, (fine_one h).2⟩
        have hsz2 : ∀ s ∈ ws, s.size ≤ 65536 := fun s hs => by have := hsz s hs; omega
        have HOC := fun w' (h : Env w') (h2 : RdS w' v ws) => hid (occs_any ws f l v w' h h2 hsz2 (by omega) (by omega) (by omega) hck (lemCk_ok hfw hlw2.1 (n := 0) (by omega)))
        have HFN := fun w' (h : Env w') (h2 : RdS w' v ws) (n : Nat) (hn : n ≤ 65536) => hid (find_any ws f l n v w' h h2 hsz2 (by omega) (by omega) (by omega) hck (lemCk_ok hfw hlw2.1 hn))
        have hol := occ_len (ws := ws) (by omega) f l
        have HIN := hid (fun p (hp : p ∈ occ ws f l) => show p.2 ≤ 1000 from by have := occ_in p hp; omega)
        have HEC := hid (each_cases (occ ws f l) HIN.out)
        generalize occ ws f l = oc at *
        have HRD := hid hr
        have hw3 : IntKind.i64.wrap ((oc.length : Int) + 3) = (oc.length : Int) + 3 := IntWalk.i64_in _ (by omega)
        obtain ⟨ad, cap, rfl, hlc, hcm, _⟩ := hr.open
        clear hr hz hwd hsz hsz2 hck he hlen hfw hfs hlw2 hf hl h0 h1
        rcases hlw with h2 | ⟨h2, h3⟩
        · rw [decide_eq_true h2] at hE
          clear HF2 h2
          go_enter Tryd.func7, Tryd.ntmps7
          go_wp2_with fail
          refine HF.out.mono ?_
          rintro e w1 ⟨rfl, hB1⟩
          go_wp2_with fail
          refine (HF1 _ hB1).out.mono ?_
          rintro e w2 ⟨rfl, hB2⟩
          have hb2 := below_tr hB1 (below_tr (below_al w1 (.cells #[.string f] 9)) hB2)
          clear hB1 hB2 HF1 HF
          go_wp2_with fail
          refine (HOC _ (HE _ hb2).out (HRD.out.below hb2)).out.mono ?_
          rintro e w5 ⟨u, rfl, hru, hB5⟩
          have HB5 := hid (below_tr hb2 hB5)
          clear hB5 hb2 HOC
          obtain ⟨au, cu, rfl, huc, hum, hucell⟩ := hru.open
          have HUC := hid hucell
          clear hucell hru hE
          go_wp2_with fail
          go_loopw [47] (fun i wr => ∃ n : Nat, n ≤ oc.length + 3 ∧ i = .int .i64 n ∧ Hid (Below w.heap.size w wr) ∧ Hid (Below w5.heap.size w5 wr)) (fun i _ => oc.length + 3 - (intOf i).toNat)
          case atStart => exact ⟨0, by omega, rfl, HB5.out, Below.refl _ _⟩
          case round =>
            obtain ⟨n, hn, rfl, HB, HBu⟩ := hrel
            by_cases hlt : n < oc.length + 3
            · have hni : (n : Int) < (oc.length : Int) + 3 := by omega
              have HFc := HFN wr (HE _ HB.out).out (HRD.out.below HB.out) n (by omega)
              rcases HEC.out n with ⟨p, hc, hp, hE, hF, hT, hpb⟩ | ⟨hc1, hc2, hE, hF, hT⟩ | ⟨hc1, hc2, hE, hF, hT⟩ | ⟨hc1, hc2, hE, hF, hT⟩ | ⟨hc1, hc2, hc3, hE, hF, hT⟩
              all_goals rw [hE, hF, hT] at HFc
              all_goals clear hE hF hT
              · obtain ⟨p', bu, ou, r, hp', rfl, hcu, hx1, hx2⟩ := HUC.out (max n 1 - 1) (List.getElem?_eq_some_iff.1 hp).1
                rw [hp] at hp'
                cases hp'
                have hw1 : IntKind.i64.wrap ((p.2 : Int) + 1) = (p.2 : Int) + 1 := IntWalk.i64_in _ (by omega)
                have HCu := fun w' (h : Below wr.heap.size wr w') => Below.keeps h _ _ (Below.keeps HBu.out _ _ hcu)
                have HX1 := fun w' (h : Below wr.heap.size wr w') => Below.keeps h _ _ (Below.keeps HBu.out _ _ hx1)
                have HX2 := fun w' (h : Below wr.heap.size wr w') => Below.keeps h _ _ (Below.keeps HBu.out _ _ hx2)
                clear hcu hx1 hx2 hp
                obtain ⟨m, hm⟩ : ∃ m, max n 1 = m + 1 := ⟨max n 1 - 1, by omega⟩
                have hmx := fun w => @run_max2j Tryd.prog w #[3, 3] 3 .i64 n m hm
                have hmm : max n 1 - 1 = m := by omega
                rw [hmm] at HCu
                have hmi : (m : Int) < (oc.length : Int) := by omega
                have hm0 : (0 : Int) ≤ (m : Int) := by omega
                clear hmm
                rcases hc with ⟨rfl, hc2⟩ | ⟨hc1, hc2, hc3⟩
                · have q1 : ((oc.length : Int) == 1) = true := by simp; omega
                  obtain rfl : m = 0 := by omega
                  rw [Nat.add_zero] at HCu
                  have hmx0 := fun w => @run_max2z Tryd.prog w #[3, 3] 3 .i64
                  have q5 : (0 : Int) < (oc.length : Int) := by omega
                  clear hc2 hmx hm hmi hm0
                  go_wp2_with fail
                  refine HFc.out.mono ?_
                  rintro e w6 ⟨rfl, hB6⟩
                  have g1 := HCu _ hB6
                  have g2 := HX1 _ hB6
                  have g3 := HX2 _ hB6
                  go_wp2_with fail
                  go_roundw
                  case rel => exact ⟨0 + 1, by omega, by go_num, below_tr HB.out hB6, below_tr HBu.out hB6⟩
                  case measure => first | (simp [intOf]; omega) | simp [intOf]
                · have q1 : ¬ (n : Int) = 0 := by omega
                  have q2 : (n : Int) ≤ (oc.length : Int) := by omega
                  have q3 : (0 : Int) < (n : Int) := by omega
                  have q4 : (1 : Int) < (oc.length : Int) := by omega
                  clear hm
                  go_wp2_with fail
                  refine HFc.out.mono ?_
                  rintro e w6 ⟨rfl, hB6⟩
                  have g1 := HCu _ hB6
                  have g2 := HX1 _ hB6
                  have g3 := HX2 _ hB6
                  go_wp2_with fail
                  go_roundw
                  case rel => exact ⟨n + 1, by omega, by go_num, below_tr HB.out hB6, below_tr HBu.out hB6⟩
                  case measure => first | (simp [intOf]; omega) | simp [intOf]
              · obtain rfl := hc1
                have q1 : ¬ (oc.length : Int) = 1 := by omega
                have q2 : (1 : Int) < (oc.length : Int) := by omega
                go_wp2_with fail
                refine HFc.out.mono ?_
                rintro e w6 ⟨rfl, hB6⟩
                go_wp2_with fail
                go_roundw
                case rel => exact ⟨0 + 1, by omega, by go_num, below_tr HB.out hB6, below_tr HBu.out hB6⟩
                case measure => first | (simp [intOf]; omega) | simp [intOf]
              · obtain rfl := hc1
                have q1 : ¬ (oc.length : Int) = 1 := by omega
                have q2 : ¬ (1 : Int) < (oc.length : Int) := by omega
                clear hc2
                go_wp2_with fail
                refine HFc.out.mono ?_
                rintro e w6 ⟨rfl, hB6⟩
                go_wp2_with fail
                go_roundw
                case rel => exact ⟨0 + 1, by omega, by go_num, below_tr HB.out hB6, below_tr HBu.out hB6⟩
                case measure => first | (simp [intOf]; omega) | simp [intOf]
              · have q1 : ¬ (n : Int) = 0 := by omega
                have q2 : ¬ (n : Int) ≤ (oc.length : Int) := by omega
                have q3 : (0 : Int) < (n : Int) := by omega
                go_wp2_with fail
                refine HFc.out.mono ?_
                rintro e w6 ⟨rfl, hB6⟩
                go_wp2_with fail
                go_roundw
                case rel => exact ⟨n + 1, by omega, by go_num, below_tr HB.out hB6, below_tr HBu.out hB6⟩
                case measure => first | (simp [intOf]; omega) | simp [intOf]
              · have q1 : ¬ (n : Int) = 0 := by omega
                have q2 : (n : Int) ≤ (oc.length : Int) := by omega
                have q3 : (0 : Int) < (n : Int) := by omega
                have q4 : ¬ (1 : Int) < (oc.length : Int) := by omega
                clear hc3
                go_wp2_with fail
                refine HFc.out.mono ?_
                rintro e w6 ⟨rfl, hB6⟩
                go_wp2_with fail
                go_roundw
                case rel => exact ⟨n + 1, by omega, by go_num, below_tr HB.out hB6, below_tr HBu.out hB6⟩
                case measure => first | (simp [intOf]; omega) | simp [intOf]
            · have hni : ¬ (n : Int) < (oc.length : Int) + 3 := by omega
              go_wp2_with fail
              refine (awake43_any _ (HE _ HB.out).out).mono ?_
              rintro e w6 ⟨rfl, hB6⟩
              go_wp2
              go_ret
              exact ⟨rfl, below_tr HB.out hB6⟩
        · rw [decide_eq_false h2] at hE
          rw [h3] at HF2
          clear h2 h3
          go_enter Tryd.func7, Tryd.ntmps7
          go_wp2_with fail
          refine HF.out.mono ?_
          rintro e w1 ⟨rfl, hB1⟩
          go_wp2_with fail
          refine (HF1 _ hB1).out.mono ?_
          rintro e w2 ⟨rfl, hB2⟩
          have hb2 := below_tr hB1 (below_tr (below_al w1 (.cells #[.string f] 9)) hB2)
          clear hB1 hB2 HF1 HF
          go_wp2_with fail
          refine (HF2 _ hb2).out.mono ?_
          rintro e w3 ⟨rfl, hB3⟩
          have hb3 := below_tr hb2 (below_tr (below_al w2 (.cells #[.string l] 9)) hB3)
          clear hb2 hB3 HF2
          go_wp2_with fail
          refine (HOC _ (HE _ hb3).out (HRD.out.below hb3)).out.mono ?_
          rintro e w5 ⟨u, rfl, hru, hB5⟩
          have HB5 := hid (below_tr hb3 hB5)
          clear hB5 hb3 HOC
          obtain ⟨au, cu, rfl, huc, hum, hucell⟩ := hru.open
          have HUC := hid hucell
          clear hucell hru hE
          go_wp2_with fail
          go_loopw [47] (fun i wr => ∃ n : Nat, n ≤ oc.length + 3 ∧ i = .int .i64 n ∧ Hid (Below w.heap.size w wr) ∧ Hid (Below w5.heap.size w5 wr)) (fun i _ => oc.length + 3 - (intOf i).toNat)
          case atStart => exact ⟨0, by omega, rfl, HB5.out, Below.refl _ _⟩
          case round =>
            obtain ⟨n, hn, rfl, HB, HBu⟩ := hrel
            by_cases hlt : n < oc.length + 3
            · have hni : (n : Int) < (oc.length : Int) + 3 := by omega
              have HFc := HFN wr (HE _ HB.out).out (HRD.out.below HB.out) n (by omega)
              rcases HEC.out n with ⟨p, hc, hp, hE, hF, hT, hpb⟩ | ⟨hc1, hc2, hE, hF, hT⟩ | ⟨hc1, hc2, hE, hF, hT⟩ | ⟨hc1, hc2, hE, hF, hT⟩ | ⟨hc1, hc2, hc3, hE, hF, hT⟩
              all_goals rw [hE, hF, hT] at HFc
              all_goals clear hE hF hT
              · obtain ⟨p', bu, ou, r, hp', rfl, hcu, hx1, hx2⟩ := HUC.out (max n 1 - 1) (List.getElem?_eq_some_iff.1 hp).1
                rw [hp] at hp'
                cases hp'
                have hw1 : IntKind.i64.wrap ((p.2 : Int) + 1) = (p.2 : Int) + 1 := IntWalk.i64_in _ (by omega)
                have HCu := fun w' (h : Below wr.heap.size wr w') => Below.keeps h _ _ (Below.keeps HBu.out _ _ hcu)
                have HX1 := fun w' (h : Below wr.heap.size wr w') => Below.keeps h _ _ (Below.keeps HBu.out _ _ hx1)
                have HX2 := fun w' (h : Below wr.heap.size wr w') => Below.keeps h _ _ (Below.keeps HBu.out _ _ hx2)
                clear hcu hx1 hx2 hp
                obtain ⟨m, hm⟩ : ∃ m, max n 1 = m + 1 := ⟨max n 1 - 1, by omega⟩
                have hmx := fun w => @run_max2j Tryd.prog w #[3, 3] 3 .i64 n m hm
                have hmm : max n 1 - 1 = m := by omega
                rw [hmm] at HCu
                have hmi : (m : Int) < (oc.length : Int) := by omega
                have hm0 : (0 : Int) ≤ (m : Int) := by omega
                clear hmm
                rcases hc with ⟨rfl, hc2⟩ | ⟨hc1, hc2, hc3⟩
                · have q1 : ((oc.length : Int) == 1) = true := by simp; omega
                  obtain rfl : m = 0 := by omega
                  rw [Nat.add_zero] at HCu
                  have hmx0 := fun w => @run_max2z Tryd.prog w #[3, 3] 3 .i64
                  have q5 : (0 : Int) < (oc.length : Int) := by omega
                  clear hc2 hmx hm hmi hm0
                  go_wp2_with fail
                  refine HFc.out.mono ?_
                  rintro e w6 ⟨rfl, hB6⟩
                  have g1 := HCu _ hB6
                  have g2 := HX1 _ hB6
                  have g3 := HX2 _ hB6
                  go_wp2_with fail
                  go_roundw
                  case rel => exact ⟨0 + 1, by omega, by go_num, below_tr HB.out hB6, below_tr HBu.out hB6⟩
                  case measure => first | (simp [intOf]; omega) | simp [intOf]
                · have q1 : ¬ (n : Int) = 0 := by omega
                  have q2 : (n : Int) ≤ (oc.length : Int) := by omega
                  have q3 : (0 : Int) < (n : Int) := by omega
                  have q4 : (1 : Int) < (oc.length : Int) := by omega
                  clear hm
                  go_wp2_with fail
                  refine HFc.out.mono ?_
                  rintro e w6 ⟨rfl, hB6⟩
                  have g1 := HCu _ hB6
                  have g2 := HX1 _ hB6
                  have g3 := HX2 _ hB6
                  go_wp2_with fail
                  go_roundw
                  case rel => exact ⟨n + 1, by omega, by go_num, below_tr HB.out hB6, below_tr HBu.out hB6⟩
                  case measure => first | (simp [intOf]; omega) | simp [intOf]
              · obtain rfl := hc1
                have q1 : ¬ (oc.length : Int) = 1 := by omega
                have q2 : (1 : Int) < (oc.length : Int) := by omega
                go_wp2_with fail
                refine HFc.out.mono ?_
                rintro e w6 ⟨rfl, hB6⟩
                go_wp2_with fail
                go_roundw
                case rel => exact ⟨0 + 1, by omega, by go_num, below_tr HB.out hB6, below_tr HBu.out hB6⟩
                case measure => first | (simp [intOf]; omega) | simp [intOf]
              · obtain rfl := hc1
                have q1 : ¬ (oc.length : Int) = 1 := by omega
                have q2 : ¬ (1 : Int) < (oc.length : Int) := by omega
                clear hc2
                go_wp2_with fail
                refine HFc.out.mono ?_
                rintro e w6 ⟨rfl, hB6⟩
                go_wp2_with fail
                go_roundw
                case rel => exact ⟨0 + 1, by omega, by go_num, below_tr HB.out hB6, below_tr HBu.out hB6⟩
                case measure => first | (simp [intOf]; omega) | simp [intOf]
              · have q1 : ¬ (n : Int) = 0 := by omega
                have q2 : ¬ (n : Int) ≤ (oc.length : Int) := by omega
                have q3 : (0 : Int) < (n : Int) := by omega
                go_wp2_with fail
                refine HFc.out.mono ?_
                rintro e w6 ⟨rfl, hB6⟩
                go_wp2_with fail
                go_roundw
                case rel => exact ⟨n + 1, by omega, by go_num, below_tr HB.out hB6, below_tr HBu.out hB6⟩
                case measure => first | (simp [intOf]; omega) | simp [intOf]
              · have q1 : ¬ (n : Int) = 0 := by omega
                have q2 : (n : Int) ≤ (oc.length : Int) := by omega
                have q3 : (0 : Int) < (n : Int) := by omega
                have q4 : ¬ (1 : Int) < (oc.length : Int) := by omega
                clear hc3
                go_wp2_with fail
                refine HFc.out.mono ?_
                rintro e w6 ⟨rfl, hB6⟩
                go_wp2_with fail
                go_roundw
                case rel => exact ⟨n + 1, by omega, by go_num, below_tr HB.out hB6, below_tr HBu.out hB6⟩
                case measure => first | (simp [intOf]; omega) | simp [intOf]
            · have hni : ¬ (n : Int) < (oc.length : Int) + 3 := by omega
              go_wp2_with fail
              refine (awake43_any _ (HE _ HB.out).out).mono ?_
              rintro e w6 ⟨rfl, hB6⟩
              go_wp2
              go_ret
              exact ⟨rfl, below_tr HB.out hB6⟩
end Go.Proofs.YtkmggnohheomeaaDoor
