/-
  P42.6: the walk of SiglaMore.
-/
import Derived.Test.YtigaflmhdbgmdaaPlM
import Derived.Test.YtigaflmhdbgmdaaConcat
import Derived.Test.YtigaflmhdbgmdaaMeans
import Derived.Test.YtigaflmhdbgmdaaSl2
import Derived.Deep.RegionHeld3
import Derived.IntWalk
namespace Go.Proofs.Ytigaflmhdbgmdaa
open Go.RowKit

theorem RdG.drop {W : World} {b off n cap : Nat} {l : List Grp} (h : RdG W (.slice (some ⟨b, off, none⟩) n cap) l) (k : Nat) (hk : k ≤ l.length) : RdG W (.slice (some ⟨b, off + k * 2, none⟩) (n - k) (cap - k)) (l.drop k) := by
  obtain ⟨a', cap', h1, h2, h3, h4⟩ := h
  cases h1
  refine ⟨_, cap - k, by rw [List.length_drop], by rw [List.length_drop]; omega, by omega, fun i x hx => ?_⟩
  rw [List.getElem?_drop] at hx
  obtain ⟨b', off', m, e, hc, hd, hr⟩ := h4 _ x hx
  cases e
  exact ⟨b, off + k * 2, m, rfl, by rw [show off + k * 2 + i * 2 = off + (k + i) * 2 by omega]; exact hc, by rw [show off + k * 2 + i * 2 + 1 = off + (k + i) * 2 + 1 by omega]; exact hd, hr⟩

theorem RdG.drop' {W : World} {b off n cap : Nat} {l : List Grp} (h : RdG W (.slice (some ⟨b, off, none⟩) n cap) l) (k : Nat) (hk : k ≤ l.length) : RdG W (.slice (if cap = k then some ⟨b, off, none⟩ else some ⟨b, off + k * 2, none⟩) (n - k) (cap - k)) (l.drop k) := by
  by_cases hc : cap = k
  · obtain ⟨a', cap', h1, h2, h3, h4⟩ := h
    cases h1
    rw [if_pos hc, List.drop_of_length_le (by omega)]
    refine ⟨_, _, by rw [show l.length - k = ([] : List Grp).length by simp; omega], by simp, by omega, fun i x hx => ?_⟩
    simp at hx
  · rw [if_neg hc]; exact h.drop k hk
theorem somes {a b : Addr} {n' cap' n cap : Nat} {p : Prop} [Decidable p] (h : Value.slice (if p then some a else some b) n' cap' = .slice none n cap) : cap = 0 := by
  split at h <;> cases h

def zzz : ByteArray := ⟨#[122, 122, 122, 122, 122, 122, 122, 122, 122, 122, 122, 122, 122, 122, 122]⟩
theorem zzz_size : zzz.size ≤ maxLen := by decide +kernel
theorem zzz_name : isNameB zzz = true := by decide +kernel

theorem concat2_any (B : Nat) (v1 v2 : Value) (l1 l2 : List Grp) (w : World) (h1 : w.cell? ⟨B, 0, none⟩ = some v1) (h2 : w.cell? ⟨B, 1, none⟩ = some v2) (r1 : RdG w v1 l1) (r2 : RdG w v2 l2)
    (k1 : l1.length ≤ 20) (k2 : l2.length ≤ 20) (n1 : ∀ n cap, v1 = .slice none n cap → cap = 0) (n2 : ∀ n cap, v2 = .slice none n cap → cap = 0) :
    Calls Try.prog 29 #[.slice (some ⟨B, 0, none⟩) 2 2] w fun e w' => ∃ r, e = .returned r ∧ RdG w' r (l1 ++ l2) ∧ Below w.heap.size w w' := by
  refine (concat_any B [(v1, l1), (v2, l2)] w ?_ (by simp) ?_ ?_).mono ?_
  · intro j p hj
    rcases j with _ | _ | j
    · obtain rfl := Option.some.inj hj; exact ⟨h1, r1⟩
    · obtain rfl := Option.some.inj hj; exact ⟨h2, r2⟩
    · cases hj
  · intro p hp
    simp only [List.mem_cons, List.not_mem_nil, or_false] at hp
    rcases hp with rfl | rfl
    · exact k1
    · exact k2
  · intro p hp
    simp only [List.mem_cons, List.not_mem_nil, or_false] at hp
    rcases hp with rfl | rfl
    · exact n1
    · exact n2
  · rintro e w' ⟨r, he, hr, hB⟩
    exact ⟨r, he, by simpa [catTo] using hr, hB⟩

theorem cell_nw2 (W : World) (o : Obj) (cs : Array Value) (t : TypeId) (i : Nat) {x : Value} (h : cs[i]? = some x) : ((W.alloc o).alloc (.cells cs t)).cell? ⟨W.heap.size + 1, i, none⟩ = some x := by
  have k := cell_nw (W.alloc o) cs t i h
  rwa [show (W.alloc o).heap.size = W.heap.size + 1 by simp] at k

theorem RdG.one {W : World} {B : Nat} {s : ByteArray} {m : Value} {l : List Int} (h0 : W.cell? ⟨B, 0, none⟩ = some (.string s)) (h1 : W.cell? ⟨B, 1, none⟩ = some m) (hm : RdI W m l) : RdG W (.slice (some ⟨B, 0, none⟩) 1 1) [⟨s, l⟩] := by
  refine ⟨_, 1, rfl, Nat.le_refl _, by decide, fun i x hx => ?_⟩
  rcases i with _ | i
  · obtain rfl := Option.some.inj hx
    exact ⟨B, 0, m, rfl, h0, h1, hm⟩
  · cases hx

/-- The case that the statement does not examine. -/
def moreB (names : List ByteArray) (gs : List Grp) : Bool := !fineB names gs || decide (4 < gs.length)

set_option maxHeartbeats 4000000 in
set_option maxRecDepth 100000 in
theorem smore_any (v u : Value) (names : List ByteArray) (gs : List Grp) (b : Nat) (w : World) (hr : RdS w v names) (hg : RdG w u gs) (hz : Szs names) (hzg : SzG gs) (hb : b < 256) (hnl : ∀ n cap, u = .slice none n cap → cap = 0) :
    Calls Try.prog 8 #[v, u, .int .u8 b] w fun e w' => e = .returned (.bool true) ∧ Below w.heap.size w w' := by
  have HF := hid (fine_any v u names gs w hr hg hz hzg)
  by_cases hcase : fineB names gs = true ∧ gs.length ≤ 4
  · obtain ⟨hf, hg4⟩ := hcase
    obtain ⟨hc0, hn8, hg5⟩ := fine_facts hf
    have hs0 := fine_set hf b
    rw [hf] at HF
    have HC := fun w' => hid (chosen_any names.length b w' hn8 hb)
    have HS := fun s w' h1 h2 h3 => hid (short_any v u s names gs (bitsTo b names.length) w' h1 h2 h3 hz hzg (fun _ => ⟨hn8, by omega⟩))
    rw [hs0] at HS
    have HSL := fun j t s w' h1 h2 h3 h4 => hid (short_any v t s names (gs.take j ++ gs.drop (j + 1)) (bitsTo b names.length) w' h1 h2 h3 hz h4 (fun _ => ⟨hn8, by simp; omega⟩))
    have HLL := hid (fun j (h : j < gs.length) => less_len hs0 h)
    have HSTL := hid (fun j => start_less hs0 j)
    have HONE := hid (fun h1 h2 h3 => one_len hs0 (by omega) zzz zzz_name h1 h2 h3)
    have HSTO := hid (fun h1 h2 h3 => start_one hs0 (by omega) zzz zzz_name h1 h2 h3)
    have hsb : (bitsTo b names.length).length ≤ 8 := Nat.le_trans (bitsTo_len _ _) hn8
    clear hs0 hf hc0
    have HSN := hid (fun t s w' h1 h2 h3 h4 => short_any v t s names (gs ++ [⟨zzz, bitsTo b names.length⟩]) (bitsTo b names.length) w' h1 h2 h3 hz h4 (fun _ => ⟨hn8, by simp; omega⟩))
    have HNL := hid hnl
    clear hnl
    generalize bitsTo b names.length = S at *
    generalize shortL names gs S = L at *
    obtain ⟨a0, cap0, rfl, hlc0, hcm0, _⟩ := hr.open
    obtain ⟨ag, capg, rfl, hlcg, hcmg, hcellg⟩ := hg.open
    have HCellg := hid hcellg; clear hcellg
    have hd4 : decide ((4 : Int) < (gs.length : Int)) = false := by simp; omega
    have hd5 : ¬ (4 : Int) < (gs.length : Int) := by omega
    go_enter Try.func8, Try.ntmps8
    go_wp2_with fail
    refine HF.out.mono ?_
    rintro e w1 ⟨rfl, hB1⟩
    clear HF
    go_wp2_with fail
    refine (HC _).out.mono ?_
    rintro e w2 ⟨vs, rfl, hs2, hB2⟩
    have hB := below_tr hB1 hB2
    have hr2 := hr.below hB
    have hg2 := hg.below hB
    obtain ⟨a1, cap1, rfl, hlc1, hcm1, _⟩ := hs2.open
    clear HC hB1 hB2
    go_wp2_with fail
    refine (HS _ _ hr2 hg2 hs2).out.mono ?_
    rintro e w3 ⟨vl, rfl, hl3, hB3⟩
    have hs3 := hs2.below hB3
    have HB3 := hid (below_tr hB hB3)
    obtain ⟨a2, cap2, rfl, hlc2, hcm2, _⟩ := hl3.open
    clear HS hr2 hg2 hs2 hB hB3
    go_wp2_with fail
    go_loopw [41] (fun i wr => ∃ j : Nat, j ≤ gs.length ∧ i = .int .i64 j ∧ Below w3.heap.size w3 wr) (fun i _ => gs.length - (intOf i).toNat)
    case atStart => exact ⟨0, by omega, rfl, Below.refl _ _⟩
    case round =>
      obtain ⟨j, hj, rfl, hB⟩ := hrel
      by_cases hltj : j < gs.length
      · obtain ⟨x, bg, og, m, _, rfl, _, _, _⟩ := HCellg.out j hltj
        have hBw := below_tr HB3.out hB
        have hrw := hr.below hBw
        have hgw := hg.below hBw
        have hsw := hs3.below hB
        have q1 : (j : Int) ≤ (capg : Int) := by omega
        have q2 : j ≤ capg := by omega
        have q3 : (j : Int) + 1 ≤ (gs.length : Int) := by omega
        have q4 : j + 1 ≤ capg := by omega
        have q5 : ((j + 1 : Nat) : Int) ≤ (gs.length : Int) := by omega
        have q6 : j + 1 ≤ gs.length := by omega
        have HT := hid (fun w' (h : RdG w' (.slice (some ⟨bg, og, none⟩) gs.length capg) gs) => h.take j (by omega))
        have HD := hid (fun w' (h : RdG w' (.slice (some ⟨bg, og, none⟩) gs.length capg) gs) => h.drop' (j + 1) (by omega))
        have HZ := hid (fun g (h : g ∈ gs.take j ++ gs.drop (j + 1)) => hzg g (by
          rcases List.mem_append.1 h with h | h
          · exact List.mem_of_mem_take h
          · exact List.mem_of_mem_drop h))
        have HL1 := hid (show (gs.take j).length ≤ 20 by simp; omega)
        have HL2 := hid (show (gs.drop (j + 1)).length ≤ 20 by simp; omega)
        have w1 : IntKind.i64.wrap ((j : Int) + 1) = (j : Int) + 1 := by rw [IntWalk.i64_in _ (by omega)]
        have w2 : (0 : Int) ≤ (j : Int) + 1 := by omega
        have w4 : ((j : Int) + 1).toNat = j + 1 := by omega
        have w5 : (j : Int) + 1 ≤ (capg : Int) := by omega
        go_wp2
        clear hr hg hs3 HCellg hl3 HONE HSTO HSN
        have HSJ := fun t s w' h1 h2 h3 => HSL j t s w' h1 h2 h3 HZ.out
        have HLJ := HLL.out j hltj
        simp only [HSTL.out j] at HSJ
        clear HSL HLL HSTL HZ
        generalize shortL names (gs.take j ++ gs.drop (j + 1)) S = LJ at *
        have hge : (L.length : Int) ≤ (LJ.length : Int) := by omega
        by_cases hcq : capg = j + 1
        · have HD0 := hid (fun w' A n c (hn : n = 0) (h : c ≤ maxLen) => show RdG w' (.slice A n c) (gs.drop (j + 1)) by
            rw [List.drop_of_length_le (by omega), hn]
            exact ⟨_, _, rfl, by simp, h, fun i x hx => by simp at hx⟩)
          clear HD
          subst hcq
          have r1 : (j : Int) ≤ (j : Int) + 1 := by omega
          go_region_held3 (fun w' => RdS w' (.slice a0 names.length cap0) names ∧ RdG w' (.slice (some ⟨bg, og, none⟩) gs.length (j + 1)) gs ∧ RdI w' (.slice a1 S.length cap1) S ∧ Below w3.heap.size w3 w')
            ((refine ⟨?_, ?_, ?_, ?_⟩ <;> first | assumption | (exact Below.drew (by assumption)) | (exact Rd.below (by assumption) (below_al _ _).drew) | (exact RdG.below (by assumption) (below_al _ _).drew) | (exact below_tr (by assumption) (below_al _ _).drew) | go_keep))
            (first
              | (go_at_call 12; go_split_ands; refine (HSJ _ _ _ (by assumption) (by assumption) (by assumption)).out.mono ?_; rintro e wd ⟨rd, rfl, hrd, hBd⟩; obtain ⟨ad, capd, rfl, hlcd, hcmd, _⟩ := hrd.open; have m1 : RdS wd (.slice a0 names.length cap0) names := Rd.below (by assumption) hBd; have m2 : RdG wd (.slice (some ⟨bg, og, none⟩) gs.length (j + 1)) gs := RdG.below (by assumption) hBd; have m3 : RdI wd (.slice a1 S.length cap1) S := Rd.below (by assumption) hBd; have m4 : Below w3.heap.size w3 wd := below_tr (by assumption) hBd)
              | (go_at_call 29; go_split_ands; refine (concat2_any _ _ _ _ _ _ (by exact cell_nw _ _ _ 0 rfl) (by exact cell_nw _ _ _ 1 rfl) (HT.out _ (by assumption)) (HD0.out _ _ _ _ (by first | rfl | omega) (by first | exact Nat.zero_le _ | (rw [Nat.sub_self]; exact Nat.zero_le _))) HL1.out HL2.out (fun _ _ h => by cases h) (fun _ _ h => by cases h)).mono ?_; rintro e wc ⟨r, rfl, hrc, hBc⟩; have k1 : RdS wc (.slice a0 names.length cap0) names := Rd.below (by assumption) hBc; have k2 : RdG wc (.slice (some ⟨bg, og, none⟩) gs.length (j + 1)) gs := RdG.below (by assumption) hBc; have k3 : RdI wc (.slice a1 S.length cap1) S := Rd.below (by assumption) hBc; have k4 : Below w3.heap.size w3 wc := below_tr (by assumption) hBc))
          all_goals go_split_ands
          all_goals
            go_wp2
            go_roundw
            case rel => exact ⟨j + 1, by omega, by go_num, by assumption⟩
            case measure => simp [intOf]; omega
        · simp only [if_neg hcq] at HD
          go_region_held3 (fun w' => RdS w' (.slice a0 names.length cap0) names ∧ RdG w' (.slice (some ⟨bg, og, none⟩) gs.length capg) gs ∧ RdI w' (.slice a1 S.length cap1) S ∧ Below w3.heap.size w3 w')
            ((refine ⟨?_, ?_, ?_, ?_⟩ <;> first | assumption | (exact Below.drew (by assumption)) | (exact Rd.below (by assumption) (below_al _ _).drew) | (exact RdG.below (by assumption) (below_al _ _).drew) | (exact below_tr (by assumption) (below_al _ _).drew) | go_keep))
            (first
              | (go_at_call 12; go_split_ands; refine (HSJ _ _ _ (by assumption) (by assumption) (by assumption)).out.mono ?_; rintro e wd ⟨rd, rfl, hrd, hBd⟩; obtain ⟨ad, capd, rfl, hlcd, hcmd, _⟩ := hrd.open; have m1 : RdS wd (.slice a0 names.length cap0) names := Rd.below (by assumption) hBd; have m2 : RdG wd (.slice (some ⟨bg, og, none⟩) gs.length capg) gs := RdG.below (by assumption) hBd; have m3 : RdI wd (.slice a1 S.length cap1) S := Rd.below (by assumption) hBd; have m4 : Below w3.heap.size w3 wd := below_tr (by assumption) hBd)
              | (go_at_call 29; go_split_ands; refine (concat2_any _ _ _ _ _ _ (by exact cell_nw _ _ _ 0 rfl) (by exact cell_nw _ _ _ 1 rfl) (HT.out _ (by assumption)) (HD.out _ (by assumption)) HL1.out HL2.out (fun _ _ h => by cases h) (fun _ _ h => by cases h)).mono ?_; rintro e wc ⟨r, rfl, hrc, hBc⟩; have k1 : RdS wc (.slice a0 names.length cap0) names := Rd.below (by assumption) hBc; have k2 : RdG wc (.slice (some ⟨bg, og, none⟩) gs.length capg) gs := RdG.below (by assumption) hBc; have k3 : RdI wc (.slice a1 S.length cap1) S := Rd.below (by assumption) hBc; have k4 : Below w3.heap.size w3 wc := below_tr (by assumption) hBc))
          all_goals go_split_ands
          all_goals
            go_wp2
            go_roundw
            case rel => exact ⟨j + 1, by omega, by go_num, by assumption⟩
            case measure => simp [intOf]; omega
      · obtain rfl : j = gs.length := by omega
        clear HSL HLL HSTL HCellg
        have hBw := below_tr HB3.out hB
        have hrw := hr.below hBw
        have hgw := hg.below hBw
        have hsw := hs3.below hB
        have HBw := hid hBw
        have HCS := fun w' h => hid (containsS_any (.slice a0 names.length cap0) names zzz w' h)
        have HCF := fun w' b h (hbox : w'.cell? ⟨b, 0, none⟩ = some (.string zzz)) => hid (containsFuncG_any 31 (enters_of Try.func31 (by kernel_rfl) rfl) (.pointer (some ⟨b, 0, none⟩)) (fun n => decide (n = zzz)) (.slice ag gs.length capg) gs w' h
          (fun n m W' hW' => more1_any n zzz m b 0 W' (Below.keeps hW' _ _ hbox)))
        clear hB hBw hr hg hs3 hl3 HB3
        by_cases hS : S.length = 0
        · have hS' : (S.length : Int) = 0 := by omega
          clear HCS HCF hrw hgw hsw
          go_wp2_with fail
          refine (awake_any _).mono ?_
          rintro e w4 ⟨rfl, hB4⟩
          have hBe := below_tr HBw.out (below_tr (below_al _ _) hB4)
          go_wp2
          go_ret
          exact ⟨rfl, hBe⟩
        · have hS' : ((S.length : Int) == 0) = false := by simp; intro h; exact hS (by simp [h])
          have hS2 : ¬ (S.length : Int) = 0 := by omega
          have hSne : S ≠ [] := fun h => hS (by rw [h]; rfl)
          cases hcn : (names.any fun x => decide (zzz = x)) with
          | true =>
            simp only [hcn] at HCS
            clear HCF
            go_wp2_with fail
            refine (HCS _ (hrw.below (below_al _ _))).out.mono ?_
            rintro e w4 ⟨rfl, rfl⟩
            clear HCS
            go_wp2_with fail
            refine (awake_any _).mono ?_
            rintro e w4 ⟨rfl, hB4⟩
            have hBe := below_tr HBw.out (below_tr (below_al _ _) hB4)
            go_wp2
            go_ret
            exact ⟨rfl, hBe⟩
          | false =>
          have hzn : zzz ∉ names := fun h => by simpa using (List.any_eq_false.1 hcn) zzz h
          simp only [hcn] at HCS
          cases hcg : (gs.any fun g => decide (g.name = zzz)) with
          | true =>
            simp only [hcg] at HCF
            go_wp2_with fail
            refine (HCS _ (hrw.below (below_al _ _))).out.mono ?_
            rintro e w4 ⟨rfl, rfl⟩
            clear HCS
            go_wp2_with fail
            refine (HCF _ _ (hgw.below (below_al _ _)) (cell_nw _ _ _ 0 rfl)).out.mono ?_
            rintro e w4 ⟨rfl, hB3⟩
            clear HCF
            go_wp2_with fail
            refine (awake_any _).mono ?_
            rintro e w5 ⟨rfl, hB4⟩
            have hBe := below_tr HBw.out (below_tr (below_al _ _) (below_tr hB3 hB4))
            go_wp2
            go_ret
            exact ⟨rfl, hBe⟩
          | false =>
          have hgn : ∀ g ∈ gs, g.name ≠ zzz := fun g h => by simpa using (List.any_eq_false.1 hcg) g h
          simp only [hcg] at HCF
          have HL := HONE.out hzn hgn hSne
          have HI := HSTO.out hzn hgn hSne
          simp only [HI] at HSN
          clear HONE HSTO HI hcn hcg hzn hgn hSne
          go_wp2_with fail
          refine (HCS _ (hrw.below (below_al _ _))).out.mono ?_
          rintro e w4 ⟨rfl, rfl⟩
          clear HCS
          go_wp2_with fail
          refine (HCF _ _ (hgw.below (below_al _ _)) (cell_nw _ _ _ 0 rfl)).out.mono ?_
          rintro e w4 ⟨rfl, hB4⟩
          clear HCF
          have hz4 := Below.keeps hB4 _ _ (cell_nw wr #[.string zzz] 9 0 rfl)
          have hBa := below_tr (below_al wr (.cells #[.string zzz] 9)) hB4
          have hr4 := hrw.below hBa
          have hg4' := hgw.below hBa
          have hs4 := hsw.below hBa
          have HB4 := hid (below_tr HBw.out hBa)
          clear hrw hgw hsw HBw hBa hB4
          go_wp2_with fail
          have b1 := below_al w4 (.cells #[.string zzz, .slice a1 S.length cap1] 40)
          have b2 := below_al (w4.alloc (.cells #[.string zzz, .slice a1 S.length cap1] 40)) (.cells #[.slice ag gs.length capg, .slice (some ⟨w4.heap.size, 0, none⟩) 1 1] 23)
          have b3 := below_tr b1 b2
          have hone := (RdG.one (cell_nw w4 #[.string zzz, .slice a1 S.length cap1] 40 0 rfl) (cell_nw w4 #[.string zzz, .slice a1 S.length cap1] 40 1 rfl) (hs4.below b1)).below b2
          refine (concat2_any _ _ _ _ _ _ (cell_nw2 w4 _ #[.slice ag gs.length capg, .slice (some ⟨w4.heap.size, 0, none⟩) 1 1] 23 0 rfl) (cell_nw2 w4 _ #[.slice ag gs.length capg, .slice (some ⟨w4.heap.size, 0, none⟩) 1 1] 23 1 rfl) (hg4'.below b3) hone (by omega) (by simp) HNL.out (fun _ _ h => by cases h)).mono ?_
          rintro e w5 ⟨r, rfl, hrc, hB5⟩
          have b5 := below_tr b3 hB5
          have hr5 := hr4.below b5
          have hs5 := hs4.below b5
          have HB5 := hid (below_tr HB4.out b5)
          clear b1 b2 b3 hone hB5 b5 HB4 hr4 hs4 hg4'
          go_wp2_with fail
          refine (HSN.out _ _ _ hr5 hrc hs5 (fun g h => by
            rcases List.mem_append.1 h with h | h
            · exact hzg g h
            · rw [List.mem_singleton] at h; subst h; exact zzz_size)).mono ?_
          rintro e w6 ⟨ro, rfl, hro, hB6⟩
          obtain ⟨ao, capo, rfl, hlco, hcmo, _⟩ := hro.open
          have HB6 := hid (below_tr HB5.out hB6)
          clear HSN hr5 hrc hs5 HB5 hB6 hro
          generalize shortL names (gs ++ [⟨zzz, S⟩]) S = LO at *
          have hlo : (LO.length : Int) = 1 := by omega
          go_wp2_with fail
          refine (awake_any _).mono ?_
          rintro e w7 ⟨rfl, hB7⟩
          have hBe := below_tr HB6.out hB7
          go_wp2
          go_ret
          exact ⟨rfl, hBe⟩
  · have hor : fineB names gs = false ∨ (fineB names gs = true ∧ 4 < gs.length) := by
      cases h : fineB names gs with
      | false => exact .inl rfl
      | true => exact .inr ⟨rfl, Nat.lt_of_not_le fun k => hcase ⟨h, k⟩⟩
    obtain ⟨ag, capg, rfl, hlcg, hcmg, _⟩ := hg.open
    clear hcase hz hzg
    rcases hor with h | ⟨h, h4⟩
    all_goals
      rw [h] at HF
      clear h
      go_enter Try.func8, Try.ntmps8
      go_wp2_with fail
      refine HF.out.mono ?_
      rintro e w1 ⟨rfl, hB1⟩
      go_wp2_with fail
      refine (awake_any _).mono ?_
      rintro e w2 ⟨rfl, hB2⟩
      have hB := below_tr hB1 hB2
      go_wp2
      go_ret
      exact ⟨rfl, hB⟩
end Go.Proofs.Ytigaflmhdbgmdaa
