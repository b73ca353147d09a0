/-
  P43.2: the walk of LemmaFound.
-/
import Derived.Test.YtkmggnohheomeaaDoorFind
import Derived.Test.YtkmggnohheomeaaDoorLOnly
import Derived.Deep.RegionHeld3
import Derived.StillTailTactics
namespace Go.Proofs.YtkmggnohheomeaaDoor
open Go.RowKit

theorem wrap_small {x : Nat} (h : x ≤ 1000) : wrap64 ((x : Int) + 1) = (x : Int) + 1 := by unfold wrap64; omega
theorem found_plain {oc : List (Nat × Nat)} (hs : oc.Pairwise pLt) {p : Nat × Nat} (hp : p ∈ oc) (hb : p.2 ≤ 1000) : findE oc (ofNum oc p) = 0 ∧ findF oc (ofNum oc p) = p.1 ∧ findT oc (ofNum oc p) = (p.2 : Int) + 1 := by
  obtain ⟨j, hj⟩ := List.getElem?_of_mem hp
  have hlt := (List.getElem?_eq_some_iff.1 hj).1
  by_cases h1 : oc.length = 1
  · have hn : ofNum oc p = 0 := by unfold ofNum; rw [if_pos h1]
    have hE : findE oc 0 = 0 := by
      unfold findE endE
      rw [if_neg (by omega), if_neg (by omega), if_neg (by omega)]
    have h0 : j = 0 := by omega
    subst h0
    rw [hn]
    refine ⟨hE, ?_, ?_⟩
    · unfold findF; rw [if_pos hE]; unfold fOf; rw [show max 0 1 - 1 = 0 by rfl, hj]
    · unfold findT; rw [if_pos hE]; unfold tOf; rw [show max 0 1 - 1 = 0 by rfl, hj]; exact wrap_small hb
  · have hn : ofNum oc p = j + 1 := by unfold ofNum; rw [if_neg h1]; exact numP_at hs hj
    have hE : findE oc (j + 1) = 0 := by
      unfold findE endE
      rw [if_neg (by omega), if_neg (by omega), if_neg (by omega)]
    rw [hn]
    refine ⟨hE, ?_, ?_⟩
    · unfold findF; rw [if_pos hE]; unfold fOf; rw [show max (j + 1) 1 - 1 = j by omega, hj]
    · unfold findT; rw [if_pos hE]; unfold tOf; rw [show max (j + 1) 1 - 1 = j by omega, hj]; exact wrap_small hb
theorem found_lem {ws : List ByteArray} (hw : ∀ s ∈ ws, wordB s = true) {a b : Nat} (h1 : a < b) (h2 : b ≤ ws.length) {n : Nat} (hn : n ≤ 65536) : lemCk (ws.getD a ⟨#[]⟩) (lastW ws a b) n = 0 := by
  have e1 : ws[a]? = some (ws.getD a ⟨#[]⟩) := by rw [List.getD_eq_getElem?_getD, List.getElem?_eq_getElem (by omega)]; rfl
  have e2 : ws[b - 1]? = some (ws.getD (b - 1) ⟨#[]⟩) := by rw [List.getD_eq_getElem?_getD, List.getElem?_eq_getElem (by omega)]; rfl
  have g1 := hw _ (List.mem_of_getElem? e1)
  have g2 := hw _ (List.mem_of_getElem? e2)
  unfold lemCk
  rw [g1]
  have : (decide ((lastW ws a b).size ≠ 0) && !wordB (lastW ws a b)) = false := by
    unfold lastW
    by_cases h : b - a = 1
    · rw [if_pos h]; rfl
    · rw [if_neg h, g2]; simp
  rw [this, if_neg (by simp), if_neg (by omega)]

set_option maxRecDepth 100000 in
set_option maxHeartbeats 800000 in
theorem lfound_any (v : Value) (ws : List ByteArray) (u1 u2 : Nat) (w : World) (he : Env w) (hr : RdS w v ws) (hz : Szs ws) (h1 : u1 < 256) (h2 : u2 < 256) :
    Calls Tryd.prog 6 #[v, .int .u8 u1, .int .u8 u2] w fun e w' => e = .returned (.bool true) ∧ Below w.heap.size w w' := by
  have HF := hid (fine_any v ws w he hr hz)
  have HE := fun w' (h : Below w.heap.size w w') => hid (he.below h)
  cases hf : fineB ws with
  | false =>
    rw [hf] at HF
    obtain ⟨a, cap, rfl, hlc, hcm, _⟩ := hr.open
    go_enter Tryd.func6, Tryd.ntmps6
    go_wp2_with fail
    refine HF.out.mono ?_
    rintro e w1 ⟨rfl, hB1⟩
    go_wp2_with fail
    refine (awake43_any _ (HE _ hB1).out).mono ?_
    rintro e w2 ⟨rfl, hB2⟩
    go_wp2
    go_ret
    exact ⟨rfl, below_tr hB1 hB2⟩
  | true =>
    rw [hf] at HF
    obtain ⟨hlen, hwd, hsz⟩ := fine_all hf
    have hck := fine_check hf
    by_cases hn : ws.length = 0
    · obtain rfl : ws = [] := List.eq_nil_of_length_eq_zero hn
      obtain ⟨a, cap, rfl, hlc, hcm, _⟩ := hr.open
      simp only [List.length_nil] at HF
      clear hr hn hlen hwd hsz hck hz
      go_enter Tryd.func6, Tryd.ntmps6
      go_wp2_with fail
      refine HF.out.mono ?_
      rintro e w1 ⟨rfl, hB1⟩
      go_wp2_with fail
      refine (awake43_any _ (HE _ hB1).out).mono ?_
      rintro e w2 ⟨rfl, hB2⟩
      go_wp2
      go_ret
      exact ⟨rfl, below_tr hB1 hB2⟩
    · have hni : ¬ (ws.length : Int) = 0 := by omega
      have hne : ∀ s ∈ ws, s.size ≠ 0 := fun s hs => wordB_ne (hwd s hs)
      have hA := Nat.mod_lt u1 (show 0 < ws.length by omega)
      have hB := Nat.mod_lt u2 (show 0 < ws.length - u1 % ws.length by omega)
      have HP1 := fun w' (h : RdS w' v ws) => hid (part_any v ws u1 u2 w' h h1 h2 (by omega) hlen)
      obtain ⟨a, ha⟩ : ∃ a, a = u1 % ws.length := ⟨_, rfl⟩
      obtain ⟨b, hb⟩ : ∃ b, b = u1 % ws.length + 1 + u2 % (ws.length - u1 % ws.length) := ⟨_, rfl⟩
      have hab : a < b := by omega
      have hbl : b ≤ ws.length := by omega
      rw [← hb, ← ha] at HP1
      clear ha hb hA hB
      have hsz2 : ∀ s ∈ ws, s.size ≤ 65536 := fun s hs => by have := hsz s hs; omega
      have HO1 := fun w' (h : Env w') (h2 : RdS w' v ws) => hid (of_any ws a b v w' h h2 hsz2 (by omega) hck hab hbl hne)
      have hmem := part_mem hne hab hbl
      have hol := occ_len (ws := ws) (by omega) (ws.getD a ⟨#[]⟩) (lastW ws a b)
      have hnn : ofNum (occ ws (ws.getD a ⟨#[]⟩) (lastW ws a b)) (a, b - 1) ≤ 182 := by
        unfold ofNum
        split
        · omega
        · have := numP_le (p := (a, b - 1)) (occ_sorted ws (ws.getD a ⟨#[]⟩) (lastW ws a b)); omega
      obtain ⟨fp1, fp2, fp3⟩ := found_plain (occ_sorted _ _ _) hmem (by show b - 1 ≤ 1000; omega)
      have hlk := found_lem hwd hab hbl (n := ofNum (occ ws (ws.getD a ⟨#[]⟩) (lastW ws a b)) (a, b - 1)) (by omega)
      have e1 : ws[a]? = some (ws.getD a ⟨#[]⟩) := by rw [List.getD_eq_getElem?_getD, List.getElem?_eq_getElem (by omega)]; rfl
      have e2 : ws[b - 1]? = some (ws.getD (b - 1) ⟨#[]⟩) := by rw [List.getD_eq_getElem?_getD, List.getElem?_eq_getElem (by omega)]; rfl
      have hfs : (ws.getD a ⟨#[]⟩).size ≤ 65536 := hsz2 _ (List.mem_of_getElem? e1)
      have hls : (lastW ws a b).size ≤ 65536 := by
        unfold lastW
        split
        · show (0 : Nat) ≤ 65536; omega
        · exact hsz2 _ (List.mem_of_getElem? e2)
      have HFN := fun w' (h : Env w') (h2 : RdS w' v ws) => hid (find_any ws _ _ _ v w' h h2 hsz2 hfs hls (by omega) hck hlk)
      have HLK := fun w' (h : Env w') => hid (lck_any _ _ (ofNum (occ ws (ws.getD a ⟨#[]⟩) (lastW ws a b)) (a, b - 1) : Int) w' h hfs hls)
      rw [fp1, fp2, fp3] at HFN
      rw [hlk] at HLK
      have hbb : ((b - 1 : Nat) : Int) + 1 = (b : Int) := by omega
      rw [show ((a, b - 1) : Nat × Nat).2 = b - 1 from rfl, show ((a, b - 1) : Nat × Nat).1 = a from rfl, hbb] at HFN
      have HLW : Hid ((b - a = 1 ∧ lastW ws a b = ⟨#[]⟩) ∨ (b - a ≠ 1 ∧ lastW ws a b = ws.getD (b - 1) ⟨#[]⟩ ∧ (ws.getD (b - 1) ⟨#[]⟩).size ≠ 0)) := by
        by_cases h : b - a = 1
        · exact .inl ⟨h, by unfold lastW; rw [if_pos h]⟩
        · exact .inr ⟨h, by unfold lastW; rw [if_neg h], hne _ (List.mem_of_getElem? e2)⟩
      generalize ofNum (occ ws (ws.getD a ⟨#[]⟩) (lastW ws a b)) (a, b - 1) = n at *
      obtain ⟨ad, cap, rfl, hlc, hcm, hcell⟩ := hr.open
      obtain ⟨s1, b1, o1, hs1, rfl, hc1⟩ := hcell a (by omega)
      obtain ⟨s2, b2, o2, hs2, he2, hc2⟩ := hcell (b - 1) (by omega)
      cases he2
      have g1 : ws.getD a ⟨#[]⟩ = s1 := by rw [List.getD_eq_getElem?_getD, hs1]; rfl
      have g2 : ws.getD (b - 1) ⟨#[]⟩ = s2 := by rw [List.getD_eq_getElem?_getD, hs2]; rfl
      simp only [g1, g2] at *
      have HRD := hid hr
      generalize lastW ws a b = L at *
      clear he hz hwd hsz hck hne hsz2 hcell hmem hol fp1 fp2 fp3 hlk e1 e2 hfs hls hs1 hs2 g1 g2 hnn hr
      go_enter Tryd.func6, Tryd.ntmps6
      go_wp2_with fail
      refine HF.out.mono ?_
      rintro e w1 ⟨rfl, hB1⟩
      go_wp2_with fail
      refine (HP1 _ (HRD.out.below hB1)).out.mono ?_
      rintro e w2 ⟨rfl, hB2⟩
      have hb2 := below_tr hB1 hB2
      go_wp2_with fail
      refine (HO1 _ (HE _ hb2).out (HRD.out.below hb2)).out.mono ?_
      rintro e w3 ⟨rfl, hB3⟩
      have hb3 := below_tr hb2 hB3
      have hb4 := below_tr hb3 (below_al w3 (.cells #[.string s1, .string L, .int .i64 n] 28))
      have ha4 := hid (row_nw w3 #[.string s1, .string L, .int .i64 n] 28 rfl)
      clear hB1 hB2 hb2 hB3 hb3 HP1 HF HO1
      go_wp2_with fail
      generalize w3.alloc (.cells #[.string s1, .string L, .int .i64 n] 28) = w4 at *
      refine (HFN _ (HE _ hb4).out (HRD.out.below hb4)).out.mono ?_
      rintro e w5 ⟨rfl, hB5⟩
      have hb5 := below_tr hb4 hB5
      have ha5 := hid (ha4.out.below hB5)
      have p0 := ha5.out.cell 0 rfl
      have p1 := ha5.out.cell 1 rfl
      have p2 := ha5.out.cell 2 rfl
      have k1 := Below.keeps hb5 _ _ hc1
      have k2 := Below.keeps hb5 _ _ hc2
      clear hb4 ha4 hB5 HFN hc1 hc2
      have ha4i : (a : Int) < (ws.length : Int) := by omega
      have hbi : IntKind.i64.wrap ((b : Int) - 1) = (b : Int) - 1 := IntWalk.i64_in _ (by omega)
      have hbj : (b : Int) - 1 < (ws.length : Int) := by omega
      have hbk : ((b : Int) - 1).toNat = b - 1 := by omega
      have hbm : (0 : Int) ≤ (b : Int) - 1 := by omega
      have HEE := fun w' (h : Below w5.heap.size w5 w') => hid ((HE _ (below_tr hb5 h)).out)
      have HK2 := hid k2
      clear k2
      go_wp2_with fail
      go_region_held3 (fun w' => w'.cell? ⟨w3.heap.size, 0, none⟩ = some (.string s1) ∧ w'.cell? ⟨w3.heap.size, 1, none⟩ = some (.string L) ∧ w'.cell? ⟨w3.heap.size, 2, none⟩ = some (.int .i64 n) ∧ w'.cell? ⟨b1, o1 + a, none⟩ = some (.string s1) ∧ Below w5.heap.size w5 w')
        ((refine ⟨?_, ?_, ?_, ?_, ?_⟩ <;> first | assumption | (exact Below.refl _ _) | (exact Below.drew (by assumption)) | (exact (Below.refl _ _).drew) | go_keep))
        (first
          | (go_at_call 20; go_split_ands; refine (HLK _ (HEE _ (by assumption)).out).out.mono ?_; rintro e w6 ⟨rfl, hB6⟩; have z0 := Below.keeps hB6 _ _ (by assumption : World.cell? _ ⟨w3.heap.size, 0, none⟩ = some _); have z1 := Below.keeps hB6 _ _ (by assumption : World.cell? _ ⟨w3.heap.size, 1, none⟩ = some _); have z2 := Below.keeps hB6 _ _ (by assumption : World.cell? _ ⟨w3.heap.size, 2, none⟩ = some _); have z3 := Below.keeps hB6 _ _ (by assumption : World.cell? _ ⟨b1, o1 + a, none⟩ = some _); have z5 : Below w5.heap.size w5 w6 := below_tr (by assumption) hB6))
      all_goals go_split_ands
      all_goals go_wp2_with fail
      have kk2 : w6.cell? ⟨b1, o1 + (b - 1), none⟩ = some (.string s2) := Below.keeps z5 _ _ HK2.out
      have HBD : Hid (Below w.heap.size w w6.drew) := Below.drew (below_tr hb5 z5)
      have HAWd := hid (awake43_any w6.drew (HE _ HBD.out).out)
      have hE := ba_isE L
      have hsub : IntKind.i64.wrap ((b : Int) - (a : Int)) = (b : Int) - (a : Int) := IntWalk.i64_in _ (by omega)
      rcases HLW.out with ⟨hd, hL⟩ | ⟨hd, hL, hz2⟩
      · rw [decide_eq_true (by rw [hL]; rfl)] at hE
        have e1 : ((b : Int) - (a : Int) == 1) = true := by simp; omega
        have e2 : IntKind.i64.wrap ((b : Int) - (a : Int)) = 1 := hsub.trans (by omega)
        clear hsub e1
        have y1 : w6.drew.cell? ⟨w3.heap.size, 1, none⟩ = some (.string L) := z1
        have y2 : w6.drew.cell? ⟨b1, o1 + (b - 1), none⟩ = some (.string s2) := kk2
        clear hL hd HLW HLK HEE z0 z1 z2 z3 z5 kk2 p0 p1 p2 k1
        refine (wpIn_wide (n := 9)).1 ?_
        refine wpIn_region_any (by kernel_rfl) ?_
        change wpAnyIn _ _ _ _ _ _ _ _ _ (World.drew _)
        generalize w6.drew = wd at *
        refine wpAnyIn_take (i := 0) (v := ?v1) rfl rfl (by kernel_rfl) (by kernel_rfl) (by kernel_rfl) (fun _ _ _ h => h) ⟨Or.inl ⟨by rfl, ?hy1⟩, fun _ => rfl⟩ ?rest1
        case hy1 => (intro w; go_simp; try (with_reducible rfl))
        simp only [Act.put, List.getElem_toArray, List.getElem_cons_zero, List.setIfInBounds_toArray, List.set_cons_zero, List.set_cons_succ]
        refine wpAnyIn_take (i := 3) (v := ?v2) rfl rfl (by kernel_rfl) (by kernel_rfl) (by kernel_rfl) (fun _ _ _ h => h) ⟨Or.inl ⟨by rfl, ?hy2⟩, fun _ => rfl⟩ ?rest2
        case hy2 => (intro w; go_simp; try (with_reducible rfl))
        simp only [Act.put, List.getElem_toArray, List.getElem_cons_succ, List.getElem_cons_zero, List.setIfInBounds_toArray, List.set_cons_zero, List.set_cons_succ]
        refine wpAnyIn_take (i := 4) (v := ?v3) rfl rfl (by kernel_rfl) (by kernel_rfl) (by kernel_rfl) (fun _ _ _ h => h) ⟨Or.inl ⟨by rfl, ?hy3⟩, fun _ => rfl⟩ ?rest3
        case hy3 => (intro w; go_simp; try (with_reducible rfl))
        simp only [Act.put, List.getElem_toArray, List.getElem_cons_succ, List.getElem_cons_zero, List.setIfInBounds_toArray, List.set_cons_zero, List.set_cons_succ]
        refine wpAnyIn_take (i := 5) (v := ?v4) rfl rfl (by kernel_rfl) (by kernel_rfl) (by kernel_rfl) (fun _ _ _ h => h) ⟨Or.inl ⟨by rfl, ?hy4⟩, fun _ => rfl⟩ ?rest4
        case hy4 => (intro w; go_simp; try (with_reducible rfl))
        simp only [Act.put, List.getElem_toArray, List.getElem_cons_succ, List.getElem_cons_zero, List.setIfInBounds_toArray, List.set_cons_zero, List.set_cons_succ]
        refine wpAnyIn_take (i := 6) (v := ?v5) rfl rfl (by kernel_rfl) (by kernel_rfl) (by kernel_rfl) (fun _ _ _ h => h) ⟨Or.inl ⟨by rfl, ?hy5⟩, fun _ => rfl⟩ ?rest5
        case hy5 => (intro w; go_simp; try (with_reducible rfl))
        simp only [Act.put, List.getElem_toArray, List.getElem_cons_succ, List.getElem_cons_zero, List.setIfInBounds_toArray, List.set_cons_zero, List.set_cons_succ]
        refine wpAnyIn_ready (rs := [1]) (by kernel_rfl) (by simp) (AllReadyIn.cons rfl (fun K hK => ?_) AllReadyIn.nil)
        go_simp
        refine hK _ _ ?_
        clear hK K
        refine wpAnyIn_take (i := 2) (v := ?v6) rfl rfl (by kernel_rfl) (by kernel_rfl) (by kernel_rfl) (fun _ _ _ h => h) ⟨Or.inl ⟨by rfl, ?hy6⟩, fun _ => rfl⟩ ?rest6
        case hy6 => (intro w; go_simp; try (with_reducible rfl))
        simp only [Act.put, List.getElem_toArray, List.getElem_cons_succ, List.getElem_cons_zero, List.setIfInBounds_toArray, List.set_cons_zero, List.set_cons_succ]
        refine wpAnyIn_take (i := 7) (v := ?v7) rfl rfl (by kernel_rfl) (by kernel_rfl) (by kernel_rfl) (fun _ _ _ h => h) ⟨Or.inl ⟨by rfl, ?hy7⟩, fun _ => rfl⟩ ?rest7
        case hy7 => (intro w; go_simp; try (with_reducible rfl))
        simp only [Act.put, List.getElem_toArray, List.getElem_cons_succ, List.getElem_cons_zero, List.setIfInBounds_toArray, List.set_cons_zero, List.set_cons_succ]
        refine wpAnyIn_take (i := 8) (v := ?v8) rfl rfl (by kernel_rfl) (by kernel_rfl) (by kernel_rfl) (fun _ _ _ h => h) ⟨Or.inl ⟨by rfl, ?hy8⟩, fun _ => rfl⟩ ?rest8
        case hy8 => (intro w; go_simp; try (with_reducible rfl))
        simp only [Act.put, List.getElem_toArray, List.getElem_cons_succ, List.getElem_cons_zero, List.setIfInBounds_toArray, List.set_cons_zero, List.set_cons_succ]
        refine wpAnyIn_take (i := 9) (v := ?v9) rfl rfl (by kernel_rfl) (by kernel_rfl) (by kernel_rfl) (fun _ _ _ h => h) ⟨Or.inl ⟨by rfl, ?hy9⟩, fun _ => rfl⟩ ?rest9
        case hy9 => (intro w; go_simp; try (with_reducible rfl))
        simp only [Act.put, List.getElem_toArray, List.getElem_cons_succ, List.getElem_cons_zero, List.setIfInBounds_toArray, List.set_cons_zero, List.set_cons_succ]
        refine wpAnyIn_ready (rs := [10]) (by kernel_rfl) (by simp) (AllReadyIn.cons rfl (fun K hK => ?_) AllReadyIn.nil)
        go_simp
        refine hK _ _ ?_
        clear hK K
        refine wpAnyIn_take (i := 11) (v := ?v10) rfl rfl (by kernel_rfl) (by kernel_rfl) (by kernel_rfl) (fun _ _ _ h => h) ⟨Or.inl ⟨by rfl, ?hy10⟩, fun _ => rfl⟩ ?rest10
        case hy10 => (intro w; go_simp; try (with_reducible rfl))
        simp only [Act.put, List.getElem_toArray, List.getElem_cons_succ, List.getElem_cons_zero, List.setIfInBounds_toArray, List.set_cons_zero, List.set_cons_succ]
        refine wpAnyIn_take (i := 12) (v := ?v11) rfl rfl (by kernel_rfl) (by kernel_rfl) (by kernel_rfl) (fun _ _ _ h => h) ⟨Or.inl ⟨by rfl, ?hy11⟩, fun _ => rfl⟩ ?rest11
        case hy11 => (intro w; go_simp; try (with_reducible rfl))
        simp only [Act.put, List.getElem_toArray, List.getElem_cons_succ, List.getElem_cons_zero, List.setIfInBounds_toArray, List.set_cons_zero, List.set_cons_succ]
        refine wpAnyIn_take (i := 13) (v := undef) rfl rfl (by kernel_rfl) (by kernel_rfl) (by kernel_rfl) (fun _ _ _ h => h) ⟨Or.inr ⟨by rfl, rfl⟩, fun _ => rfl⟩ ?_
        simp only [Act.put, List.getElem_toArray, List.getElem_cons_succ, List.getElem_cons_zero, List.setIfInBounds_toArray, List.set_cons_zero, List.set_cons_succ]
        refine wpAnyIn_take (i := 14) (v := undef) rfl rfl (by kernel_rfl) (by kernel_rfl) (by kernel_rfl) (fun _ _ _ h => h) ⟨Or.inr ⟨by rfl, rfl⟩, fun _ => rfl⟩ ?_
        simp only [Act.put, List.getElem_toArray, List.getElem_cons_succ, List.getElem_cons_zero, List.setIfInBounds_toArray, List.set_cons_zero, List.set_cons_succ]
        refine wpAnyIn_take (i := 15) (v := undef) rfl rfl (by kernel_rfl) (by kernel_rfl) (by kernel_rfl) (fun _ _ _ h => h) ⟨Or.inr ⟨by rfl, rfl⟩, fun _ => rfl⟩ ?_
        simp only [Act.put, List.getElem_toArray, List.getElem_cons_succ, List.getElem_cons_zero, List.setIfInBounds_toArray, List.set_cons_zero, List.set_cons_succ]
        refine wpAnyIn_take (i := 16) (v := undef) rfl rfl (by kernel_rfl) (by kernel_rfl) (by kernel_rfl) (fun _ _ _ h => h) ⟨Or.inr ⟨by rfl, rfl⟩, fun _ => rfl⟩ ?_
        simp only [Act.put, List.getElem_toArray, List.getElem_cons_succ, List.getElem_cons_zero, List.setIfInBounds_toArray, List.set_cons_zero, List.set_cons_succ]
        refine wpAnyIn_take (i := 17) (v := undef) rfl rfl (by kernel_rfl) (by kernel_rfl) (by kernel_rfl) (fun _ _ _ h => h) ⟨Or.inr ⟨by rfl, rfl⟩, fun _ => rfl⟩ ?_
        simp only [Act.put, List.getElem_toArray, List.getElem_cons_succ, List.getElem_cons_zero, List.setIfInBounds_toArray, List.set_cons_zero, List.set_cons_succ]
        refine wpAnyIn_take (i := 18) (v := undef) rfl rfl (by kernel_rfl) (by kernel_rfl) (by kernel_rfl) (fun _ _ _ h => h) ⟨Or.inr ⟨by rfl, rfl⟩, fun _ => rfl⟩ ?_
        simp only [Act.put, List.getElem_toArray, List.getElem_cons_succ, List.getElem_cons_zero, List.setIfInBounds_toArray, List.set_cons_zero, List.set_cons_succ]
        refine wpAnyIn_take (i := 19) (v := undef) rfl rfl (by kernel_rfl) (by kernel_rfl) (by kernel_rfl) (fun _ _ _ h => h) ⟨Or.inr ⟨by rfl, rfl⟩, fun _ => rfl⟩ ?_
        simp only [Act.put, List.getElem_toArray, List.getElem_cons_succ, List.getElem_cons_zero, List.setIfInBounds_toArray, List.set_cons_zero, List.set_cons_succ]
        refine wpAnyIn_take (i := 20) (v := undef) rfl rfl (by kernel_rfl) (by kernel_rfl) (by kernel_rfl) (fun _ _ _ h => h) ⟨Or.inr ⟨by rfl, rfl⟩, fun _ => rfl⟩ ?_
        simp only [Act.put, List.getElem_toArray, List.getElem_cons_succ, List.getElem_cons_zero, List.setIfInBounds_toArray, List.set_cons_zero, List.set_cons_succ]
        refine wpAnyIn_take (i := 21) (v := ?v12) rfl rfl (by kernel_rfl) (by kernel_rfl) (by kernel_rfl) (fun _ _ _ h => h) ⟨Or.inl ⟨by rfl, ?hy12⟩, fun _ => rfl⟩ ?rest12
        case hy12 => (intro w; go_simp; try (with_reducible rfl))
        simp only [Act.put, List.getElem_toArray, List.getElem_cons_succ, List.getElem_cons_zero, List.setIfInBounds_toArray, List.set_cons_zero, List.set_cons_succ]
        refine wpAnyIn_take (i := 22) (v := ?v13) rfl rfl (by kernel_rfl) (by kernel_rfl) (by kernel_rfl) (fun _ _ _ h => h) ⟨Or.inl ⟨by rfl, ?hy13⟩, fun _ => rfl⟩ ?rest13
        case hy13 => (intro w; go_simp; try (with_reducible rfl))
        simp only [Act.put, List.getElem_toArray, List.getElem_cons_succ, List.getElem_cons_zero, List.setIfInBounds_toArray, List.set_cons_zero, List.set_cons_succ]
        refine wpAnyIn_take (i := 23) (v := ?v14) rfl rfl (by kernel_rfl) (by kernel_rfl) (by kernel_rfl) (fun _ _ _ h => h) ⟨Or.inl ⟨by rfl, ?hy14⟩, fun _ => rfl⟩ ?rest14
        case hy14 => (intro w; go_simp; try (with_reducible rfl))
        simp only [Act.put, List.getElem_toArray, List.getElem_cons_succ, List.getElem_cons_zero, List.setIfInBounds_toArray, List.set_cons_zero, List.set_cons_succ]
        refine wpAnyIn_ready (rs := [24]) (by kernel_rfl) (by simp) (AllReadyIn.cons rfl (fun K hK => ?_) AllReadyIn.nil)
        go_simp
        refine ⟨trivial, (callsIn_wide.2 HAWd.out).mono ?_⟩
        rintro e w7 ⟨rfl, hB7⟩
        refine hK _ _ ?_
        clear hK K
        refine wpAnyIn_take (i := 25) (v := ?v15) rfl rfl (by kernel_rfl) (by kernel_rfl) (by kernel_rfl) (fun _ _ _ h => h) ⟨Or.inl ⟨by rfl, ?hy15⟩, fun _ => rfl⟩ ?rest15
        case hy15 => (intro w; go_simp; try (with_reducible rfl))
        simp only [Act.put, List.getElem_toArray, List.getElem_cons_succ, List.getElem_cons_zero, List.setIfInBounds_toArray, List.set_cons_zero, List.set_cons_succ]
        refine wpAnyIn_take (i := 26) (v := ?v16) rfl rfl (by kernel_rfl) (by kernel_rfl) (by kernel_rfl) (fun _ _ _ h => h) ⟨Or.inl ⟨by rfl, ?hy16⟩, fun _ => rfl⟩ ?rest16
        case hy16 => (intro w; go_simp; try (with_reducible rfl))
        simp only [Act.put, List.getElem_toArray, List.getElem_cons_succ, List.getElem_cons_zero, List.setIfInBounds_toArray, List.set_cons_zero, List.set_cons_succ]
        refine wpAnyIn_done (by kernel_rfl) ?_ _
        go_wp2
        go_ret
        exact ⟨rfl, below_tr HBD.out hB7⟩
      · have hb1 : (1 : Int) ≤ (b : Int) := by omega
        rw [hL] at z1 hE
        rw [decide_eq_false hz2] at hE
        have e1 : ((b : Int) - (a : Int) == 1) = false := by simp; omega
        have e2 : ¬ (b : Int) - (a : Int) = 1 := by omega
        have y1 : w6.drew.cell? ⟨w3.heap.size, 1, none⟩ = some (.string s2) := z1
        have y2 : w6.drew.cell? ⟨b1, o1 + (b - 1), none⟩ = some (.string s2) := kk2
        clear hL hd HLW HLK HEE hz2 z0 z1 z2 z3 z5 kk2 p0 p1 p2 k1
        refine (wpIn_wide (n := 9)).1 ?_
        refine wpIn_region_any (by kernel_rfl) ?_
        change wpAnyIn _ _ _ _ _ _ _ _ _ (World.drew _)
        generalize w6.drew = wd at *
        refine wpAnyIn_take (i := 0) (v := ?v17) rfl rfl (by kernel_rfl) (by kernel_rfl) (by kernel_rfl) (fun _ _ _ h => h) ⟨Or.inl ⟨by rfl, ?hy17⟩, fun _ => rfl⟩ ?rest17
        case hy17 => (intro w; go_simp; try (with_reducible rfl))
        simp only [Act.put, List.getElem_toArray, List.getElem_cons_zero, List.setIfInBounds_toArray, List.set_cons_zero, List.set_cons_succ]
        refine wpAnyIn_take (i := 3) (v := ?v18) rfl rfl (by kernel_rfl) (by kernel_rfl) (by kernel_rfl) (fun _ _ _ h => h) ⟨Or.inl ⟨by rfl, ?hy18⟩, fun _ => rfl⟩ ?rest18
        case hy18 => (intro w; go_simp; try (with_reducible rfl))
        simp only [Act.put, List.getElem_toArray, List.getElem_cons_succ, List.getElem_cons_zero, List.setIfInBounds_toArray, List.set_cons_zero, List.set_cons_succ]
        refine wpAnyIn_take (i := 4) (v := ?v19) rfl rfl (by kernel_rfl) (by kernel_rfl) (by kernel_rfl) (fun _ _ _ h => h) ⟨Or.inl ⟨by rfl, ?hy19⟩, fun _ => rfl⟩ ?rest19
        case hy19 => (intro w; go_simp; try (with_reducible rfl))
        simp only [Act.put, List.getElem_toArray, List.getElem_cons_succ, List.getElem_cons_zero, List.setIfInBounds_toArray, List.set_cons_zero, List.set_cons_succ]
        refine wpAnyIn_take (i := 5) (v := ?v20) rfl rfl (by kernel_rfl) (by kernel_rfl) (by kernel_rfl) (fun _ _ _ h => h) ⟨Or.inl ⟨by rfl, ?hy20⟩, fun _ => rfl⟩ ?rest20
        case hy20 => (intro w; go_simp; try (with_reducible rfl))
        simp only [Act.put, List.getElem_toArray, List.getElem_cons_succ, List.getElem_cons_zero, List.setIfInBounds_toArray, List.set_cons_zero, List.set_cons_succ]
        refine wpAnyIn_take (i := 6) (v := ?v21) rfl rfl (by kernel_rfl) (by kernel_rfl) (by kernel_rfl) (fun _ _ _ h => h) ⟨Or.inl ⟨by rfl, ?hy21⟩, fun _ => rfl⟩ ?rest21
        case hy21 => (intro w; go_simp; try (with_reducible rfl))
        simp only [Act.put, List.getElem_toArray, List.getElem_cons_succ, List.getElem_cons_zero, List.setIfInBounds_toArray, List.set_cons_zero, List.set_cons_succ]
        refine wpAnyIn_ready (rs := [1]) (by kernel_rfl) (by simp) (AllReadyIn.cons rfl (fun K hK => ?_) AllReadyIn.nil)
        go_simp
        refine hK _ _ ?_
        clear hK K
        refine wpAnyIn_take (i := 2) (v := ?v22) rfl rfl (by kernel_rfl) (by kernel_rfl) (by kernel_rfl) (fun _ _ _ h => h) ⟨Or.inl ⟨by rfl, ?hy22⟩, fun _ => rfl⟩ ?rest22
        case hy22 => (intro w; go_simp; try (with_reducible rfl))
        simp only [Act.put, List.getElem_toArray, List.getElem_cons_succ, List.getElem_cons_zero, List.setIfInBounds_toArray, List.set_cons_zero, List.set_cons_succ]
        refine wpAnyIn_take (i := 7) (v := ?v23) rfl rfl (by kernel_rfl) (by kernel_rfl) (by kernel_rfl) (fun _ _ _ h => h) ⟨Or.inl ⟨by rfl, ?hy23⟩, fun _ => rfl⟩ ?rest23
        case hy23 => (intro w; go_simp; try (with_reducible rfl))
        simp only [Act.put, List.getElem_toArray, List.getElem_cons_succ, List.getElem_cons_zero, List.setIfInBounds_toArray, List.set_cons_zero, List.set_cons_succ]
        refine wpAnyIn_take (i := 8) (v := ?v24) rfl rfl (by kernel_rfl) (by kernel_rfl) (by kernel_rfl) (fun _ _ _ h => h) ⟨Or.inl ⟨by rfl, ?hy24⟩, fun _ => rfl⟩ ?rest24
        case hy24 => (intro w; go_simp; try (with_reducible rfl))
        simp only [Act.put, List.getElem_toArray, List.getElem_cons_succ, List.getElem_cons_zero, List.setIfInBounds_toArray, List.set_cons_zero, List.set_cons_succ]
        refine wpAnyIn_take (i := 9) (v := ?v25) rfl rfl (by kernel_rfl) (by kernel_rfl) (by kernel_rfl) (fun _ _ _ h => h) ⟨Or.inl ⟨by rfl, ?hy25⟩, fun _ => rfl⟩ ?rest25
        case hy25 => (intro w; go_simp; try (with_reducible rfl))
        simp only [Act.put, List.getElem_toArray, List.getElem_cons_succ, List.getElem_cons_zero, List.setIfInBounds_toArray, List.set_cons_zero, List.set_cons_succ]
        refine wpAnyIn_ready (rs := [10]) (by kernel_rfl) (by simp) (AllReadyIn.cons rfl (fun K hK => ?_) AllReadyIn.nil)
        go_simp
        refine hK _ _ ?_
        clear hK K
        refine wpAnyIn_take (i := 11) (v := ?v26) rfl rfl (by kernel_rfl) (by kernel_rfl) (by kernel_rfl) (fun _ _ _ h => h) ⟨Or.inl ⟨by rfl, ?hy26⟩, fun _ => rfl⟩ ?rest26
        case hy26 => (intro w; go_simp; try (with_reducible rfl))
        simp only [Act.put, List.getElem_toArray, List.getElem_cons_succ, List.getElem_cons_zero, List.setIfInBounds_toArray, List.set_cons_zero, List.set_cons_succ]
        refine wpAnyIn_take (i := 12) (v := ?v27) rfl rfl (by kernel_rfl) (by kernel_rfl) (by kernel_rfl) (fun _ _ _ h => h) ⟨Or.inl ⟨by rfl, ?hy27⟩, fun _ => rfl⟩ ?rest27
        case hy27 => (intro w; go_simp; try (with_reducible rfl))
        simp only [Act.put, List.getElem_toArray, List.getElem_cons_succ, List.getElem_cons_zero, List.setIfInBounds_toArray, List.set_cons_zero, List.set_cons_succ]
        refine wpAnyIn_take (i := 13) (v := ?v28) rfl rfl (by kernel_rfl) (by kernel_rfl) (by kernel_rfl) (fun _ _ _ h => h) ⟨Or.inl ⟨by rfl, ?hy28⟩, fun _ => rfl⟩ ?rest28
        case hy28 => (intro w; go_simp; try (with_reducible rfl))
        simp only [Act.put, List.getElem_toArray, List.getElem_cons_succ, List.getElem_cons_zero, List.setIfInBounds_toArray, List.set_cons_zero, List.set_cons_succ]
        refine wpAnyIn_take (i := 15) (v := ?v29) rfl rfl (by kernel_rfl) (by kernel_rfl) (by kernel_rfl) (fun _ _ _ h => h) ⟨Or.inl ⟨by rfl, ?hy29⟩, fun _ => rfl⟩ ?rest29
        case hy29 => (intro w; go_simp; try (with_reducible rfl))
        simp only [Act.put, List.getElem_toArray, List.getElem_cons_succ, List.getElem_cons_zero, List.setIfInBounds_toArray, List.set_cons_zero, List.set_cons_succ]
        refine wpAnyIn_take (i := 16) (v := ?v30) rfl rfl (by kernel_rfl) (by kernel_rfl) (by kernel_rfl) (fun _ _ _ h => h) ⟨Or.inl ⟨by rfl, ?hy30⟩, fun _ => rfl⟩ ?rest30
        case hy30 => (intro w; go_simp; try (with_reducible rfl))
        simp only [Act.put, List.getElem_toArray, List.getElem_cons_succ, List.getElem_cons_zero, List.setIfInBounds_toArray, List.set_cons_zero, List.set_cons_succ]
        refine wpAnyIn_take (i := 17) (v := ?v31) rfl rfl (by kernel_rfl) (by kernel_rfl) (by kernel_rfl) (fun _ _ _ h => h) ⟨Or.inl ⟨by rfl, ?hy31⟩, fun _ => rfl⟩ ?rest31
        case hy31 => (intro w; go_simp; try (with_reducible rfl))
        simp only [Act.put, List.getElem_toArray, List.getElem_cons_succ, List.getElem_cons_zero, List.setIfInBounds_toArray, List.set_cons_zero, List.set_cons_succ]
        refine wpAnyIn_take (i := 18) (v := ?v32) rfl rfl (by kernel_rfl) (by kernel_rfl) (by kernel_rfl) (fun _ _ _ h => h) ⟨Or.inl ⟨by rfl, ?hy32⟩, fun _ => rfl⟩ ?rest32
        case hy32 => (intro w; go_simp; try (with_reducible rfl))
        simp only [Act.put, List.getElem_toArray, List.getElem_cons_succ, List.getElem_cons_zero, List.setIfInBounds_toArray, List.set_cons_zero, List.set_cons_succ]
        refine wpAnyIn_ready (rs := [14, 19]) (by kernel_rfl) (by simp) (AllReadyIn.cons rfl (fun K hK => ?_) (AllReadyIn.cons rfl (fun K hK => ?_) AllReadyIn.nil))
        · go_simp
          refine hK _ _ ?_
          clear hK K
          refine wpAnyIn_ready (rs := [19]) (by kernel_rfl) (by simp) (AllReadyIn.cons rfl (fun K hK => ?_) AllReadyIn.nil)
          go_simp
          refine hK _ _ ?_
          clear hK K
          refine wpAnyIn_take (i := 20) (v := ?v33) rfl rfl (by kernel_rfl) (by kernel_rfl) (by kernel_rfl) (fun _ _ _ h => h) ⟨Or.inl ⟨by rfl, ?hy33⟩, fun _ => rfl⟩ ?rest33
          case hy33 => (intro w; go_simp; try (with_reducible rfl))
          simp only [Act.put, List.getElem_toArray, List.getElem_cons_succ, List.getElem_cons_zero, List.setIfInBounds_toArray, List.set_cons_zero, List.set_cons_succ]
          refine wpAnyIn_take (i := 21) (v := ?v34) rfl rfl (by kernel_rfl) (by kernel_rfl) (by kernel_rfl) (fun _ _ _ h => h) ⟨Or.inl ⟨by rfl, ?hy34⟩, fun _ => rfl⟩ ?rest34
          case hy34 => (intro w; go_simp; try (with_reducible rfl))
          simp only [Act.put, List.getElem_toArray, List.getElem_cons_succ, List.getElem_cons_zero, List.setIfInBounds_toArray, List.set_cons_zero, List.set_cons_succ]
          refine wpAnyIn_take (i := 22) (v := ?v35) rfl rfl (by kernel_rfl) (by kernel_rfl) (by kernel_rfl) (fun _ _ _ h => h) ⟨Or.inl ⟨by rfl, ?hy35⟩, fun _ => rfl⟩ ?rest35
          case hy35 => (intro w; go_simp; try (with_reducible rfl))
          simp only [Act.put, List.getElem_toArray, List.getElem_cons_succ, List.getElem_cons_zero, List.setIfInBounds_toArray, List.set_cons_zero, List.set_cons_succ]
          refine wpAnyIn_take (i := 23) (v := ?v36) rfl rfl (by kernel_rfl) (by kernel_rfl) (by kernel_rfl) (fun _ _ _ h => h) ⟨Or.inl ⟨by rfl, ?hy36⟩, fun _ => rfl⟩ ?rest36
          case hy36 => (intro w; go_simp; try (with_reducible rfl))
          simp only [Act.put, List.getElem_toArray, List.getElem_cons_succ, List.getElem_cons_zero, List.setIfInBounds_toArray, List.set_cons_zero, List.set_cons_succ]
          refine wpAnyIn_ready (rs := [24]) (by kernel_rfl) (by simp) (AllReadyIn.cons rfl (fun K hK => ?_) AllReadyIn.nil)
          go_simp
          refine ⟨trivial, (callsIn_wide.2 HAWd.out).mono ?_⟩
          rintro e w7 ⟨rfl, hB7⟩
          refine hK _ _ ?_
          clear hK K
          refine wpAnyIn_take (i := 25) (v := ?v37) rfl rfl (by kernel_rfl) (by kernel_rfl) (by kernel_rfl) (fun _ _ _ h => h) ⟨Or.inl ⟨by rfl, ?hy37⟩, fun _ => rfl⟩ ?rest37
          case hy37 => (intro w; go_simp; try (with_reducible rfl))
          simp only [Act.put, List.getElem_toArray, List.getElem_cons_succ, List.getElem_cons_zero, List.setIfInBounds_toArray, List.set_cons_zero, List.set_cons_succ]
          refine wpAnyIn_take (i := 26) (v := ?v38) rfl rfl (by kernel_rfl) (by kernel_rfl) (by kernel_rfl) (fun _ _ _ h => h) ⟨Or.inl ⟨by rfl, ?hy38⟩, fun _ => rfl⟩ ?rest38
          case hy38 => (intro w; go_simp; try (with_reducible rfl))
          simp only [Act.put, List.getElem_toArray, List.getElem_cons_succ, List.getElem_cons_zero, List.setIfInBounds_toArray, List.set_cons_zero, List.set_cons_succ]
          refine wpAnyIn_done (by kernel_rfl) ?_ _
          go_wp2
          go_ret
          exact ⟨rfl, below_tr HBD.out hB7⟩
        · go_simp
          refine hK _ _ ?_
          clear hK K
          refine wpAnyIn_ready (rs := [14]) (by kernel_rfl) (by simp) (AllReadyIn.cons rfl (fun K hK => ?_) AllReadyIn.nil)
          go_simp
          refine hK _ _ ?_
          clear hK K
          refine wpAnyIn_take (i := 20) (v := ?v39) rfl rfl (by kernel_rfl) (by kernel_rfl) (by kernel_rfl) (fun _ _ _ h => h) ⟨Or.inl ⟨by rfl, ?hy39⟩, fun _ => rfl⟩ ?rest39
          case hy39 => (intro w; go_simp; try (with_reducible rfl))
          simp only [Act.put, List.getElem_toArray, List.getElem_cons_succ, List.getElem_cons_zero, List.setIfInBounds_toArray, List.set_cons_zero, List.set_cons_succ]
          refine wpAnyIn_take (i := 21) (v := ?v40) rfl rfl (by kernel_rfl) (by kernel_rfl) (by kernel_rfl) (fun _ _ _ h => h) ⟨Or.inl ⟨by rfl, ?hy40⟩, fun _ => rfl⟩ ?rest40
          case hy40 => (intro w; go_simp; try (with_reducible rfl))
          simp only [Act.put, List.getElem_toArray, List.getElem_cons_succ, List.getElem_cons_zero, List.setIfInBounds_toArray, List.set_cons_zero, List.set_cons_succ]
          refine wpAnyIn_take (i := 22) (v := ?v41) rfl rfl (by kernel_rfl) (by kernel_rfl) (by kernel_rfl) (fun _ _ _ h => h) ⟨Or.inl ⟨by rfl, ?hy41⟩, fun _ => rfl⟩ ?rest41
          case hy41 => (intro w; go_simp; try (with_reducible rfl))
          simp only [Act.put, List.getElem_toArray, List.getElem_cons_succ, List.getElem_cons_zero, List.setIfInBounds_toArray, List.set_cons_zero, List.set_cons_succ]
          refine wpAnyIn_take (i := 23) (v := ?v42) rfl rfl (by kernel_rfl) (by kernel_rfl) (by kernel_rfl) (fun _ _ _ h => h) ⟨Or.inl ⟨by rfl, ?hy42⟩, fun _ => rfl⟩ ?rest42
          case hy42 => (intro w; go_simp; try (with_reducible rfl))
          simp only [Act.put, List.getElem_toArray, List.getElem_cons_succ, List.getElem_cons_zero, List.setIfInBounds_toArray, List.set_cons_zero, List.set_cons_succ]
          refine wpAnyIn_ready (rs := [24]) (by kernel_rfl) (by simp) (AllReadyIn.cons rfl (fun K hK => ?_) AllReadyIn.nil)
          go_simp
          refine ⟨trivial, (callsIn_wide.2 HAWd.out).mono ?_⟩
          rintro e w7 ⟨rfl, hB7⟩
          refine hK _ _ ?_
          clear hK K
          refine wpAnyIn_take (i := 25) (v := ?v43) rfl rfl (by kernel_rfl) (by kernel_rfl) (by kernel_rfl) (fun _ _ _ h => h) ⟨Or.inl ⟨by rfl, ?hy43⟩, fun _ => rfl⟩ ?rest43
          case hy43 => (intro w; go_simp; try (with_reducible rfl))
          simp only [Act.put, List.getElem_toArray, List.getElem_cons_succ, List.getElem_cons_zero, List.setIfInBounds_toArray, List.set_cons_zero, List.set_cons_succ]
          refine wpAnyIn_take (i := 26) (v := ?v44) rfl rfl (by kernel_rfl) (by kernel_rfl) (by kernel_rfl) (fun _ _ _ h => h) ⟨Or.inl ⟨by rfl, ?hy44⟩, fun _ => rfl⟩ ?rest44
          case hy44 => (intro w; go_simp; try (with_reducible rfl))
          simp only [Act.put, List.getElem_toArray, List.getElem_cons_succ, List.getElem_cons_zero, List.setIfInBounds_toArray, List.set_cons_zero, List.set_cons_succ]
          refine wpAnyIn_done (by kernel_rfl) ?_ _
          go_wp2
          go_ret
          exact ⟨rfl, below_tr HBD.out hB7⟩
theorem lfoundI_any (v : Value) (ws : List ByteArray) (b1 b2 : Int) (w : World) (he : Env w) (hr : RdS w v ws) (hz : Szs ws) (r1 : 0 ≤ b1 ∧ b1 < 256) (r2 : 0 ≤ b2 ∧ b2 < 256) :
    Calls Tryd.prog 6 #[v, .int .u8 b1, .int .u8 b2] w fun e w' => e = .returned (.bool true) ∧ Below w.heap.size w w' := by
  obtain ⟨u1, rfl⟩ := Int.eq_ofNat_of_zero_le r1.1
  obtain ⟨u2, rfl⟩ := Int.eq_ofNat_of_zero_le r2.1
  exact lfound_any v ws u1 u2 w he hr hz (by omega) (by omega)
end Go.Proofs.YtkmggnohheomeaaDoor
