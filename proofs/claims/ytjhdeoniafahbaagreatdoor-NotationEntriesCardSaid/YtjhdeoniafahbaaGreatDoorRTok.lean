/-
  The reference's word: gapped, has, named, Check of a token, word, checkWords, Check of a lemma.
-/
import Derived.Test.YtjhdeoniafahbaaGreatDoorPlWd
import Derived.Test.YtjhdeoniafahbaaGreatDoorJ04
import Derived.Deep.RegionHeld3
namespace Go.Proofs.YtjhdeoniafahbaaGreatDoor
open Go.RowKit

def gapS (n : Int) : ByteArray := (⟨#[91]⟩ ++ itoaB n) ++ ⟨#[93]⟩
theorem gapS_data (n : Int) : (gapS n).data.toList = 91 :: ((itoaB n).data.toList ++ [93]) := by
  unfold gapS; simp
theorem gap_is {s : ByteArray} (h : gapB s = true) : ∃ n : Nat, 1 ≤ n ∧ n ≤ 64 ∧ s = gapS n := by
  obtain ⟨h1, h2⟩ := gap_data h
  obtain ⟨h3, h4, _⟩ := dec_back h2
  have h5 : decV (innB s) ≤ 64 := by
    unfold gapB at h
    simp only [Bool.and_eq_true, decide_eq_true_eq] at h
    exact h.2
  refine ⟨(decV (innB s)).toNat, by omega, by omega, ?_⟩
  rw [show (((decV (innB s)).toNat : Nat) : Int) = decV (innB s) by omega]
  refine ba_ext2 ?_
  rw [gapS_data, h3, ← h1]
where
  ba_ext2 {a b : ByteArray} (h : a.data.toList = b.data.toList) : a = b := by
    cases a; cases b
    exact congrArg ByteArray.mk (Array.toList_inj.1 h)
theorem gap_of {n : Nat} (h1 : 1 ≤ n) (h2 : n ≤ 64) : gapB (gapS n) = true := by
  obtain ⟨d1, d2⟩ := dec_itoa (n := (n : Int)) (by omega) (by omega)
  have hd := gapS_data n
  have e1 : cutPB (gapS n) ⟨#[91]⟩ = true := by
    unfold cutPB Lib.hasPrefix
    rw [hd]; rfl
  have hsz : (gapS n).size = (itoaB n).data.toList.length + 2 := by
    show (gapS n).data.size = _
    rw [← Array.length_toList, hd]; simp
  have hp : (cutPS (gapS n) ⟨#[91]⟩).data.toList = (itoaB n).data.toList ++ [93] := by
    unfold cutPS
    rw [if_pos e1, ByteArray.data_extract, Array.toList_extract, hd, hsz]
    simp [List.extract, show (⟨#[91]⟩ : ByteArray).size = 1 from rfl]
    refine List.take_of_length_le ?_
    rw [List.length_append, Array.length_toList]; exact Nat.le_refl _
  have e2 : cutXB (cutPS (gapS n) ⟨#[91]⟩) ⟨#[93]⟩ = true := by
    unfold cutXB Lib.hasSuffix
    rw [hp, List.isSuffixOf_iff_suffix]
    exact ⟨_, rfl⟩
  have hps : (cutPS (gapS n) ⟨#[91]⟩).size = (itoaB n).data.toList.length + 1 := by
    show (cutPS (gapS n) ⟨#[91]⟩).data.size = _
    rw [← Array.length_toList, hp]; simp
  have e3 : innB (gapS n) = itoaB n := by
    refine gap_is.ba_ext2 ?_
    unfold innB cutXS
    rw [if_pos e2, ByteArray.data_extract, Array.toList_extract, hp, hps]
    simp [List.extract, show (⟨#[93]⟩ : ByteArray).size = 1 from rfl]
  unfold gapB
  rw [e1, e2, e3, d1, d2]
  simp; omega
theorem itoaS_le (n : Nat) (h : n ≤ 64) : (itoaB n).size ≤ 9 := by
  show (itoaB n).data.size ≤ 9
  rw [← Array.length_toList, itoaB_data (by omega), Lib.decDigits_length]
  exact nDigits_9 _ (by omega)

set_option maxRecDepth 100000 in
set_option maxHeartbeats 1000000 in
theorem gapped_any (s : ByteArray) (w : World) (he : Env w) (_hs : s.size ≤ 65536) :
    Calls Tryz.prog 152 #[.string s] w fun e w' => e = .returned (.bool (gapB s)) ∧ Below w.heap.size w w' := by
  have HIT := fun w' (h : Below w.heap.size w w') (n : Nat) (hn : n ≤ 64) => hid (itoa_b n w' (he.below h) (by omega) (by omega))
  go_enter Tryz.func152, Tryz.ntmps152
  go_wp2_with fail
  go_loopw [3] (fun i wr => ∃ n : Nat, 1 ≤ n ∧ n ≤ 65 ∧ i = .int .i64 n ∧ Hid (∀ m : Nat, 1 ≤ m → m < n → s ≠ gapS m) ∧ Hid (Below w.heap.size w wr)) (fun i _ => 65 - (intOf i).toNat)
  case atStart => exact ⟨1, by omega, by omega, rfl, fun m h1 h2 => by omega, Below.refl _ _⟩
  case round =>
    obtain ⟨n, h1, h2, rfl, HN, HB⟩ := hrel
    by_cases hlt : n ≤ 64
    · have hni : (n : Int) ≤ 64 := by omega
      have hz := itoaS_le n hlt
      have HG : Hid (gapS n = (⟨#[91]⟩ ++ itoaB n) ++ ⟨#[93]⟩) := rfl
      have HI := HIT wr HB.out n hlt
      by_cases hg : s = gapS n
      · have q : (s.toList == ((⟨#[91]⟩ ++ itoaB n) ++ ⟨#[93]⟩ : ByteArray).toList) = true := by rw [← HG.out, ← hg]; simp
        have HR : Hid (gapB s = true) := by unfold Hid; rw [hg]; exact gap_of h1 hlt
        clear hg
        go_wp2_with fail
        refine HI.out.mono ?_
        rintro e w1 ⟨rfl, hB1⟩
        go_wp2
        go_ret
        exact ⟨ret_bool HR.out.symm, below_tr HB.out hB1⟩
      · have q : (s.toList == ((⟨#[91]⟩ ++ itoaB n) ++ ⟨#[93]⟩ : ByteArray).toList) = false := by rw [← HG.out, ba_beq]; simpa using hg
        have HN2 : Hid (∀ m : Nat, 1 ≤ m → m < n + 1 → s ≠ gapS m) := fun m h3 h4 => by
          by_cases h5 : m = n
          · rw [h5]; exact hg
          · exact HN.out m h3 (by omega)
        clear hg HN
        go_wp2_with fail
        refine HI.out.mono ?_
        rintro e w1 ⟨rfl, hB1⟩
        have HB1 := hid (below_tr HB.out hB1)
        clear hB1
        go_wp2_with fail
        go_roundw
        case rel => exact ⟨n + 1, by omega, by omega, by go_num, HN2.out, HB1.out⟩
        case measure => simp [intOf]; omega
    · have hni : ¬ (n : Int) ≤ 64 := by omega
      have HR : Hid (gapB s = false) := by
        unfold Hid
        cases hg : gapB s with
        | false => rfl
        | true =>
          obtain ⟨m, h3, h4, h5⟩ := gap_is hg
          exact absurd h5 (HN.out m h3 (by omega))
      clear HN
      go_wp2
      go_ret
      exact ⟨ret_bool HR.out.symm, HB.out⟩
theorem named0_any (w : World) : Calls Tryz.prog 154 #[.string ⟨#[]⟩] w fun e w' => e = .returned (.bool true) ∧ w = w' := by
  go_enter Tryz.func154, Tryz.ntmps154
  go_wp2
  go_ret
  exact ⟨rfl, rfl⟩

def tokV (s : ByteArray) (n : Int) : Value := .agg #[.string s, .string s, .string ⟨#[]⟩, .int .i64 0, .int .i64 n, .string ⟨#[]⟩]
theorem has_any (s : ByteArray) (n k : Int) (w : World) (hn : n = 2 ∨ n = 8) (hk : k = 2 ∨ k = 8) : Calls Tryz.prog 151 #[tokV s n, .int .i64 k] w fun e w' => e = .returned (.bool (decide (n = k))) ∧ Below w.heap.size w w' := by
  unfold tokV
  rcases hn with rfl | rfl
  all_goals rcases hk with rfl | rfl
  all_goals
    go_enter Tryz.func151, Tryz.ntmps151
    go_wp2
    go_ret
    exact ⟨rfl, below_al _ _⟩
def tokE (s : ByteArray) (n : Int) : Int := if n = 2 then (if gapB s = true then 0 else 11) else (if s.size = 1 ∧ (firstK s = 5 ∨ firstK s = 4) then 0 else 11)

set_option maxRecDepth 100000 in
set_option maxHeartbeats 2000000 in
theorem rtok_any (s : ByteArray) (n : Int) (w : World) (he : Env w) (hs : s.size ≤ 65536) (hn : n = 2 ∨ n = 8) :
    Calls Tryz.prog 132 #[tokV s n] w fun e w' => e = .returned (.int .i64 (tokE s n)) ∧ Below w.heap.size w w' := by
  have HH := fun w' k hk => hid (has_any s n k w' hn hk)
  have hb0 := below_al w (.cells #[.string s, .string s, .string ⟨#[]⟩, .int .i64 0, .int .i64 n, .string ⟨#[]⟩] 150)
  have hr0 := hid (row_nw w #[.string s, .string s, .string ⟨#[]⟩, .int .i64 0, .int .i64 n, .string ⟨#[]⟩] 150 rfl)
  have HG := fun w' (h : Below w.heap.size w w') => hid (gapped_any s w' (he.below h) hs)
  unfold tokV at HH ⊢
  have c0 := hr0.out.cell 0 rfl
  have c1 := hr0.out.cell 1 rfl
  have c2 := hr0.out.cell 2 rfl
  have c3 := hr0.out.cell 3 rfl
  have c4 := hr0.out.cell 4 rfl
  have c5 := hr0.out.cell 5 rfl
  rcases hn with rfl | rfl
  · cases hg : gapB s with
    | true =>
      have HT : Hid (tokE s 2 = 0) := by unfold Hid tokE; rw [if_pos rfl, hg]; rfl
      rw [hg] at HG
      clear hg
      go_enter Tryz.func132, Tryz.ntmps132
      go_wp2_with fail
      generalize w.alloc (.cells #[.string s, .string s, .string ⟨#[]⟩, .int .i64 0, .int .i64 2, .string ⟨#[]⟩] 150) = w0 at *
      go_region_held3 (fun w' => w'.cell? ⟨w.heap.size, 0, none⟩ = some (.string s) ∧ w'.cell? ⟨w.heap.size, 1, none⟩ = some (.string s) ∧ w'.cell? ⟨w.heap.size, 2, none⟩ = some (.string ⟨#[]⟩) ∧ w'.cell? ⟨w.heap.size, 3, none⟩ = some (.int .i64 0) ∧ w'.cell? ⟨w.heap.size, 4, none⟩ = some (.int .i64 2) ∧ w'.cell? ⟨w.heap.size, 5, none⟩ = some (.string ⟨#[]⟩) ∧ Below w0.heap.size w0 w')
        ((refine ⟨?_, ?_, ?_, ?_, ?_, ?_, ?_⟩ <;> first | assumption | (exact Below.refl _ _) | (exact Below.drew (by assumption)) | (exact (Below.refl _ _).drew) | go_keep))
        (first
          | (go_at_call 151; go_split_ands; refine (HH _ _ (by first | exact .inl rfl | exact .inr rfl)).out.mono ?_; rintro e w6 ⟨rfl, hB6⟩; have z0 := Below.keeps hB6 _ _ (by assumption : World.cell? _ ⟨w.heap.size, 0, none⟩ = some _); have z1 := Below.keeps hB6 _ _ (by assumption : World.cell? _ ⟨w.heap.size, 1, none⟩ = some _); have z2 := Below.keeps hB6 _ _ (by assumption : World.cell? _ ⟨w.heap.size, 2, none⟩ = some _); have z3 := Below.keeps hB6 _ _ (by assumption : World.cell? _ ⟨w.heap.size, 3, none⟩ = some _); have z4 := Below.keeps hB6 _ _ (by assumption : World.cell? _ ⟨w.heap.size, 4, none⟩ = some _); have z5 := Below.keeps hB6 _ _ (by assumption : World.cell? _ ⟨w.heap.size, 5, none⟩ = some _); have z6 : Below w0.heap.size w0 w6 := below_tr (by assumption) hB6))
      all_goals go_split_ands
      have HB6 := hid (below_tr hb0 z6)
      clear hB6 HH z6 c0 c1 c2 c3 c4 c5
      go_wp2_with fail
      refine (HG _ HB6.out).out.mono ?_
      rintro e w7 ⟨rfl, hB7⟩
      have y0 := Below.keeps hB7 _ _ z0
      have y1 := Below.keeps hB7 _ _ z1
      have y2 := Below.keeps hB7 _ _ z2
      have y3 := Below.keeps hB7 _ _ z3
      have y4 := Below.keeps hB7 _ _ z4
      have y5 := Below.keeps hB7 _ _ z5
      have HB7 := hid (below_tr HB6.out hB7)
      clear hB7 z0 z1 z2 z3 z4 z5 HB6 HG
      go_wp2_with (go_at_call 154; refine (named0_any _).mono ?_; rintro e w' ⟨rfl, rfl⟩)
      go_ret
      exact ⟨ret_int HT.out.symm, HB7.out⟩
    | false =>
      have HT : Hid (tokE s 2 = 11) := by unfold Hid tokE; rw [if_pos rfl, hg]; rfl
      rw [hg] at HG
      clear hg
      go_enter Tryz.func132, Tryz.ntmps132
      go_wp2_with fail
      generalize w.alloc (.cells #[.string s, .string s, .string ⟨#[]⟩, .int .i64 0, .int .i64 2, .string ⟨#[]⟩] 150) = w0 at *
      go_region_held3 (fun w' => w'.cell? ⟨w.heap.size, 0, none⟩ = some (.string s) ∧ w'.cell? ⟨w.heap.size, 1, none⟩ = some (.string s) ∧ w'.cell? ⟨w.heap.size, 2, none⟩ = some (.string ⟨#[]⟩) ∧ w'.cell? ⟨w.heap.size, 3, none⟩ = some (.int .i64 0) ∧ w'.cell? ⟨w.heap.size, 4, none⟩ = some (.int .i64 2) ∧ w'.cell? ⟨w.heap.size, 5, none⟩ = some (.string ⟨#[]⟩) ∧ Below w0.heap.size w0 w')
        ((refine ⟨?_, ?_, ?_, ?_, ?_, ?_, ?_⟩ <;> first | assumption | (exact Below.refl _ _) | (exact Below.drew (by assumption)) | (exact (Below.refl _ _).drew) | go_keep))
        (first
          | (go_at_call 151; go_split_ands; refine (HH _ _ (by first | exact .inl rfl | exact .inr rfl)).out.mono ?_; rintro e w6 ⟨rfl, hB6⟩; have z0 := Below.keeps hB6 _ _ (by assumption : World.cell? _ ⟨w.heap.size, 0, none⟩ = some _); have z1 := Below.keeps hB6 _ _ (by assumption : World.cell? _ ⟨w.heap.size, 1, none⟩ = some _); have z2 := Below.keeps hB6 _ _ (by assumption : World.cell? _ ⟨w.heap.size, 2, none⟩ = some _); have z3 := Below.keeps hB6 _ _ (by assumption : World.cell? _ ⟨w.heap.size, 3, none⟩ = some _); have z4 := Below.keeps hB6 _ _ (by assumption : World.cell? _ ⟨w.heap.size, 4, none⟩ = some _); have z5 := Below.keeps hB6 _ _ (by assumption : World.cell? _ ⟨w.heap.size, 5, none⟩ = some _); have z6 : Below w0.heap.size w0 w6 := below_tr (by assumption) hB6))
      all_goals go_split_ands
      have HB6 := hid (below_tr hb0 z6)
      clear hB6 HH z6 c0 c1 c2 c3 c4 c5
      go_wp2_with fail
      refine (HG _ HB6.out).out.mono ?_
      rintro e w7 ⟨rfl, hB7⟩
      have y0 := Below.keeps hB7 _ _ z0
      have y1 := Below.keeps hB7 _ _ z1
      have y2 := Below.keeps hB7 _ _ z2
      have y3 := Below.keeps hB7 _ _ z3
      have y4 := Below.keeps hB7 _ _ z4
      have y5 := Below.keeps hB7 _ _ z5
      have HB7 := hid (below_tr HB6.out hB7)
      clear hB7 z0 z1 z2 z3 z4 z5 HB6 HG
      go_wp2
      go_ret
      exact ⟨ret_int HT.out.symm, HB7.out⟩
  · clear HG
    by_cases h1 : s.size = 1
    · have hfk := firstK_at s (by omega)
      have hu := byte_bd s[0]
      have HK := fun w' => hid (rkind_any (s[0].toNat : Int) hu.1 hu.2 w')
      rw [← hfk] at HK
      have HTE : Hid (tokE s 8 = if (firstK s = 5 ∨ firstK s = 4) then 0 else 11) := by unfold Hid tokE; rw [if_neg (by omega)]; simp [h1]
      have hsi : (s.size : Int) = 1 := by omega
      have hsi0 : (0 : Int) < (s.size : Int) := by omega
      generalize firstK s = kk at *
      generalize tokE s 8 = te at *
      clear hfk
      by_cases h5 : kk = 5
      · subst h5
        have HT : Hid (te = 0) := by unfold Hid; rw [HTE.out]; rfl
        clear HTE
        go_enter Tryz.func132, Tryz.ntmps132
        go_wp2_with fail
        generalize w.alloc (.cells #[.string s, .string s, .string ⟨#[]⟩, .int .i64 0, .int .i64 8, .string ⟨#[]⟩] 150) = w0 at *
        go_region_held3 (fun w' => w'.cell? ⟨w.heap.size, 0, none⟩ = some (.string s) ∧ w'.cell? ⟨w.heap.size, 1, none⟩ = some (.string s) ∧ w'.cell? ⟨w.heap.size, 2, none⟩ = some (.string ⟨#[]⟩) ∧ w'.cell? ⟨w.heap.size, 3, none⟩ = some (.int .i64 0) ∧ w'.cell? ⟨w.heap.size, 4, none⟩ = some (.int .i64 8) ∧ w'.cell? ⟨w.heap.size, 5, none⟩ = some (.string ⟨#[]⟩) ∧ Below w0.heap.size w0 w')
          ((refine ⟨?_, ?_, ?_, ?_, ?_, ?_, ?_⟩ <;> first | assumption | (exact Below.refl _ _) | (exact Below.drew (by assumption)) | (exact (Below.refl _ _).drew) | go_keep))
          (first
            | (go_at_call 151; go_split_ands; refine (HH _ _ (by first | exact .inl rfl | exact .inr rfl)).out.mono ?_; rintro e w6 ⟨rfl, hB6⟩; have z0 := Below.keeps hB6 _ _ (by assumption : World.cell? _ ⟨w.heap.size, 0, none⟩ = some _); have z1 := Below.keeps hB6 _ _ (by assumption : World.cell? _ ⟨w.heap.size, 1, none⟩ = some _); have z2 := Below.keeps hB6 _ _ (by assumption : World.cell? _ ⟨w.heap.size, 2, none⟩ = some _); have z3 := Below.keeps hB6 _ _ (by assumption : World.cell? _ ⟨w.heap.size, 3, none⟩ = some _); have z4 := Below.keeps hB6 _ _ (by assumption : World.cell? _ ⟨w.heap.size, 4, none⟩ = some _); have z5 := Below.keeps hB6 _ _ (by assumption : World.cell? _ ⟨w.heap.size, 5, none⟩ = some _); have z6 : Below w0.heap.size w0 w6 := below_tr (by assumption) hB6))
        all_goals go_split_ands
        have HB6 := hid (below_tr hb0 z6)
        clear hB6 HH z6 c0 c1 c2 c3 c4 c5
        go_wp2_with fail
        go_wp2_with (first | (go_at_call 150; refine (HK _).out.mono ?_; rintro e w' ⟨rfl, rfl⟩) | (go_at_call 154; refine (named0_any _).mono ?_; rintro e w' ⟨rfl, rfl⟩))
        go_ret
        exact ⟨ret_int HT.out.symm, HB6.out⟩
      · have b5 : (kk == 5) = false := beq_eq_false_iff_ne.2 h5
        by_cases h4 : kk = 4
        · subst h4
          have HT : Hid (te = 0) := by unfold Hid; rw [HTE.out]; rfl
          clear HTE h5 b5
          go_enter Tryz.func132, Tryz.ntmps132
          go_wp2_with fail
          generalize w.alloc (.cells #[.string s, .string s, .string ⟨#[]⟩, .int .i64 0, .int .i64 8, .string ⟨#[]⟩] 150) = w0 at *
          go_region_held3 (fun w' => w'.cell? ⟨w.heap.size, 0, none⟩ = some (.string s) ∧ w'.cell? ⟨w.heap.size, 1, none⟩ = some (.string s) ∧ w'.cell? ⟨w.heap.size, 2, none⟩ = some (.string ⟨#[]⟩) ∧ w'.cell? ⟨w.heap.size, 3, none⟩ = some (.int .i64 0) ∧ w'.cell? ⟨w.heap.size, 4, none⟩ = some (.int .i64 8) ∧ w'.cell? ⟨w.heap.size, 5, none⟩ = some (.string ⟨#[]⟩) ∧ Below w0.heap.size w0 w')
            ((refine ⟨?_, ?_, ?_, ?_, ?_, ?_, ?_⟩ <;> first | assumption | (exact Below.refl _ _) | (exact Below.drew (by assumption)) | (exact (Below.refl _ _).drew) | go_keep))
            (first
              | (go_at_call 151; go_split_ands; refine (HH _ _ (by first | exact .inl rfl | exact .inr rfl)).out.mono ?_; rintro e w6 ⟨rfl, hB6⟩; have z0 := Below.keeps hB6 _ _ (by assumption : World.cell? _ ⟨w.heap.size, 0, none⟩ = some _); have z1 := Below.keeps hB6 _ _ (by assumption : World.cell? _ ⟨w.heap.size, 1, none⟩ = some _); have z2 := Below.keeps hB6 _ _ (by assumption : World.cell? _ ⟨w.heap.size, 2, none⟩ = some _); have z3 := Below.keeps hB6 _ _ (by assumption : World.cell? _ ⟨w.heap.size, 3, none⟩ = some _); have z4 := Below.keeps hB6 _ _ (by assumption : World.cell? _ ⟨w.heap.size, 4, none⟩ = some _); have z5 := Below.keeps hB6 _ _ (by assumption : World.cell? _ ⟨w.heap.size, 5, none⟩ = some _); have z6 : Below w0.heap.size w0 w6 := below_tr (by assumption) hB6))
          all_goals go_split_ands
          have HB6 := hid (below_tr hb0 z6)
          clear hB6 HH z6 c0 c1 c2 c3 c4 c5
          go_wp2_with fail
          go_wp2_with (first | (go_at_call 150; refine (HK _).out.mono ?_; rintro e w' ⟨rfl, rfl⟩) | (go_at_call 154; refine (named0_any _).mono ?_; rintro e w' ⟨rfl, rfl⟩))
          go_ret
          exact ⟨ret_int HT.out.symm, HB6.out⟩
        · have b4 : (kk == 4) = false := beq_eq_false_iff_ne.2 h4
          have HT : Hid (te = 11) := by unfold Hid; rw [HTE.out, if_neg (by omega)]
          have n5 : (kk != 5) = true := by rw [bne_iff_ne]; exact h5
          have n4 : (kk != 4) = true := by rw [bne_iff_ne]; exact h4
          clear HTE
          go_enter Tryz.func132, Tryz.ntmps132
          go_wp2_with fail
          generalize w.alloc (.cells #[.string s, .string s, .string ⟨#[]⟩, .int .i64 0, .int .i64 8, .string ⟨#[]⟩] 150) = w0 at *
          go_region_held3 (fun w' => w'.cell? ⟨w.heap.size, 0, none⟩ = some (.string s) ∧ w'.cell? ⟨w.heap.size, 1, none⟩ = some (.string s) ∧ w'.cell? ⟨w.heap.size, 2, none⟩ = some (.string ⟨#[]⟩) ∧ w'.cell? ⟨w.heap.size, 3, none⟩ = some (.int .i64 0) ∧ w'.cell? ⟨w.heap.size, 4, none⟩ = some (.int .i64 8) ∧ w'.cell? ⟨w.heap.size, 5, none⟩ = some (.string ⟨#[]⟩) ∧ Below w0.heap.size w0 w')
            ((refine ⟨?_, ?_, ?_, ?_, ?_, ?_, ?_⟩ <;> first | assumption | (exact Below.refl _ _) | (exact Below.drew (by assumption)) | (exact (Below.refl _ _).drew) | go_keep))
            (first
              | (go_at_call 151; go_split_ands; refine (HH _ _ (by first | exact .inl rfl | exact .inr rfl)).out.mono ?_; rintro e w6 ⟨rfl, hB6⟩; have z0 := Below.keeps hB6 _ _ (by assumption : World.cell? _ ⟨w.heap.size, 0, none⟩ = some _); have z1 := Below.keeps hB6 _ _ (by assumption : World.cell? _ ⟨w.heap.size, 1, none⟩ = some _); have z2 := Below.keeps hB6 _ _ (by assumption : World.cell? _ ⟨w.heap.size, 2, none⟩ = some _); have z3 := Below.keeps hB6 _ _ (by assumption : World.cell? _ ⟨w.heap.size, 3, none⟩ = some _); have z4 := Below.keeps hB6 _ _ (by assumption : World.cell? _ ⟨w.heap.size, 4, none⟩ = some _); have z5 := Below.keeps hB6 _ _ (by assumption : World.cell? _ ⟨w.heap.size, 5, none⟩ = some _); have z6 : Below w0.heap.size w0 w6 := below_tr (by assumption) hB6))
          all_goals go_split_ands
          have HB6 := hid (below_tr hb0 z6)
          clear hB6 HH z6 c0 c1 c2 c3 c4 c5
          go_wp2_with fail
          go_wp2_with (go_at_call 150; refine (HK _).out.mono ?_; rintro e w' ⟨rfl, rfl⟩)
          go_ret
          exact ⟨ret_int HT.out.symm, HB6.out⟩
    · have HT : Hid (tokE s 8 = 11) := by unfold Hid tokE; rw [if_neg (by omega), if_neg (by omega)]
      have hs1 : ¬ (s.size : Int) = 1 := by omega
      have hs2 : ((s.size : Int) != 1) = true := by rw [bne_iff_ne]; omega
      clear h1
      go_enter Tryz.func132, Tryz.ntmps132
      go_wp2_with fail
      generalize w.alloc (.cells #[.string s, .string s, .string ⟨#[]⟩, .int .i64 0, .int .i64 8, .string ⟨#[]⟩] 150) = w0 at *
      go_region_held3 (fun w' => w'.cell? ⟨w.heap.size, 0, none⟩ = some (.string s) ∧ w'.cell? ⟨w.heap.size, 1, none⟩ = some (.string s) ∧ w'.cell? ⟨w.heap.size, 2, none⟩ = some (.string ⟨#[]⟩) ∧ w'.cell? ⟨w.heap.size, 3, none⟩ = some (.int .i64 0) ∧ w'.cell? ⟨w.heap.size, 4, none⟩ = some (.int .i64 8) ∧ w'.cell? ⟨w.heap.size, 5, none⟩ = some (.string ⟨#[]⟩) ∧ Below w0.heap.size w0 w')
        ((refine ⟨?_, ?_, ?_, ?_, ?_, ?_, ?_⟩ <;> first | assumption | (exact Below.refl _ _) | (exact Below.drew (by assumption)) | (exact (Below.refl _ _).drew) | go_keep))
        (first
          | (go_at_call 151; go_split_ands; refine (HH _ _ (by first | exact .inl rfl | exact .inr rfl)).out.mono ?_; rintro e w6 ⟨rfl, hB6⟩; have z0 := Below.keeps hB6 _ _ (by assumption : World.cell? _ ⟨w.heap.size, 0, none⟩ = some _); have z1 := Below.keeps hB6 _ _ (by assumption : World.cell? _ ⟨w.heap.size, 1, none⟩ = some _); have z2 := Below.keeps hB6 _ _ (by assumption : World.cell? _ ⟨w.heap.size, 2, none⟩ = some _); have z3 := Below.keeps hB6 _ _ (by assumption : World.cell? _ ⟨w.heap.size, 3, none⟩ = some _); have z4 := Below.keeps hB6 _ _ (by assumption : World.cell? _ ⟨w.heap.size, 4, none⟩ = some _); have z5 := Below.keeps hB6 _ _ (by assumption : World.cell? _ ⟨w.heap.size, 5, none⟩ = some _); have z6 : Below w0.heap.size w0 w6 := below_tr (by assumption) hB6))
      all_goals go_split_ands
      have HB6 := hid (below_tr hb0 z6)
      clear hB6 HH z6 c0 c1 c2 c3 c4 c5
      go_wp2_with fail
      go_ret
      exact ⟨ret_int HT.out.symm, HB6.out⟩
end Go.Proofs.YtjhdeoniafahbaaGreatDoor
