/-
  Joined, what is needed of: RTok RWrd R45a RHd45 R45c PlRd TxS.
-/
import Derived.Deep.RegionHeld3
import Derived.Test.YtjhdeoniafahbaaGreatDoorY06
import Derived.Test.YtjhdeoniafahbaaGreatDoorY04
import Derived.Deep.CutRange
import Derived.Shelf.LaysM
import Derived.Shelf.Strings.Shaped
import Derived.Shelf.Strings.SplitShaped
import Derived.Test.YtjhdeoniafahbaaGreatDoorProg
namespace Go.Proofs.YtjhdeoniafahbaaGreatDoor
open Go.RowKit
def gapS (n : Int) : ByteArray := (⟨#[91]⟩ ++ itoaB n) ++ ⟨#[93]⟩
theorem gapS_data (n : Int) : (gapS n).data.toList = 91 :: ((itoaB n).data.toList ++ [93]) := by
  unfold gapS; simp
theorem gap_is {s : ByteArray} (h : gapB s = true) : ∃ n : Nat, 1 ≤ n ∧ n ≤ 64 ∧ s = gapS n := by
  obtain ⟨h1, h2⟩ := gap_data h
  obtain ⟨h3, h4, _⟩ := dec_back h2
  have h5 : decV (innB s) ≤ 64 := by
    unfold gapB at h
    simp only [Bool.and_eq_true, decide_eq_true_eq] at h
    exact h.2
  refine ⟨(decV (innB s)).toNat, by omega, by omega, ?_⟩
  rw [show (((decV (innB s)).toNat : Nat) : Int) = decV (innB s) by omega]
  refine ba_ext2 ?_
  rw [gapS_data, h3, ← h1]
where
  ba_ext2 {a b : ByteArray} (h : a.data.toList = b.data.toList) : a = b := by
    cases a; cases b
    exact congrArg ByteArray.mk (Array.toList_inj.1 h)
theorem gap_of {n : Nat} (h1 : 1 ≤ n) (h2 : n ≤ 64) : gapB (gapS n) = true := by
  obtain ⟨d1, d2⟩ := dec_itoa (n := (n : Int)) (by omega) (by omega)
  have hd := gapS_data n
  have e1 : cutPB (gapS n) ⟨#[91]⟩ = true := by
    unfold cutPB Lib.hasPrefix
    rw [hd]; rfl
  have hsz : (gapS n).size = (itoaB n).data.toList.length + 2 := by
    show (gapS n).data.size = _
    rw [← Array.length_toList, hd]; simp
  have hp : (cutPS (gapS n) ⟨#[91]⟩).data.toList = (itoaB n).data.toList ++ [93] := by
    unfold cutPS
    rw [if_pos e1, ByteArray.data_extract, Array.toList_extract, hd, hsz]
    simp [List.extract, show (⟨#[91]⟩ : ByteArray).size = 1 from rfl]
    refine List.take_of_length_le ?_
    rw [List.length_append, Array.length_toList]; exact Nat.le_refl _
  have e2 : cutXB (cutPS (gapS n) ⟨#[91]⟩) ⟨#[93]⟩ = true := by
    unfold cutXB Lib.hasSuffix
    rw [hp, List.isSuffixOf_iff_suffix]
    exact ⟨_, rfl⟩
  have hps : (cutPS (gapS n) ⟨#[91]⟩).size = (itoaB n).data.toList.length + 1 := by
    show (cutPS (gapS n) ⟨#[91]⟩).data.size = _
    rw [← Array.length_toList, hp]; simp
  have e3 : innB (gapS n) = itoaB n := by
    refine gap_is.ba_ext2 ?_
    unfold innB cutXS
    rw [if_pos e2, ByteArray.data_extract, Array.toList_extract, hp, hps]
    simp [List.extract, show (⟨#[93]⟩ : ByteArray).size = 1 from rfl]
  unfold gapB
  rw [e1, e2, e3, d1, d2]
  simp; omega
theorem itoaS_le (n : Nat) (h : n ≤ 64) : (itoaB n).size ≤ 9 := by
  show (itoaB n).data.size ≤ 9
  rw [← Array.length_toList, itoaB_data (by omega), Lib.decDigits_length]
  exact nDigits_9 _ (by omega)
set_option maxRecDepth 100000 in
set_option maxHeartbeats 1000000 in
theorem gapped_any (s : ByteArray) (w : World) (he : Env w) (_hs : s.size ≤ 65536) :
    Calls Tryz.prog 152 #[.string s] w fun e w' => e = .returned (.bool (gapB s)) ∧ Below w.heap.size w w' := by
  have HIT := fun w' (h : Below w.heap.size w w') (n : Nat) (hn : n ≤ 64) => hid (itoa_b n w' (he.below h) (by omega) (by omega))
  go_enter Tryz.func152, Tryz.ntmps152
  go_wp2_with fail
  go_loopw [3] (fun i wr => ∃ n : Nat, 1 ≤ n ∧ n ≤ 65 ∧ i = .int .i64 n ∧ Hid (∀ m : Nat, 1 ≤ m → m < n → s ≠ gapS m) ∧ Hid (Below w.heap.size w wr)) (fun i _ => 65 - (intOf i).toNat)
  case atStart => exact ⟨1, by omega, by omega, rfl, fun m h1 h2 => by omega, Below.refl _ _⟩
  case round =>
    obtain ⟨n, h1, h2, rfl, HN, HB⟩ := hrel
    by_cases hlt : n ≤ 64
    · have hni : (n : Int) ≤ 64 := by omega
      have hz := itoaS_le n hlt
      have HG : Hid (gapS n = (⟨#[91]⟩ ++ itoaB n) ++ ⟨#[93]⟩) := rfl
      have HI := HIT wr HB.out n hlt
      by_cases hg : s = gapS n
      · have q : (s.toList == ((⟨#[91]⟩ ++ itoaB n) ++ ⟨#[93]⟩ : ByteArray).toList) = true := by rw [← HG.out, ← hg]; simp
        have HR : Hid (gapB s = true) := by unfold Hid; rw [hg]; exact gap_of h1 hlt
        clear hg
        go_wp2_with fail
        refine HI.out.mono ?_
        rintro e w1 ⟨rfl, hB1⟩
        go_wp2
        go_ret
        exact ⟨ret_bool HR.out.symm, below_tr HB.out hB1⟩
      · have q : (s.toList == ((⟨#[91]⟩ ++ itoaB n) ++ ⟨#[93]⟩ : ByteArray).toList) = false := by rw [← HG.out, ba_beq]; simpa using hg
        have HN2 : Hid (∀ m : Nat, 1 ≤ m → m < n + 1 → s ≠ gapS m) := fun m h3 h4 => by
          by_cases h5 : m = n
          · rw [h5]; exact hg
          · exact HN.out m h3 (by omega)
        clear hg HN
        go_wp2_with fail
        refine HI.out.mono ?_
        rintro e w1 ⟨rfl, hB1⟩
        have HB1 := hid (below_tr HB.out hB1)
        clear hB1
        go_wp2_with fail
        go_roundw
        case rel => exact ⟨n + 1, by omega, by omega, by go_num, HN2.out, HB1.out⟩
        case measure => simp [intOf]; omega
    · have hni : ¬ (n : Int) ≤ 64 := by omega
      have HR : Hid (gapB s = false) := by
        unfold Hid
        cases hg : gapB s with
        | false => rfl
        | true =>
          obtain ⟨m, h3, h4, h5⟩ := gap_is hg
          exact absurd h5 (HN.out m h3 (by omega))
      clear HN
      go_wp2
      go_ret
      exact ⟨ret_bool HR.out.symm, HB.out⟩
theorem named0_any (w : World) : Calls Tryz.prog 154 #[.string ⟨#[]⟩] w fun e w' => e = .returned (.bool true) ∧ w = w' := by
  go_enter Tryz.func154, Tryz.ntmps154
  go_wp2
  go_ret
  exact ⟨rfl, rfl⟩
def tokV (s : ByteArray) (n : Int) : Value := .agg #[.string s, .string s, .string ⟨#[]⟩, .int .i64 0, .int .i64 n, .string ⟨#[]⟩]
theorem has_any (s : ByteArray) (n k : Int) (w : World) (hn : n = 2 ∨ n = 8) (hk : k = 2 ∨ k = 8) : Calls Tryz.prog 151 #[tokV s n, .int .i64 k] w fun e w' => e = .returned (.bool (decide (n = k))) ∧ Below w.heap.size w w' := by
  unfold tokV
  rcases hn with rfl | rfl
  all_goals rcases hk with rfl | rfl
  all_goals
    go_enter Tryz.func151, Tryz.ntmps151
    go_wp2
    go_ret
    exact ⟨rfl, below_al _ _⟩
def tokE (s : ByteArray) (n : Int) : Int := if n = 2 then (if gapB s = true then 0 else 11) else (if s.size = 1 ∧ (firstK s = 5 ∨ firstK s = 4) then 0 else 11)
set_option maxRecDepth 100000 in
set_option maxHeartbeats 2000000 in
theorem rtok_any (s : ByteArray) (n : Int) (w : World) (he : Env w) (hs : s.size ≤ 65536) (hn : n = 2 ∨ n = 8) :
    Calls Tryz.prog 132 #[tokV s n] w fun e w' => e = .returned (.int .i64 (tokE s n)) ∧ Below w.heap.size w w' := by
  have HH := fun w' k hk => hid (has_any s n k w' hn hk)
  have hb0 := below_al w (.cells #[.string s, .string s, .string ⟨#[]⟩, .int .i64 0, .int .i64 n, .string ⟨#[]⟩] 150)
  have hr0 := hid (row_nw w #[.string s, .string s, .string ⟨#[]⟩, .int .i64 0, .int .i64 n, .string ⟨#[]⟩] 150 rfl)
  have HG := fun w' (h : Below w.heap.size w w') => hid (gapped_any s w' (he.below h) hs)
  unfold tokV at HH ⊢
  have c0 := hr0.out.cell 0 rfl
  have c1 := hr0.out.cell 1 rfl
  have c2 := hr0.out.cell 2 rfl
  have c3 := hr0.out.cell 3 rfl
  have c4 := hr0.out.cell 4 rfl
  have c5 := hr0.out.cell 5 rfl
  rcases hn with rfl | rfl
  · cases hg : gapB s with
    | true =>
      have HT : Hid (tokE s 2 = 0) := by unfold Hid tokE; rw [if_pos rfl, hg]; rfl
      rw [hg] at HG
      clear hg
      go_enter Tryz.func132, Tryz.ntmps132
      go_wp2_with fail
      generalize w.alloc (.cells #[.string s, .string s, .string ⟨#[]⟩, .int .i64 0, .int .i64 2, .string ⟨#[]⟩] 150) = w0 at *
      go_region_held3 (fun w' => w'.cell? ⟨w.heap.size, 0, none⟩ = some (.string s) ∧ w'.cell? ⟨w.heap.size, 1, none⟩ = some (.string s) ∧ w'.cell? ⟨w.heap.size, 2, none⟩ = some (.string ⟨#[]⟩) ∧ w'.cell? ⟨w.heap.size, 3, none⟩ = some (.int .i64 0) ∧ w'.cell? ⟨w.heap.size, 4, none⟩ = some (.int .i64 2) ∧ w'.cell? ⟨w.heap.size, 5, none⟩ = some (.string ⟨#[]⟩) ∧ Below w0.heap.size w0 w')
        ((refine ⟨?_, ?_, ?_, ?_, ?_, ?_, ?_⟩ <;> first | assumption | (exact Below.refl _ _) | (exact Below.drew (by assumption)) | (exact (Below.refl _ _).drew) | go_keep))
        (first
          | (go_at_call 151; go_split_ands; refine (HH _ _ (by first | exact .inl rfl | exact .inr rfl)).out.mono ?_; rintro e w6 ⟨rfl, hB6⟩; have z0 := Below.keeps hB6 _ _ (by assumption : World.cell? _ ⟨w.heap.size, 0, none⟩ = some _); have z1 := Below.keeps hB6 _ _ (by assumption : World.cell? _ ⟨w.heap.size, 1, none⟩ = some _); have z2 := Below.keeps hB6 _ _ (by assumption : World.cell? _ ⟨w.heap.size, 2, none⟩ = some _); have z3 := Below.keeps hB6 _ _ (by assumption : World.cell? _ ⟨w.heap.size, 3, none⟩ = some _); have z4 := Below.keeps hB6 _ _ (by assumption : World.cell? _ ⟨w.heap.size, 4, none⟩ = some _); have z5 := Below.keeps hB6 _ _ (by assumption : World.cell? _ ⟨w.heap.size, 5, none⟩ = some _); have z6 : Below w0.heap.size w0 w6 := below_tr (by assumption) hB6))
      all_goals go_split_ands
      have HB6 := hid (below_tr hb0 z6)
      clear hB6 HH z6 c0 c1 c2 c3 c4 c5
      go_wp2_with fail
      refine (HG _ HB6.out).out.mono ?_
      rintro e w7 ⟨rfl, hB7⟩
      have y0 := Below.keeps hB7 _ _ z0
      have y1 := Below.keeps hB7 _ _ z1
      have y2 := Below.keeps hB7 _ _ z2
      have y3 := Below.keeps hB7 _ _ z3
      have y4 := Below.keeps hB7 _ _ z4
      have y5 := Below.keeps hB7 _ _ z5
      have HB7 := hid (below_tr HB6.out hB7)
      clear hB7 z0 z1 z2 z3 z4 z5 HB6 HG
      go_wp2_with (go_at_call 154; refine (named0_any _).mono ?_; rintro e w' ⟨rfl, rfl⟩)
      go_ret
      exact ⟨ret_int HT.out.symm, HB7.out⟩
    | false =>
      have HT : Hid (tokE s 2 = 11) := by unfold Hid tokE; rw [if_pos rfl, hg]; rfl
      rw [hg] at HG
      clear hg
      go_enter Tryz.func132, Tryz.ntmps132
      go_wp2_with fail
      generalize w.alloc (.cells #[.string s, .string s, .string ⟨#[]⟩, .int .i64 0, .int .i64 2, .string ⟨#[]⟩] 150) = w0 at *
      go_region_held3 (fun w' => w'.cell? ⟨w.heap.size, 0, none⟩ = some (.string s) ∧ w'.cell? ⟨w.heap.size, 1, none⟩ = some (.string s) ∧ w'.cell? ⟨w.heap.size, 2, none⟩ = some (.string ⟨#[]⟩) ∧ w'.cell? ⟨w.heap.size, 3, none⟩ = some (.int .i64 0) ∧ w'.cell? ⟨w.heap.size, 4, none⟩ = some (.int .i64 2) ∧ w'.cell? ⟨w.heap.size, 5, none⟩ = some (.string ⟨#[]⟩) ∧ Below w0.heap.size w0 w')
        ((refine ⟨?_, ?_, ?_, ?_, ?_, ?_, ?_⟩ <;> first | assumption | (exact Below.refl _ _) | (exact Below.drew (by assumption)) | (exact (Below.refl _ _).drew) | go_keep))
        (first
          | (go_at_call 151; go_split_ands; refine (HH _ _ (by first | exact .inl rfl | exact .inr rfl)).out.mono ?_; rintro e w6 ⟨rfl, hB6⟩; have z0 := Below.keeps hB6 _ _ (by assumption : World.cell? _ ⟨w.heap.size, 0, none⟩ = some _); have z1 := Below.keeps hB6 _ _ (by assumption : World.cell? _ ⟨w.heap.size, 1, none⟩ = some _); have z2 := Below.keeps hB6 _ _ (by assumption : World.cell? _ ⟨w.heap.size, 2, none⟩ = some _); have z3 := Below.keeps hB6 _ _ (by assumption : World.cell? _ ⟨w.heap.size, 3, none⟩ = some _); have z4 := Below.keeps hB6 _ _ (by assumption : World.cell? _ ⟨w.heap.size, 4, none⟩ = some _); have z5 := Below.keeps hB6 _ _ (by assumption : World.cell? _ ⟨w.heap.size, 5, none⟩ = some _); have z6 : Below w0.heap.size w0 w6 := below_tr (by assumption) hB6))
      all_goals go_split_ands
      have HB6 := hid (below_tr hb0 z6)
      clear hB6 HH z6 c0 c1 c2 c3 c4 c5
      go_wp2_with fail
      refine (HG _ HB6.out).out.mono ?_
      rintro e w7 ⟨rfl, hB7⟩
      have y0 := Below.keeps hB7 _ _ z0
      have y1 := Below.keeps hB7 _ _ z1
      have y2 := Below.keeps hB7 _ _ z2
      have y3 := Below.keeps hB7 _ _ z3
      have y4 := Below.keeps hB7 _ _ z4
      have y5 := Below.keeps hB7 _ _ z5
      have HB7 := hid (below_tr HB6.out hB7)
      clear hB7 z0 z1 z2 z3 z4 z5 HB6 HG
      go_wp2
      go_ret
      exact ⟨ret_int HT.out.symm, HB7.out⟩
  · clear HG
    by_cases h1 : s.size = 1
    · have hfk := firstK_at s (by omega)
      have hu := byte_bd s[0]
      have HK := fun w' => hid (rkind_any (s[0].toNat : Int) hu.1 hu.2 w')
      rw [← hfk] at HK
      have HTE : Hid (tokE s 8 = if (firstK s = 5 ∨ firstK s = 4) then 0 else 11) := by unfold Hid tokE; rw [if_neg (by omega)]; simp [h1]
      have hsi : (s.size : Int) = 1 := by omega
      have hsi0 : (0 : Int) < (s.size : Int) := by omega
      generalize firstK s = kk at *
      generalize tokE s 8 = te at *
      clear hfk
      by_cases h5 : kk = 5
      · subst h5
        have HT : Hid (te = 0) := by unfold Hid; rw [HTE.out]; rfl
        clear HTE
        go_enter Tryz.func132, Tryz.ntmps132
        go_wp2_with fail
        generalize w.alloc (.cells #[.string s, .string s, .string ⟨#[]⟩, .int .i64 0, .int .i64 8, .string ⟨#[]⟩] 150) = w0 at *
        go_region_held3 (fun w' => w'.cell? ⟨w.heap.size, 0, none⟩ = some (.string s) ∧ w'.cell? ⟨w.heap.size, 1, none⟩ = some (.string s) ∧ w'.cell? ⟨w.heap.size, 2, none⟩ = some (.string ⟨#[]⟩) ∧ w'.cell? ⟨w.heap.size, 3, none⟩ = some (.int .i64 0) ∧ w'.cell? ⟨w.heap.size, 4, none⟩ = some (.int .i64 8) ∧ w'.cell? ⟨w.heap.size, 5, none⟩ = some (.string ⟨#[]⟩) ∧ Below w0.heap.size w0 w')
          ((refine ⟨?_, ?_, ?_, ?_, ?_, ?_, ?_⟩ <;> first | assumption | (exact Below.refl _ _) | (exact Below.drew (by assumption)) | (exact (Below.refl _ _).drew) | go_keep))
          (first
            | (go_at_call 151; go_split_ands; refine (HH _ _ (by first | exact .inl rfl | exact .inr rfl)).out.mono ?_; rintro e w6 ⟨rfl, hB6⟩; have z0 := Below.keeps hB6 _ _ (by assumption : World.cell? _ ⟨w.heap.size, 0, none⟩ = some _); have z1 := Below.keeps hB6 _ _ (by assumption : World.cell? _ ⟨w.heap.size, 1, none⟩ = some _); have z2 := Below.keeps hB6 _ _ (by assumption : World.cell? _ ⟨w.heap.size, 2, none⟩ = some _); have z3 := Below.keeps hB6 _ _ (by assumption : World.cell? _ ⟨w.heap.size, 3, none⟩ = some _); have z4 := Below.keeps hB6 _ _ (by assumption : World.cell? _ ⟨w.heap.size, 4, none⟩ = some _); have z5 := Below.keeps hB6 _ _ (by assumption : World.cell? _ ⟨w.heap.size, 5, none⟩ = some _); have z6 : Below w0.heap.size w0 w6 := below_tr (by assumption) hB6))
        all_goals go_split_ands
        have HB6 := hid (below_tr hb0 z6)
        clear hB6 HH z6 c0 c1 c2 c3 c4 c5
        go_wp2_with fail
        go_wp2_with (first | (go_at_call 150; refine (HK _).out.mono ?_; rintro e w' ⟨rfl, rfl⟩) | (go_at_call 154; refine (named0_any _).mono ?_; rintro e w' ⟨rfl, rfl⟩))
        go_ret
        exact ⟨ret_int HT.out.symm, HB6.out⟩
      · have b5 : (kk == 5) = false := beq_eq_false_iff_ne.2 h5
        by_cases h4 : kk = 4
        · subst h4
          have HT : Hid (te = 0) := by unfold Hid; rw [HTE.out]; rfl
          clear HTE h5 b5
          go_enter Tryz.func132, Tryz.ntmps132
          go_wp2_with fail
          generalize w.alloc (.cells #[.string s, .string s, .string ⟨#[]⟩, .int .i64 0, .int .i64 8, .string ⟨#[]⟩] 150) = w0 at *
          go_region_held3 (fun w' => w'.cell? ⟨w.heap.size, 0, none⟩ = some (.string s) ∧ w'.cell? ⟨w.heap.size, 1, none⟩ = some (.string s) ∧ w'.cell? ⟨w.heap.size, 2, none⟩ = some (.string ⟨#[]⟩) ∧ w'.cell? ⟨w.heap.size, 3, none⟩ = some (.int .i64 0) ∧ w'.cell? ⟨w.heap.size, 4, none⟩ = some (.int .i64 8) ∧ w'.cell? ⟨w.heap.size, 5, none⟩ = some (.string ⟨#[]⟩) ∧ Below w0.heap.size w0 w')
            ((refine ⟨?_, ?_, ?_, ?_, ?_, ?_, ?_⟩ <;> first | assumption | (exact Below.refl _ _) | (exact Below.drew (by assumption)) | (exact (Below.refl _ _).drew) | go_keep))
            (first
              | (go_at_call 151; go_split_ands; refine (HH _ _ (by first | exact .inl rfl | exact .inr rfl)).out.mono ?_; rintro e w6 ⟨rfl, hB6⟩; have z0 := Below.keeps hB6 _ _ (by assumption : World.cell? _ ⟨w.heap.size, 0, none⟩ = some _); have z1 := Below.keeps hB6 _ _ (by assumption : World.cell? _ ⟨w.heap.size, 1, none⟩ = some _); have z2 := Below.keeps hB6 _ _ (by assumption : World.cell? _ ⟨w.heap.size, 2, none⟩ = some _); have z3 := Below.keeps hB6 _ _ (by assumption : World.cell? _ ⟨w.heap.size, 3, none⟩ = some _); have z4 := Below.keeps hB6 _ _ (by assumption : World.cell? _ ⟨w.heap.size, 4, none⟩ = some _); have z5 := Below.keeps hB6 _ _ (by assumption : World.cell? _ ⟨w.heap.size, 5, none⟩ = some _); have z6 : Below w0.heap.size w0 w6 := below_tr (by assumption) hB6))
          all_goals go_split_ands
          have HB6 := hid (below_tr hb0 z6)
          clear hB6 HH z6 c0 c1 c2 c3 c4 c5
          go_wp2_with fail
          go_wp2_with (first | (go_at_call 150; refine (HK _).out.mono ?_; rintro e w' ⟨rfl, rfl⟩) | (go_at_call 154; refine (named0_any _).mono ?_; rintro e w' ⟨rfl, rfl⟩))
          go_ret
          exact ⟨ret_int HT.out.symm, HB6.out⟩
        · have b4 : (kk == 4) = false := beq_eq_false_iff_ne.2 h4
          have HT : Hid (te = 11) := by unfold Hid; rw [HTE.out, if_neg (by omega)]
          have n5 : (kk != 5) = true := by rw [bne_iff_ne]; exact h5
          have n4 : (kk != 4) = true := by rw [bne_iff_ne]; exact h4
          clear HTE
          go_enter Tryz.func132, Tryz.ntmps132
          go_wp2_with fail
          generalize w.alloc (.cells #[.string s, .string s, .string ⟨#[]⟩, .int .i64 0, .int .i64 8, .string ⟨#[]⟩] 150) = w0 at *
          go_region_held3 (fun w' => w'.cell? ⟨w.heap.size, 0, none⟩ = some (.string s) ∧ w'.cell? ⟨w.heap.size, 1, none⟩ = some (.string s) ∧ w'.cell? ⟨w.heap.size, 2, none⟩ = some (.string ⟨#[]⟩) ∧ w'.cell? ⟨w.heap.size, 3, none⟩ = some (.int .i64 0) ∧ w'.cell? ⟨w.heap.size, 4, none⟩ = some (.int .i64 8) ∧ w'.cell? ⟨w.heap.size, 5, none⟩ = some (.string ⟨#[]⟩) ∧ Below w0.heap.size w0 w')
            ((refine ⟨?_, ?_, ?_, ?_, ?_, ?_, ?_⟩ <;> first | assumption | (exact Below.refl _ _) | (exact Below.drew (by assumption)) | (exact (Below.refl _ _).drew) | go_keep))
            (first
              | (go_at_call 151; go_split_ands; refine (HH _ _ (by first | exact .inl rfl | exact .inr rfl)).out.mono ?_; rintro e w6 ⟨rfl, hB6⟩; have z0 := Below.keeps hB6 _ _ (by assumption : World.cell? _ ⟨w.heap.size, 0, none⟩ = some _); have z1 := Below.keeps hB6 _ _ (by assumption : World.cell? _ ⟨w.heap.size, 1, none⟩ = some _); have z2 := Below.keeps hB6 _ _ (by assumption : World.cell? _ ⟨w.heap.size, 2, none⟩ = some _); have z3 := Below.keeps hB6 _ _ (by assumption : World.cell? _ ⟨w.heap.size, 3, none⟩ = some _); have z4 := Below.keeps hB6 _ _ (by assumption : World.cell? _ ⟨w.heap.size, 4, none⟩ = some _); have z5 := Below.keeps hB6 _ _ (by assumption : World.cell? _ ⟨w.heap.size, 5, none⟩ = some _); have z6 : Below w0.heap.size w0 w6 := below_tr (by assumption) hB6))
          all_goals go_split_ands
          have HB6 := hid (below_tr hb0 z6)
          clear hB6 HH z6 c0 c1 c2 c3 c4 c5
          go_wp2_with fail
          go_wp2_with (go_at_call 150; refine (HK _).out.mono ?_; rintro e w' ⟨rfl, rfl⟩)
          go_ret
          exact ⟨ret_int HT.out.symm, HB6.out⟩
    · have HT : Hid (tokE s 8 = 11) := by unfold Hid tokE; rw [if_neg (by omega), if_neg (by omega)]
      have hs1 : ¬ (s.size : Int) = 1 := by omega
      have hs2 : ((s.size : Int) != 1) = true := by rw [bne_iff_ne]; omega
      clear h1
      go_enter Tryz.func132, Tryz.ntmps132
      go_wp2_with fail
      generalize w.alloc (.cells #[.string s, .string s, .string ⟨#[]⟩, .int .i64 0, .int .i64 8, .string ⟨#[]⟩] 150) = w0 at *
      go_region_held3 (fun w' => w'.cell? ⟨w.heap.size, 0, none⟩ = some (.string s) ∧ w'.cell? ⟨w.heap.size, 1, none⟩ = some (.string s) ∧ w'.cell? ⟨w.heap.size, 2, none⟩ = some (.string ⟨#[]⟩) ∧ w'.cell? ⟨w.heap.size, 3, none⟩ = some (.int .i64 0) ∧ w'.cell? ⟨w.heap.size, 4, none⟩ = some (.int .i64 8) ∧ w'.cell? ⟨w.heap.size, 5, none⟩ = some (.string ⟨#[]⟩) ∧ Below w0.heap.size w0 w')
        ((refine ⟨?_, ?_, ?_, ?_, ?_, ?_, ?_⟩ <;> first | assumption | (exact Below.refl _ _) | (exact Below.drew (by assumption)) | (exact (Below.refl _ _).drew) | go_keep))
        (first
          | (go_at_call 151; go_split_ands; refine (HH _ _ (by first | exact .inl rfl | exact .inr rfl)).out.mono ?_; rintro e w6 ⟨rfl, hB6⟩; have z0 := Below.keeps hB6 _ _ (by assumption : World.cell? _ ⟨w.heap.size, 0, none⟩ = some _); have z1 := Below.keeps hB6 _ _ (by assumption : World.cell? _ ⟨w.heap.size, 1, none⟩ = some _); have z2 := Below.keeps hB6 _ _ (by assumption : World.cell? _ ⟨w.heap.size, 2, none⟩ = some _); have z3 := Below.keeps hB6 _ _ (by assumption : World.cell? _ ⟨w.heap.size, 3, none⟩ = some _); have z4 := Below.keeps hB6 _ _ (by assumption : World.cell? _ ⟨w.heap.size, 4, none⟩ = some _); have z5 := Below.keeps hB6 _ _ (by assumption : World.cell? _ ⟨w.heap.size, 5, none⟩ = some _); have z6 : Below w0.heap.size w0 w6 := below_tr (by assumption) hB6))
      all_goals go_split_ands
      have HB6 := hid (below_tr hb0 z6)
      clear hB6 HH z6 c0 c1 c2 c3 c4 c5
      go_wp2_with fail
      go_ret
      exact ⟨ret_int HT.out.symm, HB6.out⟩
end Go.Proofs.YtjhdeoniafahbaaGreatDoor
namespace Go.Proofs.YtjhdeoniafahbaaGreatDoor
open Go.RowKit
set_option maxRecDepth 100000 in
set_option maxHeartbeats 1000000 in
theorem rwd_any (s : ByteArray) (w : World) (he : Env w) (hs : s.size ≤ 65536) :
    Calls Tryz.prog 110 #[.string s] w fun e w' => e = .returned (.bool (wordB s)) ∧ Below w.heap.size w w' := by
  have HI := hid (rword_any s w (by unfold maxLen; omega))
  rw [rword_is] at HI
  have HW : Hid (wordB s = (isWordB s || (if s.size = 1 then (decide (firstK s = 5) || decide (firstK s = 4)) else gapB s))) := rfl
  cases hi : isWordB s with
  | true =>
    rw [hi] at HI
    have HW2 : Hid (wordB s = true) := by unfold Hid; rw [HW.out, hi]; rfl
    clear hi
    go_enter Tryz.func110, Tryz.ntmps110
    go_wp2_with fail
    refine HI.out.mono ?_
    rintro e w1 ⟨rfl, hB⟩
    go_wp2
    go_ret
    exact ⟨ret_bool HW2.out.symm, hB⟩
  | false =>
    rw [hi] at HI
    have HT := fun n hn w' (h : Below w.heap.size w w') => hid (rtok_any s n w' (he.below h) hs hn)
    unfold tokV at HT
    by_cases h1 : 1 < s.size
    · have h1i : (1 : Int) < (s.size : Int) := by omega
      have HW2 : Hid (wordB s = decide (tokE s 2 = 0)) := by
        unfold Hid tokE; rw [HW.out, hi, if_neg (by omega), if_pos rfl]
        cases gapB s <;> rfl
      have HT2 := HT 2 (.inl rfl)
      generalize tokE s 2 = te at *
      clear hi HW HT h1
      go_enter Tryz.func110, Tryz.ntmps110
      go_wp2_with fail
      refine HI.out.mono ?_
      rintro e w1 ⟨rfl, hB⟩
      go_wp2_with fail
      refine (HT2 _ hB).out.mono ?_
      rintro e w2 ⟨rfl, hB2⟩
      go_wp2
      go_ret
      refine ⟨ret_bool ?_, below_tr hB hB2⟩
      rw [HW2.out]
      by_cases h : te = 0
      · rw [h]; rfl
      · rw [decide_eq_false h]; exact beq_eq_false_iff_ne.2 h
    · have h1i : ¬ (1 : Int) < (s.size : Int) := by omega
      have HW2 : Hid (wordB s = decide (tokE s 8 = 0)) := by
        unfold Hid tokE; rw [HW.out, hi]
        by_cases h0 : s.size = 1
        · rw [if_pos h0, if_neg (show ¬ (8 : Int) = 2 by omega)]
          by_cases h5 : firstK s = 5
          · rw [h5]; simp [h0]
          · by_cases h4 : firstK s = 4
            · rw [h4]; simp [h0]
            · simp [h5, h4]
        · rw [if_neg h0, if_neg (show ¬ (8 : Int) = 2 by omega), if_neg (fun h => h0 h.1)]
          have e : s = ⟨#[]⟩ := by
            cases s with | mk d => exact congrArg ByteArray.mk (Array.eq_empty_of_size_eq_zero (by have h : ByteArray.size ⟨d⟩ = 0 := by omega
                                                                                                   exact h))
          rw [e]; decide +kernel
      have HT2 := HT 8 (.inr rfl)
      generalize tokE s 8 = te at *
      clear hi HW HT h1
      go_enter Tryz.func110, Tryz.ntmps110
      go_wp2_with fail
      refine HI.out.mono ?_
      rintro e w1 ⟨rfl, hB⟩
      go_wp2_with fail
      refine (HT2 _ hB).out.mono ?_
      rintro e w2 ⟨rfl, hB2⟩
      go_wp2
      go_ret
      refine ⟨ret_bool ?_, below_tr hB hB2⟩
      rw [HW2.out]
      by_cases h : te = 0
      · rw [h]; rfl
      · rw [decide_eq_false h]; exact beq_eq_false_iff_ne.2 h
set_option maxRecDepth 100000 in
set_option maxHeartbeats 1000000 in
theorem rlck_any (f l : ByteArray) (n : Int) (w : World) (he : Env w) (hf : f.size ≤ 65536) (hl : l.size ≤ 65536) :
    Calls Tryz.prog 78 #[.agg #[.string f, .string l, .int .i64 n]] w fun e w' => e = .returned (.int .i64 (lemCk f l n)) ∧ Below w.heap.size w w' := by
  have hb0 := below_al w (.cells #[.string f, .string l, .int .i64 n] 28)
  have hr0 := row_nw w #[.string f, .string l, .int .i64 n] 28 rfl
  have HI : Hid (lemCk f l n = if (!wordB f || (decide (l.size ≠ 0) && !wordB l)) = true then 11 else if n < 0 ∨ 65536 < n then 2 else 0) := rfl
  have HWf := hid (rwd_any f (w.alloc (.cells #[.string f, .string l, .int .i64 n] 28)) (he.below hb0) hf)
  have HWl := fun w' (h : Below w.heap.size w w') => hid (rwd_any l w' (he.below h) hl)
  have hE := ba_isE l
  cases hwf : wordB f with
  | false =>
    rw [hwf] at HWf
    have HI2 : Hid (lemCk f l n = 11) := by unfold Hid; rw [HI.out, hwf]; rfl
    clear hwf HI
    go_enter Tryz.func78, Tryz.ntmps78
    go_wp2_with fail
    refine HWf.out.mono ?_
    rintro e w1 ⟨rfl, hB1⟩
    go_wp2
    go_ret
    exact ⟨ret_int HI2.out.symm, below_tr hb0 hB1⟩
  | true =>
    rw [hwf] at HWf HI
    clear hwf
    by_cases hl0 : l.size = 0
    · rw [decide_eq_true hl0] at hE
      have HI2 : Hid (lemCk f l n = if n < 0 ∨ 65536 < n then 2 else 0) := by unfold Hid; rw [HI.out, if_neg (by simp [hl0])]
      clear HI hl0
      go_enter Tryz.func78, Tryz.ntmps78
      go_wp2_with fail
      refine HWf.out.mono ?_
      rintro e w1 ⟨rfl, hB1⟩
      have hr1 := hr0.below hB1
      have c1 := hr1.cell 1 rfl
      have c2 := hr1.cell 2 rfl
      by_cases hn0 : n < 0
      · have HI3 : Hid (lemCk f l n = 2) := by unfold Hid; rw [HI2.out, if_pos (.inl hn0)]
        go_wp2
        go_ret
        exact ⟨ret_int HI3.out.symm, below_tr hb0 hB1⟩
      · by_cases hn1 : 65536 < n
        · have HI3 : Hid (lemCk f l n = 2) := by unfold Hid; rw [HI2.out, if_pos (.inr hn1)]
          go_wp2
          go_ret
          exact ⟨ret_int HI3.out.symm, below_tr hb0 hB1⟩
        · have HI3 : Hid (lemCk f l n = 0) := by unfold Hid; rw [HI2.out, if_neg (by omega)]
          go_wp2
          go_ret
          exact ⟨ret_int HI3.out.symm, below_tr hb0 hB1⟩
    · rw [decide_eq_false hl0] at hE
      cases hwl : wordB l with
      | false =>
        have HI2 : Hid (lemCk f l n = 11) := by unfold Hid; rw [HI.out, if_pos (by simp [hl0, hwl])]
        rw [hwl] at HWl
        clear HI hl0 hwl
        go_enter Tryz.func78, Tryz.ntmps78
        go_wp2_with fail
        refine HWf.out.mono ?_
        rintro e w1 ⟨rfl, hB1⟩
        have hr1 := hr0.below hB1
        have c1 := hr1.cell 1 rfl
        go_wp2_with fail
        refine (HWl _ (below_tr hb0 hB1)).out.mono ?_
        rintro e w2 ⟨rfl, hB2⟩
        go_wp2
        go_ret
        exact ⟨ret_int HI2.out.symm, below_tr (below_tr hb0 hB1) hB2⟩
      | true =>
        have HI2 : Hid (lemCk f l n = if n < 0 ∨ 65536 < n then 2 else 0) := by unfold Hid; rw [HI.out, if_neg (by simp [hwl])]
        rw [hwl] at HWl
        clear HI hl0 hwl
        go_enter Tryz.func78, Tryz.ntmps78
        go_wp2_with fail
        refine HWf.out.mono ?_
        rintro e w1 ⟨rfl, hB1⟩
        have hr1 := hr0.below hB1
        have c1 := hr1.cell 1 rfl
        go_wp2_with fail
        refine (HWl _ (below_tr hb0 hB1)).out.mono ?_
        rintro e w2 ⟨rfl, hB2⟩
        have hr2 := hr1.below hB2
        have c2 := hr2.cell 2 rfl
        by_cases hn0 : n < 0
        · have HI3 : Hid (lemCk f l n = 2) := by unfold Hid; rw [HI2.out, if_pos (.inl hn0)]
          go_wp2
          go_ret
          exact ⟨ret_int HI3.out.symm, below_tr (below_tr hb0 hB1) hB2⟩
        · by_cases hn1 : 65536 < n
          · have HI3 : Hid (lemCk f l n = 2) := by unfold Hid; rw [HI2.out, if_pos (.inr hn1)]
            go_wp2
            go_ret
            exact ⟨ret_int HI3.out.symm, below_tr (below_tr hb0 hB1) hB2⟩
          · have HI3 : Hid (lemCk f l n = 0) := by unfold Hid; rw [HI2.out, if_neg (by omega)]
            go_wp2
            go_ret
            exact ⟨ret_int HI3.out.symm, below_tr (below_tr hb0 hB1) hB2⟩
end Go.Proofs.YtjhdeoniafahbaaGreatDoor
namespace Go.Proofs.YtjhdeoniafahbaaGreatDoor
open Go.RowKit
theorem ext_last45 (s : ByteArray) (h : 1 ≤ s.size) : (s.extract (s.size - 1) s.size).toList = [s[s.size - 1]'(by omega)] := by
  rw [ByteArray.toList_eq, ByteArray.data_extract, Array.toList_extract, List.extract_eq_take_drop]
  have h2 : s.size - 1 < s.data.toList.length := by simp; omega
  rw [List.drop_eq_getElem_cons h2, show s.size - (s.size - 1) = 1 by omega]
  simp; rfl
set_option maxHeartbeats 400000 in
theorem rsig45_any (s : ByteArray) (w : World) (hs : s.size ≤ maxLen) :
    Calls Tryz.prog 111 #[.string s] w fun e w' => e = .returned (.bool (sigB s)) ∧ Below w.heap.size w w' := by
  have hs' := hs
  unfold maxLen at hs
  have HNs := fun w' => hid (risName_any s w' hs')
  by_cases h1 : 1 < s.size
  · have he := ext_last45 s (by omega)
    obtain ⟨c, hc⟩ : ∃ c, c = s[s.size - 1]'(by omega) := ⟨_, rfl⟩
    have hlt : s.size - 1 < s.size := by omega
    have h10 : (1 : Int) < s.size := by omega
    by_cases h42 : s[s.size - 1]'(by omega) = 42
    · have hcs : cutStar s = (s.extract 0 (s.size - 1), true) := by unfold cutStar; rw [if_pos ⟨by omega, by rw [he, h42]⟩]
      have hb : ((s[s.size - 1]'(by omega)).toNat : Int) = 42 := by rw [h42]; rfl
      have hbb := beq_iff_eq.2 hb
      have hN := fun w' => hid (risName_any (s.extract 0 (s.size - 1)) w' (by simp; omega))
      by_cases h16 : (s.size : Int) ≤ 16
      · have HS : Hid (sigB s = isNameB (s.extract 0 (s.size - 1))) := by
          unfold sigB; rw [hcs]; simp [Hid]; intro _; omega
        clear hcs he hb h42 hc HNs
        generalize isNameB (s.extract 0 (s.size - 1)) = nb at *
        go_enter Tryz.func111, Tryz.ntmps111
        go_wp2_with (go_at_call 133; refine (hN _).out.mono ?_; rintro e w1 ⟨rfl, hB1⟩)
        go_ret
        exact ⟨ret_bool HS.out.symm, by assumption⟩
      · have HS : Hid (sigB s = false) := by
          unfold sigB; rw [hcs]; simp [Hid]; intro _; omega
        have HS2 : Hid (isNameB s = false) := by
          show _ = _
          have e := risName_eq s
          unfold risNameB at e
          rw [← e, show decide (s.size ≤ 16) = false by simp; omega]; simp
        clear hcs he hb h42 hc hN
        have HN2 := HNs
        go_enter Tryz.func111, Tryz.ntmps111
        go_wp2_with (go_at_call 133; refine (HN2 _).out.mono ?_; rintro e w1 ⟨rfl, hB1⟩)
        go_ret
        exact ⟨ret_bool (by rw [HS.out, HS2.out]), by assumption⟩
    · have hcs : cutStar s = (s, false) := by unfold cutStar; rw [if_neg]; rintro ⟨_, h⟩; rw [he] at h; simp at h; exact h42 h
      have HS : Hid (sigB s = isNameB s) := by unfold sigB; rw [hcs]; simp [Hid]
      have hb : ((s[s.size - 1]'(by omega)).toNat : Int) ≠ 42 := by
        intro h; apply h42; apply UInt8.toNat_inj.1; have : (s[s.size - 1]'(by omega)).toNat = 42 := by omega
        rw [this]; rfl
      have hbb := beq_eq_false_iff_ne.2 hb
      clear hcs he hb h42 hc
      generalize isNameB s = nb at *
      by_cases h16 : (s.size : Int) ≤ 16
      · go_enter Tryz.func111, Tryz.ntmps111
        go_wp2_with (go_at_call 133; refine (HNs _).out.mono ?_; rintro e w1 ⟨rfl, hB1⟩)
        go_ret
        exact ⟨ret_bool HS.out.symm, by assumption⟩
      · go_enter Tryz.func111, Tryz.ntmps111
        go_wp2_with (go_at_call 133; refine (HNs _).out.mono ?_; rintro e w1 ⟨rfl, hB1⟩)
        go_ret
        exact ⟨ret_bool HS.out.symm, by assumption⟩
  · have h10 : ¬ (1 : Int) < s.size := by omega
    have HS : Hid (sigB s = isNameB s) := by
      show _ = _
      rw [sigB_if]
      cases hc : (cutStar s).2 with
      | false => simp
      | true =>
        have hne : (cutStar s).1.size = 0 := by
          unfold cutStar at hc ⊢
          split
          · rename_i hh; simp; omega
          · rename_i hh; rw [if_neg hh] at hc; cases hc
        have hst : s.size = 1 ∧ (s.extract (s.size - 1) s.size).toList = [42] := by
          unfold cutStar at hc
          split at hc
          · rename_i hh; exact ⟨by omega, hh.2⟩
          · cases hc
        have e1 : s = ⟨#[42]⟩ := by
          have h2 := ext_last45 s (by omega)
          rw [hst.2] at h2
          have h3 : s[s.size - 1]'(by omega) = 42 := by simpa using h2.symm
          apply ba_ext
          apply List.ext_getElem?
          intro i
          rcases i with _ | i
          · have h4 := byte_at s 0 (by omega)
            rw [h4]
            have : s[0]'(by omega) = s[s.size - 1]'(by omega) := by congr 1; omega
            rw [this, h3]; rfl
          · rw [List.getElem?_eq_none (by rw [Array.length_toList]; have h5 : s.data.size = s.size := rfl; have := hst.1; omega), List.getElem?_eq_none (by simp)]
        have e2 := (ba_ext (List.eq_nil_of_length_eq_zero (by rw [Array.length_toList]; exact hne)) : (cutStar s).1 = ⟨#[]⟩)
        rw [e2, e1]; decide +kernel
    generalize isNameB s = nb at *
    go_enter Tryz.func111, Tryz.ntmps111
    go_wp2_with (go_at_call 133; refine (HNs _).out.mono ?_; rintro e w1 ⟨rfl, hB1⟩)
    go_ret
    exact ⟨ret_bool HS.out.symm, by assumption⟩
set_option maxRecDepth 100000 in
set_option maxHeartbeats 1000000 in
theorem rsigla45_any (v : Value) (ws : List ByteArray) (w : World) (hr : RdS w v ws) (hz : ∀ s ∈ ws, s.size ≤ 65536) :
    Calls Tryz.prog 79 #[v] w fun e w' => e = .returned (.bool (!(ws.any fun s => !sigB s))) ∧ Below w.heap.size w w' := by
  have HW := fun s (h : s ∈ ws) w' => hid (rsig45_any s w' (by have := hz s h; unfold maxLen; omega))
  obtain ⟨ad, cap, rfl, hlc, hcm, hcell⟩ := hr.open
  have HC := hid hcell
  clear hcell hr hz
  go_enter Tryz.func79, Tryz.ntmps79
  go_wp2
  go_loopw [3] (fun i wr => ∃ k : Nat, k ≤ ws.length ∧ i = .int .i64 k ∧ Hid ((ws.take k).any (fun s => !sigB s) = false) ∧ Hid (Below w.heap.size w wr)) (fun i _ => ws.length - (intOf i).toNat)
  case atStart => exact ⟨0, Nat.zero_le _, rfl, rfl, Below.refl _ _⟩
  case round =>
    obtain ⟨k, hk, rfl, HN, HB⟩ := hrel
    by_cases hlt : k < ws.length
    · obtain ⟨x, b, o, hx, rfl, hc⟩ := HC.out k hlt
      have hki : (k : Int) < (ws.length : Int) := by omega
      have dc := Below.keeps HB.out _ _ hc
      have HWk := HW x (List.mem_of_getElem? hx) wr
      have HS := hid (any_snoc (fun s => !sigB s) ws k x hx)
      cases hw : sigB x with
      | true =>
        rw [hw] at HWk
        have HN2 : Hid ((ws.take (k + 1)).any (fun s => !sigB s) = false) := by unfold Hid; rw [HS.out, HN.out, hw]; rfl
        clear hc hx hw HS HN
        go_wp2_with fail
        refine HWk.out.mono ?_
        rintro e w1 ⟨rfl, hB1⟩
        have HB1 := hid (below_tr HB.out hB1)
        clear hB1 HB
        go_wp2_with fail
        go_roundw
        case rel => exact ⟨k + 1, by omega, by go_num, HN2.out, HB1.out⟩
        case measure => simp [intOf]; omega
      | false =>
        rw [hw] at HWk
        have HN2 : Hid ((ws.any fun s => !sigB s) = true) := any_take_true (k := k + 1) (by rw [HS.out, hw]; simp)
        clear hc hx hw HS HN
        go_wp2_with fail
        refine HWk.out.mono ?_
        rintro e w1 ⟨rfl, hB1⟩
        go_wp2
        go_ret
        exact ⟨ret_bool (by rw [HN2.out]; rfl), below_tr HB.out hB1⟩
    · have hki : ¬ (k : Int) < (ws.length : Int) := by omega
      have HN2 : Hid ((ws.any fun s => !sigB s) = false) := by
        have h := HN.out
        rw [List.take_of_length_le (by omega)] at h
        exact h
      clear HN
      go_wp2
      go_ret
      exact ⟨ret_bool (by rw [HN2.out]; rfl), HB.out⟩
theorem lemCk_word (x : ByteArray) : lemCk x ⟨#[]⟩ 0 = if wordB x = true then 0 else 11 := by
  have e : decide ((⟨#[]⟩ : ByteArray).size ≠ 0) = false := by decide
  unfold lemCk
  rw [e]
  cases wordB x <;> simp
set_option maxRecDepth 100000 in
set_option maxHeartbeats 1000000 in
theorem rright_any (v : Value) (ws : List ByteArray) (w : World) (he : Env w) (hr : RdS w v ws) (hz : ∀ s ∈ ws, s.size ≤ 65536) :
    Calls Tryz.prog 77 #[v] w fun e w' => e = .returned (.bool (!(ws.any fun s => !wordB s))) ∧ Below w.heap.size w w' := by
  have HW := fun s (h : s ∈ ws) w' (hb : Below w.heap.size w w') => hid (rlck_any s ⟨#[]⟩ 0 w' (he.below hb) (hz s h) (by decide))
  obtain ⟨ad, cap, rfl, hlc, hcm, hcell⟩ := hr.open
  have HC := hid hcell
  clear hcell hr hz he
  go_enter Tryz.func77, Tryz.ntmps77
  go_wp2
  go_loopw [3] (fun i wr => ∃ k : Nat, k ≤ ws.length ∧ i = .int .i64 k ∧ Hid ((ws.take k).any (fun s => !wordB s) = false) ∧ Hid (Below w.heap.size w wr)) (fun i _ => ws.length - (intOf i).toNat)
  case atStart => exact ⟨0, Nat.zero_le _, rfl, rfl, Below.refl _ _⟩
  case round =>
    obtain ⟨k, hk, rfl, HN, HB⟩ := hrel
    by_cases hlt : k < ws.length
    · obtain ⟨x, b, o, hx, rfl, hc⟩ := HC.out k hlt
      have hki : (k : Int) < (ws.length : Int) := by omega
      have dc := Below.keeps HB.out _ _ hc
      have HWk := HW x (List.mem_of_getElem? hx) wr HB.out
      have HS := hid (any_snoc (fun s => !wordB s) ws k x hx)
      rw [lemCk_word] at HWk
      cases hw : wordB x with
      | true =>
        rw [hw, if_pos rfl] at HWk
        have HN2 : Hid ((ws.take (k + 1)).any (fun s => !wordB s) = false) := by unfold Hid; rw [HS.out, HN.out, hw]; rfl
        clear hc hx hw HS HN
        go_wp2_with fail
        refine HWk.out.mono ?_
        rintro e w1 ⟨rfl, hB1⟩
        have HB1 := hid (below_tr HB.out hB1)
        clear hB1 HB
        go_wp2_with fail
        go_roundw
        case rel => exact ⟨k + 1, by omega, by go_num, HN2.out, HB1.out⟩
        case measure => simp [intOf]; omega
      | false =>
        rw [hw, if_neg (by simp)] at HWk
        have HN2 : Hid ((ws.any fun s => !wordB s) = true) := any_take_true (k := k + 1) (by rw [HS.out, hw]; simp)
        clear hc hx hw HS HN
        go_wp2_with fail
        refine HWk.out.mono ?_
        rintro e w1 ⟨rfl, hB1⟩
        go_wp2
        go_ret
        exact ⟨ret_bool (by rw [HN2.out]; rfl), below_tr HB.out hB1⟩
    · have hki : ¬ (k : Int) < (ws.length : Int) := by omega
      have HN2 : Hid ((ws.any fun s => !wordB s) = false) := by
        have h := HN.out
        rw [List.take_of_length_le (by omega)] at h
        exact h
      clear HN
      go_wp2
      go_ret
      exact ⟨ret_bool (by rw [HN2.out]; rfl), HB.out⟩
end Go.Proofs.YtjhdeoniafahbaaGreatDoor
namespace Go.Proofs.YtjhdeoniafahbaaGreatDoor
open Go.RowKit
set_option maxRecDepth 100000 in
set_option maxHeartbeats 4000000 in
theorem rhead_any (x : Nt) (u s : Value) (w : World) (he : Env w) (hr : RdN w u s x) (hz : SzN x) (h0 : headI x ≠ 0) :
    Calls Tryz.prog 34 #[.agg (x.cells u s)] w fun e w' => e = .returned (.int .i64 (headI x)) ∧ Below w.heap.size w w' := by
  obtain ⟨fr, to_, pl, lf, ll, ln, pos, sup, vs⟩ := x
  obtain ⟨hu, hs⟩ := hr
  simp only at hu hs
  obtain ⟨au, cu, rfl, hlu, hmu, _⟩ := hu.open
  obtain ⟨av, cv, rfl, hlv, hmv, _⟩ := hs.open
  unfold Nt.cells
  simp only
  have HB0 := hid (below_al w (.cells #[.int .i64 fr, .int .i64 to_, .int .i64 pl, .string lf, .string ll, .int .i64 ln, .bool pos, .slice au sup.length cu, .slice av vs.length cv] 30))
  have HR0 := hid (row_nw w #[.int .i64 fr, .int .i64 to_, .int .i64 pl, .string lf, .string ll, .int .i64 ln, .bool pos, .slice au sup.length cu, .slice av vs.length cv] 30 rfl)
  have HO := fun w' (h : Below w.heap.size w w') => hid (rsigla45_any (.slice au sup.length cu) sup w' (hu.below h) hz.sup)
  have HL := fun w' (h : Below w.heap.size w w') => hid (rlck_any lf ll ln w' (he.below h) hz.lf hz.ll)
  have HD : Hid (headI ⟨fr, to_, pl, lf, ll, ln, pos, sup, vs⟩ = if fr < 1 ∨ to_ < fr ∨ 4096 < to_ then 2 else if pl < 1 ∨ 4 < pl then 8
    else if pl = 4 ∧ (decide (lf.size = 0) && decide (ll.size = 0) && decide (ln = 0)) = false then 9
    else if pl ≠ 4 ∧ lemCk lf ll ln ≠ 0 then lemCk lf ll ln
    else if pl ≠ 4 ∧ pl ≠ 1 ∧ ll.size ≠ 0 then 9
    else if 0 < sup.length ∧ pos = false then 9 else if 4096 < sup.length then 4 else if (sup.any fun s => !sigB s) = true then 14
    else if vs.length = 0 then 5 else if 4096 < vs.length then 4 else 0) := rfl
  have H0 := hid h0
  clear hu hs hz he h0
  generalize headI ⟨fr, to_, pl, lf, ll, ln, pos, sup, vs⟩ = r at *
  generalize lemCk lf ll ln = lc at *
  generalize (sup.any fun s => !sigB s) = od at *

  by_cases k1 : fr < 1
  · have HV : Hid (r = 2) := by show _ = _; rw [HD.out, if_pos (.inl k1)]
    clear HD HO HL
    go_enter Tryz.func34, Tryz.ntmps34
    go_wp2
    go_ret
    exact ⟨ret_int HV.out.symm, HB0.out⟩
  by_cases k2 : to_ < fr
  · have HV : Hid (r = 2) := by show _ = _; rw [HD.out, if_pos (.inr (.inl k2))]
    clear HD HO HL
    go_enter Tryz.func34, Tryz.ntmps34
    go_wp2
    go_ret
    exact ⟨ret_int HV.out.symm, HB0.out⟩
  by_cases k3 : 4096 < to_
  · have HV : Hid (r = 2) := by show _ = _; rw [HD.out, if_pos (.inr (.inr k3))]
    clear HD HO HL
    go_enter Tryz.func34, Tryz.ntmps34
    go_wp2
    go_ret
    exact ⟨ret_int HV.out.symm, HB0.out⟩
  by_cases k4 : pl < 1
  · have HV : Hid (r = 8) := by show _ = _; rw [HD.out, if_neg (by omega), if_pos (.inl k4)]
    clear HD HO HL
    go_enter Tryz.func34, Tryz.ntmps34
    go_wp2
    go_ret
    exact ⟨ret_int HV.out.symm, HB0.out⟩
  by_cases k5 : 4 < pl
  · have HV : Hid (r = 8) := by show _ = _; rw [HD.out, if_neg (by omega), if_pos (.inr k5)]
    clear HD HO HL
    go_enter Tryz.func34, Tryz.ntmps34
    go_wp2
    go_ret
    exact ⟨ret_int HV.out.symm, HB0.out⟩
  replace HD := hid ((HD.out).trans (by rw [if_neg (show ¬ (fr < 1 ∨ to_ < fr ∨ 4096 < to_) by omega), if_neg (show ¬ (pl < 1 ∨ 4 < pl) by omega)]))

  by_cases k6 : pl = 4
  · subst k6
    have HT0 : Hid (r = if (decide (lf.size = 0) && decide (ll.size = 0) && decide (ln = 0)) = false then 9 else if 0 < sup.length ∧ pos = false then 9 else if 4096 < sup.length then 4 else if od = true then 14 else if vs.length = 0 then 5 else if 4096 < vs.length then 4 else 0) := by
      show _ = _
      rw [HD.out]
      simp
    clear HD HL
    cases hl0 : (decide (lf.size = 0) && decide (ll.size = 0) && decide (ln = 0)) with
    | false =>
      have HV : Hid (r = 9) := by show _ = _; rw [HT0.out, if_pos hl0]
      clear HT0 HO
      rcases lem_ne hl0 with hne | ⟨z1, hne⟩ | ⟨z1, z2, hne⟩
      · go_enter Tryz.func34, Tryz.ntmps34
        go_wp2
        go_ret
        exact ⟨ret_int HV.out.symm, HB0.out⟩
      · obtain rfl := ba_nil0 z1
        go_enter Tryz.func34, Tryz.ntmps34
        go_wp2
        go_ret
        exact ⟨ret_int HV.out.symm, HB0.out⟩
      · obtain rfl := ba_nil0 z1
        obtain rfl := ba_nil0 z2
        go_enter Tryz.func34, Tryz.ntmps34
        go_wp2
        go_ret
        exact ⟨ret_int HV.out.symm, HB0.out⟩
    | true =>
      have HT : Hid (r = if 0 < sup.length ∧ pos = false then 9 else if 4096 < sup.length then 4 else if od = true then 14 else if vs.length = 0 then 5 else if 4096 < vs.length then 4 else 0) := by show _ = _; rw [HT0.out, if_neg (by rw [hl0]; simp)]
      simp only [Bool.and_eq_true, decide_eq_true_eq] at hl0
      obtain ⟨⟨z1, z2⟩, rfl⟩ := hl0
      obtain rfl := ba_nil0 z1
      obtain rfl := ba_nil0 z2
      clear HT0 z1 z2

      by_cases s1 : 0 < sup.length ∧ pos = false
      · have HV : Hid (r = 9) := by show _ = _; rw [HT.out, if_pos s1]
        obtain ⟨s1a, rfl⟩ := s1
        have s1i : (0 : Int) < (sup.length : Int) := by omega
        clear HT HO
        go_enter Tryz.func34, Tryz.ntmps34
        go_wp2
        go_ret
        exact ⟨ret_int HV.out.symm, HB0.out⟩
      have HT2 : Hid (r = if 4096 < sup.length then 4 else if od = true then 14 else if vs.length = 0 then 5 else if 4096 < vs.length then 4 else 0) := by show _ = _; rw [HT.out, if_neg s1]
      clear HT
      have s1c : sup.length = 0 ∨ (0 < sup.length ∧ pos = true) := by
        rcases Nat.eq_zero_or_pos sup.length with h | h
        · exact .inl h
        · refine .inr ⟨h, ?_⟩
          cases hp : pos with
          | true => rfl
          | false => exact absurd ⟨h, hp⟩ s1
      clear s1
      by_cases s2 : 4096 < sup.length
      · have HV : Hid (r = 4) := by show _ = _; rw [HT2.out, if_pos s2]
        obtain ⟨s1a, rfl⟩ : 0 < sup.length ∧ pos = true := by
          rcases s1c with h | h
          · omega
          · exact h
        have s1i : (0 : Int) < (sup.length : Int) := by omega
        have s2i : (4096 : Int) < (sup.length : Int) := by omega
        clear HT2 HO s1c
        go_enter Tryz.func34, Tryz.ntmps34
        go_wp2
        go_ret
        exact ⟨ret_int HV.out.symm, HB0.out⟩
      have s2i : ¬ (4096 : Int) < (sup.length : Int) := by omega
      have HT3 : Hid (r = if od = true then 14 else if vs.length = 0 then 5 else if 4096 < vs.length then 4 else 0) := by show _ = _; rw [HT2.out, if_neg s2]
      clear HT2
      have HTv : (vs.length = 0 ∨ (0 < vs.length ∧ 4096 < vs.length) ∨ (0 < vs.length ∧ ¬ 4096 < vs.length)) := by omega
      rcases s1c with s1c | ⟨s1c, rfl⟩
      · have s1i : ¬ (0 : Int) < (sup.length : Int) := by omega
        clear s1c
        go_enter Tryz.func34, Tryz.ntmps34
        go_wp2_with fail
        (with_reducible refine (HO _ HB0.out).out.mono ?_)
        rintro e w5 ⟨rfl, hB5⟩
        have HB5 := hid (below_tr HB0.out hB5)
        have c8 := (HR0.out.below hB5).cell 8 rfl
        clear hB5 HO
        cases od with
        | true =>
          have HV : Hid (r = 14) := by show _ = _; rw [HT3.out, if_pos rfl]
          clear HT3 HTv
          go_wp2
          go_ret
          exact ⟨ret_int HV.out.symm, HB5.out⟩
        | false =>
          rcases HTv with v1 | ⟨v1, v2⟩ | ⟨v1, v2⟩
          · have HV : Hid (r = 5) := by show _ = _; rw [HT3.out, if_neg (by simp), if_pos v1]
            have v1i : ((vs.length : Int) == 0) = true := by rw [v1]; rfl
            clear HT3 v1
            go_wp2
            go_ret
            exact ⟨ret_int HV.out.symm, HB5.out⟩
          · have HV : Hid (r = 4) := by show _ = _; rw [HT3.out, if_neg (by simp), if_neg (by omega), if_pos v2]
            have v1i : ((vs.length : Int) == 0) = false := beq_eq_false_iff_ne.2 (by omega)
            have v2i : (4096 : Int) < (vs.length : Int) := by omega
            clear HT3 v1 v2
            go_wp2
            go_ret
            exact ⟨ret_int HV.out.symm, HB5.out⟩
          · have HV : Hid (r = 0) := by show _ = _; rw [HT3.out, if_neg (by simp), if_neg (by omega), if_neg v2]
            exact absurd HV.out H0.out
      · have s1i : (0 : Int) < (sup.length : Int) := by omega
        clear s1c
        go_enter Tryz.func34, Tryz.ntmps34
        go_wp2_with fail
        (with_reducible refine (HO _ HB0.out).out.mono ?_)
        rintro e w5 ⟨rfl, hB5⟩
        have HB5 := hid (below_tr HB0.out hB5)
        have c8 := (HR0.out.below hB5).cell 8 rfl
        clear hB5 HO
        cases od with
        | true =>
          have HV : Hid (r = 14) := by show _ = _; rw [HT3.out, if_pos rfl]
          clear HT3 HTv
          go_wp2
          go_ret
          exact ⟨ret_int HV.out.symm, HB5.out⟩
        | false =>
          rcases HTv with v1 | ⟨v1, v2⟩ | ⟨v1, v2⟩
          · have HV : Hid (r = 5) := by show _ = _; rw [HT3.out, if_neg (by simp), if_pos v1]
            have v1i : ((vs.length : Int) == 0) = true := by rw [v1]; rfl
            clear HT3 v1
            go_wp2
            go_ret
            exact ⟨ret_int HV.out.symm, HB5.out⟩
          · have HV : Hid (r = 4) := by show _ = _; rw [HT3.out, if_neg (by simp), if_neg (by omega), if_pos v2]
            have v1i : ((vs.length : Int) == 0) = false := beq_eq_false_iff_ne.2 (by omega)
            have v2i : (4096 : Int) < (vs.length : Int) := by omega
            clear HT3 v1 v2
            go_wp2
            go_ret
            exact ⟨ret_int HV.out.symm, HB5.out⟩
          · have HV : Hid (r = 0) := by show _ = _; rw [HT3.out, if_neg (by simp), if_neg (by omega), if_neg v2]
            exact absurd HV.out H0.out
  have k6b : (pl == 4) = false := beq_eq_false_iff_ne.2 k6
  by_cases k7 : lc = 0
  · subst k7
    by_cases k8 : pl = 1
    · subst k8
      have HT : Hid (r = if 0 < sup.length ∧ pos = false then 9 else if 4096 < sup.length then 4 else if od = true then 14 else if vs.length = 0 then 5 else if 4096 < vs.length then 4 else 0) := by show _ = _; rw [HD.out]; simp
      clear HD
      by_cases k9 : ll.size = 0
      · obtain rfl := ba_nil0 k9
        clear k9

        by_cases s1 : 0 < sup.length ∧ pos = false
        · have HV : Hid (r = 9) := by show _ = _; rw [HT.out, if_pos s1]
          obtain ⟨s1a, rfl⟩ := s1
          have s1i : (0 : Int) < (sup.length : Int) := by omega
          clear HT HO
          go_enter Tryz.func34, Tryz.ntmps34
          go_wp2_with fail
          (with_reducible refine (HL _ HB0.out).out.mono ?_)
          rintro e w4 ⟨rfl, hB4⟩
          have HR4 := hid (HR0.out.below hB4)
          have c2 := HR4.out.cell 2 rfl
          have c4 := HR4.out.cell 4 rfl
          have c6 := HR4.out.cell 6 rfl
          have c7 := HR4.out.cell 7 rfl
          have c8 := HR4.out.cell 8 rfl
          have HB4 := hid (below_tr HB0.out hB4)
          clear hB4 HL
          go_wp2
          go_ret
          exact ⟨ret_int HV.out.symm, HB4.out⟩
        have HT2 : Hid (r = if 4096 < sup.length then 4 else if od = true then 14 else if vs.length = 0 then 5 else if 4096 < vs.length then 4 else 0) := by show _ = _; rw [HT.out, if_neg s1]
        clear HT
        have s1c : sup.length = 0 ∨ (0 < sup.length ∧ pos = true) := by
          rcases Nat.eq_zero_or_pos sup.length with h | h
          · exact .inl h
          · refine .inr ⟨h, ?_⟩
            cases hp : pos with
            | true => rfl
            | false => exact absurd ⟨h, hp⟩ s1
        clear s1
        by_cases s2 : 4096 < sup.length
        · have HV : Hid (r = 4) := by show _ = _; rw [HT2.out, if_pos s2]
          obtain ⟨s1a, rfl⟩ : 0 < sup.length ∧ pos = true := by
            rcases s1c with h | h
            · omega
            · exact h
          have s1i : (0 : Int) < (sup.length : Int) := by omega
          have s2i : (4096 : Int) < (sup.length : Int) := by omega
          clear HT2 HO s1c
          go_enter Tryz.func34, Tryz.ntmps34
          go_wp2_with fail
          (with_reducible refine (HL _ HB0.out).out.mono ?_)
          rintro e w4 ⟨rfl, hB4⟩
          have HR4 := hid (HR0.out.below hB4)
          have c2 := HR4.out.cell 2 rfl
          have c4 := HR4.out.cell 4 rfl
          have c6 := HR4.out.cell 6 rfl
          have c7 := HR4.out.cell 7 rfl
          have c8 := HR4.out.cell 8 rfl
          have HB4 := hid (below_tr HB0.out hB4)
          clear hB4 HL
          go_wp2
          go_ret
          exact ⟨ret_int HV.out.symm, HB4.out⟩
        have s2i : ¬ (4096 : Int) < (sup.length : Int) := by omega
        have HT3 : Hid (r = if od = true then 14 else if vs.length = 0 then 5 else if 4096 < vs.length then 4 else 0) := by show _ = _; rw [HT2.out, if_neg s2]
        clear HT2
        have HTv : (vs.length = 0 ∨ (0 < vs.length ∧ 4096 < vs.length) ∨ (0 < vs.length ∧ ¬ 4096 < vs.length)) := by omega
        rcases s1c with s1c | ⟨s1c, rfl⟩
        · have s1i : ¬ (0 : Int) < (sup.length : Int) := by omega
          clear s1c
          go_enter Tryz.func34, Tryz.ntmps34
          go_wp2_with fail
          (with_reducible refine (HL _ HB0.out).out.mono ?_)
          rintro e w4 ⟨rfl, hB4⟩
          have HR4 := hid (HR0.out.below hB4)
          have c2 := HR4.out.cell 2 rfl
          have c4 := HR4.out.cell 4 rfl
          have c6 := HR4.out.cell 6 rfl
          have c7 := HR4.out.cell 7 rfl
          have c8 := HR4.out.cell 8 rfl
          have HB4 := hid (below_tr HB0.out hB4)
          clear hB4 HL
          go_wp2_with fail
          (with_reducible refine (HO _ HB4.out).out.mono ?_)
          rintro e w5 ⟨rfl, hB5⟩
          have HB5 := hid (below_tr HB4.out hB5)
          have c8 := (HR4.out.below hB5).cell 8 rfl
          clear hB5 HO
          cases od with
          | true =>
            have HV : Hid (r = 14) := by show _ = _; rw [HT3.out, if_pos rfl]
            clear HT3 HTv
            go_wp2
            go_ret
            exact ⟨ret_int HV.out.symm, HB5.out⟩
          | false =>
            rcases HTv with v1 | ⟨v1, v2⟩ | ⟨v1, v2⟩
            · have HV : Hid (r = 5) := by show _ = _; rw [HT3.out, if_neg (by simp), if_pos v1]
              have v1i : ((vs.length : Int) == 0) = true := by rw [v1]; rfl
              clear HT3 v1
              go_wp2
              go_ret
              exact ⟨ret_int HV.out.symm, HB5.out⟩
            · have HV : Hid (r = 4) := by show _ = _; rw [HT3.out, if_neg (by simp), if_neg (by omega), if_pos v2]
              have v1i : ((vs.length : Int) == 0) = false := beq_eq_false_iff_ne.2 (by omega)
              have v2i : (4096 : Int) < (vs.length : Int) := by omega
              clear HT3 v1 v2
              go_wp2
              go_ret
              exact ⟨ret_int HV.out.symm, HB5.out⟩
            · have HV : Hid (r = 0) := by show _ = _; rw [HT3.out, if_neg (by simp), if_neg (by omega), if_neg v2]
              exact absurd HV.out H0.out
        · have s1i : (0 : Int) < (sup.length : Int) := by omega
          clear s1c
          go_enter Tryz.func34, Tryz.ntmps34
          go_wp2_with fail
          (with_reducible refine (HL _ HB0.out).out.mono ?_)
          rintro e w4 ⟨rfl, hB4⟩
          have HR4 := hid (HR0.out.below hB4)
          have c2 := HR4.out.cell 2 rfl
          have c4 := HR4.out.cell 4 rfl
          have c6 := HR4.out.cell 6 rfl
          have c7 := HR4.out.cell 7 rfl
          have c8 := HR4.out.cell 8 rfl
          have HB4 := hid (below_tr HB0.out hB4)
          clear hB4 HL
          go_wp2_with fail
          (with_reducible refine (HO _ HB4.out).out.mono ?_)
          rintro e w5 ⟨rfl, hB5⟩
          have HB5 := hid (below_tr HB4.out hB5)
          have c8 := (HR4.out.below hB5).cell 8 rfl
          clear hB5 HO
          cases od with
          | true =>
            have HV : Hid (r = 14) := by show _ = _; rw [HT3.out, if_pos rfl]
            clear HT3 HTv
            go_wp2
            go_ret
            exact ⟨ret_int HV.out.symm, HB5.out⟩
          | false =>
            rcases HTv with v1 | ⟨v1, v2⟩ | ⟨v1, v2⟩
            · have HV : Hid (r = 5) := by show _ = _; rw [HT3.out, if_neg (by simp), if_pos v1]
              have v1i : ((vs.length : Int) == 0) = true := by rw [v1]; rfl
              clear HT3 v1
              go_wp2
              go_ret
              exact ⟨ret_int HV.out.symm, HB5.out⟩
            · have HV : Hid (r = 4) := by show _ = _; rw [HT3.out, if_neg (by simp), if_neg (by omega), if_pos v2]
              have v1i : ((vs.length : Int) == 0) = false := beq_eq_false_iff_ne.2 (by omega)
              have v2i : (4096 : Int) < (vs.length : Int) := by omega
              clear HT3 v1 v2
              go_wp2
              go_ret
              exact ⟨ret_int HV.out.symm, HB5.out⟩
            · have HV : Hid (r = 0) := by show _ = _; rw [HT3.out, if_neg (by simp), if_neg (by omega), if_neg v2]
              exact absurd HV.out H0.out
      · have k9b : ¬ ll.toList = [] := toL_ne k9
        clear k9

        by_cases s1 : 0 < sup.length ∧ pos = false
        · have HV : Hid (r = 9) := by show _ = _; rw [HT.out, if_pos s1]
          obtain ⟨s1a, rfl⟩ := s1
          have s1i : (0 : Int) < (sup.length : Int) := by omega
          clear HT HO
          go_enter Tryz.func34, Tryz.ntmps34
          go_wp2_with fail
          (with_reducible refine (HL _ HB0.out).out.mono ?_)
          rintro e w4 ⟨rfl, hB4⟩
          have HR4 := hid (HR0.out.below hB4)
          have c2 := HR4.out.cell 2 rfl
          have c4 := HR4.out.cell 4 rfl
          have c6 := HR4.out.cell 6 rfl
          have c7 := HR4.out.cell 7 rfl
          have c8 := HR4.out.cell 8 rfl
          have HB4 := hid (below_tr HB0.out hB4)
          clear hB4 HL
          go_wp2
          go_ret
          exact ⟨ret_int HV.out.symm, HB4.out⟩
        have HT2 : Hid (r = if 4096 < sup.length then 4 else if od = true then 14 else if vs.length = 0 then 5 else if 4096 < vs.length then 4 else 0) := by show _ = _; rw [HT.out, if_neg s1]
        clear HT
        have s1c : sup.length = 0 ∨ (0 < sup.length ∧ pos = true) := by
          rcases Nat.eq_zero_or_pos sup.length with h | h
          · exact .inl h
          · refine .inr ⟨h, ?_⟩
            cases hp : pos with
            | true => rfl
            | false => exact absurd ⟨h, hp⟩ s1
        clear s1
        by_cases s2 : 4096 < sup.length
        · have HV : Hid (r = 4) := by show _ = _; rw [HT2.out, if_pos s2]
          obtain ⟨s1a, rfl⟩ : 0 < sup.length ∧ pos = true := by
            rcases s1c with h | h
            · omega
            · exact h
          have s1i : (0 : Int) < (sup.length : Int) := by omega
          have s2i : (4096 : Int) < (sup.length : Int) := by omega
          clear HT2 HO s1c
          go_enter Tryz.func34, Tryz.ntmps34
          go_wp2_with fail
          (with_reducible refine (HL _ HB0.out).out.mono ?_)
          rintro e w4 ⟨rfl, hB4⟩
          have HR4 := hid (HR0.out.below hB4)
          have c2 := HR4.out.cell 2 rfl
          have c4 := HR4.out.cell 4 rfl
          have c6 := HR4.out.cell 6 rfl
          have c7 := HR4.out.cell 7 rfl
          have c8 := HR4.out.cell 8 rfl
          have HB4 := hid (below_tr HB0.out hB4)
          clear hB4 HL
          go_wp2
          go_ret
          exact ⟨ret_int HV.out.symm, HB4.out⟩
        have s2i : ¬ (4096 : Int) < (sup.length : Int) := by omega
        have HT3 : Hid (r = if od = true then 14 else if vs.length = 0 then 5 else if 4096 < vs.length then 4 else 0) := by show _ = _; rw [HT2.out, if_neg s2]
        clear HT2
        have HTv : (vs.length = 0 ∨ (0 < vs.length ∧ 4096 < vs.length) ∨ (0 < vs.length ∧ ¬ 4096 < vs.length)) := by omega
        rcases s1c with s1c | ⟨s1c, rfl⟩
        · have s1i : ¬ (0 : Int) < (sup.length : Int) := by omega
          clear s1c
          go_enter Tryz.func34, Tryz.ntmps34
          go_wp2_with fail
          (with_reducible refine (HL _ HB0.out).out.mono ?_)
          rintro e w4 ⟨rfl, hB4⟩
          have HR4 := hid (HR0.out.below hB4)
          have c2 := HR4.out.cell 2 rfl
          have c4 := HR4.out.cell 4 rfl
          have c6 := HR4.out.cell 6 rfl
          have c7 := HR4.out.cell 7 rfl
          have c8 := HR4.out.cell 8 rfl
          have HB4 := hid (below_tr HB0.out hB4)
          clear hB4 HL
          go_wp2_with fail
          (with_reducible refine (HO _ HB4.out).out.mono ?_)
          rintro e w5 ⟨rfl, hB5⟩
          have HB5 := hid (below_tr HB4.out hB5)
          have c8 := (HR4.out.below hB5).cell 8 rfl
          clear hB5 HO
          cases od with
          | true =>
            have HV : Hid (r = 14) := by show _ = _; rw [HT3.out, if_pos rfl]
            clear HT3 HTv
            go_wp2
            go_ret
            exact ⟨ret_int HV.out.symm, HB5.out⟩
          | false =>
            rcases HTv with v1 | ⟨v1, v2⟩ | ⟨v1, v2⟩
            · have HV : Hid (r = 5) := by show _ = _; rw [HT3.out, if_neg (by simp), if_pos v1]
              have v1i : ((vs.length : Int) == 0) = true := by rw [v1]; rfl
              clear HT3 v1
              go_wp2
              go_ret
              exact ⟨ret_int HV.out.symm, HB5.out⟩
            · have HV : Hid (r = 4) := by show _ = _; rw [HT3.out, if_neg (by simp), if_neg (by omega), if_pos v2]
              have v1i : ((vs.length : Int) == 0) = false := beq_eq_false_iff_ne.2 (by omega)
              have v2i : (4096 : Int) < (vs.length : Int) := by omega
              clear HT3 v1 v2
              go_wp2
              go_ret
              exact ⟨ret_int HV.out.symm, HB5.out⟩
            · have HV : Hid (r = 0) := by show _ = _; rw [HT3.out, if_neg (by simp), if_neg (by omega), if_neg v2]
              exact absurd HV.out H0.out
        · have s1i : (0 : Int) < (sup.length : Int) := by omega
          clear s1c
          go_enter Tryz.func34, Tryz.ntmps34
          go_wp2_with fail
          (with_reducible refine (HL _ HB0.out).out.mono ?_)
          rintro e w4 ⟨rfl, hB4⟩
          have HR4 := hid (HR0.out.below hB4)
          have c2 := HR4.out.cell 2 rfl
          have c4 := HR4.out.cell 4 rfl
          have c6 := HR4.out.cell 6 rfl
          have c7 := HR4.out.cell 7 rfl
          have c8 := HR4.out.cell 8 rfl
          have HB4 := hid (below_tr HB0.out hB4)
          clear hB4 HL
          go_wp2_with fail
          (with_reducible refine (HO _ HB4.out).out.mono ?_)
          rintro e w5 ⟨rfl, hB5⟩
          have HB5 := hid (below_tr HB4.out hB5)
          have c8 := (HR4.out.below hB5).cell 8 rfl
          clear hB5 HO
          cases od with
          | true =>
            have HV : Hid (r = 14) := by show _ = _; rw [HT3.out, if_pos rfl]
            clear HT3 HTv
            go_wp2
            go_ret
            exact ⟨ret_int HV.out.symm, HB5.out⟩
          | false =>
            rcases HTv with v1 | ⟨v1, v2⟩ | ⟨v1, v2⟩
            · have HV : Hid (r = 5) := by show _ = _; rw [HT3.out, if_neg (by simp), if_pos v1]
              have v1i : ((vs.length : Int) == 0) = true := by rw [v1]; rfl
              clear HT3 v1
              go_wp2
              go_ret
              exact ⟨ret_int HV.out.symm, HB5.out⟩
            · have HV : Hid (r = 4) := by show _ = _; rw [HT3.out, if_neg (by simp), if_neg (by omega), if_pos v2]
              have v1i : ((vs.length : Int) == 0) = false := beq_eq_false_iff_ne.2 (by omega)
              have v2i : (4096 : Int) < (vs.length : Int) := by omega
              clear HT3 v1 v2
              go_wp2
              go_ret
              exact ⟨ret_int HV.out.symm, HB5.out⟩
            · have HV : Hid (r = 0) := by show _ = _; rw [HT3.out, if_neg (by simp), if_neg (by omega), if_neg v2]
              exact absurd HV.out H0.out
    · have k8b : (pl == 1) = false := beq_eq_false_iff_ne.2 k8
      have k8c : (pl != 1) = true := bne_iff_ne.2 k8
      by_cases k9 : ll.size = 0
      · obtain rfl := ba_nil0 k9
        have HT : Hid (r = if 0 < sup.length ∧ pos = false then 9 else if 4096 < sup.length then 4 else if od = true then 14 else if vs.length = 0 then 5 else if 4096 < vs.length then 4 else 0) := by show _ = _; rw [HD.out, if_neg (fun h => k6 h.1), if_neg (fun h => h.2 rfl), if_neg (fun h => h.2.2 rfl)]
        clear HD k9

        by_cases s1 : 0 < sup.length ∧ pos = false
        · have HV : Hid (r = 9) := by show _ = _; rw [HT.out, if_pos s1]
          obtain ⟨s1a, rfl⟩ := s1
          have s1i : (0 : Int) < (sup.length : Int) := by omega
          clear HT HO
          go_enter Tryz.func34, Tryz.ntmps34
          go_wp2_with fail
          (with_reducible refine (HL _ HB0.out).out.mono ?_)
          rintro e w4 ⟨rfl, hB4⟩
          have HR4 := hid (HR0.out.below hB4)
          have c2 := HR4.out.cell 2 rfl
          have c4 := HR4.out.cell 4 rfl
          have c6 := HR4.out.cell 6 rfl
          have c7 := HR4.out.cell 7 rfl
          have c8 := HR4.out.cell 8 rfl
          have HB4 := hid (below_tr HB0.out hB4)
          clear hB4 HL
          go_wp2
          go_ret
          exact ⟨ret_int HV.out.symm, HB4.out⟩
        have HT2 : Hid (r = if 4096 < sup.length then 4 else if od = true then 14 else if vs.length = 0 then 5 else if 4096 < vs.length then 4 else 0) := by show _ = _; rw [HT.out, if_neg s1]
        clear HT
        have s1c : sup.length = 0 ∨ (0 < sup.length ∧ pos = true) := by
          rcases Nat.eq_zero_or_pos sup.length with h | h
          · exact .inl h
          · refine .inr ⟨h, ?_⟩
            cases hp : pos with
            | true => rfl
            | false => exact absurd ⟨h, hp⟩ s1
        clear s1
        by_cases s2 : 4096 < sup.length
        · have HV : Hid (r = 4) := by show _ = _; rw [HT2.out, if_pos s2]
          obtain ⟨s1a, rfl⟩ : 0 < sup.length ∧ pos = true := by
            rcases s1c with h | h
            · omega
            · exact h
          have s1i : (0 : Int) < (sup.length : Int) := by omega
          have s2i : (4096 : Int) < (sup.length : Int) := by omega
          clear HT2 HO s1c
          go_enter Tryz.func34, Tryz.ntmps34
          go_wp2_with fail
          (with_reducible refine (HL _ HB0.out).out.mono ?_)
          rintro e w4 ⟨rfl, hB4⟩
          have HR4 := hid (HR0.out.below hB4)
          have c2 := HR4.out.cell 2 rfl
          have c4 := HR4.out.cell 4 rfl
          have c6 := HR4.out.cell 6 rfl
          have c7 := HR4.out.cell 7 rfl
          have c8 := HR4.out.cell 8 rfl
          have HB4 := hid (below_tr HB0.out hB4)
          clear hB4 HL
          go_wp2
          go_ret
          exact ⟨ret_int HV.out.symm, HB4.out⟩
        have s2i : ¬ (4096 : Int) < (sup.length : Int) := by omega
        have HT3 : Hid (r = if od = true then 14 else if vs.length = 0 then 5 else if 4096 < vs.length then 4 else 0) := by show _ = _; rw [HT2.out, if_neg s2]
        clear HT2
        have HTv : (vs.length = 0 ∨ (0 < vs.length ∧ 4096 < vs.length) ∨ (0 < vs.length ∧ ¬ 4096 < vs.length)) := by omega
        rcases s1c with s1c | ⟨s1c, rfl⟩
        · have s1i : ¬ (0 : Int) < (sup.length : Int) := by omega
          clear s1c
          go_enter Tryz.func34, Tryz.ntmps34
          go_wp2_with fail
          (with_reducible refine (HL _ HB0.out).out.mono ?_)
          rintro e w4 ⟨rfl, hB4⟩
          have HR4 := hid (HR0.out.below hB4)
          have c2 := HR4.out.cell 2 rfl
          have c4 := HR4.out.cell 4 rfl
          have c6 := HR4.out.cell 6 rfl
          have c7 := HR4.out.cell 7 rfl
          have c8 := HR4.out.cell 8 rfl
          have HB4 := hid (below_tr HB0.out hB4)
          clear hB4 HL
          go_wp2_with fail
          (with_reducible refine (HO _ HB4.out).out.mono ?_)
          rintro e w5 ⟨rfl, hB5⟩
          have HB5 := hid (below_tr HB4.out hB5)
          have c8 := (HR4.out.below hB5).cell 8 rfl
          clear hB5 HO
          cases od with
          | true =>
            have HV : Hid (r = 14) := by show _ = _; rw [HT3.out, if_pos rfl]
            clear HT3 HTv
            go_wp2
            go_ret
            exact ⟨ret_int HV.out.symm, HB5.out⟩
          | false =>
            rcases HTv with v1 | ⟨v1, v2⟩ | ⟨v1, v2⟩
            · have HV : Hid (r = 5) := by show _ = _; rw [HT3.out, if_neg (by simp), if_pos v1]
              have v1i : ((vs.length : Int) == 0) = true := by rw [v1]; rfl
              clear HT3 v1
              go_wp2
              go_ret
              exact ⟨ret_int HV.out.symm, HB5.out⟩
            · have HV : Hid (r = 4) := by show _ = _; rw [HT3.out, if_neg (by simp), if_neg (by omega), if_pos v2]
              have v1i : ((vs.length : Int) == 0) = false := beq_eq_false_iff_ne.2 (by omega)
              have v2i : (4096 : Int) < (vs.length : Int) := by omega
              clear HT3 v1 v2
              go_wp2
              go_ret
              exact ⟨ret_int HV.out.symm, HB5.out⟩
            · have HV : Hid (r = 0) := by show _ = _; rw [HT3.out, if_neg (by simp), if_neg (by omega), if_neg v2]
              exact absurd HV.out H0.out
        · have s1i : (0 : Int) < (sup.length : Int) := by omega
          clear s1c
          go_enter Tryz.func34, Tryz.ntmps34
          go_wp2_with fail
          (with_reducible refine (HL _ HB0.out).out.mono ?_)
          rintro e w4 ⟨rfl, hB4⟩
          have HR4 := hid (HR0.out.below hB4)
          have c2 := HR4.out.cell 2 rfl
          have c4 := HR4.out.cell 4 rfl
          have c6 := HR4.out.cell 6 rfl
          have c7 := HR4.out.cell 7 rfl
          have c8 := HR4.out.cell 8 rfl
          have HB4 := hid (below_tr HB0.out hB4)
          clear hB4 HL
          go_wp2_with fail
          (with_reducible refine (HO _ HB4.out).out.mono ?_)
          rintro e w5 ⟨rfl, hB5⟩
          have HB5 := hid (below_tr HB4.out hB5)
          have c8 := (HR4.out.below hB5).cell 8 rfl
          clear hB5 HO
          cases od with
          | true =>
            have HV : Hid (r = 14) := by show _ = _; rw [HT3.out, if_pos rfl]
            clear HT3 HTv
            go_wp2
            go_ret
            exact ⟨ret_int HV.out.symm, HB5.out⟩
          | false =>
            rcases HTv with v1 | ⟨v1, v2⟩ | ⟨v1, v2⟩
            · have HV : Hid (r = 5) := by show _ = _; rw [HT3.out, if_neg (by simp), if_pos v1]
              have v1i : ((vs.length : Int) == 0) = true := by rw [v1]; rfl
              clear HT3 v1
              go_wp2
              go_ret
              exact ⟨ret_int HV.out.symm, HB5.out⟩
            · have HV : Hid (r = 4) := by show _ = _; rw [HT3.out, if_neg (by simp), if_neg (by omega), if_pos v2]
              have v1i : ((vs.length : Int) == 0) = false := beq_eq_false_iff_ne.2 (by omega)
              have v2i : (4096 : Int) < (vs.length : Int) := by omega
              clear HT3 v1 v2
              go_wp2
              go_ret
              exact ⟨ret_int HV.out.symm, HB5.out⟩
            · have HV : Hid (r = 0) := by show _ = _; rw [HT3.out, if_neg (by simp), if_neg (by omega), if_neg v2]
              exact absurd HV.out H0.out
      · have k9b : ¬ ll.toList = [] := toL_ne k9
        have k9c : ll.toList.isEmpty = false := mt_ne k9
        have HV : Hid (r = 9) := by show _ = _; rw [HD.out]; simp [k6, k8, k9]
        clear HD HO k9
        go_enter Tryz.func34, Tryz.ntmps34
        go_wp2_with fail
        (with_reducible refine (HL _ HB0.out).out.mono ?_)
        rintro e w4 ⟨rfl, hB4⟩
        have HR4 := hid (HR0.out.below hB4)
        have c2 := HR4.out.cell 2 rfl
        have c4 := HR4.out.cell 4 rfl
        have c6 := HR4.out.cell 6 rfl
        have c7 := HR4.out.cell 7 rfl
        have c8 := HR4.out.cell 8 rfl
        have HB4 := hid (below_tr HB0.out hB4)
        go_wp2
        go_ret
        exact ⟨ret_int HV.out.symm, HB4.out⟩
  · have k7b : (lc == 0) = false := beq_eq_false_iff_ne.2 k7
    have HV : Hid (r = lc) := by show _ = _; rw [HD.out, if_neg (by simp [k6]), if_pos ⟨k6, k7⟩]
    clear HD HO
    go_enter Tryz.func34, Tryz.ntmps34
    go_wp2_with fail
    (with_reducible refine (HL _ HB0.out).out.mono ?_)
    rintro e w4 ⟨rfl, hB4⟩
    have HR4 := hid (HR0.out.below hB4)
    have c2 := HR4.out.cell 2 rfl
    have c4 := HR4.out.cell 4 rfl
    have c6 := HR4.out.cell 6 rfl
    have c7 := HR4.out.cell 7 rfl
    have c8 := HR4.out.cell 8 rfl
    have HB4 := hid (below_tr HB0.out hB4)
    go_wp2
    go_ret
    exact ⟨ret_int HV.out.symm, HB4.out⟩
end Go.Proofs.YtjhdeoniafahbaaGreatDoor
namespace Go.Proofs.YtjhdeoniafahbaaGreatDoor
open Go.RowKit
/-- What a valid head tells. -/
theorem head_ok {x : Nt} (h : headI x = 0) : (1 ≤ x.fr ∧ x.fr ≤ x.to_ ∧ x.to_ ≤ 4096) ∧ (1 ≤ x.pl ∧ x.pl ≤ 4) ∧ ((x.pl = 4 ∧ x.lf.size = 0 ∧ x.ll.size = 0 ∧ x.ln = 0) ∨ (x.pl ≠ 4 ∧ lemCk x.lf x.ll x.ln = 0 ∧ (x.pl = 1 ∨ x.ll.size = 0))) ∧
    (x.sup.length = 0 ∨ x.pos = true) ∧ x.sup.length ≤ 4096 ∧ (x.sup.any fun s => !sigB s) = false ∧ 0 < x.vs.length ∧ x.vs.length ≤ 4096 := by
  unfold headI at h
  split at h
  · cases h
  rename_i a1
  split at h
  · cases h
  rename_i a2
  split at h
  · cases h
  rename_i a3
  split at h
  · rename_i a4; exact absurd h a4.2
  rename_i a4
  split at h
  · cases h
  rename_i a5
  split at h
  · cases h
  rename_i a6
  split at h
  · cases h
  rename_i a7
  split at h
  · cases h
  rename_i a8
  split at h
  · cases h
  rename_i a9
  split at h
  · cases h
  rename_i a10
  refine ⟨by omega, by omega, ?_, ?_, by omega, by simpa using a8, by omega, by omega⟩
  · by_cases p4 : x.pl = 4
    · left
      have h3 : lem0 x = true := by
        cases hl : lem0 x with
        | true => rfl
        | false => exact absurd ⟨p4, hl⟩ a3
      unfold lem0 at h3
      simp only [Bool.and_eq_true, decide_eq_true_eq] at h3
      exact ⟨p4, h3.1.1, h3.1.2, h3.2⟩
    · right
      refine ⟨p4, Classical.byContradiction fun hc => a4 ⟨p4, hc⟩, ?_⟩
      by_cases p1 : x.pl = 1
      · exact .inl p1
      · exact .inr (Classical.byContradiction fun hc => a5 ⟨p4, p1, hc⟩)
  · rcases Nat.eq_zero_or_pos x.sup.length with h1 | h1
    · exact .inl h1
    · refine .inr ?_
      cases hp : x.pos with
      | true => rfl
      | false => exact absurd ⟨h1, hp⟩ a6
set_option maxRecDepth 100000 in
set_option maxHeartbeats 8000000 in
theorem rchk_ok (x : Nt) (u s : Value) (w : World) (he : Env w) (hr : RdN w u s x) (hz : SzN x) (h0 : headI x = 0) :
    Calls Tryz.prog 34 #[.agg (x.cells u s)] w fun e w' => e = .returned (.int .i64 (nteI x)) ∧ Below w.heap.size w w' := by
  obtain ⟨⟨a1, a2, a3⟩, ⟨b1, b2⟩, hlem, hsp, hsl, hsg, hv0, hv1⟩ := head_ok h0
  have HV : Hid (nteI x = varsI x.pl x.vs) := by show _ = _; unfold nteI; rw [if_pos h0]
  have HB0 := hid (below_al w (.cells (x.cells u s) 30))
  have HR0 := hid (row_nw w (x.cells u s) 30 rfl)
  have HE := fun w' (h : Below w.heap.size w w') => hid (he.below h)
  have HS : ∀ w', Below w.heap.size w w' → Hid (Calls Tryz.prog 79 #[u] w' fun e w'' => e = .returned (.bool true) ∧ Below w'.heap.size w' w'') := fun w' h => by
    have h2 := rsigla45_any u x.sup w' (hr.rs.below h) hz.sup
    rw [hsg] at h2
    exact h2
  have HL := fun w' (h : Below w.heap.size w w') => hid (rlck_any x.lf x.ll x.ln w' (he.below h) hz.lf hz.ll)
  have hvs := hr.rv
  have hzv := hz.vs
  obtain ⟨au, cu, rfl, hlu, hmu, _⟩ := hr.rs.open
  obtain ⟨av, cv, rfl, hlv, hmv, _⟩ := hvs.open
  clear he hr hz h0 hsg
  obtain ⟨ri, hri⟩ : ∃ r, r = nteI x := ⟨_, rfl⟩
  rw [← hri] at HV
  rw [← hri]
  clear hri
  obtain ⟨fr, to_, pl, lf, ll, ln, pos, sup, vs⟩ := x
  unfold Nt.cells at *
  simp only at *
  have q1 : ¬ fr < 1 := by omega
  have q2 : ¬ to_ < fr := by omega
  have q3 : ¬ 4096 < to_ := by omega
  have q4 : ¬ pl < 1 := by omega
  have q5 : ¬ 4 < pl := by omega
  have s2i : ¬ (4096 : Int) < (sup.length : Int) := by omega
  have v0b : ((vs.length : Int) == 0) = false := beq_eq_false_iff_ne.2 (by omega)
  have v1i : ¬ (4096 : Int) < (vs.length : Int) := by omega
  have HLEM := hid hlem
  have HSP := hid hsp
  clear hlem hsp hsl hv0 hv1 a1 a2 a3 b1 b2
  go_enter Tryz.func34, Tryz.ntmps34
  go_upto_if 31 with fail
  generalize w.alloc (.cells #[.int .i64 fr, .int .i64 to_, .int .i64 pl, .string lf, .string ll, .int .i64 ln, .bool pos, .slice au sup.length cu, .slice av vs.length cv] 30) = W0 at *
  go_cut [3] from 31 to 50 (fun v wx => Hid (Below w.heap.size w wx) ∧ Hid (Row wx w.heap.size #[.int .i64 fr, .int .i64 to_, .int .i64 pl, .string lf, .string ll, .int .i64 ln, .bool pos, .slice au sup.length cu, .slice av vs.length cv] 30))
  case first =>
    have c2 := HR0.out.cell 2 (x := .int .i64 pl) rfl
    have c3 := HR0.out.cell 3 (x := .string lf) rfl
    have c4 := HR0.out.cell 4 (x := .string ll) rfl
    have c5 := HR0.out.cell 5 (x := .int .i64 ln) rfl
    rcases HLEM.out with ⟨k6, z1, z2, z3⟩ | ⟨k6, kl, k8⟩
    · have k6b : (pl == 4) = true := by rw [k6]; rfl
      subst z3
      obtain rfl := ba_nil0 z1
      obtain rfl := ba_nil0 z2
      clear z1 z2 HLEM HL HS k6
      go_wp2_with fail
      go_meet
      case rel => exact ⟨HB0.out, HR0.out⟩
    · have k6b : (pl == 4) = false := beq_eq_false_iff_ne.2 k6
      rw [kl] at HL
      have HL1 := hid (HL W0 HB0.out).out
      clear HL HS HLEM kl k6
      rcases k8 with k8 | k8
      · subst k8
        go_wp2_with fail
        (with_reducible refine HL1.out.mono ?_)
        rintro e w4 ⟨rfl, hB4⟩
        have HR4 := hid (HR0.out.below hB4)
        have d2 := HR4.out.cell 2 (x := .int .i64 1) rfl
        have HB4 := hid (below_tr HB0.out hB4)
        clear hB4 c2 c3 c4 c5
        go_wp2_with fail
        go_meet
        case rel => exact ⟨HB4.out, HR4.out⟩
      · obtain rfl := ba_nil0 k8
        clear k8
        cases hp1 : (pl != 1) with
        | true =>
          have HP1 := hid hp1
          go_wp2_with fail
          (with_reducible refine HL1.out.mono ?_)
          rintro e w4 ⟨rfl, hB4⟩
          have HR4 := hid (HR0.out.below hB4)
          have d2 := HR4.out.cell 2 (x := .int .i64 pl) rfl
          have d4 := HR4.out.cell 4 (x := .string ⟨#[]⟩) rfl
          have HB4 := hid (below_tr HB0.out hB4)
          clear hB4 c2 c3 c4 c5
          go_wp2_with fail
          go_meet
          case rel => exact ⟨HB4.out, HR4.out⟩
        | false =>
          go_wp2_with fail
          (with_reducible refine HL1.out.mono ?_)
          rintro e w4 ⟨rfl, hB4⟩
          have HR4 := hid (HR0.out.below hB4)
          have d2 := HR4.out.cell 2 (x := .int .i64 pl) rfl
          have HB4 := hid (below_tr HB0.out hB4)
          clear hB4 c2 c3 c4 c5
          go_wp2_with fail
          go_meet
          case rel => exact ⟨HB4.out, HR4.out⟩
  case rest =>
    obtain ⟨HB1, HR1⟩ := hcut
    clear HB0 HR0 HL HLEM q1 q2 q3 q4 q5
    have c6 := HR1.out.cell 6 (x := .bool pos) rfl
    have c7 := HR1.out.cell 7 (x := .slice au sup.length cu) rfl
    go_upto_region 13 with fail
    go_cut [51] from 52 to 60 (fun v wx => v = .bool false ∧ Hid (wc = wx))
    case first =>
      rcases HSP.out with h | h
      · have s1i : ¬ (0 : Int) < (sup.length : Int) := by omega
        clear h HS HSP
        go_wp2_with fail
        go_meet
        case rel => exact ⟨rfl, rfl⟩
      · subst h
        by_cases h2 : (0 : Int) < (sup.length : Int)
        · clear HS HSP
          go_wp2_with fail
          go_meet
          case rel => exact ⟨rfl, rfl⟩
        · clear HS HSP
          go_wp2_with fail
          go_meet
          case rel => exact ⟨rfl, rfl⟩
    case rest =>
      obtain ⟨rfl, hwc⟩ := hcut
      obtain rfl := hwc.out
      have HS1 := HS _ HB1.out
      clear HS HSP hwc c6
      go_wp2_with fail
      (with_reducible refine HS1.out.mono ?_)
      rintro e w5 ⟨rfl, hB5⟩
      have HR5 := hid (HR1.out.below hB5)
      have HB5 := hid (below_tr HB1.out hB5)
      have c8 := HR5.out.cell 8 (x := .slice av vs.length cv) rfl
      have hv1 := hvs.below HB5.out
      clear HR1 HB1 hB5 HS1 hvs c7
      go_wp2
      clear c8
      obtain ⟨_, _, he8, _, _, hcell⟩ := hv1.open
      simp only [Value.slice.injEq] at he8
      obtain ⟨rfl, _, rfl⟩ := he8
      have HC := hid hcell
      clear hcell hv1 v0b v1i s2i
      generalize w5 = w0 at *
      go_loopw [4] (fun i wr => ∃ k : Nat, k ≤ vs.length ∧ i = .int .i64 k ∧ Hid (∀ y ∈ vs.take k, varI pl y = 0) ∧ Hid (Below w0.heap.size w0 wr)) (fun i _ => vs.length - (intOf i).toNat)
      case atStart => exact ⟨0, Nat.zero_le _, rfl, by simp [Hid], Below.refl _ _⟩
      case round =>
        obtain ⟨k, hk, rfl, HN, HB⟩ := hrel
        by_cases hlt : k < vs.length
        · obtain ⟨y, b, o, vw, vsg, hx, rfl, d0, d1, rw0, rs0⟩ := HC.out k hlt
          have hki : (k : Int) < (vs.length : Int) := by omega
          have hk0 : (0 : Int) ≤ (k : Int) := by omega
          have e0 := Below.keeps HB.out _ _ d0
          have e1 := Below.keeps HB.out _ _ d1
          have hzy := hzv y (List.mem_of_getElem? hx)
          obtain ⟨aw, cw, rfl, hlw, hmw, _⟩ := rw0.open
          obtain ⟨ag, cg, rfl, hlg, hmg, _⟩ := rs0.open
          have hb1 := below_al wr (.cells #[.slice aw y.ws.length cw, .slice ag y.sg.length cg] 63)
          have HBa := hid (below_tr HB.out hb1)
          have HRv := hid (row_nw wr #[.slice aw y.ws.length cw, .slice ag y.sg.length cg] 63 rfl)
          have HRn := hid ((HR5.out.below HBa.out))
          have HRn0 := hid ((HR5.out.below HB.out))
          have cn := HRn0.out.cell 8 (x := .slice (some ⟨b, o, none⟩) vs.length cv) rfl
          have HWW := fun w' (h : Below w0.heap.size w0 w') => hid (rright_any _ y.ws w' (HE _ (below_tr HB5.out h)).out (rw0.below h) hzy.1)
          have HOO := fun w' (h : Below w0.heap.size w0 w') => hid (rsigla45_any _ y.sg w' (rs0.below h) hzy.2)
          have HD : Hid (varI pl y = if y.sg.length = 0 ∨ (y.ws.length = 0 ∧ pl ≠ 1) then 5 else if 4096 < y.ws.length ∨ 4096 < y.sg.length then 4 else if (y.ws.any fun s => !wordB s) = true then 11 else if (y.sg.any fun s => !sigB s) = true then 14 else 0) := by
            show _ = _
            unfold varI
            by_cases h4 : 4096 < y.ws.length
            · by_cases h5 : y.sg.length = 0 ∨ (y.ws.length = 0 ∧ pl ≠ 1)
              · rw [if_pos h5, if_pos h5]
              · rw [if_neg h5, if_neg h5, if_pos (.inl h4), if_pos (.inl h4)]
            · have : lcheckI y.ws = if (y.ws.any fun s => !wordB s) = true then 11 else 0 := by unfold lcheckI; rw [if_neg h4]
              rw [this]
              cases (y.ws.any fun s => !wordB s) <;> simp
          have HHIT : Hid (varI pl y ≠ 0 → ri = varI pl y) := fun h => by rw [HV.out]; exact varsI_hit pl vs k y HN.out hx h
          have HNX : Hid (varI pl y = 0 → ∀ z ∈ vs.take (k + 1), varI pl z = 0) := by
            intro h0 z hz
            rw [List.take_add_one, hx, List.mem_append] at hz
            rcases hz with hz | hz
            · exact HN.out z hz
            · have : z = y := by simpa using hz
              rw [this]; exact h0
          clear hx d0 d1 rw0 rs0 hzy HN hzv HV
          generalize varI pl y = vi at *
          generalize (y.ws.any fun s => !wordB s) = lc at *
          generalize (y.sg.any fun s => !sigB s) = od at *
          generalize y.ws.length = nw at *
          generalize y.sg.length = ng at *
          have HF : Hid (∀ (e : Ending) (w' : World), e = Ending.returned (.int .i64 vi) → Below w0.heap.size w0 w' → vi ≠ 0 → e = Ending.returned (.int .i64 ri) ∧ Below w.heap.size w w') := fun e w' he hb h0 => ⟨by rw [he, HHIT.out h0], below_tr HB5.out hb⟩
          clear HHIT
          go_upto_region 27 with fail
          generalize wr.alloc (.cells #[.slice aw nw cw, .slice ag ng cg] 63) = W7 at *
          obtain ⟨B7, hB7⟩ : ∃ b, b = wr.heap.size := ⟨_, rfl⟩
          rw [← hB7] at HRv ⊢
          have p0 := HRv.out.cell 0 (x := .slice aw nw cw) rfl
          have p1 := HRv.out.cell 1 (x := .slice ag ng cg) rfl
          have cp := HRn.out.cell 2 (x := .int .i64 pl) rfl
          clear hB7 e0 e1 cn HRn0
          by_cases s1 : ng = 0
          · have HX : Hid (vi = 5) := by show _ = _; rw [HD.out, if_pos (.inl s1)]
            have r1 : ((ng : Int) == 0) = true := by rw [s1]; rfl
            clear HD HWW HOO s1
            go_wp2
            go_ret
            exact HF.out _ _ (by rw [HX.out]; rfl) HBa.out (by rw [HX.out]; decide)
          have r1 : ((ng : Int) == 0) = false := beq_eq_false_iff_ne.2 (by omega)
          by_cases s2 : nw = 0 ∧ pl ≠ 1
          · have HX : Hid (vi = 5) := by show _ = _; rw [HD.out, if_pos (.inr s2)]
            have r2 : ((nw : Int) == 0) = true := by rw [s2.1]; rfl
            have r3 : (pl != 1) = true := bne_iff_ne.2 s2.2
            clear HD HWW HOO s1 s2
            go_wp2
            go_ret
            exact HF.out _ _ (by rw [HX.out]; rfl) HBa.out (by rw [HX.out]; decide)
          have HD2 : Hid (vi = if 4096 < nw ∨ 4096 < ng then 4 else if lc = true then 11 else if od = true then 14 else 0) := by show _ = _; rw [HD.out, if_neg (by omega)]
          clear HD
          have hways : (((nw : Int) == 0) = false) ∨ ((((nw : Int) == 0) = true) ∧ ((pl != 1) = false)) := by
            by_cases h : nw = 0
            · refine .inr ⟨by rw [h]; rfl, ?_⟩
              rw [bne_eq_false_iff_eq]
              exact Classical.byContradiction fun hc => s2 ⟨h, hc⟩
            · exact .inl (beq_eq_false_iff_ne.2 (by omega))
          have HWY := hid hways
          clear s1 s2 hways
          go_cut [93] from 94 to 108 (fun v wx => v = .bool false ∧ Hid (W7 = wx))
          case first =>
            rcases HWY.out with r2 | ⟨r2, r3⟩
            · clear HWY HD2 HF HNX HWW HOO
              go_wp2_with fail
              go_meet
              case rel => exact ⟨rfl, rfl⟩
            · clear HWY HD2 HF HNX HWW HOO
              go_wp2_with fail
              go_meet
              case rel => exact ⟨rfl, rfl⟩
          case rest =>
            obtain ⟨rfl, hwc⟩ := hcut
            obtain rfl := hwc.out
            clear hwc HWY r1 cp
            by_cases s3 : 4096 < nw
            · have HX : Hid (vi = 4) := by show _ = _; rw [HD2.out, if_pos (.inl s3)]
              have r4 : (4096 : Int) < (nw : Int) := by omega
              clear HD2 HWW HOO s3
              go_wp2
              go_ret
              exact HF.out _ _ (by rw [HX.out]; rfl) HBa.out (by rw [HX.out]; decide)
            have r4 : ¬ (4096 : Int) < (nw : Int) := by omega
            by_cases s4 : 4096 < ng
            · have HX : Hid (vi = 4) := by show _ = _; rw [HD2.out, if_pos (.inr s4)]
              have r5 : (4096 : Int) < (ng : Int) := by omega
              clear HD2 HWW HOO s3 s4
              go_wp2
              go_ret
              exact HF.out _ _ (by rw [HX.out]; rfl) HBa.out (by rw [HX.out]; decide)
            have r5 : ¬ (4096 : Int) < (ng : Int) := by omega
            have HD3 : Hid (vi = if lc = true then 11 else if od = true then 14 else 0) := by show _ = _; rw [HD2.out, if_neg (by omega)]
            have HW1 := HWW _ HBa.out
            clear HD2 s3 s4 HWW
            go_wp2_with fail
            (with_reducible refine HW1.out.mono ?_)
            rintro e w6 ⟨rfl, hB6⟩
            have HRv6 := hid (HRv.out.below hB6)
            have HB6 := hid (below_tr HBa.out hB6)
            have p6 := HRv6.out.cell 1 (x := .slice ag ng cg) rfl
            clear hB6 HW1 p0 p1 HRv HBa
            cases lc with
            | true =>
              have HX : Hid (vi = 11) := by show _ = _; rw [HD3.out, if_pos rfl]
              clear HD3 HOO
              go_wp2
              go_ret
              exact HF.out _ _ (by rw [HX.out]; rfl) HB6.out (by rw [HX.out]; decide)
            | false =>
              have HO1 := HOO _ HB6.out
              clear HOO
              go_wp2_with fail
              (with_reducible refine HO1.out.mono ?_)
              rintro e w7 ⟨rfl, hB7⟩
              have HB7 := hid (below_tr HB6.out hB7)
              clear hB7 HO1 p6 HB6
              cases od with
              | true =>
                have HX : Hid (vi = 14) := by show _ = _; rw [HD3.out, if_neg (by simp), if_pos rfl]
                clear HD3
                go_wp2
                go_ret
                exact HF.out _ _ (by rw [HX.out]; rfl) HB7.out (by rw [HX.out]; decide)
              | false =>
                have HX : Hid (vi = 0) := by show _ = _; rw [HD3.out, if_neg (by simp), if_neg (by simp)]
                have HN2 := hid (HNX.out HX.out)
                clear HD3 HNX
                go_wp2_with fail
                go_roundw
                case rel => exact ⟨k + 1, by omega, by go_num, HN2.out, HB7.out⟩
                case measure => simp [intOf]; omega
        · have hki : ¬ (k : Int) < (vs.length : Int) := by omega
          have HV2 : Hid (ri = 0) := by
            have h := HN.out
            rw [List.take_of_length_le (by omega)] at h
            show _ = _
            rw [HV.out]; exact varsI_all pl vs h
          have cn := (HR5.out.below HB.out).cell 8 rfl
          go_wp2
          go_ret
          exact ⟨ret_int HV2.out.symm, below_tr HB5.out HB.out⟩
theorem rchk_any (x : Nt) (u s : Value) (w : World) (he : Env w) (hr : RdN w u s x) (hz : SzN x) :
    Calls Tryz.prog 34 #[.agg (x.cells u s)] w fun e w' => e = .returned (.int .i64 (nteI x)) ∧ Below w.heap.size w w' := by
  by_cases h0 : headI x = 0
  · exact rchk_ok x u s w he hr hz h0
  · have h := rhead_any x u s w he hr hz h0
    rw [show nteI x = headI x by unfold nteI; rw [if_neg h0]]
    exact h
end Go.Proofs.YtjhdeoniafahbaaGreatDoor
namespace Go.Proofs.YtjhdeoniafahbaaGreatDoor
open Go.RowKit
/-- The parts ks lie ahead of f, and from f to i there is no space. -/
def CutG (d : List UInt8) (ks : List ByteArray) (f i : Nat) : Prop :=
  (f ≤ i ∧ i ≤ d.length ∧ cutL 32 d = ks.map (·.data.toList) ++ cutL 32 (d.drop f) ∧ (32 : UInt8) ∉ (d.drop f).take (i - f)) ∨ (i = d.length + 1 ∧ cutL 32 d = ks.map (·.data.toList))
theorem CutG.start (d : List UInt8) : CutG d [] 0 0 := .inl ⟨Nat.le_refl _, Nat.zero_le _, by simp, by simp⟩
theorem CutG.skip {d : List UInt8} {ks : List ByteArray} {f i : Nat} (h : CutG d ks f i) (hi : i < d.length) (c : UInt8) (hc : d[i]? = some c) (hn : c ≠ 32) : CutG d ks f (i + 1) := by
  rcases h with ⟨h1, h2, h3, h4⟩ | ⟨h1, _⟩
  · refine .inl ⟨by omega, by omega, h3, ?_⟩
    rw [show i + 1 - f = (i - f) + 1 by omega, List.take_add_one, List.getElem?_drop, show f + (i - f) = i by omega, hc, List.mem_append, not_or]
    exact ⟨h4, by simpa using fun e => hn e.symm⟩
  · omega
theorem CutG.split {s : ByteArray} {ks : List ByteArray} {f i : Nat} (h : CutG s.data.toList ks f i) (hi : i < s.size) (hc : s.data.toList[i]? = some 32) : CutG s.data.toList (ks ++ [s.extract f i]) (i + 1) (i + 1) := by
  have hl : s.data.toList.length = s.size := rfl
  rcases h with ⟨h1, h2, h3, h4⟩ | ⟨h1, _⟩
  · refine .inl ⟨Nat.le_refl _, by omega, ?_, by simp⟩
    have hd : s.data.toList.drop f = (s.data.toList.drop f).take (i - f) ++ 32 :: s.data.toList.drop (i + 1) := by
      have h5 : (s.data.toList.drop f)[i - f]? = some 32 := by rw [List.getElem?_drop, show f + (i - f) = i by omega]; exact hc
      obtain ⟨h6, h7⟩ := List.getElem?_eq_some_iff.1 h5
      have h8 := List.drop_eq_getElem_cons h6
      have h9 : (s.data.toList.drop f).drop (i - f + 1) = s.data.toList.drop (i + 1) := by rw [List.drop_drop, show f + (i - f + 1) = i + 1 by omega]
      rw [h7, h9] at h8
      rw [← h8, List.take_append_drop]
    rw [h3, hd, cutL_app _ h4, List.map_append, List.append_assoc]
    congr 1
    rw [List.map_singleton, take_drop_piece, List.singleton_append]
  · omega
theorem CutG.last {s : ByteArray} {ks : List ByteArray} {f : Nat} (h : CutG s.data.toList ks f s.size) : CutG s.data.toList (ks ++ [s.extract f s.size]) (s.size + 1) (s.size + 1) := by
  have hl : s.data.toList.length = s.size := rfl
  rcases h with ⟨h1, h2, h3, h4⟩ | ⟨h1, _⟩
  · refine .inr ⟨by omega, ?_⟩
    have h5 : (s.data.toList.drop f).take (s.size - f) = s.data.toList.drop f := List.take_of_length_le (by rw [List.length_drop]; omega)
    rw [h5] at h4
    rw [h3, cutL_none h4, List.map_append, List.map_singleton, take_drop_piece, h5]
  · omega
theorem CutG.done {s : ByteArray} {ks : List ByteArray} {f : Nat} (h : CutG s.data.toList ks f (s.size + 1)) : splitS s = ks := by
  have hl : s.data.toList.length = s.size := rfl
  rcases h with ⟨_, h2, _⟩ | ⟨_, h2⟩
  · omega
  · exact split_of h2
theorem CutG.bound {d : List UInt8} {ks : List ByteArray} {f i : Nat} (h : CutG d ks f i) : ks.length ≤ d.length + 1 := by
  have h1 := cutL_len 32 d
  rcases h with ⟨_, _, h3, _⟩ | ⟨_, h3⟩ <;> (have h4 := congrArg List.length h3; simp at h4; omega)
theorem dec_step' (u : Nat) (h : ¬ u < 10) : Lib.decDigits u = Lib.decDigits (u / 10) ++ [UInt8.ofNat (48 + u % 10)] := by
  rw [Lib.decDigits, dif_neg h]
theorem dec_last' (u : Nat) (h : u < 10) : Lib.decDigits u = [UInt8.ofNat (48 + u)] := by
  rw [Lib.decDigits, dif_pos h]
/-- A number's digits: not empty, nine at most, no zero ahead. -/
theorem dig_head : ∀ (u : Nat), 1 ≤ u → (Lib.decDigits u).head? ≠ some 48 := by
  intro u
  induction u using Nat.strongRecOn with
  | _ u ih =>
    intro h1
    by_cases h : u < 10
    · rw [dec_last' u h]
      have : u = 1 ∨ u = 2 ∨ u = 3 ∨ u = 4 ∨ u = 5 ∨ u = 6 ∨ u = 7 ∨ u = 8 ∨ u = 9 := by omega
      rcases this with rfl | rfl | rfl | rfl | rfl | rfl | rfl | rfl | rfl <;> decide
    · rw [dec_step' u h]
      have h2 := ih (u / 10) (by omega) (by omega)
      have h3 := (digits_ok (u / 10)).2.1
      cases hl : Lib.decDigits (u / 10) with
      | nil => exact absurd hl h3
      | cons x r => rw [hl] at h2; exact h2
theorem dig_of {c : UInt8} (h1 : 48 ≤ c.toNat) (h2 : c.toNat ≤ 57) : Lib.digitVal c = some (c.toNat - 48) := by
  unfold Lib.digitVal
  rw [if_pos ⟨h1, h2⟩]
theorem dig_none {c : UInt8} (h : c.toNat < 48 ∨ 57 < c.toNat) : Lib.digitVal c = none := by
  unfold Lib.digitVal
  rw [if_neg (by omega)]
theorem from_lt : ∀ (l : List UInt8) (acc n : Nat), Lib.decFrom acc l = some n → n < (acc + 1) * 10 ^ l.length := by
  intro l
  induction l with
  | nil =>
    intro acc n h
    unfold Lib.decFrom at h
    cases h; simp
  | cons c r ih =>
    intro acc n h
    unfold Lib.decFrom at h
    cases hc : Lib.digitVal c with
    | none => rw [hc] at h; cases h
    | some d =>
      rw [hc] at h
      have h1 := ih _ _ h
      have hd : d < 10 := by
        by_cases hk : 48 ≤ c.toNat ∧ c.toNat ≤ 57
        · rw [dig_of hk.1 hk.2] at hc; cases hc; omega
        · rw [dig_none (by omega)] at hc; cases hc
      rw [List.length_cons, Nat.pow_succ]
      refine Nat.lt_of_lt_of_le h1 ?_
      rw [Nat.mul_comm (10 ^ r.length) 10, ← Nat.mul_assoc]
      exact Nat.mul_le_mul_right _ (by omega)
theorem from_app (b : UInt8) : ∀ (l : List UInt8) (acc n : Nat), Lib.decFrom acc (l ++ [b]) = some n → ∃ m d, Lib.decFrom acc l = some m ∧ Lib.digitVal b = some d ∧ n = m * 10 + d := by
  intro l
  induction l with
  | nil =>
    intro acc n h
    rw [List.nil_append] at h
    unfold Lib.decFrom at h
    cases hc : Lib.digitVal b with
    | none => rw [hc] at h; cases h
    | some d =>
      rw [hc] at h
      simp only at h
      unfold Lib.decFrom at h
      cases h
      exact ⟨acc, d, rfl, rfl, rfl⟩
  | cons c r ih =>
    intro acc n h
    rw [List.cons_append] at h
    unfold Lib.decFrom at h ⊢
    cases hc : Lib.digitVal c with
    | none => rw [hc] at h; cases h
    | some d =>
      rw [hc] at h
      exact ih _ _ h
theorem dig_back : ∀ (k : Nat) (l : List UInt8) (n : Nat), l.length ≤ k → l ≠ [] → l.head? ≠ some 48 → Lib.decFrom 0 l = some n → Lib.decDigits n = l ∧ 1 ≤ n
  | 0, l, n, hk, hne, _, _ => absurd (List.eq_nil_of_length_eq_zero (Nat.le_zero.1 hk)) hne
  | k + 1, l, n, hk, hne, hh, hd => by
    rcases List.eq_nil_or_concat l with e | ⟨i, c, e⟩
    · exact absurd e hne
    · rw [List.concat_eq_append] at e
      subst e
      obtain ⟨m, d, h1, h2, h3⟩ := from_app c i 0 n hd
      have hc : 48 ≤ c.toNat ∧ c.toNat ≤ 57 ∧ d = c.toNat - 48 := by
        by_cases hk : 48 ≤ c.toNat ∧ c.toNat ≤ 57
        · rw [dig_of hk.1 hk.2] at h2; cases h2; exact ⟨hk.1, hk.2, rfl⟩
        · rw [dig_none (by omega)] at h2; cases h2
      obtain ⟨c1, c2, rfl⟩ := hc
      have hcc : UInt8.ofNat (48 + (c.toNat - 48)) = c := UInt8.toNat_inj.1 (by rw [UInt8.toNat_ofNat']; omega)
      by_cases hi : i = []
      · subst hi
        unfold Lib.decFrom at h1
        cases h1
        have hn : n = c.toNat - 48 := by omega
        have h0 : c.toNat ≠ 48 := fun e => hh (by simp; exact UInt8.toNat_inj.1 e)
        refine ⟨?_, by omega⟩
        rw [hn, dec_last' _ (by omega), hcc]; rfl
      · have hh2 : i.head? ≠ some 48 := by
          cases i with
          | nil => exact absurd rfl hi
          | cons x r => exact hh
        obtain ⟨g1, g2⟩ := dig_back k i m (by simp at hk; omega) hi hh2 h1
        refine ⟨?_, by omega⟩
        rw [h3, dec_step' _ (by omega), show (m * 10 + (c.toNat - 48)) / 10 = m by omega, show (m * 10 + (c.toNat - 48)) % 10 = c.toNat - 48 by omega, g1, hcc]
theorem dec_good {s : ByteArray} {n : Nat} (h9 : s.size ≤ 9) (h0 : 0 < s.size) (hh : s.data.toList.head? ≠ some 48) (hd : Lib.decFrom 0 s.data.toList = some n) : decB s = true ∧ decV s = n ∧ n < 1000000000 := by
  have hl : s.data.toList.length = s.size := rfl
  have hne : s.data.toList ≠ [] := fun e => by rw [e] at hl; simp at hl; omega
  obtain ⟨h1, h2⟩ := dig_back s.size s.data.toList n (by omega) hne hh hd
  have h3 := from_lt _ _ _ hd
  have h4 : n < 1000000000 := by
    refine Nat.lt_of_lt_of_le h3 ?_
    rw [Nat.zero_add, Nat.one_mul, hl]
    exact Nat.pow_le_pow_right (by omega) h9
  have h5 : itoaB (n : Int) = s := ba_ext (by rw [itoaB_data (by omega)]; exact h1)
  obtain ⟨g1, g2⟩ := dec_itoa (n := (n : Int)) (by omega) (by omega)
  rw [h5] at g1 g2
  exact ⟨g1, g2, h4⟩
/-- What decimal takes is not empty, nine digits at most, has no zero ahead, and digits alone. -/
theorem dec_need {s : ByteArray} (h : decB s = true) : 0 < s.size ∧ s.size ≤ 9 ∧ s.data.toList.head? ≠ some 48 ∧ ∀ c ∈ s.data.toList, 48 ≤ c.toNat ∧ c.toNat ≤ 57 := by
  obtain ⟨h1, h2, h3⟩ := dec_back h
  have hd : s.data.toList = Lib.decDigits (decV s).toNat := by
    have e : (itoaB (decV s)).data.toList = s.data.toList := congrArg (fun x : ByteArray => x.data.toList) h1
    rw [← e, itoaB_data (by omega)]
  obtain ⟨g1, g2, g3⟩ := digits_ok (decV s).toNat
  have hl : s.data.toList.length = s.size := rfl
  refine ⟨?_, h3, ?_, ?_⟩
  · have := List.length_pos_iff.2 g2
    rw [← hd] at this; omega
  · rw [hd]; exact dig_head _ (by omega)
  · rw [hd]; exact g3
theorem dec_no {s : ByteArray} (h : s.size = 0 ∨ 9 < s.size ∨ s.data.toList.head? = some 48 ∨ ∃ c ∈ s.data.toList, c.toNat < 48 ∨ 57 < c.toNat) : decB s = false := by
  cases hd : decB s with
  | false => rfl
  | true =>
    obtain ⟨h1, h2, h3, h4⟩ := dec_need hd
    rcases h with h | h | h | ⟨c, hc, h⟩
    · omega
    · omega
    · exact absurd h h3
    · have := h4 c hc
      omega
theorem CutG.le {d : List UInt8} {ks : List ByteArray} {f i : Nat} (h : CutG d ks f i) (hi : i ≤ d.length) : f ≤ i := by
  rcases h with ⟨h1, _⟩ | ⟨h1, _⟩ <;> omega
theorem hash_at {s : ByteArray} {k : Nat} (hk : k < s.size) (hn : (35 : UInt8) ∉ s.data.toList.take k) (hc : s[k] = 35) : hashB s = true ∧ ownB s = s.extract 0 k ∧ numB s = s.extract (k + 1) s.size := by
  have hl : s.data.toList.length = s.size := rfl
  have e : s.data.toList = (s.extract 0 k).data.toList ++ 35 :: (s.extract (k + 1) s.size).data.toList := by
    rw [take_drop_piece, take_drop_piece, List.drop_zero, Nat.sub_zero]
    rw [List.take_of_length_le (l := s.data.toList.drop (k + 1)) (by rw [List.length_drop]; omega)]
    have h6 : k < s.data.toList.length := by omega
    have h8 := List.drop_eq_getElem_cons h6
    have h7 : s.data.toList[k] = 35 := by
      have := getL s k hk
      rw [List.getElem?_eq_getElem h6] at this
      rw [Option.some.inj this, hc]
    rw [h7] at h8
    rw [← h8, List.take_append_drop]
  obtain ⟨h1, h2, h3, _⟩ := hash_yes (a := s.extract 0 k) (r := s.extract (k + 1) s.size) (by rw [take_drop_piece, List.drop_zero, Nat.sub_zero]; exact hn) e
  exact ⟨h1, h2, h3⟩
end Go.Proofs.YtjhdeoniafahbaaGreatDoor
namespace Go.Proofs
open Go.Shelf
def Tryz.laysM145_ren : Go.Shelf.Ren := ⟨fun | 145 => 25 | 220 => 63 | 219 => 103 | 217 => 124 | 225 => 125 | 224 => 126 | 267 => 127 | 266 => 147 | 314 => 148 | n => n, fun | 9 => 9 | 4 => 4 | 59 => 51 | 3 => 3 | 5 => 5 | 46 => 140 | 146 => 162 | 51 => 161 | n => n, fun | 1 => 0 | n => n⟩
theorem Tryz.laysM145 : Go.Proofs.LaysM.n145 Tryz.prog Tryz.laysM145_ren := {
  mixed := by kernel_rfl
  f145 := Tryz.func25.trans (congrArg some (by kernel_rfl))
  f217 := Tryz.func124.trans (congrArg some (by kernel_rfl))
  f219 := Tryz.func103.trans (congrArg some (by kernel_rfl))
  f220 := Tryz.func63.trans (congrArg some (by kernel_rfl))
  f224 := Tryz.func126.trans (congrArg some (by kernel_rfl))
  f225 := Tryz.func125.trans (congrArg some (by kernel_rfl))
  f266 := Tryz.func147.trans (congrArg some (by kernel_rfl))
  f267 := Tryz.func127.trans (congrArg some (by kernel_rfl))
  f314 := Tryz.func148.trans (congrArg some (by kernel_rfl))
  t3 := Tryz.underlying3
  a3 := Tryz.isAgg3
  z3 := Tryz.sizeOf3
  v3 := Tryz.zeroValue3
  t4 := Tryz.underlying4
  a4 := Tryz.isAgg4
  z4 := Tryz.sizeOf4
  v4 := Tryz.zeroValue4
  t5 := Tryz.underlying5
  a5 := Tryz.isAgg5
  z5 := Tryz.sizeOf5
  v5 := Tryz.zeroValue5
  t9 := Tryz.underlying9
  a9 := Tryz.isAgg9
  z9 := Tryz.sizeOf9
  v9 := Tryz.zeroValue9
  t46 := Tryz.underlying140
  a46 := Tryz.isAgg140
  z46 := Tryz.sizeOf140
  v46 := Tryz.zeroValue140
  t51 := Tryz.underlying161
  a51 := Tryz.isAgg161
  z51 := Tryz.sizeOf161
  v51 := Tryz.zeroValue161
  t59 := Tryz.underlying51
  a59 := Tryz.isAgg51
  z59 := Tryz.sizeOf51
  v59 := Tryz.zeroValue51
  t146 := Tryz.underlying162
  a146 := Tryz.isAgg162
  z146 := Tryz.sizeOf162
  v146 := Tryz.zeroValue162
  g1 := by kernel_rfl
  i3 := by kernel_rfl
  i4 := by kernel_rfl
  i5 := by kernel_rfl
  i9 := by kernel_rfl
  i46 := by kernel_rfl
  i51 := by kernel_rfl
  i59 := by kernel_rfl
  i146 := by kernel_rfl
  m1 := by kernel_rfl
  s1_3 := fun w h => Go.Proofs.cell_of_shapedOpen_int (zero := #[.int .i64 0]) (t := 3) h (of_decide_eq_true (by kernel_rfl)) (by kernel_rfl) rfl (by kernel_rfl) (by kernel_rfl) Tryz.underlying3 }
def Tryz.laysM146_ren : Go.Shelf.Ren := ⟨fun | 146 => 57 | 221 => 95 | 268 => 118 | 138 => 27 | 143 => 69 | 195 => 67 | 197 => 139 | 218 => 68 | 219 => 103 | 260 => 165 | 217 => 124 | 225 => 125 | 224 => 126 | 267 => 127 | 266 => 147 | 314 => 148 | n => n, fun | 9 => 9 | 31 => 23 | 3 => 3 | 4 => 4 | 0 => 0 | 105 => 153 | 21 => 21 | 5 => 5 | 46 => 140 | 119 => 190 | 139 => 193 | 138 => 192 | 146 => 162 | 51 => 161 | n => n, fun | 1 => 0 | 3 => 4 | 4 => 5 | n => n⟩
theorem Tryz.laysM146 : Go.Proofs.LaysM.n146 Tryz.prog Tryz.laysM146_ren := {
  mixed := by kernel_rfl
  f138 := Tryz.func27.trans (congrArg some (by kernel_rfl))
  f143 := Tryz.func69.trans (congrArg some (by kernel_rfl))
  f146 := Tryz.func57.trans (congrArg some (by kernel_rfl))
  f195 := Tryz.func67.trans (congrArg some (by kernel_rfl))
  f197 := Tryz.func139.trans (congrArg some (by kernel_rfl))
  f217 := Tryz.func124.trans (congrArg some (by kernel_rfl))
  f218 := Tryz.func68.trans (congrArg some (by kernel_rfl))
  f219 := Tryz.func103.trans (congrArg some (by kernel_rfl))
  f221 := Tryz.func95.trans (congrArg some (by kernel_rfl))
  f224 := Tryz.func126.trans (congrArg some (by kernel_rfl))
  f225 := Tryz.func125.trans (congrArg some (by kernel_rfl))
  f260 := Tryz.func165.trans (congrArg some (by kernel_rfl))
  f266 := Tryz.func147.trans (congrArg some (by kernel_rfl))
  f267 := Tryz.func127.trans (congrArg some (by kernel_rfl))
  f268 := Tryz.func118.trans (congrArg some (by kernel_rfl))
  f314 := Tryz.func148.trans (congrArg some (by kernel_rfl))
  t0 := Tryz.underlying0
  a0 := Tryz.isAgg0
  z0 := Tryz.sizeOf0
  v0 := Tryz.zeroValue0
  t3 := Tryz.underlying3
  a3 := Tryz.isAgg3
  z3 := Tryz.sizeOf3
  v3 := Tryz.zeroValue3
  t4 := Tryz.underlying4
  a4 := Tryz.isAgg4
  z4 := Tryz.sizeOf4
  v4 := Tryz.zeroValue4
  t5 := Tryz.underlying5
  a5 := Tryz.isAgg5
  z5 := Tryz.sizeOf5
  v5 := Tryz.zeroValue5
  t9 := Tryz.underlying9
  a9 := Tryz.isAgg9
  z9 := Tryz.sizeOf9
  v9 := Tryz.zeroValue9
  t21 := Tryz.underlying21
  a21 := Tryz.isAgg21
  z21 := Tryz.sizeOf21
  v21 := Tryz.zeroValue21
  t31 := Tryz.underlying23
  a31 := Tryz.isAgg23
  z31 := Tryz.sizeOf23
  v31 := Tryz.zeroValue23
  t46 := Tryz.underlying140
  a46 := Tryz.isAgg140
  z46 := Tryz.sizeOf140
  v46 := Tryz.zeroValue140
  t51 := Tryz.underlying161
  a51 := Tryz.isAgg161
  z51 := Tryz.sizeOf161
  v51 := Tryz.zeroValue161
  t105 := Tryz.underlying153
  a105 := Tryz.isAgg153
  z105 := Tryz.sizeOf153
  v105 := Tryz.zeroValue153
  t119 := Tryz.underlying190
  a119 := Tryz.isAgg190
  z119 := Tryz.sizeOf190
  t138 := Tryz.underlying192
  a138 := Tryz.isAgg192
  z138 := Tryz.sizeOf192
  v138 := Tryz.zeroValue192
  t139 := Tryz.underlying193
  a139 := Tryz.isAgg193
  z139 := Tryz.sizeOf193
  v139 := Tryz.zeroValue193
  t146 := Tryz.underlying162
  a146 := Tryz.isAgg162
  z146 := Tryz.sizeOf162
  v146 := Tryz.zeroValue162
  g1 := by kernel_rfl
  g3 := by kernel_rfl
  g4 := by kernel_rfl
  i0 := by kernel_rfl
  i3 := by kernel_rfl
  i4 := by kernel_rfl
  i5 := by kernel_rfl
  i9 := by kernel_rfl
  i21 := by kernel_rfl
  i31 := by kernel_rfl
  i46 := by kernel_rfl
  i51 := by kernel_rfl
  i105 := by kernel_rfl
  i138 := by kernel_rfl
  i139 := by kernel_rfl
  i146 := by kernel_rfl
  m1 := by kernel_rfl
  s1_3 := fun w h => Go.Proofs.cell_of_shapedOpen_int (zero := #[.int .i64 0]) (t := 3) h (of_decide_eq_true (by kernel_rfl)) (by kernel_rfl) rfl (by kernel_rfl) (by kernel_rfl) Tryz.underlying3
  m3 := by kernel_rfl
  m4 := by kernel_rfl }
end Go.Proofs
