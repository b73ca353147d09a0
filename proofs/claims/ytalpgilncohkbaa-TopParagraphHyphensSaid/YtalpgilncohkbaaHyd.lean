/-
  hyphenation.Check, hyphenation.check.
-/
import Derived.Test.YtalpgilncohkbaaHyc
namespace Go.Proofs.Ytalpgilncohkbaa
open Go.RowKit

def hchkGo : List Grp → Int
  | [] => 0
  | g :: r => if ckPat g.name g.mem ≠ 0 then ckPat g.name g.mem else hchkGo r
def hchkI (P : List Grp) : Int := if 4096 < P.length then 4 else hchkGo P
theorem hchkGo_ok : ∀ {P : List Grp}, hchkGo P = 0 → ∀ g ∈ P, ckPat g.name g.mem = 0
  | [], _, _, hg => by cases hg
  | x :: r, h, g, hg => by
    rw [hchkGo] at h
    split at h
    · rename_i h1; exact absurd h h1
    · rename_i h1
      rcases List.mem_cons.1 hg with rfl | hg
      · exact Classical.not_not.1 h1
      · exact hchkGo_ok h g hg
theorem hchkI_ok {P : List Grp} (h : hchkI P = 0) : P.length ≤ 4096 ∧ ∀ g ∈ P, ckPat g.name g.mem = 0 := by
  unfold hchkI at h
  split at h
  · cases h
  · exact ⟨by omega, hchkGo_ok h⟩

set_option maxRecDepth 100000 in
set_option maxHeartbeats 4000000 in
theorem hchk_any (v : Value) (P : List Grp) (w : World) (hv : RdG w v P) (hz : SzG P) :
    Calls Try.prog 27 #[v] w fun e w' => e = .returned (.int .i64 (hchkI P)) ∧ Below w.heap.size w w' := by
  obtain ⟨a, cap, rfl, hlc, hcm, hcell⟩ := hv.open
  have HCell := hid hcell; clear hcell hv
  have HZ := hid hz; clear hz
  have HV : Hid (hchkI P = if 4096 < P.length then 4 else hchkGo P) := rfl
  by_cases h1 : 4096 < P.length
  · have g1 : (4096 : Int) < (P.length : Int) := by omega
    rw [if_pos h1] at HV
    go_enter Try.func27, Try.ntmps27
    go_wp2
    go_ret
    exact ⟨by rw [HV.out]; rfl, Below.refl _ _⟩
  rw [if_neg h1] at HV
  have g1 : ¬ (4096 : Int) < (P.length : Int) := by omega
  have hl : P.length ≤ 4096 := by omega
  clear h1
  go_enter Try.func27, Try.ntmps27
  go_wp2
  go_loopw [11] (fun i wr => ∃ k : Nat, k ≤ P.length ∧ i = .int .i64 k ∧ Hid (hchkGo (P.drop k) = hchkGo P) ∧ Hid (Below w.heap.size w wr)) (fun i _ => P.length - (intOf i).toNat)
  case atStart => exact ⟨0, Nat.zero_le _, rfl, rfl, Below.refl _ _⟩
  case round =>
    obtain ⟨k, hk, rfl, HK, HB⟩ := hrel
    by_cases hlt : k < P.length
    · have hti : (k : Int) < (P.length : Int) := by omega
      have hk0 : (0 : Int) ≤ (k : Int) := by omega
      obtain ⟨x, b, off, m, hx, rfl, hc0, hc1, hm⟩ := HCell.out k hlt
      have c0 := Below.keeps HB.out _ _ hc0
      have c1 := Below.keeps HB.out _ _ hc1
      have hdr : P.drop k = x :: P.drop (k + 1) := by
        obtain ⟨h2, h3⟩ := List.getElem?_eq_some_iff.1 hx
        rw [List.drop_eq_getElem_cons h2, h3]
      rw [hdr, hchkGo] at HK
      obtain ⟨am, cm, em, _⟩ := hm.open
      have HBA := hid (below_tr HB.out (below_al wr (.cells #[.string x.name, m] 50)))
      have HRW := hid (row_nw wr #[.string x.name, m] 50 rfl)
      have HC := hid (ckpat_any x.name m x.mem (wr.alloc (.cells #[.string x.name, m] 50)) (HZ.out x (List.mem_of_getElem? hx)) ((hm.below HB.out).below (below_al wr _)))
      subst em
      clear hx hdr hc0 hc1 hm
      by_cases h0 : ckPat x.name x.mem = 0
      · rw [if_neg (by simp [h0])] at HK
        rw [h0] at HC
        clear h0
        go_wp2_with (first | (refine wpList_load_row rfl 50 _ rfl wr.heap.size rfl 50 _ (0, 0) _ HRW.out Try.underlying50 rfl (by kernel_rfl) ?_) | (go_at_call 42; refine HC.out.mono ?_; rintro e w2 ⟨rfl, hb2⟩))
        go_roundw
        case rel => exact ⟨k + 1, by omega, by go_num, HK.out, below_tr HBA.out hb2⟩
        case measure => simp [intOf]; omega
      · rw [if_pos h0] at HK
        have HE : Hid (hchkI P = ckPat x.name x.mem) := by show _ = _; rw [HV.out, ← HK.out]
        have g2 : (ckPat x.name x.mem != 0) = true := bne_iff_ne.2 h0
        clear h0 HV HK
        generalize ckPat x.name x.mem = E at *
        go_wp2_with (first | (refine wpList_load_row rfl 50 _ rfl wr.heap.size rfl 50 _ (0, 0) _ HRW.out Try.underlying50 rfl (by kernel_rfl) ?_) | (go_at_call 42; refine HC.out.mono ?_; rintro e w2 ⟨rfl, hb2⟩))
        go_ret
        exact ⟨by rw [HE.out]; rfl, below_tr HBA.out hb2⟩
    · obtain rfl : k = P.length := by omega
      have hti : ¬ (P.length : Int) < (P.length : Int) := by omega
      have HE : Hid (hchkI P = 0) := by
        show _ = _
        have h := HK.out
        rw [List.drop_length] at h
        rw [HV.out, ← h]; rfl
      clear HV HK
      go_wp2
      go_ret
      exact ⟨by rw [HE.out]; rfl, HB.out⟩
def hckI (P : List Grp) (s : ByteArray) : Int := if hchkI P ≠ 0 then 1 else if isWordB s = false then 11 else 0
set_option maxHeartbeats 1000000 in
theorem hck_any (v : Value) (P : List Grp) (s : ByteArray) (w : World) (hv : RdG w v P) (hz : SzG P) (hs : s.size ≤ 65536) :
    Calls Try.prog 23 #[v, .string s] w fun e w' => e = .returned (.int .i64 (hckI P s)) ∧ Below w.heap.size w w' := by
  have HC := hid (hchk_any v P w hv hz)
  have HW := fun w' => hid (isWord_any s w' hs)
  have HV : Hid (hckI P s = if hchkI P ≠ 0 then 1 else if isWordB s = false then 11 else 0) := rfl
  clear hv
  by_cases h0 : hchkI P = 0
  · rw [if_neg (by simp [h0])] at HV
    rw [h0] at HC
    clear h0
    cases hw : isWordB s with
    | true =>
      rw [hw] at HW HV
      clear hw
      go_enter Try.func23, Try.ntmps23
      go_wp2_with fail
      refine HC.out.mono ?_
      rintro e w1 ⟨rfl, hb1⟩
      go_wp2_with fail
      refine (HW _).out.mono ?_
      rintro e w2 ⟨rfl, hb2⟩
      go_wp2
      go_ret
      exact ⟨by rw [HV.out]; rfl, below_tr hb1 hb2⟩
    | false =>
      rw [hw] at HW HV
      clear hw
      go_enter Try.func23, Try.ntmps23
      go_wp2_with fail
      refine HC.out.mono ?_
      rintro e w1 ⟨rfl, hb1⟩
      go_wp2_with fail
      refine (HW _).out.mono ?_
      rintro e w2 ⟨rfl, hb2⟩
      go_wp2
      go_ret
      exact ⟨by rw [HV.out]; rfl, below_tr hb1 hb2⟩
  · rw [if_pos h0] at HV
    have g2 : (hchkI P != 0) = true := bne_iff_ne.2 h0
    clear h0
    generalize hchkI P = E at *
    go_enter Try.func23, Try.ntmps23
    go_wp2_with fail
    refine HC.out.mono ?_
    rintro e w1 ⟨rfl, hb1⟩
    go_wp2
    go_ret
    exact ⟨by rw [HV.out]; rfl, hb1⟩
end Go.Proofs.Ytalpgilncohkbaa
