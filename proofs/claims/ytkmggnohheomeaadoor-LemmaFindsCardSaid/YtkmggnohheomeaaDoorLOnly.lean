/-
  P43.3: the walk of LemmaOnly.
-/
import Derived.Test.YtkmggnohheomeaaDoorAwk43
namespace Go.Proofs.YtkmggnohheomeaaDoor
open Go.RowKit

theorem ba_inj {a b : ByteArray} (h : a.toList = b.toList) : a = b := by
  have h2 := ba_beq a b
  rw [h] at h2
  simpa using h2.symm

set_option maxRecDepth 100000 in
set_option maxHeartbeats 2000000 in
theorem lonly_any (v : Value) (ws : List ByteArray) (u1 u2 u3 u4 : Nat) (w : World) (he : Env w) (hr : RdS w v ws) (hz : Szs ws) (h1 : u1 < 256) (h2 : u2 < 256) (h3 : u3 < 256) (h4 : u4 < 256) :
    Calls Tryd.prog 3 #[v, .int .u8 u1, .int .u8 u2, .int .u8 u3, .int .u8 u4] w fun e w' => e = .returned (.bool true) ∧ Below w.heap.size w w' := by
  have HF := hid (fine_any v ws w he hr hz)
  have HE := fun w' (h : Below w.heap.size w w') => hid (he.below h)
  cases hf : fineB ws with
  | false =>
    rw [hf] at HF
    obtain ⟨a, cap, rfl, hlc, hcm, _⟩ := hr.open
    go_enter Tryd.func3, Tryd.ntmps3
    go_wp2_with fail
    refine HF.out.mono ?_
    rintro e w1 ⟨rfl, hB1⟩
    go_wp2_with fail
    refine (awake43_any _ (HE _ hB1).out).mono ?_
    rintro e w2 ⟨rfl, hB2⟩
    go_wp2
    go_ret
    exact ⟨rfl, below_tr hB1 hB2⟩
  | true =>
    rw [hf] at HF
    obtain ⟨hlen, hwd, hsz⟩ := fine_all hf
    have hck := fine_check hf
    by_cases hn : ws.length = 0
    · obtain rfl : ws = [] := List.eq_nil_of_length_eq_zero hn
      obtain ⟨a, cap, rfl, hlc, hcm, _⟩ := hr.open
      simp only [List.length_nil] at HF
      clear hr hn hlen hwd hsz hck hz
      go_enter Tryd.func3, Tryd.ntmps3
      go_wp2_with fail
      refine HF.out.mono ?_
      rintro e w1 ⟨rfl, hB1⟩
      go_wp2_with fail
      refine (awake43_any _ (HE _ hB1).out).mono ?_
      rintro e w2 ⟨rfl, hB2⟩
      go_wp2
      go_ret
      exact ⟨rfl, below_tr hB1 hB2⟩
    · have hni : ¬ (ws.length : Int) = 0 := by omega
      have hne : ∀ s ∈ ws, s.size ≠ 0 := fun s hs => wordB_ne (hwd s hs)
      have hA := Nat.mod_lt u1 (show 0 < ws.length by omega)
      have hB := Nat.mod_lt u2 (show 0 < ws.length - u1 % ws.length by omega)
      have hC := Nat.mod_lt u3 (show 0 < ws.length by omega)
      have hD := Nat.mod_lt u4 (show 0 < ws.length - u3 % ws.length by omega)
      have HP1 := fun w' (h : RdS w' v ws) => hid (part_any v ws u1 u2 w' h h1 h2 (by omega) hlen)
      have HP2 := fun w' (h : RdS w' v ws) => hid (part_any v ws u3 u4 w' h h3 h4 (by omega) hlen)
      obtain ⟨a, ha⟩ : ∃ a, a = u1 % ws.length := ⟨_, rfl⟩
      obtain ⟨b, hb⟩ : ∃ b, b = u1 % ws.length + 1 + u2 % (ws.length - u1 % ws.length) := ⟨_, rfl⟩
      obtain ⟨c, hc⟩ : ∃ c, c = u3 % ws.length := ⟨_, rfl⟩
      obtain ⟨d, hd⟩ : ∃ d, d = u3 % ws.length + 1 + u4 % (ws.length - u3 % ws.length) := ⟨_, rfl⟩
      have hab : a < b := by omega
      have hbl : b ≤ ws.length := by omega
      have hcd : c < d := by omega
      have hdl : d ≤ ws.length := by omega
      rw [← hb, ← ha] at HP1
      rw [← hd, ← hc] at HP2
      clear ha hb hc hd hA hB hC hD
      have hsz2 : ∀ s ∈ ws, s.size ≤ 65536 := fun s hs => by have := hsz s hs; omega
      have HO1 := fun w' (h : Env w') (h2 : RdS w' v ws) => hid (of_any ws a b v w' h h2 hsz2 (by omega) hck hab hbl hne)
      have HO2 := fun w' (h : Env w') (h2 : RdS w' v ws) => hid (of_any ws c d v w' h h2 hsz2 (by omega) hck hcd hdl hne)
      have HEQ := hid (fun e1 e2 e3 => only_plain hne hab hbl hcd hdl e1 e2 e3)
      by_cases hq : a = c ∧ b = d
      · obtain ⟨rfl, rfl⟩ := hq
        clear HEQ
        generalize ofNum (occ ws (ws.getD a ⟨#[]⟩) (lastW ws a b)) (a, b - 1) = n1 at *
        generalize ws.getD a ⟨#[]⟩ = f1 at *
        generalize lastW ws a b = l1 at *
        have HRD := hid hr
        obtain ⟨ad, cap, rfl, hlc, hcm, _⟩ := hr.open
        clear he hz hwd hsz hck hne hsz2
        go_enter Tryd.func3, Tryd.ntmps3
        go_wp2_with fail
        refine HF.out.mono ?_
        rintro e w1 ⟨rfl, hB1⟩
        go_wp2_with fail
        refine (HP1 _ (HRD.out.below hB1)).out.mono ?_
        rintro e w2 ⟨rfl, hB2⟩
        have hb2 := below_tr hB1 hB2
        go_wp2_with fail
        refine (HP2 _ (HRD.out.below hb2)).out.mono ?_
        rintro e w3 ⟨rfl, hB3⟩
        have hb3 := below_tr hb2 hB3
        clear hB1 hB2 hb2 hB3 HP1 HP2 HF
        go_wp2_with fail
        refine (HO1 _ (HE _ hb3).out (HRD.out.below hb3)).out.mono ?_
        rintro e w4 ⟨rfl, hB4⟩
        have hb4 := below_tr hb3 hB4
        have hb5 := below_tr hb4 (below_al w4 (.cells #[.string f1, .string l1, .int .i64 n1] 28))
        have ha5 := hid (row_nw w4 #[.string f1, .string l1, .int .i64 n1] 28 rfl)
        clear hb3 hB4 hb4
        go_wp2_with fail
        generalize w4.alloc (.cells #[.string f1, .string l1, .int .i64 n1] 28) = w5 at *
        refine (HO2 _ (HE _ hb5).out (HRD.out.below hb5)).out.mono ?_
        rintro e w6 ⟨rfl, hB6⟩
        have hb6 := below_tr hb5 hB6
        have ha6 := hid (ha5.out.below hB6)
        have hb7 := below_tr hb6 (below_al w6 (.cells #[.string f1, .string l1, .int .i64 n1] 28))
        have ha7 := hid (ha6.out.al (.cells #[.string f1, .string l1, .int .i64 n1] 28))
        have p0 := ha7.out.cell 0 rfl
        have p1 := ha7.out.cell 1 rfl
        have p2 := ha7.out.cell 2 rfl
        clear hb5 ha5 hB6 hb6 ha6 HO1 HO2
        go_wp2_with fail
        refine (awake43_any _ (HE _ hb7).out).mono ?_
        rintro e w8 ⟨rfl, hB8⟩
        go_wp2
        go_ret
        exact ⟨rfl, below_tr hb7 hB8⟩
      · have HQ := hid hq
        clear hq
        generalize ofNum (occ ws (ws.getD a ⟨#[]⟩) (lastW ws a b)) (a, b - 1) = n1 at *
        generalize ofNum (occ ws (ws.getD c ⟨#[]⟩) (lastW ws c d)) (c, d - 1) = n2 at *
        generalize ws.getD a ⟨#[]⟩ = f1 at *
        generalize ws.getD c ⟨#[]⟩ = f2 at *
        generalize lastW ws a b = l1 at *
        generalize lastW ws c d = l2 at *
        have HRD := hid hr
        obtain ⟨ad, cap, rfl, hlc, hcm, _⟩ := hr.open
        clear he hz hwd hsz hck hne hsz2
        go_enter Tryd.func3, Tryd.ntmps3
        go_wp2_with fail
        refine HF.out.mono ?_
        rintro e w1 ⟨rfl, hB1⟩
        go_wp2_with fail
        refine (HP1 _ (HRD.out.below hB1)).out.mono ?_
        rintro e w2 ⟨rfl, hB2⟩
        have hb2 := below_tr hB1 hB2
        go_wp2_with fail
        refine (HP2 _ (HRD.out.below hb2)).out.mono ?_
        rintro e w3 ⟨rfl, hB3⟩
        have hb3 := below_tr hb2 hB3
        clear hB1 hB2 hb2 hB3 HP1 HP2 HF
        go_wp2_with fail
        refine (HO1 _ (HE _ hb3).out (HRD.out.below hb3)).out.mono ?_
        rintro e w4 ⟨rfl, hB4⟩
        have hb4 := below_tr hb3 hB4
        have hb5 := below_tr hb4 (below_al w4 (.cells #[.string f1, .string l1, .int .i64 n1] 28))
        have ha5 := hid (row_nw w4 #[.string f1, .string l1, .int .i64 n1] 28 rfl)
        clear hb3 hB4 hb4
        go_wp2_with fail
        generalize w4.alloc (.cells #[.string f1, .string l1, .int .i64 n1] 28) = w5 at *
        refine (HO2 _ (HE _ hb5).out (HRD.out.below hb5)).out.mono ?_
        rintro e w6 ⟨rfl, hB6⟩
        have hb6 := below_tr hb5 hB6
        have ha6 := hid (ha5.out.below hB6)
        have hb7 := below_tr hb6 (below_al w6 (.cells #[.string f2, .string l2, .int .i64 n2] 28))
        have ha7 := hid (ha6.out.al (.cells #[.string f2, .string l2, .int .i64 n2] 28))
        have p0 := ha7.out.cell 0 rfl
        have p1 := ha7.out.cell 1 rfl
        have p2 := ha7.out.cell 2 rfl
        clear hb5 ha5 hB6 hb6 ha6 HO1 HO2
        go_wp2_with fail
        all_goals first
          | (exfalso; exact HQ.out (HEQ.out (ba_inj (by assumption)) (ba_inj (by assumption)) (by omega)))
          | (exfalso; exact HQ.out ⟨by omega, by omega⟩)
          | (refine (awake43_any _ (HE _ hb7).out).mono ?_; rintro e w8 ⟨rfl, hB8⟩; go_wp2; go_ret; refine ⟨ret_bool ?_, below_tr hb7 hB8⟩; first | rfl | (simp; omega))
theorem lonlyI_any (v : Value) (ws : List ByteArray) (b1 b2 b3 b4 : Int) (w : World) (he : Env w) (hr : RdS w v ws) (hz : Szs ws) (r1 : 0 ≤ b1 ∧ b1 < 256) (r2 : 0 ≤ b2 ∧ b2 < 256) (r3 : 0 ≤ b3 ∧ b3 < 256) (r4 : 0 ≤ b4 ∧ b4 < 256) :
    Calls Tryd.prog 3 #[v, .int .u8 b1, .int .u8 b2, .int .u8 b3, .int .u8 b4] w fun e w' => e = .returned (.bool true) ∧ Below w.heap.size w w' := by
  obtain ⟨u1, rfl⟩ := Int.eq_ofNat_of_zero_le r1.1
  obtain ⟨u2, rfl⟩ := Int.eq_ofNat_of_zero_le r2.1
  obtain ⟨u3, rfl⟩ := Int.eq_ofNat_of_zero_le r3.1
  obtain ⟨u4, rfl⟩ := Int.eq_ofNat_of_zero_le r4.1
  exact lonly_any v ws u1 u2 u3 u4 w he hr hz (by omega) (by omega) (by omega) (by omega)
end Go.Proofs.YtkmggnohheomeaaDoor
