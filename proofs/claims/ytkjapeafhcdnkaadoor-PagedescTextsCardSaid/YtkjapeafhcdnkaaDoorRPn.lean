/-
  The reference's Print.
-/
import Derived.Test.YtkjapeafhcdnkaaDoorRPt
import Derived.Test.YtkjapeafhcdnkaaDoorRck53
import Derived.Laws.IdiomStrings
import Derived.Laws.BytesArg
namespace Go.Proofs.YtkjapeafhcdnkaaDoor
open Go.RowKit

/-- What the reference's Print gives. -/
def prrV (l : List Pg) : Value := if 1024 < l.length then .tuple #[.string ⟨#[]⟩, .int .i64 4] else pprV l

set_option maxRecDepth 100000 in
set_option maxHeartbeats 4000000 in
theorem rPrint_any (v : Value) (l : List Pg) (w : World) (hr : RdPg w v l) (hz : SzPg l) (htot0 : firstP l = 0 → (printL l).length ≤ 1000000) :
    Calls Tryd.prog 22 #[v] w fun e w' => e = .returned (prrV l) ∧ Below w.heap.size w w' := by
  have HD : Hid (pprV l = if firstP l = 0 then .tuple #[.string ⟨(printL l).toArray⟩, .int .i64 0] else .tuple #[.string ⟨#[]⟩, .int .i64 (firstP l)]) := rfl
  have HR := hid hr
  obtain ⟨ad, cap, rfl, hlc, hcm, hcell⟩ := hr.open
  have HC := hid hcell
  clear hcell hr
  by_cases hbig : 1024 < l.length
  · have hli : (1024 : Int) < (l.length : Int) := by omega
    have HV : Hid (prrV l = .tuple #[.string ⟨#[]⟩, .int .i64 4]) := if_pos hbig
    go_enter Tryd.func22, Tryd.ntmps22
    go_wp2
    go_ret2
    exact ⟨congrArg Ending.returned HV.out.symm, Below.refl _ _⟩
  have hli : ¬ (1024 : Int) < (l.length : Int) := by omega
  have HV : Hid (prrV l = pprV l) := if_neg hbig
  go_enter Tryd.func22, Tryd.ntmps22
  go_wp2
  go_loopw [4] (fun i wr => ∃ k : Nat, k ≤ l.length ∧ i = .int .i64 k ∧ Hid (∀ y ∈ l.take k, pgI y = 0) ∧ Hid (Below w.heap.size w wr)) (fun i _ => l.length - (intOf i).toNat)
  case atStart => exact ⟨0, Nat.zero_le _, rfl, by simp [Hid], Below.refl _ _⟩
  case round =>
    obtain ⟨k, hk, rfl, HN, HB⟩ := hrel
    by_cases hlt : k < l.length
    · obtain ⟨p, b, off, u, hp, rfl, c0, c1, hu⟩ := HC.out k hlt
      obtain ⟨au, cu, rfl, _, _, _⟩ := hu.open
      have hki : (k : Int) < (l.length : Int) := by omega
      have d0 := Below.keeps HB.out _ _ c0
      have d1 := Below.keeps HB.out _ _ c1
      have HP := hid hp
      have HCK := hid (rpcheck_any p _ wr (hu.below HB.out) (hz p (List.mem_of_getElem? hp)))
      clear hp c0 c1 hu
      go_wp2_with fail
      refine HCK.out.mono ?_
      rintro e w3 ⟨rfl, hB3⟩
      have HB3 := hid (below_tr HB.out hB3)
      clear hB3 HCK d0 d1
      by_cases hbx : pgI p = 0
      · have HN2 : Hid (∀ y ∈ l.take (k + 1), pgI y = 0) := by
          intro y hy
          rw [List.take_add_one, HP.out, List.mem_append] at hy
          rcases hy with hy | hy
          · exact HN.out y hy
          · have : y = p := by simpa using hy
            rw [this]; exact hbx
        have hbb : (pgI p != 0) = false := by rw [hbx]; rfl
        clear HP HN
        go_wp2_with fail
        go_roundw
        case rel => exact ⟨k + 1, by omega, by go_num, HN2.out, HB3.out⟩
        case measure => simp [intOf]; omega
      · have hbb : (pgI p != 0) = true := by rw [bne_iff_ne]; exact hbx
        have hb2 : (pgI p == 0) = false := beq_eq_false_iff_ne.2 hbx
        have HV2 : Hid (prrV l = .tuple #[.string ⟨#[]⟩, .int .i64 (pgI p)]) := by
          have h := firstP_hit l k p HN.out HP.out hbx
          show _ = _
          rw [HV.out, HD.out, h, if_neg hbx]
        go_wp2
        go_ret2
        exact ⟨congrArg Ending.returned HV2.out.symm, HB3.out⟩
    · have hki : ¬ (k : Int) < (l.length : Int) := by omega
      have hf : firstP l = 0 := firstP_none l (by
        have h := HN.out
        rw [List.take_of_length_le (by omega)] at h
        exact h)
      have htot := htot0 hf
      have HPR := hid (rprint_any _ l wr (HR.out.below HB.out) hf htot)
      have HV2 : Hid (prrV l = .tuple #[.string ⟨(printL l).toArray⟩, .int .i64 0]) := by
        show _ = _
        rw [HV.out, HD.out, if_pos hf]
      have hbs : ¬ (1048576 : Int) < ((printL l).length : Int) := by omega
      clear HN HC HV HD
      generalize printL l = T at *
      go_wp2_with fail
      refine HPR.out.mono ?_
      rintro e w3 ⟨u, rfl, hown, hB3⟩
      have HB3 := hid (below_tr HB.out hB3)
      have hcv : ∃ b c, u = .slice b T.length c ∧ Hid (∀ w4 : World, w4 = w3 → (convert 70 9 (.slice b T.length c)).run Tryd.prog w4 = .ok (.string ⟨T.toArray⟩) w4) := by
        have hlen : (Lib.byteCells T).length = T.length := Lib.byteCells_length T
        rcases hown.2 with ⟨rfl, hn⟩ | ⟨g, c, cur, rfl, hrest⟩
        · have hT : T = [] := List.eq_nil_of_length_eq_zero hn
          subst hT
          exact ⟨none, 0, rfl, fun w4 _ => run_convert_bytes_nil w4 _ 5 Tryd.underlying70 Tryd.underlying5 0 0 _ Tryd.underlying9⟩
        · refine ⟨some ⟨g, 0, none⟩, c, rfl, fun w4 e4 => ?_⟩
          subst e4
          refine run_convert_bytes_back w4 _ _ 5 ⟨g, 0, none⟩ c T Tryd.underlying70 Tryd.underlying5 Tryd.underlying9 (fun j hj => ?_)
          have hadd : (⟨g, 0, none⟩ : Addr).add j = ⟨g, j, none⟩ := by unfold Addr.add; split <;> simp_all
          rw [hadd, World.ownsRow.cellAt hown j (by omega)]
          simp [Lib.byteCells, hj]
      clear hown hB3 HPR
      obtain ⟨b, c, rfl, HCV⟩ := hcv
      have hcv := HCV.out w3 rfl
      go_wp2_with fail
      go_ret2
      exact ⟨congrArg Ending.returned HV2.out.symm, HB3.out⟩
end Go.Proofs.YtkjapeafhcdnkaaDoor
