/-
  P53.6, the card of PagedescMoves, out of its walk. The card is tied: strconv's errors and its table of powers are laid as the program's text lays them.
-/
import Derived.Test.YtkjapeafhcdnkaaDoorLaid43T
import Derived.Test.YtkjapeafhcdnkaaDoorPMvs
import Derived.Test.YtkjapeafhcdnkaaDoorArgs
import Derived.Test.YtkjapeafhcdnkaaDoorArgPg
import Derived.Test.YtkjapeafhcdnkaaDoorTie
import Derived.Test.YtkjapeafhcdnkaaDoorCards
import Derived.SevenTiedAt
namespace Go.Proofs.YtkjapeafhcdnkaaDoor.pagedescMoves
open Go.ChangeShapes Go.WideShapes Go.ChangeAt Go.RowKit
open Go.ChangeMaps (open_string shut_string)

abbrev spec : OpenSpec := OpenSpec.ofChange Rows.pagedescMovesSpec
def wit : Array Value := #[.agg #[.int .i64 0, .slice none 0 0], .int .i16 0, .int .i16 0, .int .u16 0]

theorem witness_row (os : Os) {H : Type} (enc : TypeId × Value → H) :
    spec.preRow enc Tryd.prog Tryd.f10 Rows.pagedescMovesRow.domain false Rows.pagedescMovesRow.laid ((laidWorldT os).forCall (fun _ _ => 0) ⟨#[], wit, []⟩).memory wit := by
  have hw : (DataW.whole enc Tryd.prog ((laidWorldT os).forCall (fun _ _ => 0) ⟨#[], wit, []⟩).memory Tryd.f10.params.toList spec.vars false wit.toList 8).map (fun x => (x.1, x.2.1)) =
      some ([.agg [.lit (.int .i64 0), .nil], .lit (.int .i16 0), .lit (.int .i16 0), .lit (.int .u16 0)], []) := by kernel_rfl
  obtain ⟨⟨x1, x2, x3⟩, hx, hx1⟩ := Option.map_eq_some_iff.1 hw
  simp only [Prod.mk.injEq] at hx1
  obtain ⟨rfl, rfl⟩ := hx1
  exact OpenSpec.preRow_of_cond 8 hx (by kernel_rfl) (fun k hk => by cases hk) (by kernel_rfl) (laid_metT os _)

set_option maxRecDepth 100000 in
set_option maxHeartbeats 2000000 in
theorem lifted (os : Os) (started : os.Started) (H : Type) (enc : TypeId × Value → H) (F : Stop.Interp) :
    ReturnsInHanded {} Tryd.checked os 10 .any (spec.preRow enc Tryd.prog Tryd.f10 Rows.pagedescMovesRow.domain false Rows.pagedescMovesRow.laid) ((spec.at F).post enc Tryd.prog Tryd.f10 false true false false) := by
  refine returnsInHanded_of_row (C := Tryd.checked) (s := spec) knob started (by kernel_rfl) Tryd.func10
    (witness_row_atRef (enc := enc) (C := Tryd.checked) false (laidWorldT os) wit rfl (by kernel_rfl) (by kernel_rfl) (by kernel_rfl) (witness_row os enc)) ?_
  intro W base args ds gs before hval0 hW _ _ _ hL hsh _
  have hval : ∀ (j : Nat) t v, Tryd.f10.params[j]? = some t → args[j]? = some v → Value.okWide Tryd.prog W .any base t v := hval0
  have hW' := hW
  obtain ⟨p, q, hA0, hV, rfl, hfz, hnd⟩ := hW
  have hA : DataW.TrodAll enc Tryd.prog W 0 (fun _ => true) true Tryd.f10.params.toList args.toList ds p := hA0
  rw [Tryd.params10] at hA hval
  obtain ⟨v0, v1, v2, v3, d0, d1, d2, d3, p0, p1, p2, p3, rfl, rfl, rfl, h0, h1, h2, h3⟩ := trodAll_four hA
  obtain ⟨rfl, rfl⟩ := trodVars_none hV
  obtain ⟨pg0, u0, rfl, hr0, hz0⟩ := pg_of (hval 0 34 v0 rfl rfl) h0
  obtain ⟨b1, rfl, rfl, rfl, wb1⟩ := open_int Tryd.underlying66 (hval 1 66 v1 rfl rfl) h1
  obtain ⟨b2, rfl, rfl, rfl, wb2⟩ := open_int Tryd.underlying66 (hval 2 66 v2 rfl rfl) h2
  obtain ⟨b3, rfl, rfl, rfl, wb3⟩ := open_int Tryd.underlying49 (hval 3 49 v3 rfl rfl) h3
  have k0 := h0
  obtain ⟨fuel0, hf0⟩ := h0
  clear hA0 hval0
  simp only [List.append_nil] at hW'
  have hlt : ∀ x ∈ p0, x.block < W.heap.size := fun x hx => by simpa using hW'.lt x (by simpa using hx)
  have r1 : -32768 ≤ b1 ∧ b1 ≤ 32767 := by simpa [Lit.wf, IntKind.min, IntKind.max, IntKind.signed, IntKind.bits] using wb1
  have r2 : -32768 ≤ b2 ∧ b2 ≤ 32767 := by simpa [Lit.wf, IntKind.min, IntKind.max, IntKind.signed, IntKind.bits] using wb2
  have r3 : 0 ≤ b3 ∧ b3 < 65536 := by
    have h : 0 ≤ b3 ∧ b3 ≤ 65535 := by simpa [Lit.wf, IntKind.min, IntKind.max, IntKind.signed, IntKind.bits] using wb3
    omega
  have he : Env W := env_ofT hL
  obtain ⟨m, hm⟩ := Tryd.laysM146.s1_3 W hsh
  refine (pmoves_any pg0 u0 b1 b2 b3 m W he hm hr0 hz0 r1.1 r1.2 r2.1 r2.2 r3.1 (by omega)).mono fun e W' ⟨he, hB⟩ => ?_
  subst he
  refine ⟨_, rfl, _, _, _, [], p0 ++ ([] ++ ([] ++ [])), [], hW', ?_, ?_, ?_, hB.frame _, fun h => by cases h⟩
  · exact trodAll_mk1 (shut_bool Tryd.underlying4 _)
  · exact trodAll_mk4 (Below.trod laidOut (by kernel_rfl) (of_decide_eq_true (by kernel_rfl)) k0 hB (fun x hx => hlt x (by simp [hx]))) (shut_int Tryd.underlying66 wb1) (shut_int Tryd.underlying66 wb2) (shut_int Tryd.underlying49 wb3)
  · rfl

theorem row_holds : Rows.PagedescMovesSaid :=
  OpenClaim.holds_of_cond 10 Tryd.f10 rfl rfl rfl rfl rfl rfl rfl ⟨rfl, rfl, rfl, rfl, rfl⟩ rfl rfl rfl rfl rfl (by kernel_rfl) Tryd.func10 (by kernel_rfl)
    (of_decide_eq_true (by kernel_rfl)) (by unfold Func.isWrapper; first | (rw [if_pos (by decide +kernel)]; kernel_rfl) | (rw [if_neg (by decide +kernel)]; exact ⟨rfl, rfl⟩))
    (fun os started H enc _ F0 => by rw [OpenClaim.pre_eq_preRow]; exact lifted os started H enc F0)

theorem holds : Rows.PagedescMovesCardSaid :=
  Claim7.holds_tied_plain_at .later [] [.data, .data, .data, .data, .sentinel, .sentinel, .pinned] true _ true
    row_holds (fun _ h => by cases h) (by kernel_rfl) (fun _ h => by cases h) pagedescMoves_row_tie rfl ⟨rfl, rfl⟩ (by kernel_rfl) rfl
    (fun f fn hf hfn => by
      obtain rfl : f = 10 := (Option.some.inj ((show Tryd.prog.funcNamed "apograph/apographlaw53.PagedescMoves" = some 10 by kernel_rfl).symm.trans hf)).symm
      obtain rfl : fn = Tryd.f10 := (Option.some.inj (Tryd.func10.symm.trans hfn)).symm
      exact ⟨by kernel_rfl, fun j t ht => by
        rw [Tryd.params10] at ht
        have h3 : t = 34 ∨ t = 66 ∨ t = 49 := by
          rcases j with _ | _ | _ | _ | j
          · left; simpa using ht.symm
          · right; left; simpa using ht.symm
          · right; left; simpa using ht.symm
          · right; right; simpa using ht.symm
          · simp at ht
        rcases h3 with rfl | rfl | rfl
        · exact (show Tryd.prog.wantsStandIn 34 = false by kernel_rfl)
        · exact (show Tryd.prog.wantsStandIn 66 = false by kernel_rfl)
        · exact (show Tryd.prog.wantsStandIn 49 = false by kernel_rfl)⟩)
    (by kernel_rfl)
end Go.Proofs.YtkjapeafhcdnkaaDoor.pagedescMoves
