/-
  P45.5, the card of NotationLines, out of its walk. The card is tied: strconv's errors and its table of powers are laid as the program's text lays them.
-/
import Derived.Test.YtjhdeoniafahbaaGreatDoorLaid43T
import Derived.Test.YtjhdeoniafahbaaGreatDoorLLin
import Derived.Test.YtjhdeoniafahbaaGreatDoorJ01
import Derived.Test.YtjhdeoniafahbaaGreatDoorJ08
import Derived.Test.YtjhdeoniafahbaaGreatDoorTie
import Derived.Test.YtjhdeoniafahbaaGreatDoorCards
import Derived.SevenTiedAt
namespace Go.Proofs.YtjhdeoniafahbaaGreatDoor.notationLines
open Go.ChangeShapes Go.WideShapes Go.ChangeAt Go.RowKit
open Go.ChangeMaps (open_string shut_string)

abbrev spec : OpenSpec := OpenSpec.ofChange Rows.notationLinesSpec
def wit : Array Value := #[.slice none 0 0, .slice none 0 0, .slice none 0 0, .agg #[.int .i64 0, .int .i64 0, .int .i64 0, .bool false, .slice none 0 0, .slice none 0 0]]

theorem witness_row (os : Os) {H : Type} (enc : TypeId × Value → H) :
    spec.preRow enc Tryz.prog Tryz.f6 Rows.notationLinesRow.domain false Rows.notationLinesRow.laid ((laidWorldT os).forCall (fun _ _ => 0) ⟨#[], wit, []⟩).memory wit := by
  have hw : (DataW.whole enc Tryz.prog ((laidWorldT os).forCall (fun _ _ => 0) ⟨#[], wit, []⟩).memory Tryz.f6.params.toList spec.vars false wit.toList 8).map (fun x => (x.1, x.2.1)) =
      some ([.nil, .nil, .nil, .agg [.lit (.int .i64 0), .lit (.int .i64 0), .lit (.int .i64 0), .lit (.bool false), .nil, .nil]], []) := by kernel_rfl
  obtain ⟨⟨x1, x2, x3⟩, hx, hx1⟩ := Option.map_eq_some_iff.1 hw
  simp only [Prod.mk.injEq] at hx1
  obtain ⟨rfl, rfl⟩ := hx1
  exact OpenSpec.preRow_of_cond 8 hx (by kernel_rfl) (fun k hk => by cases hk) (by kernel_rfl) (laid_metT os _)

set_option maxRecDepth 100000 in
set_option maxHeartbeats 2000000 in
theorem lifted (os : Os) (started : os.Started) (H : Type) (enc : TypeId × Value → H) (F : Stop.Interp) :
    ReturnsInHanded {} Tryz.checked os 6 .any (spec.preRow enc Tryz.prog Tryz.f6 Rows.notationLinesRow.domain false Rows.notationLinesRow.laid) ((spec.at F).post enc Tryz.prog Tryz.f6 false true false false) := by
  refine returnsInHanded_of_row (C := Tryz.checked) (s := spec) knob started (by kernel_rfl) Tryz.func6
    (witness_row_atRef (enc := enc) (C := Tryz.checked) false (laidWorldT os) wit rfl (by kernel_rfl) (by kernel_rfl) (by kernel_rfl) (witness_row os enc)) ?_
  intro W base args ds gs before hval0 hW _ _ _ hL hsh _
  have hval : ∀ (j : Nat) t v, Tryz.f6.params[j]? = some t → args[j]? = some v → Value.okWide Tryz.prog W .any base t v := hval0
  have hW' := hW
  obtain ⟨p, q, hA0, hV, rfl, hfz, hnd⟩ := hW
  have hA : DataW.TrodAll enc Tryz.prog W 0 (fun _ => true) true Tryz.f6.params.toList args.toList ds p := hA0
  rw [Tryz.params6] at hA hval
  obtain ⟨v0, v1, v2, v3, d0, d1, d2, d3, p0, p1, p2, p3, rfl, rfl, rfl, h0, h1, h2, h3⟩ := trodAll_four hA
  obtain ⟨rfl, rfl⟩ := trodVars_none hV
  obtain ⟨a0, n0, c0, rfl⟩ := okWide_slice Tryz.underlying22 (hval 0 22 v0 rfl rfl)
  obtain ⟨a1, n1, c1, rfl⟩ := okWide_slice Tryz.underlying22 (hval 1 22 v1 rfl rfl)
  obtain ⟨a2, n2, c2, rfl⟩ := okWide_slice Tryz.underlying23 (hval 2 23 v2 rfl rfl)
  obtain ⟨q3, u3, t3, rfl, hr3, hz3⟩ := en_of (hval 3 26 v3 rfl rfl) h3
  have k0 := h0
  obtain ⟨fuel0, hf0⟩ := h0
  have k1 := h1
  obtain ⟨fuel1, hf1⟩ := h1
  have k2 := h2
  obtain ⟨fuel2, hf2⟩ := h2
  have k3 := h3
  obtain ⟨fuel3, hf3⟩ := h3
  clear hA0 hval0
  have hlt : ∀ x ∈ p0 ++ (p1 ++ (p2 ++ p3)), x.block < W.heap.size := fun x hx => by simpa using hW'.lt x (by simpa using hx)
  obtain ⟨l0, hr0⟩ := rdI_of Tryz.underlying22 Tryz.underlying3 (by kernel_rfl) hf0
  obtain ⟨l1, hr1⟩ := rdI_of Tryz.underlying22 Tryz.underlying3 (by kernel_rfl) hf1
  obtain ⟨l2, hr2, hz2⟩ := rdS_of Tryz.underlying23 Tryz.underlying9 (by kernel_rfl) hf2
  have he : Env W := env_ofT hL
  obtain ⟨m, hm⟩ := Tryz.laysM146.s1_3 W hsh
  refine (llin_any _ _ _ l0 l1 l2 q3 u3 t3 m W he hm hr0 hr1 hr2 hz2 hr3 hz3).mono fun e W' ⟨he, hB⟩ => ?_
  subst he
  refine ⟨_, rfl, _, _, _, [], p0 ++ (p1 ++ (p2 ++ p3)), [], hW', ?_, ?_, ?_, hB.frame _, fun h => by cases h⟩
  · exact trodAll_mk1 (shut_bool Tryz.underlying4 _)
  · exact trodAll_mk4 (Below.trod laidOut (by kernel_rfl) (of_decide_eq_true (by kernel_rfl)) k0 hB (fun x hx => hlt x (by simp [hx]))) (Below.trod laidOut (by kernel_rfl) (of_decide_eq_true (by kernel_rfl)) k1 hB (fun x hx => hlt x (by simp [hx]))) (Below.trod laidOut (by kernel_rfl) (of_decide_eq_true (by kernel_rfl)) k2 hB (fun x hx => hlt x (by simp [hx]))) (Below.trod laidOut (by kernel_rfl) (of_decide_eq_true (by kernel_rfl)) k3 hB (fun x hx => hlt x (by simp [hx])))
  · rfl

theorem row_holds : Rows.NotationLinesSaid :=
  OpenClaim.holds_of_cond 6 Tryz.f6 rfl rfl rfl rfl rfl rfl rfl ⟨rfl, rfl, rfl, rfl, rfl⟩ rfl rfl rfl rfl rfl (by kernel_rfl) Tryz.func6 (by kernel_rfl)
    (of_decide_eq_true (by kernel_rfl)) (by unfold Func.isWrapper; first | (rw [if_pos (by decide +kernel)]; kernel_rfl) | (rw [if_neg (by decide +kernel)]; exact ⟨rfl, rfl⟩))
    (fun os started H enc _ F0 => by rw [OpenClaim.pre_eq_preRow]; exact lifted os started H enc F0)

theorem holds : Rows.NotationLinesCardSaid :=
  Claim7.holds_tied_plain_at .later [] [.data, .data, .data, .data, .sentinel, .sentinel, .pinned] true _ true
    row_holds (fun _ h => by cases h) (by kernel_rfl) (fun _ h => by cases h) notationLines_row_tie rfl ⟨rfl, rfl⟩ (by kernel_rfl) rfl
    (fun f fn hf hfn => by
      obtain rfl : f = 6 := (Option.some.inj ((show Tryz.prog.funcNamed "apograph/apographlaw45.NotationLines" = some 6 by kernel_rfl).symm.trans hf)).symm
      obtain rfl : fn = Tryz.f6 := (Option.some.inj (Tryz.func6.symm.trans hfn)).symm
      exact ⟨by kernel_rfl, fun j t ht => by
        rw [Tryz.params6] at ht
        have h3 : t = 22 ∨ t = 23 ∨ t = 26 := by
          rcases j with _ | _ | _ | _ | j
          · left; simpa using ht.symm
          · left; simpa using ht.symm
          · right; left; simpa using ht.symm
          · right; right; simpa using ht.symm
          · simp at ht
        rcases h3 with rfl | rfl | rfl
        · exact (show Tryz.prog.wantsStandIn 22 = false by kernel_rfl)
        · exact (show Tryz.prog.wantsStandIn 23 = false by kernel_rfl)
        · exact (show Tryz.prog.wantsStandIn 26 = false by kernel_rfl)⟩)
    (by kernel_rfl)
end Go.Proofs.YtjhdeoniafahbaaGreatDoor.notationLines
