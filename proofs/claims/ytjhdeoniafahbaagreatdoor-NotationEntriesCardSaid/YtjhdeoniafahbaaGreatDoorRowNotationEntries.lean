/-
  P45.1, the card of NotationEntries, out of its walk. The card is tied: strconv's errors and its table of powers are laid as the program's text lays them.
-/
import Derived.Test.YtjhdeoniafahbaaGreatDoorLaid43T
import Derived.Test.YtjhdeoniafahbaaGreatDoorLEnt
import Derived.Test.YtjhdeoniafahbaaGreatDoorArgs6
import Derived.Test.YtjhdeoniafahbaaGreatDoorJ08
import Derived.Test.YtjhdeoniafahbaaGreatDoorTie
import Derived.Test.YtjhdeoniafahbaaGreatDoorCards
import Derived.SevenTiedAt
namespace Go.Proofs.YtjhdeoniafahbaaGreatDoor.notationEntries
open Go.ChangeShapes Go.WideShapes Go.ChangeAt Go.RowKit
open Go.ChangeMaps (open_string shut_string)

abbrev spec : OpenSpec := OpenSpec.ofChange Rows.notationEntriesSpec
def wit : Array Value := #[.slice none 0 0, .slice none 0 0, .slice none 0 0, .agg #[.int .i64 0, .int .i64 0, .int .i64 0, .bool false, .slice none 0 0, .slice none 0 0], .int .i64 0, .agg #[.int .i64 0, .int .i64 0, .int .i64 0, .string ⟨#[]⟩, .string ⟨#[]⟩, .int .i64 0, .bool false, .slice none 0 0, .slice none 0 0]]

theorem witness_row (os : Os) {H : Type} (enc : TypeId × Value → H) :
    spec.preRow enc Tryz.prog Tryz.f3 Rows.notationEntriesRow.domain false Rows.notationEntriesRow.laid ((laidWorldT os).forCall (fun _ _ => 0) ⟨#[], wit, []⟩).memory wit := by
  have hw : (DataW.whole enc Tryz.prog ((laidWorldT os).forCall (fun _ _ => 0) ⟨#[], wit, []⟩).memory Tryz.f3.params.toList spec.vars false wit.toList 8).map (fun x => (x.1, x.2.1)) =
      some ([.nil, .nil, .nil, .agg [.lit (.int .i64 0), .lit (.int .i64 0), .lit (.int .i64 0), .lit (.bool false), .nil, .nil], .lit (.int .i64 0), .agg [.lit (.int .i64 0), .lit (.int .i64 0), .lit (.int .i64 0), .agg [.lit (.string []), .lit (.string []), .lit (.int .i64 0)], .lit (.bool false), .nil, .nil]], []) := by kernel_rfl
  obtain ⟨⟨x1, x2, x3⟩, hx, hx1⟩ := Option.map_eq_some_iff.1 hw
  simp only [Prod.mk.injEq] at hx1
  obtain ⟨rfl, rfl⟩ := hx1
  exact OpenSpec.preRow_of_cond 8 hx (by kernel_rfl) (fun k hk => by cases hk) (by kernel_rfl) (laid_metT os _)

set_option maxRecDepth 100000 in
set_option maxHeartbeats 2000000 in
theorem lifted (os : Os) (started : os.Started) (H : Type) (enc : TypeId × Value → H) (F : Stop.Interp) :
    ReturnsInHanded {} Tryz.checked os 3 .any (spec.preRow enc Tryz.prog Tryz.f3 Rows.notationEntriesRow.domain false Rows.notationEntriesRow.laid) ((spec.at F).post enc Tryz.prog Tryz.f3 false true false false) := by
  refine returnsInHanded_of_row (C := Tryz.checked) (s := spec) knob started (by kernel_rfl) Tryz.func3
    (witness_row_atRef (enc := enc) (C := Tryz.checked) false (laidWorldT os) wit rfl (by kernel_rfl) (by kernel_rfl) (by kernel_rfl) (witness_row os enc)) ?_
  intro W base args ds gs before hval0 hW _ _ _ hL hsh _
  have hval : ∀ (j : Nat) t v, Tryz.f3.params[j]? = some t → args[j]? = some v → Value.okWide Tryz.prog W .any base t v := hval0
  have hW' := hW
  obtain ⟨p, q, hA0, hV, rfl, hfz, hnd⟩ := hW
  have hA : DataW.TrodAll enc Tryz.prog W 0 (fun _ => true) true Tryz.f3.params.toList args.toList ds p := hA0
  rw [Tryz.params3] at hA hval
  obtain ⟨v0, v1, v2, v3, v4, v5, d0, d1, d2, d3, d4, d5, p0, p1, p2, p3, p4, p5, rfl, rfl, rfl, h0, h1, h2, h3, h4, h5⟩ := trodAll_six hA
  obtain ⟨rfl, rfl⟩ := trodVars_none hV
  obtain ⟨a0, n0, c0, rfl⟩ := okWide_slice Tryz.underlying22 (hval 0 22 v0 rfl rfl)
  obtain ⟨a1, n1, c1, rfl⟩ := okWide_slice Tryz.underlying22 (hval 1 22 v1 rfl rfl)
  obtain ⟨a2, n2, c2, rfl⟩ := okWide_slice Tryz.underlying23 (hval 2 23 v2 rfl rfl)
  obtain ⟨q3, u3, t3, rfl, hr3, hz3⟩ := en_of (hval 3 26 v3 rfl rfl) h3
  obtain ⟨b4, rfl, rfl, rfl, wb4⟩ := open_int Tryz.underlying3 (hval 4 3 v4 rfl rfl) h4
  obtain ⟨q5, u5, t5, rfl, hr5, hz5⟩ := nt_of (hval 5 30 v5 rfl rfl) h5
  have k0 := h0
  obtain ⟨fuel0, hf0⟩ := h0
  have k1 := h1
  obtain ⟨fuel1, hf1⟩ := h1
  have k2 := h2
  obtain ⟨fuel2, hf2⟩ := h2
  have k3 := h3
  obtain ⟨fuel3, hf3⟩ := h3
  have k5 := h5
  obtain ⟨fuel5, hf5⟩ := h5
  clear hA0 hval0
  simp only [List.append_nil] at hW'
  have hlt : ∀ x ∈ p0 ++ (p1 ++ (p2 ++ (p3 ++ p5))), x.block < W.heap.size := fun x hx => by simpa using hW'.lt x (by simpa using hx)
  obtain ⟨l0, hr0⟩ := rdI_of Tryz.underlying22 Tryz.underlying3 (by kernel_rfl) hf0
  obtain ⟨l1, hr1⟩ := rdI_of Tryz.underlying22 Tryz.underlying3 (by kernel_rfl) hf1
  obtain ⟨l2, hr2, hz2⟩ := rdS_of Tryz.underlying23 Tryz.underlying9 (by kernel_rfl) hf2
  have r4 : -9223372036854775808 ≤ b4 ∧ b4 ≤ 9223372036854775807 := by simpa [Lit.wf, IntKind.min, IntKind.max, IntKind.signed, IntKind.bits] using wb4
  have he : Env W := env_ofT hL
  obtain ⟨m, hm⟩ := Tryz.laysM146.s1_3 W hsh
  refine (lent_any _ _ _ l0 l1 l2 q3 u3 t3 b4 q5 u5 t5 m W he hm hr0 hr1 hr2 hz2 hr3 hz3 hr5 hz5).mono fun e W' ⟨he, hB⟩ => ?_
  subst he
  refine ⟨_, rfl, _, _, _, [], p0 ++ (p1 ++ (p2 ++ (p3 ++ ([] ++ p5)))), [], hW', ?_, ?_, ?_, hB.frame _, fun h => by cases h⟩
  · exact trodAll_mk1 (shut_bool Tryz.underlying4 _)
  · exact trodAll_mk6 (Below.trod laidOut (by kernel_rfl) (of_decide_eq_true (by kernel_rfl)) k0 hB (fun x hx => hlt x (by simp [hx]))) (Below.trod laidOut (by kernel_rfl) (of_decide_eq_true (by kernel_rfl)) k1 hB (fun x hx => hlt x (by simp [hx]))) (Below.trod laidOut (by kernel_rfl) (of_decide_eq_true (by kernel_rfl)) k2 hB (fun x hx => hlt x (by simp [hx]))) (Below.trod laidOut (by kernel_rfl) (of_decide_eq_true (by kernel_rfl)) k3 hB (fun x hx => hlt x (by simp [hx]))) (shut_int Tryz.underlying3 wb4) (Below.trod laidOut (by kernel_rfl) (of_decide_eq_true (by kernel_rfl)) k5 hB (fun x hx => hlt x (by simp [hx])))
  · rfl

theorem row_holds : Rows.NotationEntriesSaid :=
  OpenClaim.holds_of_cond 3 Tryz.f3 rfl rfl rfl rfl rfl rfl rfl ⟨rfl, rfl, rfl, rfl, rfl⟩ rfl rfl rfl rfl rfl (by kernel_rfl) Tryz.func3 (by kernel_rfl)
    (of_decide_eq_true (by kernel_rfl)) (by unfold Func.isWrapper; first | (rw [if_pos (by decide +kernel)]; kernel_rfl) | (rw [if_neg (by decide +kernel)]; exact ⟨rfl, rfl⟩))
    (fun os started H enc _ F0 => by rw [OpenClaim.pre_eq_preRow]; exact lifted os started H enc F0)

theorem holds : Rows.NotationEntriesCardSaid :=
  Claim7.holds_tied_plain_at .later [] [.data, .data, .data, .data, .sentinel, .sentinel, .pinned] true _ true
    row_holds (fun _ h => by cases h) (by kernel_rfl) (fun _ h => by cases h) notationEntries_row_tie rfl ⟨rfl, rfl⟩ (by kernel_rfl) rfl
    (fun f fn hf hfn => by
      obtain rfl : f = 3 := (Option.some.inj ((show Tryz.prog.funcNamed "apograph/apographlaw45.NotationEntries" = some 3 by kernel_rfl).symm.trans hf)).symm
      obtain rfl : fn = Tryz.f3 := (Option.some.inj (Tryz.func3.symm.trans hfn)).symm
      exact ⟨by kernel_rfl, fun j t ht => by
        rw [Tryz.params3] at ht
        have h3 : t = 22 ∨ t = 23 ∨ t = 26 ∨ t = 3 ∨ t = 30 := by
          rcases j with _ | _ | _ | _ | _ | _ | j
          · left; simpa using ht.symm
          · left; simpa using ht.symm
          · right; left; simpa using ht.symm
          · right; right; left; simpa using ht.symm
          · right; right; right; left; simpa using ht.symm
          · right; right; right; right; simpa using ht.symm
          · simp at ht
        rcases h3 with rfl | rfl | rfl | rfl | rfl
        · exact (show Tryz.prog.wantsStandIn 22 = false by kernel_rfl)
        · exact (show Tryz.prog.wantsStandIn 23 = false by kernel_rfl)
        · exact (show Tryz.prog.wantsStandIn 26 = false by kernel_rfl)
        · exact (show Tryz.prog.wantsStandIn 3 = false by kernel_rfl)
        · exact (show Tryz.prog.wantsStandIn 30 = false by kernel_rfl)⟩)
    (by kernel_rfl)
end Go.Proofs.YtjhdeoniafahbaaGreatDoor.notationEntries
