/-
  P51, the card of TopPagesNotes, out of its walk. The card is tied: the tables of unicode/utf8 are laid as the program's text lays them; nothing on the walk reads them.
-/
import Derived.Test.YtlneimjenjpbnaaDoorLaidW
import Derived.Test.YtlneimjenjpbnaaDoorT51
import Derived.Test.YtlneimjenjpbnaaDoorJ04
import Derived.Test.YtlneimjenjpbnaaDoorArgU8
import Derived.Test.YtlneimjenjpbnaaDoorArgSt
import Derived.Test.YtlneimjenjpbnaaDoorTie
import Derived.Test.YtlneimjenjpbnaaDoorCards
import Derived.SevenTiedAt
namespace Go.Proofs.YtlneimjenjpbnaaDoor.topPagesNotes
open Go.ChangeShapes Go.WideShapes Go.ChangeAt Go.RowKit
open Go.ChangeMaps (open_string shut_string)

abbrev spec : OpenSpec := OpenSpec.ofChange Rows.topPagesNotesSpec
def wit : Array Value := #[.agg #[.int .i64 0, .int .i64 0, .int .i64 0, .int .i64 0, .int .i64 0, .int .i64 0, .int .i64 0, .int .i64 0, .int .i64 0, .int .i64 0, .int .i64 0, .slice none 0 0, .slice none 0 0], .int .u8 0, .slice none 0 0, .slice none 0 0, .slice none 0 0, .int .u16 0]

theorem witness_row (os : Os) {H : Type} (enc : TypeId × Value → H) :
    spec.preRow enc Tryd.prog Tryd.f3 Rows.topPagesNotesRow.domain false Rows.topPagesNotesRow.laid ((laidWorld os).forCall (fun _ _ => 0) ⟨#[], wit, []⟩).memory wit := by
  have hw : (DataW.whole enc Tryd.prog ((laidWorld os).forCall (fun _ _ => 0) ⟨#[], wit, []⟩).memory Tryd.f3.params.toList spec.vars false wit.toList 8).map (fun x => (x.1, x.2.1)) =
      some ([.agg [.lit (.int .i64 0), .lit (.int .i64 0), .lit (.int .i64 0), .lit (.int .i64 0), .lit (.int .i64 0), .lit (.int .i64 0), .lit (.int .i64 0), .lit (.int .i64 0), .lit (.int .i64 0), .lit (.int .i64 0), .lit (.int .i64 0), .nil, .nil], .lit (.int .u8 0), .nil, .nil, .nil, .lit (.int .u16 0)], []) := by kernel_rfl
  obtain ⟨⟨x1, x2, x3⟩, hx, hx1⟩ := Option.map_eq_some_iff.1 hw
  simp only [Prod.mk.injEq] at hx1
  obtain ⟨rfl, rfl⟩ := hx1
  exact OpenSpec.preRow_of_cond 8 hx (by kernel_rfl) (fun k hk => by cases hk) (by kernel_rfl) (laid_met os _)

set_option maxRecDepth 100000 in
set_option maxHeartbeats 2000000 in
theorem lifted (os : Os) (started : os.Started) (H : Type) (enc : TypeId × Value → H) (F : Stop.Interp) :
    ReturnsInHanded {} Tryd.checked os 3 .any (spec.preRow enc Tryd.prog Tryd.f3 Rows.topPagesNotesRow.domain false Rows.topPagesNotesRow.laid) ((spec.at F).post enc Tryd.prog Tryd.f3 false true false false) := by
  refine returnsInHanded_of_row (C := Tryd.checked) (s := spec) knob started (by kernel_rfl) Tryd.func3
    (witness_row_atRef (enc := enc) (C := Tryd.checked) false (laidWorld os) wit rfl (by kernel_rfl) (by kernel_rfl) (by kernel_rfl) (witness_row os enc)) ?_
  intro W base args ds gs before hval0 hW _ _ _ _ hsh _
  have hval : ∀ (j : Nat) t v, Tryd.f3.params[j]? = some t → args[j]? = some v → Value.okWide Tryd.prog W .any base t v := hval0
  have hW' := hW
  obtain ⟨p, q, hA0, hV, rfl, hfz, hnd⟩ := hW
  have hA : DataW.TrodAll enc Tryd.prog W 0 (fun _ => true) true Tryd.f3.params.toList args.toList ds p := hA0
  rw [Tryd.params3] at hA hval
  obtain ⟨v0, v1, v2, v3, v4, v5, d0, d1, d2, d3, d4, d5, p0, p1, p2, p3, p4, p5, rfl, rfl, rfl, h0, h1, h2, h3, h4, h5⟩ := trodAll_six hA
  obtain ⟨rfl, rfl⟩ := trodVars_none hV
  obtain ⟨st0, rfl⟩ := st_of (hval 0 25 v0 rfl rfl) h0
  obtain ⟨b1, rfl, rfl, rfl, wb1⟩ := open_int Tryd.underlying5 (hval 1 5 v1 rfl rfl) h1
  obtain ⟨a2, n2, c2, rfl⟩ := okWide_slice Tryd.underlying26 (hval 2 26 v2 rfl rfl)
  obtain ⟨a3, n3, c3, rfl⟩ := okWide_slice Tryd.underlying26 (hval 3 26 v3 rfl rfl)
  obtain ⟨a4, n4, c4, rfl⟩ := okWide_slice Tryd.underlying23 (hval 4 23 v4 rfl rfl)
  obtain ⟨b5, rfl, rfl, rfl, wb5⟩ := open_int Tryd.underlying27 (hval 5 27 v5 rfl rfl) h5
  have k0 := h0
  obtain ⟨fuel0, hf0⟩ := h0
  have k2 := h2
  obtain ⟨fuel2, hf2⟩ := h2
  have k3 := h3
  obtain ⟨fuel3, hf3⟩ := h3
  have k4 := h4
  obtain ⟨fuel4, hf4⟩ := h4
  clear hA0 hval0
  simp only [List.append_nil] at hW'
  have hlt : ∀ x ∈ p0 ++ (p2 ++ (p3 ++ p4)), x.block < W.heap.size := fun x hx => by simpa using hW'.lt x (by simpa using hx)
  have r1 : 0 ≤ b1 ∧ b1 < 256 := by
    have h : 0 ≤ b1 ∧ b1 ≤ 255 := by simpa [Lit.wf, IntKind.min, IntKind.max, IntKind.signed, IntKind.bits] using wb1
    omega
  obtain ⟨l2, hr2, hz2⟩ := rdU8_of Tryd.underlying26 Tryd.underlying5 (by kernel_rfl) hf2
  obtain ⟨l3, hr3, hz3⟩ := rdU8_of Tryd.underlying26 Tryd.underlying5 (by kernel_rfl) hf3
  obtain ⟨l4, hr4, hz4⟩ := rdS_of Tryd.underlying23 Tryd.underlying9 (by kernel_rfl) hf4
  have r5 : 0 ≤ b5 ∧ b5 < 65536 := by
    have h : 0 ≤ b5 ∧ b5 ≤ 65535 := by simpa [Lit.wf, IntKind.min, IntKind.max, IntKind.signed, IntKind.bits] using wb5
    omega
  obtain ⟨q1, rfl⟩ : ∃ q : Nat, b1 = (q : Int) := ⟨b1.toNat, by omega⟩
  obtain ⟨q5, rfl⟩ : ∃ q : Nat, b5 = (q : Int) := ⟨b5.toNat, by omega⟩
  obtain ⟨m, hm⟩ := Tryd.laysM146.s1_3 W hsh
  refine (tpn_any st0 q1 _ _ _ l2 l3 l4 q5 m W hr2 hr3 hr4 hz4 (by omega) (by omega) hz2 hz3 hm).mono fun e W' ⟨he, hB⟩ => ?_
  subst he
  refine ⟨_, rfl, _, _, _, [], p0 ++ ([] ++ (p2 ++ (p3 ++ (p4 ++ [])))), [], hW', ?_, ?_, ?_, hB.frame _, fun h => by cases h⟩
  · exact trodAll_mk1 (shut_bool Tryd.underlying4 _)
  · exact trodAll_mk6 (Below.trod laidOut (by kernel_rfl) (of_decide_eq_true (by kernel_rfl)) k0 hB (fun x hx => hlt x (by simp [hx]))) (shut_int Tryd.underlying5 wb1) (Below.trod laidOut (by kernel_rfl) (of_decide_eq_true (by kernel_rfl)) k2 hB (fun x hx => hlt x (by simp [hx]))) (Below.trod laidOut (by kernel_rfl) (of_decide_eq_true (by kernel_rfl)) k3 hB (fun x hx => hlt x (by simp [hx]))) (Below.trod laidOut (by kernel_rfl) (of_decide_eq_true (by kernel_rfl)) k4 hB (fun x hx => hlt x (by simp [hx]))) (shut_int Tryd.underlying27 wb5)
  · rfl

theorem row_holds : Rows.TopPagesNotesSaid :=
  OpenClaim.holds_of_cond 3 Tryd.f3 rfl rfl rfl rfl rfl rfl rfl ⟨rfl, rfl, rfl, rfl, rfl⟩ rfl rfl rfl rfl rfl (by kernel_rfl) Tryd.func3 (by kernel_rfl)
    (of_decide_eq_true (by kernel_rfl)) (by unfold Func.isWrapper; first | (rw [if_pos (by decide +kernel)]; kernel_rfl) | (rw [if_neg (by decide +kernel)]; exact ⟨rfl, rfl⟩))
    (fun os started H enc _ F0 => by rw [OpenClaim.pre_eq_preRow]; exact lifted os started H enc F0)

theorem holds : Rows.TopPagesNotesCardSaid :=
  Claim7.holds_tied_plain_at .later [] [.data, .pinned] true _ false
    row_holds (fun _ h => by cases h) (by kernel_rfl) (fun _ h => by cases h) topPagesNotes_row_tie rfl ⟨rfl, rfl⟩ (by kernel_rfl) rfl
    (fun f fn hf hfn => by
      obtain rfl : f = 3 := (Option.some.inj ((show Tryd.prog.funcNamed "apograph/apographtop.TopPagesNotes" = some 3 by kernel_rfl).symm.trans hf)).symm
      obtain rfl : fn = Tryd.f3 := (Option.some.inj (Tryd.func3.symm.trans hfn)).symm
      exact ⟨by kernel_rfl, fun j t ht => by
        rw [Tryd.params3] at ht
        have h3 : t = 25 ∨ t = 5 ∨ t = 26 ∨ t = 23 ∨ t = 27 := by
          rcases j with _ | _ | _ | _ | _ | _ | j
          · left; simpa using ht.symm
          · right; left; simpa using ht.symm
          · right; right; left; simpa using ht.symm
          · right; right; left; simpa using ht.symm
          · right; right; right; left; simpa using ht.symm
          · right; right; right; right; simpa using ht.symm
          · simp at ht
        rcases h3 with rfl | rfl | rfl | rfl | rfl
        · exact (show Tryd.prog.wantsStandIn 25 = false by kernel_rfl)
        · exact (show Tryd.prog.wantsStandIn 5 = false by kernel_rfl)
        · exact (show Tryd.prog.wantsStandIn 26 = false by kernel_rfl)
        · exact (show Tryd.prog.wantsStandIn 23 = false by kernel_rfl)
        · exact (show Tryd.prog.wantsStandIn 27 = false by kernel_rfl)⟩)
    (by kernel_rfl)
end Go.Proofs.YtlneimjenjpbnaaDoor.topPagesNotes
