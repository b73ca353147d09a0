/-
  P50.4, the card of NotesFewest, out of its walk. The card is tied: the tables of unicode/utf8 are laid as the program's text lays them; nothing on the walk reads them.
-/
import Derived.Test.YtajhkfmhoihjfaaDoorLaidW
import Derived.Test.YtajhkfmhoihjfaaDoorFew
import Derived.Test.YtajhkfmhoihjfaaDoorArgs5
import Derived.Test.YtajhkfmhoihjfaaDoorTie
import Derived.Test.YtajhkfmhoihjfaaDoorCards
import Derived.SevenTiedAt
namespace Go.Proofs.YtajhkfmhoihjfaaDoor.notesFewest
open Go.ChangeShapes Go.WideShapes Go.ChangeAt Go.RowKit
open Go.ChangeMaps (open_string shut_string)

abbrev spec : OpenSpec := OpenSpec.ofChange Rows.notesFewestSpec
def wit : Array Value := #[.string ⟨#[]⟩, .int .u16 0, .int .u16 0, .int .u16 0, .int .u32 0]

theorem witness_row (os : Os) {H : Type} (enc : TypeId × Value → H) :
    spec.preRow enc Tryd.prog Tryd.f5 Rows.notesFewestRow.domain false Rows.notesFewestRow.laid ((laidWorld os).forCall (fun _ _ => 0) ⟨#[], wit, []⟩).memory wit := by
  have hw : (DataW.whole enc Tryd.prog ((laidWorld os).forCall (fun _ _ => 0) ⟨#[], wit, []⟩).memory Tryd.f5.params.toList spec.vars false wit.toList 8).map (fun x => (x.1, x.2.1)) =
      some ([.lit (.string []), .lit (.int .u16 0), .lit (.int .u16 0), .lit (.int .u16 0), .lit (.int .u32 0)], []) := by kernel_rfl
  obtain ⟨⟨x1, x2, x3⟩, hx, hx1⟩ := Option.map_eq_some_iff.1 hw
  simp only [Prod.mk.injEq] at hx1
  obtain ⟨rfl, rfl⟩ := hx1
  exact OpenSpec.preRow_of_cond 8 hx (by kernel_rfl) (fun k hk => by cases hk) (by kernel_rfl) (laid_met os _)

set_option maxRecDepth 100000 in
set_option maxHeartbeats 2000000 in
theorem lifted (os : Os) (started : os.Started) (H : Type) (enc : TypeId × Value → H) (F : Stop.Interp) :
    ReturnsInHanded {} Tryd.checked os 5 .any (spec.preRow enc Tryd.prog Tryd.f5 Rows.notesFewestRow.domain false Rows.notesFewestRow.laid) ((spec.at F).post enc Tryd.prog Tryd.f5 false true false false) := by
  refine returnsInHanded_of_row (C := Tryd.checked) (s := spec) knob started (by kernel_rfl) Tryd.func5
    (witness_row_atRef (enc := enc) (C := Tryd.checked) false (laidWorld os) wit rfl (by kernel_rfl) (by kernel_rfl) (by kernel_rfl) (witness_row os enc)) ?_
  intro W base args ds gs before hval0 hW _ _ _ _ hsh _
  have hval : ∀ (j : Nat) t v, Tryd.f5.params[j]? = some t → args[j]? = some v → Value.okWide Tryd.prog W .any base t v := hval0
  have hW' := hW
  obtain ⟨p, q, hA0, hV, rfl, hfz, hnd⟩ := hW
  have hA : DataW.TrodAll enc Tryd.prog W 0 (fun _ => true) true Tryd.f5.params.toList args.toList ds p := hA0
  rw [Tryd.params5] at hA hval
  obtain ⟨v0, v1, v2, v3, v4, d0, d1, d2, d3, d4, p0, p1, p2, p3, p4, rfl, rfl, rfl, h0, h1, h2, h3, h4⟩ := trodAll_five hA
  obtain ⟨rfl, rfl⟩ := trodVars_none hV
  obtain ⟨s0, rfl, rfl, rfl, ws0⟩ := open_string Tryd.underlying9 (hval 0 9 v0 rfl rfl) h0
  obtain ⟨b1, rfl, rfl, rfl, wb1⟩ := open_int Tryd.underlying38 (hval 1 38 v1 rfl rfl) h1
  obtain ⟨b2, rfl, rfl, rfl, wb2⟩ := open_int Tryd.underlying38 (hval 2 38 v2 rfl rfl) h2
  obtain ⟨b3, rfl, rfl, rfl, wb3⟩ := open_int Tryd.underlying38 (hval 3 38 v3 rfl rfl) h3
  obtain ⟨b4, rfl, rfl, rfl, wb4⟩ := open_int Tryd.underlying44 (hval 4 44 v4 rfl rfl) h4
  clear hA0 hval0
  simp only [List.append_nil] at hW'
  have r1 : 0 ≤ b1 ∧ b1 < 65536 := by
    have h : 0 ≤ b1 ∧ b1 ≤ 65535 := by simpa [Lit.wf, IntKind.min, IntKind.max, IntKind.signed, IntKind.bits] using wb1
    omega
  have r2 : 0 ≤ b2 ∧ b2 < 65536 := by
    have h : 0 ≤ b2 ∧ b2 ≤ 65535 := by simpa [Lit.wf, IntKind.min, IntKind.max, IntKind.signed, IntKind.bits] using wb2
    omega
  have r3 : 0 ≤ b3 ∧ b3 < 65536 := by
    have h : 0 ≤ b3 ∧ b3 ≤ 65535 := by simpa [Lit.wf, IntKind.min, IntKind.max, IntKind.signed, IntKind.bits] using wb3
    omega
  have r4 : 0 ≤ b4 ∧ b4 < 4294967296 := by
    have h : 0 ≤ b4 ∧ b4 ≤ 4294967295 := by simpa [Lit.wf, IntKind.min, IntKind.max, IntKind.signed, IntKind.bits] using wb4
    omega
  obtain ⟨m, hm⟩ := Tryd.laysM146.s1_3 W hsh
  refine (few_any s0 b1 b2 b3 b4 m W r1 r2 r3 r4 hm).mono fun e W' ⟨he, hB⟩ => ?_
  subst he
  refine ⟨_, rfl, _, _, _, [], [] ++ ([] ++ ([] ++ ([] ++ []))), [], hW', ?_, ?_, ?_, hB.frame _, fun h => by cases h⟩
  · exact trodAll_mk1 (shut_bool Tryd.underlying4 _)
  · exact trodAll_mk5 (shut_string Tryd.underlying9 ws0) (shut_int Tryd.underlying38 wb1) (shut_int Tryd.underlying38 wb2) (shut_int Tryd.underlying38 wb3) (shut_int Tryd.underlying44 wb4)
  · rfl

theorem row_holds : Rows.NotesFewestSaid :=
  OpenClaim.holds_of_cond 5 Tryd.f5 rfl rfl rfl rfl rfl rfl rfl ⟨rfl, rfl, rfl, rfl, rfl⟩ rfl rfl rfl rfl rfl (by kernel_rfl) Tryd.func5 (by kernel_rfl)
    (of_decide_eq_true (by kernel_rfl)) (by unfold Func.isWrapper; first | (rw [if_pos (by decide +kernel)]; kernel_rfl) | (rw [if_neg (by decide +kernel)]; exact ⟨rfl, rfl⟩))
    (fun os started H enc _ F0 => by rw [OpenClaim.pre_eq_preRow]; exact lifted os started H enc F0)

theorem holds : Rows.NotesFewestCardSaid :=
  Claim7.holds_tied_plain_at .later [] [.data, .pinned] true _ false
    row_holds (fun _ h => by cases h) (by kernel_rfl) (fun _ h => by cases h) notesFewest_row_tie rfl ⟨rfl, rfl⟩ (by kernel_rfl) rfl
    (fun f fn hf hfn => by
      obtain rfl : f = 5 := (Option.some.inj ((show Tryd.prog.funcNamed "apograph/apographlaw50.NotesFewest" = some 5 by kernel_rfl).symm.trans hf)).symm
      obtain rfl : fn = Tryd.f5 := (Option.some.inj (Tryd.func5.symm.trans hfn)).symm
      exact ⟨by kernel_rfl, fun j t ht => by
        rw [Tryd.params5] at ht
        have h3 : t = 9 ∨ t = 38 ∨ t = 44 := by
          rcases j with _ | _ | _ | _ | _ | j
          · left; simpa using ht.symm
          · right; left; simpa using ht.symm
          · right; left; simpa using ht.symm
          · right; left; simpa using ht.symm
          · right; right; simpa using ht.symm
          · simp at ht
        rcases h3 with rfl | rfl | rfl
        · exact (show Tryd.prog.wantsStandIn 9 = false by kernel_rfl)
        · exact (show Tryd.prog.wantsStandIn 38 = false by kernel_rfl)
        · exact (show Tryd.prog.wantsStandIn 44 = false by kernel_rfl)⟩)
    (by kernel_rfl)
end Go.Proofs.YtajhkfmhoihjfaaDoor.notesFewest
