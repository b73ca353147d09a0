/-
  The reference's Boxes.
-/
import Derived.Test.YtkjapeafhcdnkaaDoorBxs
namespace Go.Proofs.YtkjapeafhcdnkaaDoor
open Go.RowKit

set_option maxRecDepth 100000 in
set_option maxHeartbeats 4000000 in
theorem rboxes_any (v : Value) (l : List Pg) (kind : Int) (w : World) (hr : RdPg w v l) (ht : (l.flatMap Pg.bx).length ≤ 1000000) :
    Calls Tryd.prog 26 #[v, .int .i64 kind] w fun e w' => ∃ u, e = .returned u ∧ RdB w' u ((l.flatMap Pg.bx).filter (ofK kind)) ∧ Below w.heap.size w w' := by
  have HTT : Hid (∀ k, ((l.take k).flatMap Pg.bx).length ≤ 1000000) := fun k => by
    have h : (l.flatMap Pg.bx).length = ((l.take k).flatMap Pg.bx).length + ((l.drop k).flatMap Pg.bx).length := by
      rw [← List.length_append, ← List.flatMap_append, List.take_append_drop]
    omega
  obtain ⟨a, cap, rfl, hlc, hcm, hcell⟩ := hr.open
  have HC := hid hcell
  have HOW1 : Hid ((w.alloc (.cells #[] 42)).ownsRow w.heap.size 42 6 (.slice (some ⟨w.heap.size, 0, none⟩) 0 0) 0 []) := World.ownsRow_made w #[] 0 (Nat.le_refl _) (Nat.zero_le _) rfl
  have HB1 := hid (below_al w (.cells #[] 42))
  clear hcell hr ht
  go_enter Tryd.func26, Tryd.ntmps26
  go_wp2_with fail
  generalize w.alloc (.cells #[] 42) = w1 at *
  go_loopw [5, 6] (fun va i wr => ∃ k : Nat, k ≤ l.length ∧ i = .int .i64 k ∧ (∃ ks, Hid (ks = ((l.take k).flatMap Pg.bx).filter (ofK kind)) ∧ Hid (wr.ownsRow w.heap.size 42 6 va ks.length (boxCs ks))) ∧ Hid (Below w.heap.size w wr)) (fun _ i _ => l.length - (intOf i).toNat)
  case atStart => exact ⟨0, Nat.zero_le _, rfl, ⟨[], rfl, HOW1.out⟩, HB1.out⟩
  case round =>
    obtain ⟨k, hk, rfl, ⟨ks, HK, HOW⟩, HB⟩ := hrel
    by_cases hlt : k < l.length
    · obtain ⟨p, b, off, u, hp, rfl, c0, c1, hu⟩ := HC.out k hlt
      obtain ⟨au, cu, rfl, hul, hum, hucell⟩ := hu.open
      have HU := hid hucell
      have hki : (k : Int) < (l.length : Int) := by omega
      have HS : Hid (((l.take (k + 1)).flatMap Pg.bx).filter (ofK kind) = ((l.take k).flatMap Pg.bx).filter (ofK kind) ++ p.bx.filter (ofK kind)) := by
        show _ = _
        rw [List.take_add_one, hp]; simp
      have HL : Hid (∀ j, ((l.take k).flatMap Pg.bx ++ p.bx.take j).length ≤ 1000000) := fun j => by
        have h := HTT.out (k + 1)
        rw [List.take_add_one, hp] at h
        simp only [List.flatMap_append, Option.toList_some, List.flatMap_cons, List.flatMap_nil, List.append_nil, List.length_append] at h
        rw [List.length_append, List.length_take]; omega
      have HC1 := hid c1
      clear hucell hu hp c0 c1
      go_wp2_with fail
      go_loopw [5, 7] (fun va q wi => ∃ j : Nat, j ≤ p.bx.length ∧ q = .int .i64 j ∧ (∃ ks, Hid (ks = ((l.take k).flatMap Pg.bx).filter (ofK kind) ++ (p.bx.take j).filter (ofK kind)) ∧ Hid (wi.ownsRow w.heap.size 42 6 va ks.length (boxCs ks))) ∧ Hid (Below w.heap.size w wi)) (fun _ q _ => p.bx.length - (intOf q).toNat)
      case atStart => exact ⟨0, Nat.zero_le _, rfl, ⟨ks, by rw [List.take_zero, List.filter_nil, List.append_nil]; exact HK.out, HOW.out⟩, HB.out⟩
      case round =>
        obtain ⟨j, hj, rfl, ⟨ks2, HK2, HOW2⟩, HB2⟩ := hrel
        have c1 := Below.keeps HB2.out _ _ HC1.out
        by_cases hjt : j < p.bx.length
        · obtain ⟨x, b2, o2, hx, rfl, d0, d1, d2, d3, d4, d5⟩ := HU.out j hjt
          have hji : (j : Int) < (p.bx.length : Int) := by omega
          have e0 := Below.keeps HB2.out _ _ d0
          have e1 := Below.keeps HB2.out _ _ d1
          have e2 := Below.keeps HB2.out _ _ d2
          have e3 := Below.keeps HB2.out _ _ d3
          have e4 := Below.keeps HB2.out _ _ d4
          have e5 := Below.keeps HB2.out _ _ d5
          have HSX : Hid ((p.bx.take (j + 1)).filter (ofK kind) = (p.bx.take j).filter (ofK kind) ++ [x].filter (ofK kind)) := by
            show _ = _
            rw [List.take_add_one, hx]; simp
          by_cases hkd : x.kind = kind
          · have hq : (x.kind == kind) = true := by simpa using hkd
            have HF : Hid ([x].filter (ofK kind) = [x]) := by show _ = _; simp [ofK, hkd]
            have hkl : ks2.length ≤ 1000000 := by
              have h1 := HL.out j
              have h2 := List.length_filter_le (ofK kind) ((l.take k).flatMap Pg.bx)
              have h3 := List.length_filter_le (ofK kind) (p.bx.take j)
              have h4 := congrArg List.length HK2.out
              rw [List.length_append] at h1 h4; omega
            have HN : Hid (∀ (v' : Value) (w9 : World), w9.ownsRow w.heap.size 42 6 v' (ks2.length + 1) (boxCs ks2 ++ [.int .i64 x.kind, .int .i64 x.x, .int .i64 x.y, .int .i64 x.wd, .int .i64 x.blk, .string x.text]) → ∃ ks, Hid (ks = ((l.take k).flatMap Pg.bx).filter (ofK kind) ++ (p.bx.take (j + 1)).filter (ofK kind)) ∧ Hid (w9.ownsRow w.heap.size 42 6 v' ks.length (boxCs ks))) := fun v' w9 h => by
              refine ⟨ks2 ++ [x], ?_, ?_⟩
              · show _ = _
                rw [HSX.out, HF.out, ← List.append_assoc, ← HK2.out]
              · show World.ownsRow _ _ _ _ _ _ _
                rw [boxCs_snoc, List.length_append]; exact h
            clear d0 d1 d2 d3 d4 d5 hx hkd HK HOW HB HSX HF
            go_wp2_with (at_builtin; refine wpList_ap rfl _ _ 32 rfl w.heap.size 42 Tryd.underlying32 infoBx rfl (by decide) (by decide) _ _ _ rfl HOW2.out [.int .i64 x.kind, .int .i64 x.x, .int .i64 x.y, .int .i64 x.wd, .int .i64 x.blk, .string x.text] rfl (by simp [Value.oneCell']) rfl rfl (by omega) HB2.out.size ?_; intro v' w9 hown2 hb2 hg2)
            go_roundw
            case rel => exact ⟨j + 1, by omega, by go_num, HN.out _ _ hown2, HB2.out.trans hb2⟩
            case measure => simp [intOf]; omega
          · have hq : (x.kind == kind) = false := by simpa using hkd
            have HF : Hid ([x].filter (ofK kind) = []) := by show _ = _; simp [ofK, hkd]
            have HK3 : Hid (ks2 = ((l.take k).flatMap Pg.bx).filter (ofK kind) ++ (p.bx.take (j + 1)).filter (ofK kind)) := by
              show _ = _
              rw [HSX.out, HF.out, List.append_nil]; exact HK2.out
            clear d0 d1 d2 d3 d4 d5 hx hkd HK HOW HB HSX HF
            go_wp2_with fail
            go_roundw
            case rel => exact ⟨j + 1, by omega, by go_num, ⟨ks2, HK3.out, HOW2.out⟩, HB2.out⟩
            case measure => simp [intOf]; omega
        · have hji : ¬ (j : Int) < (p.bx.length : Int) := by omega
          have HK3 : Hid (ks2 = ((l.take (k + 1)).flatMap Pg.bx).filter (ofK kind)) := by
            show _ = _
            have h := HK2.out
            rw [List.take_of_length_le (l := p.bx) (by omega)] at h
            rw [HS.out]; exact h
          clear HK HOW HB
          go_wp2_with fail
          go_roundw
          case rel => exact ⟨k + 1, by omega, by go_num, ⟨ks2, HK3.out, HOW2.out⟩, HB2.out⟩
          case measure => simp [intOf]; omega
    · have hki : ¬ (k : Int) < (l.length : Int) := by omega
      have HR : Hid (RdB wr u5 ((l.flatMap Pg.bx).filter (ofK kind))) := by
        have h := HK.out
        rw [List.take_of_length_le (by omega)] at h
        rw [← h]; exact RdB.of_own HOW.out
      go_wp2_with fail
      go_ret
      exact ⟨_, rfl, HR.out, HB.out⟩
end Go.Proofs.YtkjapeafhcdnkaaDoor
