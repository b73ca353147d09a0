/-
  sigla.Keep.
-/
import Derived.Test.YtigaflmhdbgmdaaDoorFormB
namespace Go.Proofs.YtigaflmhdbgmdaaDoor
open Go.RowKit

/-- The places in the list 'old' of what is in mem: the first k. -/
def idxTo (old mem : List Int) (k : Nat) : List Int := ((List.range k).filter fun i => mem.any fun y => decide (old.getD i 0 = y)).map fun (i : Nat) => (i : Int)
theorem idxTo_succ (old mem : List Int) (k : Nat) (n : Int) (h : old[k]? = some n) : idxTo old mem (k + 1) = idxTo old mem k ++ if (mem.any fun y => decide (n = y)) = true then [(k : Int)] else [] := by
  unfold idxTo
  rw [List.range_succ, List.filter_append, List.map_append]
  have e : old.getD k 0 = n := by rw [List.getD_eq_getElem?_getD, h]; rfl
  congr 1
  cases hb : mem.any fun y => decide (n = y) <;> simp only [List.filter_cons, e, hb] <;> rfl
theorem idxTo_len (old mem : List Int) (k : Nat) : (idxTo old mem k).length ≤ k := by
  unfold idxTo
  rw [List.length_map]
  exact Nat.le_trans (List.length_filter_le _ _) (by simp)

def keepE : List Grp → Int
  | [] => 0
  | g :: r => if ckSet 32 none g.mem ≠ 0 then ckSet 32 none g.mem else keepE r
def keepI (gs : List Grp) (old : List Int) : Int := if 16 < gs.length then 4 else if ckSet 32 none old ≠ 0 then ckSet 32 none old else keepE gs
theorem keepE_at (l : List Grp) (k : Nat) (g : Grp) (h : l[k]? = some g) : keepE (l.drop k) = if ckSet 32 none g.mem ≠ 0 then ckSet 32 none g.mem else keepE (l.drop (k + 1)) := by
  obtain ⟨hk, hx⟩ := List.getElem?_eq_some_iff.1 h
  rw [List.drop_eq_getElem_cons hk, hx]; rfl

def keepG (old : List Int) (g : Grp) : List Grp := if idxTo old g.mem old.length = [] then [] else [⟨g.name, idxTo old g.mem old.length⟩]
def keepTo (gs : List Grp) (old : List Int) (k : Nat) : List Grp := (gs.take k).flatMap (keepG old)
def keepL (gs : List Grp) (old : List Int) : List Grp := if keepI gs old = 0 then keepTo gs old gs.length else []
theorem keepTo_succ (gs : List Grp) (old : List Int) (k : Nat) (g : Grp) (h : gs[k]? = some g) : keepTo gs old (k + 1) = keepTo gs old k ++ keepG old g := by
  unfold keepTo
  rw [List.take_add_one, h, List.flatMap_append]; simp

/-- A row of groups that was built: names, and slices of numbers. -/
def flatG (ks : List (Grp × Value)) : List Value := ks.flatMap fun p => [.string p.1.name, p.2]
theorem flatG_len (ks : List (Grp × Value)) : (flatG ks).length = ks.length * 2 := by
  induction ks with
  | nil => rfl
  | cons a l ih => unfold flatG at *; rw [List.flatMap_cons, List.length_append, ih]; simp; omega
theorem flatG_at (ks : List (Grp × Value)) : ∀ (i : Nat) (p : Grp × Value), ks[i]? = some p → (flatG ks)[i * 2]? = some (.string p.1.name) ∧ (flatG ks)[i * 2 + 1]? = some p.2 := by
  induction ks with
  | nil => intro i p h; simp at h
  | cons a l ih =>
    intro i p h
    have e : flatG (a :: l) = .string a.1.name :: a.2 :: flatG l := rfl
    rw [e]
    cases i with
    | zero => cases h; exact ⟨rfl, rfl⟩
    | succ i =>
      obtain ⟨h1, h2⟩ := ih i p (by simpa using h)
      refine ⟨?_, ?_⟩
      · rw [show (i + 1) * 2 = i * 2 + 1 + 1 by omega, List.getElem?_cons_succ, List.getElem?_cons_succ]; exact h1
      · rw [show (i + 1) * 2 + 1 = i * 2 + 1 + 1 + 1 by omega, List.getElem?_cons_succ, List.getElem?_cons_succ]; exact h2

theorem RdG.of_own {W : World} {base : Nat} {e : TypeId} {v : Value} (ks : List (Grp × Value)) (h : W.ownsRow base e 2 v ks.length (flatG ks)) (hk : ∀ p ∈ ks, RdI W p.2 p.1.mem) : RdG W v (ks.map (·.1)) := by
  obtain ⟨_, h2⟩ := h
  rcases h2 with ⟨rfl, hn⟩ | ⟨g, cap, cur, rfl, hb, hh, hc, hm, hs, ht⟩
  · have : ks = [] := List.eq_nil_of_length_eq_zero hn
    subst this
    exact RdG.nil W
  · refine ⟨some ⟨g, 0, none⟩, cap, by rw [List.length_map], by rw [List.length_map]; exact hc, hm, fun i x hx => ?_⟩
    rw [List.getElem?_map, Option.map_eq_some_iff] at hx
    obtain ⟨p, hp, rfl⟩ := hx
    have hi := (List.getElem?_eq_some_iff.1 hp).1
    obtain ⟨f1, f2⟩ := flatG_at ks i p hp
    have hlen := flatG_len ks
    refine ⟨g, 0, p.2, rfl, ?_, ?_, hk p (List.mem_of_getElem? hp)⟩
    · rw [Nat.zero_add, cell_of_row _ g (i * 2) cur e (0, 0) hh]
      rw [← ht, List.getElem?_take, if_pos (by omega)] at f1
      simpa using f1
    · rw [Nat.zero_add, cell_of_row _ g (i * 2 + 1) cur e (0, 0) hh]
      rw [← ht, List.getElem?_take, if_pos (by omega)] at f2
      simpa using f2

theorem infoGrp : (Tryd.prog.info? 45).map (fun i => (i.zero, i.size, i.bytes)) = some (some (.agg #[.string ⟨#[]⟩, .slice none 0 0]), 2, 40) := by kernel_rfl

theorem apart_new {ys : List Int} {l o : Value} {n m n0 m0 : Nat} (hl : ∀ k, l.ownBlock = some k → n ≤ k ∧ k < m) (ho : ∀ k, o.ownBlock = some k → n0 ≤ k ∧ k < m0) (h : m0 ≤ n) : Apart ys l o := by
  intro _ b hb e
  have h1 := (hl b hb).1
  have h2 := (ho b e).2
  omega

set_option maxHeartbeats 4000000 in
set_option maxRecDepth 100000 in
theorem keep_any (u s : Value) (gs : List Grp) (old : List Int) (w : World) (hg : RdG w u gs) (hs : RdI w s old) (hol : old.length ≤ 1000) :
    Calls Tryd.prog 17 #[u, s] w fun e w' => ∃ r, e = .returned (.tuple #[r, .int .i64 (keepI gs old)]) ∧ RdG w' r (keepL gs old) ∧ Below w.heap.size w w' := by
  obtain ⟨ag, capg, rfl, hlcg, hcmg, hcellg⟩ := hg.open
  have HCellg := hid hcellg; clear hcellg
  obtain ⟨ao, capo, rfl, hlco, hcmo, hcello⟩ := hs.open
  have HCello := hid hcello; clear hcello
  by_cases h16 : 16 < gs.length
  · have hI : keepI gs old = 4 := by unfold keepI; rw [if_pos h16]
    have hL : Hid (keepL gs old = []) := by unfold keepL; rw [if_neg (by omega)]; rfl
    have HI := hid hI
    clear hI
    go_enter Tryd.func17, Tryd.ntmps17
    go_wp2
    go_ret2
    exact ⟨_, by rw [HI.out]; rfl, by rw [hL.out]; exact RdG.nil _, Below.refl _ _⟩
  have hCO := hid (fun w' h => checkSet_any (.slice ao old.length capo) old 32 w' h)
  by_cases h0 : ckSet 32 none old = 0
  · have HI : Hid (keepI gs old = keepE gs) := by unfold keepI; rw [if_neg h16, if_neg (by omega)]; rfl
    rw [h0] at hCO
    clear h0
    go_enter Tryd.func17, Tryd.ntmps17
    go_wp2_with fail
    refine (hCO.out _ hs).mono ?_
    rintro e w1 ⟨rfl, rfl⟩
    clear hCO
    go_wp2_with fail
    go_loopw [26] (fun i wr => ∃ j : Nat, j ≤ gs.length ∧ i = .int .i64 j ∧ Hid (keepE gs = keepE (gs.drop j)) ∧ Below w.heap.size w wr) (fun i _ => gs.length - (intOf i).toNat)
    case atStart => exact ⟨0, by omega, rfl, by simp [Hid], Below.refl _ _⟩
    case round =>
      obtain ⟨j, hj, rfl, HE, hB⟩ := hrel
      by_cases hlt : j < gs.length
      · obtain ⟨x, b2, off2, m, hx, rfl, hca0, hcb0, hxm0⟩ := HCellg.out j hlt
        obtain ⟨am, capm, rfl, hlm, hcmm, _⟩ := hxm0.open
        have hca := Below.keeps hB _ _ hca0
        have hcb := Below.keeps hB _ _ hcb0
        have hba := below_al wr (.cells #[.string x.name, .slice am x.mem.length capm] 45)
        have hB2 := below_tr hB hba
        have hxm := hxm0.below hB2
        have HKE := hid (keepE_at gs j x hx)
        have hCM := hid (checkSet_any (.slice am x.mem.length capm) x.mem 32 _ hxm)
        clear hx hca0 hcb0 hxm0 hxm hba
        have hccase : ((ckSet 32 none x.mem != 0) = true ∧ Hid (ckSet 32 none x.mem ≠ 0)) ∨ ((ckSet 32 none x.mem != 0) = false ∧ Hid (ckSet 32 none x.mem = 0)) := by
          by_cases hc0 : ckSet 32 none x.mem = 0
          · right; exact ⟨by simp [hc0], hc0⟩
          · left; exact ⟨by simpa using hc0, hc0⟩
        generalize ckSet 32 none x.mem = c at *
        rcases hccase with ⟨hb, H0⟩ | ⟨hb, H0⟩
        · have HI2 : Hid (keepI gs old = c) := by rw [HI.out, HE.out, HKE.out, if_pos H0.out]; rfl
          have hL : Hid (keepL gs old = []) := by unfold keepL; rw [if_neg (by rw [HI2.out]; exact H0.out)]; rfl
          go_wp2_with fail
          refine hCM.out.mono ?_
          rintro e w2 ⟨rfl, rfl⟩
          go_wp2
          go_ret2
          exact ⟨_, by rw [HI2.out]; rfl, by rw [hL.out]; exact RdG.nil _, hB2⟩
        · go_wp2_with fail
          refine hCM.out.mono ?_
          rintro e w2 ⟨rfl, rfl⟩
          go_wp2
          go_roundw
          case rel => exact ⟨j + 1, by omega, by go_num, by rw [HE.out, HKE.out, H0.out]; simp [Hid], hB2⟩
          case measure => simp [intOf]; omega
      · have HI2 : Hid (keepI gs old = 0) := by rw [HI.out, HE.out, List.drop_of_length_le (by omega)]; rfl
        have hL : Hid (keepL gs old = keepTo gs old gs.length) := by unfold keepL; rw [if_pos HI2.out]; rfl
        clear HE HI
        go_wp2_with fail
        clear hlt hj
        obtain ⟨wo, rfl⟩ : ∃ wo : World, wo = wr := ⟨_, rfl⟩
        go_loopw [10, 39] (fun o i wr => ∃ (k : Nat) (ks : List (Grp × Value)), k ≤ gs.length ∧ i = .int .i64 k ∧ Hid (ks.map (·.1) = keepTo gs old k) ∧ ks.length ≤ k ∧ wr.ownsRow wo.heap.size 45 2 o ks.length (flatG ks) ∧
            Hid (∀ p ∈ ks, RdI wr p.2 p.1.mem ∧ Apart p.1.mem p.2 o) ∧ Below wo.heap.size wo wr) (fun _ i _ => gs.length - (intOf i).toNat)
        case atStart => exact ⟨0, [], by omega, rfl, rfl, by simp, World.ownsRow_nil _ _ _ _, (by unfold Hid; intro p hp; cases hp), Below.refl _ _⟩
        case round =>
          have HBo := hid hB
          clear hB
          obtain ⟨k, ks, hk, rfl, HK, hkl, hown, HR, hB⟩ := hrel
          by_cases hltk : k < gs.length
          · obtain ⟨x, b2, off2, m, hx, rfl, hca0, hcb0, hxm0⟩ := HCellg.out k hltk
            obtain ⟨am, capm, rfl, hlm, hcmm, _⟩ := hxm0.open
            have hBw := below_tr HBo.out hB
            have hca := Below.keeps hBw _ _ hca0
            have hcb := Below.keeps hBw _ _ hcb0
            have hba := below_al wr (.cells #[.string x.name, .slice am x.mem.length capm] 45)
            have hxa := (hxm0.below hBw).below hba
            have hoa := hs.below (below_tr hBw hba)
            have hbx0 := cell_nw wr #[.string x.name, .slice am x.mem.length capm] 45 0 (x := .string x.name) rfl
            have hbx1 := cell_nw wr #[.string x.name, .slice am x.mem.length capm] 45 1 (x := .slice am x.mem.length capm) rfl
            have HKS := hid (keepTo_succ gs old k x hx)
            clear hx hca0 hcb0 hxm0 hBw
            go_wp2_with fail
            clear hca hcb
            obtain ⟨wa, hwa⟩ : ∃ wa, wa = wr.alloc (.cells #[.string x.name, .slice am x.mem.length capm] 45) := ⟨_, rfl⟩
            rw [← hwa] at hba hxa hoa hbx0 hbx1 ⊢
            clear hwa
            go_loopw [13, 45] (fun l i wi => ∃ (q : Nat) (ys : List Int), q ≤ old.length ∧ i = .int .i64 q ∧ Hid (ys = idxTo old x.mem q) ∧ ys.length ≤ q ∧ wi.ownsRow wa.heap.size 3 1 l ys.length (ys.map (Value.int .i64)) ∧ Below wa.heap.size wa wi) (fun _ i _ => old.length - (intOf i).toNat)
            case atStart => exact ⟨0, [], by omega, rfl, rfl, by simp, World.ownsRow_nil _ _ _ _, Below.refl _ _⟩
            case round =>
              have HBr := hid hB
              clear hB
              obtain ⟨q, ys, hq, rfl, HY, hyl, hownl, hB⟩ := hrel
              by_cases hltq : q < old.length
              · obtain ⟨n, bo, oo, hn, rfl, hcn0⟩ := HCello.out q hltq
                have hcn := Below.keeps (below_tr (below_tr (below_tr HBo.out HBr.out) hba) hB) _ _ hcn0
                have hb1 := Below.keeps hB _ _ hbx1
                have HIS := hid (idxTo_succ old x.mem q n hn)
                have HCo := hid (containsI_any _ x.mem n _ (hxa.below hB))
                clear hn hcn0
                generalize (x.mem.any fun y => decide (n = y)) = cb at *
                cases cb with
                | true =>
                  go_wp2_with fail
                  refine HCo.out.mono ?_
                  rintro e w3 ⟨rfl, rfl⟩
                  go_wp2_with (at_builtin; refine wpList_ap rfl _ _ 33 rfl wa.heap.size 3 Tryd.underlying33 infoInt rfl (by decide) (by decide) _ _ _ rfl hownl [.int .i64 q] rfl (by simp [Value.oneCell']) rfl (by simp) (by omega) hB.size ?_; intro v' w4 hown' hb1 _)
                  go_roundw
                  case rel => exact ⟨q + 1, ys ++ [(q : Int)], by omega, by go_num, by rw [HIS.out, ← HY.out]; rfl, by rw [List.length_append, List.length_singleton]; omega, by simpa using hown', hB.trans hb1⟩
                  case measure => simp [intOf]; omega
                | false =>
                  go_wp2_with fail
                  refine HCo.out.mono ?_
                  rintro e w3 ⟨rfl, rfl⟩
                  go_wp2
                  go_roundw
                  case rel => exact ⟨q + 1, ys, by omega, by go_num, by rw [HIS.out, ← HY.out, if_neg (by simp), List.append_nil]; rfl, by omega, hownl, hB⟩
                  case measure => simp [intOf]; omega
              · obtain rfl : q = old.length := by omega
                have hBi := below_tr hba hB
                have hlto := hown.lt
                have hltl := hownl.lt
                have hrn := Rd.of_own (enc := Value.int .i64) hownl
                have hb0 := Below.keeps hB _ _ hbx0
                have hownI := own_below hown hBi
                have hBz := HBr.out.trans (hBi.mono HBr.out.size)
                have HRI : Hid (∀ p ∈ ks, RdI _ p.2 p.1.mem ∧ Apart p.1.mem p.2 _) := fun p hp => ⟨(HR.out p hp).1.below hBi, (HR.out p hp).2⟩
                have hyne : (ys.length = 0 ∧ Hid (keepG old x = [])) ∨ (0 < ys.length ∧ Hid (keepG old x = [⟨x.name, ys⟩])) := by
                  unfold keepG
                  rw [← HY.out]
                  cases ys with
                  | nil => left; exact ⟨rfl, rfl⟩
                  | cons a l => right; exact ⟨by simp, rfl⟩
                have hapn := apart_new (ys := ys) hltl hlto hba.size
                clear hbx0 hbx1 hoa hxa hba hown hownl HR hltq
                obtain ⟨al, capl, rfl, hlcl, hcml, _⟩ := hrn.open
                rcases hyne with ⟨hy0, HKG⟩ | ⟨hy0, HKG⟩
                · go_wp2
                  go_roundw
                  case rel => exact ⟨k + 1, ks, by omega, by go_num, by rw [HKS.out, HKG.out, List.append_nil]; exact HK.out, by omega, hownI, HRI, hBz⟩
                  case measure => simp [intOf]; omega
                · go_wp2_with (at_builtin; refine wpList_ap2 rfl _ _ 32 rfl wo.heap.size 45 Tryd.underlying32 infoGrp rfl (by decide) (by decide) _ _ _ rfl hownI [.string x.name, .slice al ys.length capl] rfl (by simp [Value.oneCell']) rfl (by simp) (by omega) hBz.size ?_; intro gB capB w4 hown4 hb1 hgr hat hg4)
                  go_roundw
                  case rel =>
                    have e : flatG (ks ++ [((⟨x.name, ys⟩ : Grp), Value.slice al ys.length capl)]) = flatG ks ++ [.string x.name, .slice al ys.length capl] := by simp [flatG]
                    refine ⟨k + 1, ks ++ [(⟨x.name, ys⟩, .slice al ys.length capl)], by omega, by go_num, ?_, by rw [List.length_append, List.length_singleton]; omega, ?_, ?_, hBz.trans hb1⟩
                    · rw [List.map_append, HK.out, HKS.out, HKG.out]; rfl
                    · rw [e, List.length_append, List.length_singleton]; exact hown4
                    · unfold Hid
                      intro p hp
                      rcases List.mem_append.1 hp with h | h
                      · exact ⟨(HRI.out p h).1.grown2 hgr (fun hne b hb => (HRI.out p h).2 hne b hb), (HRI.out p h).2.app (HRI.out p h).1 hat⟩
                      · obtain rfl := List.mem_singleton.1 h
                        exact ⟨hrn.grown2 hgr (fun hne b hb => hapn hne b hb), hapn.app hrn hat⟩
                  case measure => simp [intOf]; omega
          · obtain rfl : k = gs.length := by omega
            have hBz := below_tr HBo.out hB
            have hrz := RdG.of_own ks hown (fun p hp => (HR.out p hp).1)
            have HZ : Hid (keepL gs old = ks.map (·.1)) := by rw [hL.out, ← HK.out]; rfl
            go_wp2
            go_ret2
            exact ⟨_, by rw [HI2.out]; rfl, by rw [HZ.out]; exact hrz, hBz⟩
  · have hb : (ckSet 32 none old != 0) = true := by simpa using h0
    have HI : Hid (keepI gs old = ckSet 32 none old) := by unfold keepI; rw [if_neg h16, if_pos h0]; rfl
    have hL : Hid (keepL gs old = []) := by unfold keepL; rw [if_neg (by rw [HI.out]; exact h0)]; rfl
    clear h0
    generalize ckSet 32 none old = c at *
    go_enter Tryd.func17, Tryd.ntmps17
    go_wp2_with fail
    refine (hCO.out _ hs).mono ?_
    rintro e w1 ⟨rfl, rfl⟩
    go_wp2
    go_ret2
    exact ⟨_, by rw [HI.out]; rfl, by rw [hL.out]; exact RdG.nil _, Below.refl _ _⟩
end Go.Proofs.YtigaflmhdbgmdaaDoor
