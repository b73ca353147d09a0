/-
  The law PagedescBoxes: the walk.
-/
import Derived.Test.YtkjapeafhcdnkaaDoorAwk53
import Derived.Test.YtkjapeafhcdnkaaDoorGrt53
import Derived.Test.YtkjapeafhcdnkaaDoorBxs
import Derived.Test.YtkjapeafhcdnkaaDoorCc
import Derived.Test.YtkjapeafhcdnkaaDoorCfB
import Derived.Deep.RegionHeld3
import Derived.Deep.DeepCutAuto
namespace Go.Proofs.YtkjapeafhcdnkaaDoor
open Go.RowKit

theorem sm_flat {l : List Pg} (h : SmPg l) : (l.flatMap Pg.bx).length ≤ 50 := by
  obtain ⟨h1, h2⟩ := h
  have key : ∀ (l : List Pg), (∀ p ∈ l, SmB p.bx) → (l.flatMap Pg.bx).length ≤ l.length * 10 := by
    intro l
    induction l with
    | nil => intro _; simp
    | cons p r ih =>
      intro h
      have h3 := ih (fun q hq => h q (by simp [hq]))
      have h4 := (h p (by simp)).1
      rw [List.flatMap_cons, List.length_append, List.length_cons]; omega
  have := key l h2
  omega
/-- A list of pages that Boxes may be asked of, and what it answers. -/
def BxIn (kind : Int) (W : World) (v : Value) (L : List Bx) : Prop := ∃ l, RdPg W v l ∧ (l.flatMap Pg.bx).length ≤ 1000 ∧ L = (l.flatMap Pg.bx).filter (ofK kind)
theorem BxIn.below {kind : Int} {W W' : World} {v : Value} {L : List Bx} (h : BxIn kind W v L) (hb : Below W.heap.size W W') : BxIn kind W' v L := by
  obtain ⟨l, h1, h2, h3⟩ := h
  exact ⟨l, h1.below hb, h2, h3⟩
theorem bxIn_any (kind : Int) (v : Value) (L : List Bx) (w : World) (h : BxIn kind w v L) : Calls Tryd.prog 25 #[v, .int .i64 kind] w fun e w' => ∃ y, e = .returned y ∧ RdB w' y L ∧ Below w.heap.size w w' := by
  obtain ⟨l, h1, h2, rfl⟩ := h
  exact pboxes_any v l kind w h1 (by omega)
/-- What stays as the calls go on. -/
structure BxS (w : World) (kind : Int) (v1 v2 : Value) (L1 L2 : List Bx) (W : World) : Prop where
  bel : Below w.heap.size w W
  row : Row W w.heap.size #[.int .i64 kind] 3
  in1 : BxIn kind W v1 L1
  in2 : BxIn kind W v2 L2
theorem BxS.below {w : World} {kind : Int} {v1 v2 : Value} {L1 L2 : List Bx} {W W' : World} (h : BxS w kind v1 v2 L1 L2 W) (hb : Below W.heap.size W W') : BxS w kind v1 v2 L1 L2 W' :=
  ⟨below_tr h.bel hb, h.row.below hb, h.in1.below hb, h.in2.below hb⟩
theorem BxS.drew {w : World} {kind : Int} {v1 v2 : Value} {L1 L2 : List Bx} {W : World} (h : BxS w kind v1 v2 L1 L2 W) : BxS w kind v1 v2 L1 L2 W.drew := h.below (below_drewN (Below.refl _ _) 1)

structure BxT (w : World) (kind : Int) (v1 v2 x y : Value) (l m : List Pg) (A1 A2 : List Bx) (W : World) : Prop where
  bel : Below w.heap.size w W
  row : Row W w.heap.size #[.int .i64 kind] 3
  p1 : RdPg W v1 l
  p2 : RdPg W v2 m
  x1 : RdB W x A1
  x2 : RdB W y A2
theorem BxT.below {w : World} {kind : Int} {v1 v2 x y : Value} {l m : List Pg} {A1 A2 : List Bx} {W W' : World} (h : BxT w kind v1 v2 x y l m A1 A2 W) (hb : Below W.heap.size W W') : BxT w kind v1 v2 x y l m A1 A2 W' :=
  ⟨below_tr h.bel hb, h.row.below hb, h.p1.below hb, h.p2.below hb, h.x1.below hb, h.x2.below hb⟩
theorem BxT.drew {w : World} {kind : Int} {v1 v2 x y : Value} {l m : List Pg} {A1 A2 : List Bx} {W : World} (h : BxT w kind v1 v2 x y l m A1 A2 W) : BxT w kind v1 v2 x y l m A1 A2 W.drew := h.below (below_drewN (Below.refl _ _) 1)
theorem BxT.al {w : World} {kind : Int} {v1 v2 x y : Value} {l m : List Pg} {A1 A2 : List Bx} {W : World} (h : BxT w kind v1 v2 x y l m A1 A2 W) (o : Obj) : BxT w kind v1 v2 x y l m A1 A2 (W.alloc o) := h.below (below_al W o)
theorem cell_nwQ (W : World) (cs : Array Value) (t : TypeId) (i : Nat) {n : Nat} {x : Value} (hn : n = W.heap.size) (h : cs[i]? = some x) : (W.alloc (.cells cs t)).cell? ⟨n, i, none⟩ = some x := by subst hn; exact cell_nw W cs t i h
theorem cell_dr {W : World} {p : Addr} {x : Value} (h : W.cell? p = some x) : W.drew.cell? p = some x := h
theorem RdB.dr {W : World} {v : Value} {l : List Bx} (h : RdB W v l) : RdB W.drew v l := h.below (below_drewN (Below.refl _ _) 1)
theorem RdB.al {W : World} {v : Value} {l : List Bx} (h : RdB W v l) (o : Obj) : RdB (W.alloc o) v l := h.below (below_al W o)
theorem RdPg.dr {W : World} {v : Value} {l : List Pg} (h : RdPg W v l) : RdPg W.drew v l := h.below (below_drewN (Below.refl _ _) 1)
theorem RdPg.al {W : World} {v : Value} {l : List Pg} (h : RdPg W v l) (o : Obj) : RdPg (W.alloc o) v l := h.below (below_al W o)
theorem sameB_bel (v u : Value) (l : List Bx) (w : World) (hr : RdB w v l) (hs : RdB w u l) : Calls Tryd.prog 24 #[v, u] w fun e w' => e = .returned (.bool true) ∧ Below w.heap.size w w' :=
  (sameB_any v u l w hr hs).mono (by rintro e w' ⟨rfl, m, rfl⟩; exact ⟨rfl, below_drewN (Below.refl _ _) m⟩)

/-- How many boxes have one of the kinds from 1 to k. -/
def cntK (F : List Bx) (k : Nat) : Nat := (F.filter fun b => decide (1 ≤ b.kind) && decide (b.kind ≤ (k : Int))).length
theorem cntK_zero (F : List Bx) : cntK F 0 = 0 := by
  unfold cntK
  rw [List.length_eq_zero_iff, List.filter_eq_nil_iff]
  intro b _
  simp; omega
theorem cntK_succ (F : List Bx) (k : Nat) : cntK F (k + 1) = cntK F k + (F.filter (ofK ((k : Int) + 1))).length := by
  unfold cntK
  induction F with
  | nil => rfl
  | cons b r ih =>
    simp only [List.filter_cons]
    by_cases h1 : b.kind = (k : Int) + 1
    · have e1 : (decide (1 ≤ b.kind) && decide (b.kind ≤ ((k + 1 : Nat) : Int))) = true := by simp; omega
      have e2 : (decide (1 ≤ b.kind) && decide (b.kind ≤ (k : Int))) = false := by simp; omega
      have e3 : ofK ((k : Int) + 1) b = true := by simp [ofK, h1]
      rw [e1, e2, e3, if_pos rfl, if_neg (by simp), if_pos rfl, List.length_cons, List.length_cons, ih]; omega
    · have e3 : ofK ((k : Int) + 1) b = false := by simp [ofK, h1]
      have e1 : (decide (1 ≤ b.kind) && decide (b.kind ≤ ((k + 1 : Nat) : Int))) = (decide (1 ≤ b.kind) && decide (b.kind ≤ (k : Int))) := by
        congr 1
        exact decide_eq_decide.2 (by omega)
      rw [e1, e3, if_neg (by simp : ¬ false = true)]
      by_cases h2 : (decide (1 ≤ b.kind) && decide (b.kind ≤ (k : Int))) = true
      · rw [if_pos h2, if_pos h2, List.length_cons, List.length_cons, ih]; omega
      · rw [if_neg h2, if_neg h2, ih]
theorem cntK_le (F : List Bx) (k : Nat) : cntK F k ≤ F.length := List.length_filter_le _ _
theorem cntK_six (F : List Bx) : decide (cntK F 6 = F.length) = !(F.any outK) := by
  unfold cntK
  have e : (fun b : Bx => decide (1 ≤ b.kind) && decide (b.kind ≤ ((6 : Nat) : Int))) = fun b => !outK b := by
    funext b
    unfold outK
    rw [Bool.eq_iff_iff]
    simp
  rw [e]
  cases h : F.any outK with
  | false =>
    rw [List.any_eq_false] at h
    have : F.filter (fun b => !outK b) = F := List.filter_eq_self.2 (fun b hb => by have := h b hb; simpa using this)
    rw [this]; simp
  | true =>
    obtain ⟨b, hb, ho⟩ := List.any_eq_true.1 h
    refine decide_eq_false fun e2 => ?_
    have := (List.length_filter_eq_length_iff.1 e2) b hb
    simp [ho] at this
theorem any_flat (l : List Pg) (k : Nat) (p : Pg) (h : l[k]? = some p) : ((l.take (k + 1)).flatMap Pg.bx).any outK = (((l.take k).flatMap Pg.bx).any outK || p.bx.any outK) := by
  rw [List.take_add_one, h]; simp
theorem len_flat (l : List Pg) (k : Nat) (p : Pg) (h : l[k]? = some p) : ((l.take (k + 1)).flatMap Pg.bx).length = ((l.take k).flatMap Pg.bx).length + p.bx.length := by
  rw [List.take_add_one, h]; simp

set_option maxRecDepth 100000 in
set_option maxHeartbeats 4000000 in
theorem pbxs_any (v u : Value) (l m : List Pg) (kind mm : Int) (w : World) (he : Env w) (hm : w.cell? ⟨0, 0, none⟩ = some (.int .i64 mm)) (hr : RdPg w v l) (hs : RdPg w u m) (hz : SzPg l) (hzm : SzPg m) :
    Calls Tryd.prog 8 #[v, u, .int .i64 kind] w fun e w' => e = .returned (.bool true) ∧ Below w.heap.size w w' := by
  have AW := fun w' (h : Below w.heap.size w w') => hid (awake53_any mm w' (he.below h) (Below.keeps h _ _ hm))
  have hb1 := below_al w (.cells #[.int .i64 kind] 3)
  have hro := hid (row_nw w #[.int .i64 kind] 3 rfl)
  have HG1 := hid (great53_any v l _ (hr.below hb1) hz)
  have HG2 := hid (great53_any u m _ (hs.below hb1) hzm)
  have HR := hid hr
  have HS := hid hs
  obtain ⟨a1, k1, rfl, hlc1, hcm1, _⟩ := hr.open
  obtain ⟨a2, k2, rfl, hlc2, hcm2, _⟩ := hs.open
  clear he hm hr hs
  go_enter Tryd.func8, Tryd.ntmps8
  go_wp2_with fail
  generalize w.alloc (.cells #[.int .i64 kind] 3) = w1 at *
  refine HG1.out.mono ?_
  clear HG1
  rintro e w2 ⟨⟨b, rfl, hb⟩, rfl⟩
  cases b with
  | true =>
    go_wp2_with fail
    refine (AW _ hb1).out.mono ?_
    rintro e w3 ⟨rfl, hB3⟩
    go_wp2
    go_ret
    exact ⟨rfl, below_tr hb1 hB3⟩
  | false =>
    have HSM1 := hid (hb rfl)
    clear hb
    go_wp2_with fail
    refine HG2.out.mono ?_
    clear HG2
    rintro e w2 ⟨⟨b, rfl, hb⟩, rfl⟩
    cases b with
    | true =>
      go_wp2_with fail
      refine (AW _ hb1).out.mono ?_
      rintro e w3 ⟨rfl, hB3⟩
      go_wp2
      go_ret
      exact ⟨rfl, below_tr hb1 hB3⟩
    | false =>
      have HSM2 := hid (hb rfl)
      clear hb
      have HL1 := hid (sm_flat HSM1.out)
      have HL2 := hid (sm_flat HSM2.out)
      have ck := hro.out.cell 0 rfl
      have HST : Hid (BxS w kind (.slice a1 l.length k1) (.slice a2 m.length k2) ((l.flatMap Pg.bx).filter (ofK kind)) ((m.flatMap Pg.bx).filter (ofK kind)) w1) :=
        ⟨hb1, hro.out, ⟨l, HR.out.below hb1, by have := HL1.out; omega, rfl⟩, ⟨m, HS.out.below hb1, by have := HL2.out; omega, rfl⟩⟩
      generalize hA1 : (l.flatMap Pg.bx).filter (ofK kind) = A1 at *
      generalize hA2 : (m.flatMap Pg.bx).filter (ofK kind) = A2 at *
      have HA1 := hid hA1
      have HA2 := hid hA2
      have hst := HST.out
      clear hA1 hA2 HST
      go_upto_region 3 with fail
      go_cut [7, 8] from 22 to 27 (fun x y wx => RdB wx x A1 ∧ RdB wx y A2 ∧ BxS w kind (.slice a1 l.length k1) (.slice a2 m.length k2) A1 A2 wx)
      case first =>
        go_region_held3 (fun w' => w'.cell? ⟨w.heap.size, 0, none⟩ = some (.int .i64 kind) ∧ BxS w kind (.slice a1 l.length k1) (.slice a2 m.length k2) A1 A2 w')
          ((refine ⟨?_, ?_⟩ <;> first | assumption | (exact BxS.drew (by assumption)) | go_keep))
          (first
            | (go_at_call 25; go_split_ands; refine (bxIn_any _ _ _ _ (by first | exact BxS.in1 (by assumption) | exact BxS.in2 (by assumption))).mono ?_; rintro e w6 ⟨y1, rfl, hy1, hB6⟩; have z0 := Below.keeps hB6 _ _ (by assumption : World.cell? _ ⟨w.heap.size, 0, none⟩ = some _); have z1 := BxS.below (by assumption) hB6; try (have zz := RdB.below (by assumption) hB6)))
        all_goals go_split_ands
        all_goals (go_wp2_with fail; go_meet; exact ⟨by assumption, by assumption, by assumption⟩)
      case rest =>
        obtain ⟨hx, hy, hS⟩ := hcut
        obtain ⟨ax, cx, rfl, hlx, hmx, _⟩ := hx.open
        obtain ⟨ay, cy, rfl, hly, hmy, _⟩ := hy.open
        have HT : Hid (BxT w kind (.slice a1 l.length k1) (.slice a2 m.length k2) (.slice ax A1.length cx) (.slice ay A2.length cy) l m A1 A2 wc) := ⟨hS.bel, hS.row, HR.out.below hS.bel, HS.out.below hS.bel, hx, hy⟩
        have HOFF : Hid (A1.any (offK kind) = false) := by
          unfold Hid
          rw [← HA1.out, List.any_eq_false]
          intro b hb
          have := (List.mem_filter.1 hb).2
          simp only [ofK, decide_eq_true_eq] at this
          simp [offK, this]
        have HL3 : Hid (∀ p : Prop, (A1.length ≤ 10000 → A2.length ≤ 10000 → ((l ++ m).flatMap Pg.bx).length ≤ 1000 → l.length ≤ 10000 → m.length ≤ 10000 → A1 ++ A2 = ((l ++ m).flatMap Pg.bx).filter (ofK kind) → p) → p) := fun p hp => by
          have h1 := HL1.out
          have h2 := HL2.out
          have h3 := List.length_filter_le (ofK kind) (l.flatMap Pg.bx)
          have h4 := List.length_filter_le (ofK kind) (m.flatMap Pg.bx)
          rw [HA1.out] at h3
          rw [HA2.out] at h4
          refine hp (by omega) (by omega) (by rw [List.flatMap_append, List.length_append]; omega) (by have := HSM1.out.1; omega) (by have := HSM2.out.1; omega) ?_
          rw [List.flatMap_append, List.filter_append, HA1.out, HA2.out]
        have HCP := fun B w' h1 h2 h3 => hid (HL3.out _ (fun _ _ _ k1' k2' _ => concat2P B (.slice a1 l.length k1) (.slice a2 m.length k2) l m w' h1 h2 (BxT.p1 (w := w) (kind := kind) (x := .slice ax A1.length cx) (y := .slice ay A2.length cy) (A1 := A1) (A2 := A2) h3) (BxT.p2 (w := w) (kind := kind) (x := .slice ax A1.length cx) (y := .slice ay A2.length cy) (A1 := A1) (A2 := A2) h3) k1' k2'))
        have HCB := fun B w' h1 h2 h3 => hid (HL3.out _ (fun k1' k2' _ _ _ _ => concat2B B (.slice ax A1.length cx) (.slice ay A2.length cy) A1 A2 w' h1 h2 (BxT.x1 (w := w) (kind := kind) (v1 := .slice a1 l.length k1) (v2 := .slice a2 m.length k2) (l := l) (m := m) h3) (BxT.x2 (w := w) (kind := kind) (v1 := .slice a1 l.length k1) (v2 := .slice a2 m.length k2) (l := l) (m := m) h3) k1' k2'))
        have HBI := fun w' r (h : RdPg w' r (l ++ m)) => hid (HL3.out _ (fun _ _ k3 _ _ e => bxIn_any kind r (A1 ++ A2) w' ⟨l ++ m, h, k3, e⟩))
        have ck := hS.row.cell 0 rfl
        have hT := HT.out
        have HCF := fun w' (h1 : RdB w' (.slice ax A1.length cx) A1) (h2 : w'.cell? ⟨w.heap.size, 0, none⟩ = some (.int .i64 kind)) => hid (HOFF.out ▸ containsOff_any (.slice ax A1.length cx) A1 kind w.heap.size w' h1 h2)
        clear hx hy hS HT HL3 HOFF hst
        go_upto_region 4 with fail
        go_cut [44] from 28 to 44 (fun x wx => x = .bool false ∧ Below w.heap.size w wx)
        case first =>
          go_region_held3 (fun w' => w'.cell? ⟨w.heap.size, 0, none⟩ = some (.int .i64 kind) ∧ BxT w kind (.slice a1 l.length k1) (.slice a2 m.length k2) (.slice ax A1.length cx) (.slice ay A2.length cy) l m A1 A2 w')
            ((refine ⟨?_, ?_⟩; (focus (first | with_reducible assumption | go_keep)); (focus (repeat (first | with_reducible assumption | with_reducible refine BxT.drew ?_ | with_reducible refine BxT.al ?_ _)))))
            (first
              | (go_at_call 27; go_split_ands; refine (HCP _ _ ?_ ?_ (by (repeat (first | with_reducible assumption | with_reducible refine BxT.drew ?_ | with_reducible refine BxT.al ?_ _)))).out.mono ?_; (focus (repeat (first | (with_reducible refine cell_nwQ _ _ _ 0 ?_ rfl; (focus (first | rfl | (simp; done)))) | with_reducible refine cell_dr ?_ | with_reducible refine cell_al ?_ _ | with_reducible refine Below.keeps (by with_reducible assumption) _ _ ?_))); (focus (repeat (first | (with_reducible refine cell_nwQ _ _ _ 1 ?_ rfl; (focus (first | rfl | (simp; done)))) | with_reducible refine cell_dr ?_ | with_reducible refine cell_al ?_ _ | with_reducible refine Below.keeps (by with_reducible assumption) _ _ ?_))); rintro e w6 ⟨rP, rfl, hrP, hB6⟩; have z0 := Below.keeps hB6 _ _ (by with_reducible assumption : World.cell? _ ⟨w.heap.size, 0, none⟩ = some _); have z1 := BxT.below (by (repeat (first | with_reducible assumption | with_reducible refine BxT.drew ?_ | with_reducible refine BxT.al ?_ _))) hB6)
              | (go_at_call 25; go_split_ands; refine (HBI _ _ ?_).out.mono ?_; (focus (repeat (first | with_reducible assumption | with_reducible refine RdPg.dr ?_ | with_reducible refine RdPg.al ?_ _))); rintro e w6 ⟨yB, rfl, hyB, hB6⟩; have z0 := Below.keeps hB6 _ _ (by with_reducible assumption : World.cell? _ ⟨w.heap.size, 0, none⟩ = some _); have z1 := BxT.below (by (repeat (first | with_reducible assumption | with_reducible refine BxT.drew ?_ | with_reducible refine BxT.al ?_ _))) hB6)
              | (go_at_call 34; go_split_ands; refine (HCB _ _ ?_ ?_ (by (repeat (first | with_reducible assumption | with_reducible refine BxT.drew ?_ | with_reducible refine BxT.al ?_ _)))).out.mono ?_; (focus (repeat (first | (with_reducible refine cell_nwQ _ _ _ 0 ?_ rfl; (focus (first | rfl | (simp; done)))) | with_reducible refine cell_dr ?_ | with_reducible refine cell_al ?_ _ | with_reducible refine Below.keeps (by with_reducible assumption) _ _ ?_))); (focus (repeat (first | (with_reducible refine cell_nwQ _ _ _ 1 ?_ rfl; (focus (first | rfl | (simp; done)))) | with_reducible refine cell_dr ?_ | with_reducible refine cell_al ?_ _ | with_reducible refine Below.keeps (by with_reducible assumption) _ _ ?_))); rintro e w6 ⟨rB, rfl, hrB, hB6⟩; have zy : RdB w6 yB (A1 ++ A2) := RdB.below (by repeat (first | with_reducible assumption | with_reducible refine RdB.dr ?_ | with_reducible refine RdB.al ?_ _)) hB6; have z0 := Below.keeps hB6 _ _ (by with_reducible assumption : World.cell? _ ⟨w.heap.size, 0, none⟩ = some _); have z1 := BxT.below (by (repeat (first | with_reducible assumption | with_reducible refine BxT.drew ?_ | with_reducible refine BxT.al ?_ _))) hB6)
              | (go_at_call 24; go_split_ands; refine (sameB_bel _ _ (A1 ++ A2) _ (by repeat (first | with_reducible assumption | with_reducible refine RdB.dr ?_ | with_reducible refine RdB.al ?_ _)) (by repeat (first | with_reducible assumption | with_reducible refine RdB.dr ?_ | with_reducible refine RdB.al ?_ _))).mono ?_; rintro e w6 ⟨rfl, hB6⟩; have z0 := Below.keeps hB6 _ _ (by with_reducible assumption : World.cell? _ ⟨w.heap.size, 0, none⟩ = some _); have z1 := BxT.below (by (repeat (first | with_reducible assumption | with_reducible refine BxT.drew ?_ | with_reducible refine BxT.al ?_ _))) hB6)
              | (go_at_call 35; go_split_ands; refine (HCF _ (BxT.x1 (by (repeat (first | with_reducible assumption | with_reducible refine BxT.drew ?_ | with_reducible refine BxT.al ?_ _)))) (by with_reducible assumption)).out.mono ?_; rintro e w6 ⟨rfl, hB6⟩; have z0 := Below.keeps hB6 _ _ (by with_reducible assumption : World.cell? _ ⟨w.heap.size, 0, none⟩ = some _); have z1 := BxT.below (by (repeat (first | with_reducible assumption | with_reducible refine BxT.drew ?_ | with_reducible refine BxT.al ?_ _))) hB6))
          all_goals go_split_ands
          all_goals (go_wp2_with fail; go_meet; exact ⟨rfl, BxT.bel (by assumption)⟩)
        case rest =>
          obtain ⟨rfl, hbc⟩ := hcut
          have HBC := hid hbc
          have HBXS := fun (k : Nat) w' (h : Below w.heap.size w w') => hid (pboxes_any (.slice a1 l.length k1) l ((k : Int) + 1) w' (HR.out.below h) (by have := HL1.out; omega))
          have HCT := fun k => hid (cntK_succ (l.flatMap Pg.bx) k)
          have HCL : Hid (∀ k, cntK (l.flatMap Pg.bx) k ≤ 50) := fun k => Nat.le_trans (cntK_le _ _) HL1.out
          clear HCP HCB HBI HCF ck hT hbc hlx hmx hly hmy
          go_wp2_with fail
          go_loopw [9, 45] (fun nv i wr => ∃ (k N : Nat), k ≤ 6 ∧ i = .int .i64 k ∧ nv = .int .i64 N ∧ Hid (N = cntK (l.flatMap Pg.bx) k) ∧ Hid (Below w.heap.size w wr)) (fun _ i _ => 6 - (intOf i).toNat)
          case atStart => exact ⟨0, 0, by omega, rfl, rfl, (cntK_zero _).symm, HBC.out⟩
          case round =>
            obtain ⟨k, N, hk, rfl, rfl, HN, HB⟩ := hrel
            have hN50 : N ≤ 50 := by rw [HN.out]; exact HCL.out k
            by_cases hlt : k < 6
            · have hki : (k : Int) < 6 := by omega
              have HBK := HBXS k _ HB.out
              go_wp2_with fail
              refine HBK.out.mono ?_
              rintro e w5 ⟨y5, rfl, hy5, hB5⟩
              obtain ⟨a5, k5, rfl, hl5, hm5, _⟩ := hy5.open
              have HB5 := hid (below_tr HB.out hB5)
              have HN2 : Hid (N + ((l.flatMap Pg.bx).filter (ofK ((k : Int) + 1))).length = cntK (l.flatMap Pg.bx) (k + 1)) := by
                show _ = _
                rw [(HCT k).out, HN.out]
              have hM := HCL.out (k + 1)
              rw [← HN2.out] at hM
              generalize ((l.flatMap Pg.bx).filter (ofK ((k : Int) + 1))).length = M at *
              clear HBK hy5 hB5 HB HN
              go_wp2_with fail
              go_roundw
              case rel => exact ⟨k + 1, N + M, by omega, by go_num, by go_num, HN2.out, HB5.out⟩
              case measure => simp [intOf]; omega
            · have hki : ¬ (k : Int) < 6 := by omega
              obtain rfl : k = 6 := by omega
              obtain ⟨_, _, _, _, _, hcell⟩ := HR.out.open
              have HCC := hid hcell
              clear hcell
              have HE : Hid (l.flatMap Pg.bx = (l.take l.length).flatMap Pg.bx) := by rw [List.take_length]; rfl
              have HEL := HL1.out
              go_wp2_with fail
              obtain ⟨wo, rfl⟩ : ∃ wo : World, wo = wr := ⟨_, rfl⟩
              go_loopw [10, 11, 58] (fun av ov i wi => ∃ (j T : Nat) (O : Bool), j ≤ l.length ∧ i = .int .i64 j ∧ av = .int .i64 T ∧ ov = .bool O ∧ Hid (T = ((l.take j).flatMap Pg.bx).length ∧ T ≤ 50) ∧ Hid (O = ((l.take j).flatMap Pg.bx).any outK) ∧ Hid (Below w.heap.size w wi)) (fun _ _ i _ => l.length - (intOf i).toNat)
              case atStart => exact ⟨0, 0, false, by omega, rfl, rfl, rfl, ⟨rfl, by omega⟩, rfl, HB.out⟩
              case round =>
                obtain ⟨j, T, O, hj, rfl, rfl, rfl, HT, HO, HBi⟩ := hrel
                by_cases hjt : j < l.length
                · obtain ⟨p, b, off, q, hp, rfl, c0', c1', hq⟩ := HCC.out j hjt
                  have hji : (j : Int) < (l.length : Int) := by omega
                  have c0 := Below.keeps HBi.out _ _ c0'
                  have c1 := Below.keeps HBi.out _ _ c1'
                  obtain ⟨aq, kq, rfl, hlq, hmq, _⟩ := hq.open
                  have HBA := hid (below_tr HBi.out (below_al wr (.cells #[.int .i64 p.num, .slice aq p.bx.length kq] 34)))
                  have HRC := hid (row_nw wr #[.int .i64 p.num, .slice aq p.bx.length kq] 34 rfl)
                  have HCO := hid (containsOut_any (.slice aq p.bx.length kq) p.bx _ (hq.below HBA.out))
                  have hT50 := HT.out.2
                  have HT2 : Hid (T + p.bx.length = ((l.take (j + 1)).flatMap Pg.bx).length ∧ T + p.bx.length ≤ 50) := by
                    have h1 := len_flat l j p hp
                    have h2 : ((l.take (j + 1)).flatMap Pg.bx).length ≤ (l.flatMap Pg.bx).length := by
                      have h3 : (l.flatMap Pg.bx).length = ((l.take (j + 1)).flatMap Pg.bx).length + ((l.drop (j + 1)).flatMap Pg.bx).length := by
                        rw [← List.length_append, ← List.flatMap_append, List.take_append_drop]
                      omega
                    have h4 := HT.out.1
                    have h5 := HL1.out
                    exact ⟨by omega, by omega⟩
                  have hT2 := HT2.out.2
                  have HO2 : Hid ((O || p.bx.any outK) = ((l.take (j + 1)).flatMap Pg.bx).any outK) := by
                    show _ = _
                    rw [any_flat l j p hp, HO.out]
                  have pc1 := HRC.out.cell 1 rfl
                  generalize p.bx.any outK = R at *
                  clear hp c0' c1' hq HT HO HBi
                  cases O with
                  | true =>
                    rw [Bool.true_or] at HO2
                    go_wp2_with fail
                    go_roundw
                    case rel => exact ⟨j + 1, T + p.bx.length, true, by omega, by go_num, by go_num, rfl, HT2.out, HO2.out, HBA.out⟩
                    case measure => simp [intOf]; omega
                  | false =>
                    rw [Bool.false_or] at HO2
                    go_wp2_with fail
                    refine HCO.out.mono ?_
                    rintro e w7 ⟨rfl, hB7⟩
                    have HB7 := hid (below_tr HBA.out hB7)
                    clear HCO hB7 HBA
                    go_wp2_with fail
                    go_roundw
                    case rel => exact ⟨j + 1, T + p.bx.length, R, by omega, by go_num, by go_num, rfl, HT2.out, HO2.out, HB7.out⟩
                    case measure => simp [intOf]; omega
                · have hji : ¬ (j : Int) < (l.length : Int) := by omega
                  have HV : Hid (N ≤ T ∧ decide (N = T) = !O) := by
                    have h1 := HT.out.1
                    have h2 := HO.out
                    rw [List.take_of_length_le (by omega)] at h1 h2
                    refine ⟨by rw [HN.out, h1]; exact cntK_le _ _, ?_⟩
                    rw [HN.out, h1, h2]; exact cntK_six _
                  have hle : (N : Int) ≤ (T : Int) := by have := HV.out.1; omega
                  have HA := AW _ HBi.out
                  clear HT HO HN
                  cases O with
                  | true =>
                    have hne : ((N : Int) == (T : Int)) = false := by
                      have := of_decide_eq_false (by have h := HV.out.2; simpa using h : decide (N = T) = false)
                      exact beq_eq_false_iff_ne.2 (by omega)
                    clear HV
                    go_wp2_with fail
                    refine HA.out.mono ?_
                    rintro e w9 ⟨rfl, hB9⟩
                    go_wp2
                    go_ret
                    exact ⟨rfl, below_tr HBi.out hB9⟩
                  | false =>
                    have heq : ((N : Int) == (T : Int)) = true := by
                      have := of_decide_eq_true (by have h := HV.out.2; simpa using h : decide (N = T) = true)
                      exact beq_iff_eq.2 (by omega)
                    clear HV
                    go_wp2_with fail
                    refine HA.out.mono ?_
                    rintro e w9 ⟨rfl, hB9⟩
                    go_wp2
                    go_ret
                    exact ⟨rfl, below_tr HBi.out hB9⟩
end Go.Proofs.YtkjapeafhcdnkaaDoor
