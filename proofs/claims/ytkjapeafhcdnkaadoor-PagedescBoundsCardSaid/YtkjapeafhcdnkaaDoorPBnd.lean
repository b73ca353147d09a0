/-
  The law PagedescBounds: the walk.
-/
import Derived.Test.YtkjapeafhcdnkaaDoorAwk53
import Derived.Test.YtkjapeafhcdnkaaDoorGrt53
import Derived.Test.YtkjapeafhcdnkaaDoorRck53
import Derived.Test.YtkjapeafhcdnkaaDoorBnd53
namespace Go.Proofs.YtkjapeafhcdnkaaDoor
open Go.RowKit

theorem fX_le : ∀ (l : List Bx) (a : Int), fX a l ≤ a ∧ (∀ b ∈ l, fX a l ≤ b.x) ∧ (fX a l = a ∨ ∃ b ∈ l, b.x = fX a l)
  | [], a => ⟨Int.le_refl _, (fun b h => by cases h), .inl rfl⟩
  | c :: r, a => by
    have h := fX_le r (min a c.x)
    have e : fX a (c :: r) = fX (min a c.x) r := rfl
    rw [e]
    refine ⟨by omega, fun b hb => ?_, ?_⟩
    · rcases List.mem_cons.1 hb with rfl | hb
      · omega
      · exact h.2.1 b hb
    · rcases h.2.2 with h2 | ⟨b, hb, h2⟩
      · rw [h2]
        rcases Int.le_total a c.x with h3 | h3
        · exact .inl (by omega)
        · exact .inr ⟨c, by simp, by omega⟩
      · exact .inr ⟨b, by simp [hb], h2⟩
theorem fY_le : ∀ (l : List Bx) (a : Int), fY a l ≤ a ∧ (∀ b ∈ l, fY a l ≤ b.y) ∧ (fY a l = a ∨ ∃ b ∈ l, b.y = fY a l)
  | [], a => ⟨Int.le_refl _, (fun b h => by cases h), .inl rfl⟩
  | c :: r, a => by
    have h := fY_le r (min a c.y)
    have e : fY a (c :: r) = fY (min a c.y) r := rfl
    rw [e]
    refine ⟨by omega, fun b hb => ?_, ?_⟩
    · rcases List.mem_cons.1 hb with rfl | hb
      · omega
      · exact h.2.1 b hb
    · rcases h.2.2 with h2 | ⟨b, hb, h2⟩
      · rw [h2]
        rcases Int.le_total a c.y with h3 | h3
        · exact .inl (by omega)
        · exact .inr ⟨c, by simp, by omega⟩
      · exact .inr ⟨b, by simp [hb], h2⟩
theorem fR_le : ∀ (l : List Bx) (a : Int), a ≤ fR a l ∧ (∀ b ∈ l, b.x + b.wd ≤ fR a l) ∧ (fR a l = a ∨ ∃ b ∈ l, b.x + b.wd = fR a l)
  | [], a => ⟨Int.le_refl _, (fun b h => by cases h), .inl rfl⟩
  | c :: r, a => by
    have h := fR_le r (max a (c.x + c.wd))
    have e : fR a (c :: r) = fR (max a (c.x + c.wd)) r := rfl
    rw [e]
    refine ⟨by omega, fun b hb => ?_, ?_⟩
    · rcases List.mem_cons.1 hb with rfl | hb
      · omega
      · exact h.2.1 b hb
    · rcases h.2.2 with h2 | ⟨b, hb, h2⟩
      · rw [h2]
        rcases Int.le_total a (c.x + c.wd) with h3 | h3
        · exact .inr ⟨c, by simp, by omega⟩
        · exact .inl (by omega)
      · exact .inr ⟨b, by simp [hb], h2⟩
theorem fD_le : ∀ (l : List Bx) (a : Int), a ≤ fD a l ∧ (∀ b ∈ l, b.y ≤ fD a l) ∧ (fD a l = a ∨ ∃ b ∈ l, b.y = fD a l)
  | [], a => ⟨Int.le_refl _, (fun b h => by cases h), .inl rfl⟩
  | c :: r, a => by
    have h := fD_le r (max a c.y)
    have e : fD a (c :: r) = fD (max a c.y) r := rfl
    rw [e]
    refine ⟨by omega, fun b hb => ?_, ?_⟩
    · rcases List.mem_cons.1 hb with rfl | hb
      · omega
      · exact h.2.1 b hb
    · rcases h.2.2 with h2 | ⟨b, hb, h2⟩
      · rw [h2]
        rcases Int.le_total a c.y with h3 | h3
        · exact .inr ⟨c, by simp, by omega⟩
        · exact .inl (by omega)
      · exact .inr ⟨b, by simp [hb], h2⟩
/-- What the boxes so far touch. -/
def tch (f : Bx → Int) (v : Int) (l : List Bx) : Bool := l.any fun b => f b == v
theorem tch_step {f : Bx → Int} {v : Int} {l : List Bx} {k : Nat} {x : Bx} (h : l[k]? = some x) : tch f v (l.take (k + 1)) = (tch f v (l.take k) || (f x == v)) := by
  unfold tch
  rw [List.take_add_one, h, List.any_append]; simp
theorem tch_yes {f : Bx → Int} {v : Int} {l : List Bx} (h : ∃ b ∈ l, f b = v) : tch f v l = true := by
  obtain ⟨b, hb, e⟩ := h
  exact List.any_eq_true.2 ⟨b, hb, by simp [e]⟩

theorem mix_keep {a i b : Bool} {t n : Nat} (h : b = (a || (decide (t < n) && i))) (hn : t ≠ n) : b = (a || (decide (t < n + 1) && i)) := by
  rw [h, show decide (t < n + 1) = decide (t < n) from decide_eq_decide.2 (by omega)]
theorem mix_f {a i : Bool} {n : Nat} (h : false = (a || (decide (n < n) && i))) : i = (a || (decide (n < n + 1) && i)) := by
  cases a
  · simp
  · simp at h
theorem mix_t {a i : Bool} {n : Nat} (h : true = (a || (decide (n < n) && i))) : true = (a || (decide (n < n + 1) && i)) := by
  cases a
  · simp at h
  · simp
theorem mix_end {a i b : Bool} {t n : Nat} (h : b = (a || (decide (t < n) && i))) (hn : t < n) : b = (a || i) := by
  rw [h, decide_eq_true hn, Bool.true_and]
theorem eqArr_true : ∀ w : World, (Op.equalIn 10000 40 (.agg #[.bool true, .bool true, .bool true, .bool true]) (.agg #[.bool true, .bool true, .bool true, .bool true])).run Tryd.prog w = .ok true w := fun _ => by kernel_rfl

set_option maxRecDepth 100000 in
set_option maxHeartbeats 4000000 in
theorem pbounds_any (p : Pg) (v : Value) (m : Int) (w : World) (he : Env w) (hm : w.cell? ⟨0, 0, none⟩ = some (.int .i64 m)) (hr : RdB w v p.bx) (hz : SzB p.bx) :
    Calls Tryd.prog 4 #[.agg #[.int .i64 p.num, v]] w fun e w' => e = .returned (.bool true) ∧ Below w.heap.size w w' := by
  have AW := fun w' (h : Below w.heap.size w w') => hid (awake53_any m w' (he.below h) (Below.keeps h _ _ hm))
  have hb1 := below_al w (.cells #[.int .i64 p.num, v] 34)
  have hro := hid (row_nw w #[.int .i64 p.num, v] 34 rfl)
  obtain ⟨ad, cap, rfl, hlc, hcm, hcell⟩ := hr.open
  have hb2 := below_tr hb1 (below_al (w.alloc (.cells #[.int .i64 p.num, .slice ad p.bx.length cap] 34)) (.cells #[.int .i64 p.num, .slice ad p.bx.length cap] 34))
  have hrg : Row _ (w.heap.size + 1) #[.int .i64 p.num, .slice ad p.bx.length cap] 34 := row_nw (w.alloc (.cells #[.int .i64 p.num, .slice ad p.bx.length cap] 34)) #[.int .i64 p.num, .slice ad p.bx.length cap] 34 (by simp)
  have HRG := hid hrg
  have HCK := fun w' (h : Below w.heap.size w w') => hid (rpcheck_any p _ w' (hr.below h) hz)
  have hro2 := hid (hro.out.al (.cells #[.int .i64 p.num, .slice ad p.bx.length cap] 34))
  have HR := hid hr
  clear hrg he hm hcell hro hr
  go_enter Tryd.func4, Tryd.ntmps4
  go_wp2_with fail
  generalize (w.alloc (.cells #[.int .i64 p.num, .slice ad p.bx.length cap] 34)).alloc (.cells #[.int .i64 p.num, .slice ad p.bx.length cap] 34) = w1 at *
  have hpg : RdPg w1 (.slice (some ⟨w.heap.size + 1, 0, none⟩) 1 1) [p] := rdPg_one (HRG.out.cell 0 rfl) (HRG.out.cell 1 rfl) (HR.out.below hb2)
  have HGR := great53_any _ [p] w1 hpg (fun q hq => by
    have : q = p := by simpa using hq
    rw [this]; exact hz)
  refine HGR.mono ?_
  clear HGR
  rintro e w2 ⟨⟨b, rfl, _⟩, rfl⟩
  have p0 := hro2.out.cell 0 rfl
  have p1 := hro2.out.cell 1 rfl
  cases b with
  | true =>
    go_wp2_with fail
    refine (AW _ hb2).out.mono ?_
    rintro e w3 ⟨rfl, hB3⟩
    go_wp2
    go_ret
    exact ⟨rfl, below_tr hb2 hB3⟩
  | false =>
    have HC := HCK _ hb2
    go_wp2_with fail
    refine HC.out.mono ?_
    rintro e w3 ⟨rfl, hB3⟩
    have hb3 := below_tr hb2 hB3
    have hro3 := hid (hro2.out.below hB3)
    clear HC HCK p0 p1 hro2 hb1 hb2 hB3 HRG hpg
    have p0 := hro3.out.cell 0 rfl
    have p1 := hro3.out.cell 1 rfl
    by_cases hg : pgI p = 0
    · have hq : (pgI p != 0) = false := by rw [hg]; rfl
      by_cases hl0 : p.bx.length = 0
      · have hlz : ((p.bx.length : Int) == 0) = true := by rw [hl0]; rfl
        go_wp2_with fail
        refine (AW _ hb3).out.mono ?_
        rintro e w4 ⟨rfl, hB4⟩
        go_wp2
        go_ret
        exact ⟨rfl, below_tr hb3 hB4⟩
      · have hlz : ((p.bx.length : Int) == 0) = false := beq_eq_false_iff_ne.2 (by omega)
        obtain ⟨b0, h0⟩ : ∃ b0, p.bx[0]? = some b0 := ⟨p.bx[0], by simp⟩
        have HBD := hid (bounds_yes p b0 _ w3 (HR.out.below hb3) hz hg h0)
        have HG := hid (pg_good hg).2.2.2
        have hm0 := List.mem_of_getElem? h0
        have g1 := fX_le p.bx b0.x
        have g2 := fY_le p.bx b0.y
        have g3 := fR_le p.bx (b0.x + b0.wd)
        have g4 := fD_le p.bx b0.y
        have HT : Hid (tch Bx.x (fX b0.x p.bx) p.bx = true ∧ tch Bx.y (fY b0.y p.bx) p.bx = true ∧ tch (fun b => b.x + b.wd) (fR (b0.x + b0.wd) p.bx) p.bx = true ∧ tch Bx.y (fD b0.y p.bx) p.bx = true) :=
          ⟨tch_yes (g1.2.2.elim (fun h => ⟨b0, hm0, h.symm⟩) id), tch_yes (g2.2.2.elim (fun h => ⟨b0, hm0, h.symm⟩) id), tch_yes (g3.2.2.elim (fun h => ⟨b0, hm0, h.symm⟩) id), tch_yes (g4.2.2.elim (fun h => ⟨b0, hm0, h.symm⟩) id)⟩
        have HIN : Hid (∀ b ∈ p.bx, fX b0.x p.bx ≤ b.x ∧ fY b0.y p.bx ≤ b.y ∧ b.x + b.wd ≤ fR (b0.x + b0.wd) p.bx ∧ b.y ≤ fD b0.y p.bx) := fun b hb => ⟨g1.2.1 b hb, g2.2.1 b hb, g3.2.1 b hb, g4.2.1 b hb⟩
        clear g1 g2 g3 g4 hg h0 hm0
        generalize fX b0.x p.bx = L at *
        generalize fY b0.y p.bx = T at *
        generalize fR (b0.x + b0.wd) p.bx = R at *
        generalize fD b0.y p.bx = D at *
        go_wp2_with fail
        refine HBD.out.mono ?_
        rintro e w4 ⟨rfl, hB4⟩
        have HB4 := hid (below_tr hb3 hB4)
        have hro4 := hid (hro3.out.below hB4)
        clear p0 p1 hro3 hB4 HBD hb3
        have p0 := hro4.out.cell 0 rfl
        have p1 := hro4.out.cell 1 rfl
        have q1 := (hro4.out.al (.cells #[.bool false, .bool false, .bool false, .bool false] 40)).cell 1 rfl
        have hQ0 := hid (row_nw w4 #[.bool false, .bool false, .bool false, .bool false] 40 rfl)
        have HB5 := hid (below_tr HB4.out (below_al w4 (.cells #[.bool false, .bool false, .bool false, .bool false] 40)))
        have hQs := HB4.out.size
        go_wp2_with fail
        generalize w4.alloc (.cells #[.bool false, .bool false, .bool false, .bool false] 40) = w5 at *
        clear p0 p1 q1 hro4 HB4
        generalize w4.heap.size = Q at *
        obtain ⟨ad2, cap2, hsl, _, _, hcell⟩ := HR.out.open
        cases hsl
        have HC := hid hcell
        clear hcell
        go_loopw [40] (fun i wr => ∃ (k : Nat) (a0 a1 a2 a3 : Bool), k ≤ p.bx.length ∧ i = .int .i64 k ∧ Hid (Row wr Q #[.bool a0, .bool a1, .bool a2, .bool a3] 40) ∧ Hid (a0 = tch Bx.x L (p.bx.take k) ∧ a1 = tch Bx.y T (p.bx.take k) ∧ a2 = tch (fun b => b.x + b.wd) R (p.bx.take k) ∧ a3 = tch Bx.y D (p.bx.take k)) ∧ Hid (Below w.heap.size w wr)) (fun i _ => p.bx.length - (intOf i).toNat)
        case atStart => exact ⟨0, _, _, _, _, Nat.zero_le _, rfl, hQ0.out, ⟨rfl, rfl, rfl, rfl⟩, HB5.out⟩
        case round =>
          obtain ⟨k, a0, a1, a2, a3, hk, rfl, HQ, HA, HB⟩ := hrel
          by_cases hlt : k < p.bx.length
          · obtain ⟨x, b, o, hx, rfl, d0, d1, d2, d3, d4, d5⟩ := HC.out k hlt
            have hki : (k : Int) < (p.bx.length : Int) := by omega
            have e0 := Below.keeps HB.out _ _ d0
            have e1 := Below.keeps HB.out _ _ d1
            have e2 := Below.keeps HB.out _ _ d2
            have e3 := Below.keeps HB.out _ _ d3
            have e4 := Below.keeps HB.out _ _ d4
            have e5 := Below.keeps HB.out _ _ d5
            have hmem := List.mem_of_getElem? hx
            obtain ⟨_, _, i1, i2, _, _, i3, i4, _⟩ := bx_good (HG.out x hmem)
            have hwx : IntKind.i64.wrap (x.x + x.wd) = x.x + x.wd := IntWalk.i64_in _ (by omega)
            obtain ⟨t1, t2, t3, t4⟩ := HIN.out x hmem
            have u1 : decide (x.x < L) = false := decide_eq_false (by omega)
            have u2 : decide (x.y < T) = false := decide_eq_false (by omega)
            have u3 : decide (R < x.x + x.wd) = false := decide_eq_false (by omega)
            have u4 : decide (D < x.y) = false := decide_eq_false (by omega)
            have v1 : ¬ x.x < L := by omega
            have v2 : ¬ x.y < T := by omega
            have v3 : ¬ R < x.x + x.wd := by omega
            have v4 : ¬ D < x.y := by omega
            have HST : Hid (tch Bx.x L (p.bx.take (k + 1)) = (tch Bx.x L (p.bx.take k) || (x.x == L)) ∧ tch Bx.y T (p.bx.take (k + 1)) = (tch Bx.y T (p.bx.take k) || (x.y == T)) ∧ tch (fun b => b.x + b.wd) R (p.bx.take (k + 1)) = (tch (fun b => b.x + b.wd) R (p.bx.take k) || (x.x + x.wd == R)) ∧ tch Bx.y D (p.bx.take (k + 1)) = (tch Bx.y D (p.bx.take k) || (x.y == D))) :=
              ⟨tch_step hx, tch_step hx, tch_step hx, tch_step hx⟩
            have q0 := hid (row_nw wr x.cells 42 rfl)
            have HQ2 := hid (HQ.out.al (.cells x.cells 42))
            have hb2 := hid (below_tr HB.out (below_al wr (.cells x.cells 42)))
            have hsz6 : Hid ((wr.alloc (.cells x.cells 42)).heap.size = wr.heap.size + 1) := by simp [Hid]
            unfold Bx.cells at q0 hb2 HQ2 hsz6
            clear d0 d1 d2 d3 d4 d5 hx t1 t2 t3 t4 hmem
            go_wp2_with fail
            generalize wr.alloc (.cells #[.int .i64 x.kind, .int .i64 x.x, .int .i64 x.y, .int .i64 x.wd, .int .i64 x.blk, .string x.text] 42) = w6 at *
            generalize wr.heap.size = P at *
            have r1 := q0.out.cell 1 rfl
            have r2 := q0.out.cell 2 rfl
            have r3 := q0.out.cell 3 rfl
            have HSTH := hid HST.out
            clear HST
            have hS := hid (row_nw w6 #[.bool (x.x == L), .bool (x.y == T), .bool (x.x + x.wd == R), .bool (x.y == D)] 4 hsz6.out.symm)
            have HQ7 := hid (HQ2.out.al (.cells #[.bool (x.x == L), .bool (x.y == T), .bool (x.x + x.wd == R), .bool (x.y == D)] 4))
            have HB7 := hid (below_tr hb2.out (below_al w6 (.cells #[.bool (x.x == L), .bool (x.y == T), .bool (x.x + x.wd == R), .bool (x.y == D)] 4)))
            have hQlt := HQ2.out.lt
            rw [hsz6.out] at hQlt
            clear hsz6
            go_wp2_with fail
            generalize w6.alloc (.cells #[.bool (x.x == L), .bool (x.y == T), .bool (x.x + x.wd == R), .bool (x.y == D)] 4) = w7 at *
            generalize P + 1 = S at *
            clear r1 r2 r3 q0 hb2 HQ2
            generalize (x.x == L) = j1 at *
            generalize (x.y == T) = j2 at *
            generalize (x.x + x.wd == R) = j3 at *
            generalize (x.y == D) = j4 at *
            go_loopw [90] (fun i wi => ∃ (j : Nat) (b0 b1 b2 b3 : Bool), j ≤ 4 ∧ i = .int .i64 j ∧ Hid (Row wi Q #[.bool b0, .bool b1, .bool b2, .bool b3] 40) ∧ Hid (Row wi S #[.bool j1, .bool j2, .bool j3, .bool j4] 4) ∧ Hid (b0 = (a0 || (decide (0 < j) && j1)) ∧ b1 = (a1 || (decide (1 < j) && j2)) ∧ b2 = (a2 || (decide (2 < j) && j3)) ∧ b3 = (a3 || (decide (3 < j) && j4))) ∧ Hid (Below w.heap.size w wi)) (fun i _ => 4 - (intOf i).toNat)
            case atStart => exact ⟨0, a0, a1, a2, a3, by omega, rfl, HQ7.out, hS.out, ⟨by simp, by simp, by simp, by simp⟩, HB7.out⟩
            case round =>
              obtain ⟨j, b0, b1, b2, b3, hj, rfl, hq, hs, hv, hb⟩ := hrel
              have c0 := hq.out.cell 0 rfl
              have c1 := hq.out.cell 1 rfl
              have c2 := hq.out.cell 2 rfl
              have c3 := hq.out.cell 3 rfl
              have s0 := hs.out.cell 0 rfl
              have s1 := hs.out.cell 1 rfl
              have s2 := hs.out.cell 2 rfl
              have s3 := hs.out.cell 3 rfl
              have hfz := fun i => hq.out.frozen i
              rcases (show j = 0 ∨ j = 1 ∨ j = 2 ∨ j = 3 ∨ j = 4 by omega) with rfl | rfl | rfl | rfl | rfl
              · have f0 := hfz 0
                clear hfz
                cases b0
                · have hq2 : Hid (Row (wr.setCell ⟨Q, 0, none⟩ (.bool j1)) Q #[.bool j1, .bool b1, .bool b2, .bool b3] 40) := hq.out.set 0 (.bool j1)
                  have hs2 : Hid (Row (wr.setCell ⟨Q, 0, none⟩ (.bool j1)) S #[.bool j1, .bool j2, .bool j3, .bool j4] 4) := hs.out.other ⟨Q, 0, none⟩ (.bool j1) (show S ≠ Q by omega)
                  have hbb : Hid (Below w.heap.size w (wr.setCell ⟨Q, 0, none⟩ (.bool j1))) := Below.setCell hb.out (p := ⟨Q, 0, none⟩) hQs (.bool j1)
                  have hv2 : Hid (j1 = (a0 || (decide (0 < 1) && j1)) ∧ b1 = (a1 || (decide (1 < 1) && j2)) ∧ b2 = (a2 || (decide (2 < 1) && j3)) ∧ b3 = (a3 || (decide (3 < 1) && j4))) := by
                    have h := hv.out
                    exact ⟨mix_f (n := 0) h.1, mix_keep (t := 1) (n := 0) h.2.1 (by decide), mix_keep (t := 2) (n := 0) h.2.2.1 (by decide), mix_keep (t := 3) (n := 0) h.2.2.2 (by decide)⟩
                  clear hq hs hv hb
                  go_wp2_with fail
                  go_roundw
                  case rel => exact ⟨1, _, _, _, _, by omega, by go_num, hq2.out, hs2.out, hv2.out, hbb.out⟩
                  case measure => simp [intOf]
                · have hq2 : Hid (Row (wr.setCell ⟨Q, 0, none⟩ (.bool true)) Q #[.bool true, .bool b1, .bool b2, .bool b3] 40) := hq.out.set 0 (.bool true)
                  have hs2 : Hid (Row (wr.setCell ⟨Q, 0, none⟩ (.bool true)) S #[.bool j1, .bool j2, .bool j3, .bool j4] 4) := hs.out.other ⟨Q, 0, none⟩ (.bool true) (show S ≠ Q by omega)
                  have hbb : Hid (Below w.heap.size w (wr.setCell ⟨Q, 0, none⟩ (.bool true))) := Below.setCell hb.out (p := ⟨Q, 0, none⟩) hQs (.bool true)
                  have hv2 : Hid (true = (a0 || (decide (0 < 1) && j1)) ∧ b1 = (a1 || (decide (1 < 1) && j2)) ∧ b2 = (a2 || (decide (2 < 1) && j3)) ∧ b3 = (a3 || (decide (3 < 1) && j4))) := by
                    have h := hv.out
                    exact ⟨mix_t (n := 0) h.1, mix_keep (t := 1) (n := 0) h.2.1 (by decide), mix_keep (t := 2) (n := 0) h.2.2.1 (by decide), mix_keep (t := 3) (n := 0) h.2.2.2 (by decide)⟩
                  clear hq hs hv hb
                  go_wp2_with fail
                  go_roundw
                  case rel => exact ⟨1, _, _, _, _, by omega, by go_num, hq2.out, hs2.out, hv2.out, hbb.out⟩
                  case measure => simp [intOf]
              · have f1 := hfz 1
                clear hfz
                cases b1
                · have hq2 : Hid (Row (wr.setCell ⟨Q, 1, none⟩ (.bool j2)) Q #[.bool b0, .bool j2, .bool b2, .bool b3] 40) := hq.out.set 1 (.bool j2)
                  have hs2 : Hid (Row (wr.setCell ⟨Q, 1, none⟩ (.bool j2)) S #[.bool j1, .bool j2, .bool j3, .bool j4] 4) := hs.out.other ⟨Q, 1, none⟩ (.bool j2) (show S ≠ Q by omega)
                  have hbb : Hid (Below w.heap.size w (wr.setCell ⟨Q, 1, none⟩ (.bool j2))) := Below.setCell hb.out (p := ⟨Q, 1, none⟩) hQs (.bool j2)
                  have hv2 : Hid (b0 = (a0 || (decide (0 < 2) && j1)) ∧ j2 = (a1 || (decide (1 < 2) && j2)) ∧ b2 = (a2 || (decide (2 < 2) && j3)) ∧ b3 = (a3 || (decide (3 < 2) && j4))) := by
                    have h := hv.out
                    exact ⟨mix_keep (t := 0) (n := 1) h.1 (by decide), mix_f (n := 1) h.2.1, mix_keep (t := 2) (n := 1) h.2.2.1 (by decide), mix_keep (t := 3) (n := 1) h.2.2.2 (by decide)⟩
                  clear hq hs hv hb
                  go_wp2_with fail
                  go_roundw
                  case rel => exact ⟨2, _, _, _, _, by omega, by go_num, hq2.out, hs2.out, hv2.out, hbb.out⟩
                  case measure => simp [intOf]
                · have hq2 : Hid (Row (wr.setCell ⟨Q, 1, none⟩ (.bool true)) Q #[.bool b0, .bool true, .bool b2, .bool b3] 40) := hq.out.set 1 (.bool true)
                  have hs2 : Hid (Row (wr.setCell ⟨Q, 1, none⟩ (.bool true)) S #[.bool j1, .bool j2, .bool j3, .bool j4] 4) := hs.out.other ⟨Q, 1, none⟩ (.bool true) (show S ≠ Q by omega)
                  have hbb : Hid (Below w.heap.size w (wr.setCell ⟨Q, 1, none⟩ (.bool true))) := Below.setCell hb.out (p := ⟨Q, 1, none⟩) hQs (.bool true)
                  have hv2 : Hid (b0 = (a0 || (decide (0 < 2) && j1)) ∧ true = (a1 || (decide (1 < 2) && j2)) ∧ b2 = (a2 || (decide (2 < 2) && j3)) ∧ b3 = (a3 || (decide (3 < 2) && j4))) := by
                    have h := hv.out
                    exact ⟨mix_keep (t := 0) (n := 1) h.1 (by decide), mix_t (n := 1) h.2.1, mix_keep (t := 2) (n := 1) h.2.2.1 (by decide), mix_keep (t := 3) (n := 1) h.2.2.2 (by decide)⟩
                  clear hq hs hv hb
                  go_wp2_with fail
                  go_roundw
                  case rel => exact ⟨2, _, _, _, _, by omega, by go_num, hq2.out, hs2.out, hv2.out, hbb.out⟩
                  case measure => simp [intOf]
              · have f2 := hfz 2
                clear hfz
                cases b2
                · have hq2 : Hid (Row (wr.setCell ⟨Q, 2, none⟩ (.bool j3)) Q #[.bool b0, .bool b1, .bool j3, .bool b3] 40) := hq.out.set 2 (.bool j3)
                  have hs2 : Hid (Row (wr.setCell ⟨Q, 2, none⟩ (.bool j3)) S #[.bool j1, .bool j2, .bool j3, .bool j4] 4) := hs.out.other ⟨Q, 2, none⟩ (.bool j3) (show S ≠ Q by omega)
                  have hbb : Hid (Below w.heap.size w (wr.setCell ⟨Q, 2, none⟩ (.bool j3))) := Below.setCell hb.out (p := ⟨Q, 2, none⟩) hQs (.bool j3)
                  have hv2 : Hid (b0 = (a0 || (decide (0 < 3) && j1)) ∧ b1 = (a1 || (decide (1 < 3) && j2)) ∧ j3 = (a2 || (decide (2 < 3) && j3)) ∧ b3 = (a3 || (decide (3 < 3) && j4))) := by
                    have h := hv.out
                    exact ⟨mix_keep (t := 0) (n := 2) h.1 (by decide), mix_keep (t := 1) (n := 2) h.2.1 (by decide), mix_f (n := 2) h.2.2.1, mix_keep (t := 3) (n := 2) h.2.2.2 (by decide)⟩
                  clear hq hs hv hb
                  go_wp2_with fail
                  go_roundw
                  case rel => exact ⟨3, _, _, _, _, by omega, by go_num, hq2.out, hs2.out, hv2.out, hbb.out⟩
                  case measure => simp [intOf]
                · have hq2 : Hid (Row (wr.setCell ⟨Q, 2, none⟩ (.bool true)) Q #[.bool b0, .bool b1, .bool true, .bool b3] 40) := hq.out.set 2 (.bool true)
                  have hs2 : Hid (Row (wr.setCell ⟨Q, 2, none⟩ (.bool true)) S #[.bool j1, .bool j2, .bool j3, .bool j4] 4) := hs.out.other ⟨Q, 2, none⟩ (.bool true) (show S ≠ Q by omega)
                  have hbb : Hid (Below w.heap.size w (wr.setCell ⟨Q, 2, none⟩ (.bool true))) := Below.setCell hb.out (p := ⟨Q, 2, none⟩) hQs (.bool true)
                  have hv2 : Hid (b0 = (a0 || (decide (0 < 3) && j1)) ∧ b1 = (a1 || (decide (1 < 3) && j2)) ∧ true = (a2 || (decide (2 < 3) && j3)) ∧ b3 = (a3 || (decide (3 < 3) && j4))) := by
                    have h := hv.out
                    exact ⟨mix_keep (t := 0) (n := 2) h.1 (by decide), mix_keep (t := 1) (n := 2) h.2.1 (by decide), mix_t (n := 2) h.2.2.1, mix_keep (t := 3) (n := 2) h.2.2.2 (by decide)⟩
                  clear hq hs hv hb
                  go_wp2_with fail
                  go_roundw
                  case rel => exact ⟨3, _, _, _, _, by omega, by go_num, hq2.out, hs2.out, hv2.out, hbb.out⟩
                  case measure => simp [intOf]
              · have f3 := hfz 3
                clear hfz
                cases b3
                · have hq2 : Hid (Row (wr.setCell ⟨Q, 3, none⟩ (.bool j4)) Q #[.bool b0, .bool b1, .bool b2, .bool j4] 40) := hq.out.set 3 (.bool j4)
                  have hs2 : Hid (Row (wr.setCell ⟨Q, 3, none⟩ (.bool j4)) S #[.bool j1, .bool j2, .bool j3, .bool j4] 4) := hs.out.other ⟨Q, 3, none⟩ (.bool j4) (show S ≠ Q by omega)
                  have hbb : Hid (Below w.heap.size w (wr.setCell ⟨Q, 3, none⟩ (.bool j4))) := Below.setCell hb.out (p := ⟨Q, 3, none⟩) hQs (.bool j4)
                  have hv2 : Hid (b0 = (a0 || (decide (0 < 4) && j1)) ∧ b1 = (a1 || (decide (1 < 4) && j2)) ∧ b2 = (a2 || (decide (2 < 4) && j3)) ∧ j4 = (a3 || (decide (3 < 4) && j4))) := by
                    have h := hv.out
                    exact ⟨mix_keep (t := 0) (n := 3) h.1 (by decide), mix_keep (t := 1) (n := 3) h.2.1 (by decide), mix_keep (t := 2) (n := 3) h.2.2.1 (by decide), mix_f (n := 3) h.2.2.2⟩
                  clear hq hs hv hb
                  go_wp2_with fail
                  go_roundw
                  case rel => exact ⟨4, _, _, _, _, by omega, by go_num, hq2.out, hs2.out, hv2.out, hbb.out⟩
                  case measure => simp [intOf]
                · have hq2 : Hid (Row (wr.setCell ⟨Q, 3, none⟩ (.bool true)) Q #[.bool b0, .bool b1, .bool b2, .bool true] 40) := hq.out.set 3 (.bool true)
                  have hs2 : Hid (Row (wr.setCell ⟨Q, 3, none⟩ (.bool true)) S #[.bool j1, .bool j2, .bool j3, .bool j4] 4) := hs.out.other ⟨Q, 3, none⟩ (.bool true) (show S ≠ Q by omega)
                  have hbb : Hid (Below w.heap.size w (wr.setCell ⟨Q, 3, none⟩ (.bool true))) := Below.setCell hb.out (p := ⟨Q, 3, none⟩) hQs (.bool true)
                  have hv2 : Hid (b0 = (a0 || (decide (0 < 4) && j1)) ∧ b1 = (a1 || (decide (1 < 4) && j2)) ∧ b2 = (a2 || (decide (2 < 4) && j3)) ∧ true = (a3 || (decide (3 < 4) && j4))) := by
                    have h := hv.out
                    exact ⟨mix_keep (t := 0) (n := 3) h.1 (by decide), mix_keep (t := 1) (n := 3) h.2.1 (by decide), mix_keep (t := 2) (n := 3) h.2.2.1 (by decide), mix_t (n := 3) h.2.2.2⟩
                  clear hq hs hv hb
                  go_wp2_with fail
                  go_roundw
                  case rel => exact ⟨4, _, _, _, _, by omega, by go_num, hq2.out, hs2.out, hv2.out, hbb.out⟩
                  case measure => simp [intOf]
              · have hk2 : Hid (b0 = tch Bx.x L (p.bx.take (k + 1)) ∧ b1 = tch Bx.y T (p.bx.take (k + 1)) ∧ b2 = tch (fun b => b.x + b.wd) R (p.bx.take (k + 1)) ∧ b3 = tch Bx.y D (p.bx.take (k + 1))) := by
                  have h := hv.out
                  rw [HSTH.out.1, HSTH.out.2.1, HSTH.out.2.2.1, HSTH.out.2.2.2, ← HA.out.1, ← HA.out.2.1, ← HA.out.2.2.1, ← HA.out.2.2.2]
                  exact ⟨mix_end h.1 (by decide), mix_end h.2.1 (by decide), mix_end h.2.2.1 (by decide), mix_end h.2.2.2 (by decide)⟩
                clear c0 c1 c2 c3 s0 s1 s2 s3 hfz hv HA
                go_wp2_with fail
                go_roundw
                case rel => exact ⟨k + 1, _, _, _, _, by omega, by go_num, hq.out, hk2.out, hb.out⟩
                case measure => simp [intOf]; omega
          · have hki : ¬ (k : Int) < (p.bx.length : Int) := by omega
            have hkl : k = p.bx.length := by omega
            have HA2 : Hid (a0 = true ∧ a1 = true ∧ a2 = true ∧ a3 = true) := by
              have h := HA.out
              rw [hkl, List.take_length, HT.out.1, HT.out.2.1, HT.out.2.2.1, HT.out.2.2.2] at h
              exact h
            obtain ⟨rfl, rfl, rfl, rfl⟩ := HA2.out
            have heq := eqArr_true
            have c0 := HQ.out.cell 0 rfl
            have c1 := HQ.out.cell 1 rfl
            have c2 := HQ.out.cell 2 rfl
            have c3 := HQ.out.cell 3 rfl
            clear hkl HA
            go_wp2_with fail
            refine (AW _ HB.out).out.mono ?_
            rintro e w7 ⟨rfl, hB7⟩
            go_wp2
            go_ret
            exact ⟨rfl, below_tr HB.out hB7⟩
    · have hq : (pgI p != 0) = true := by simpa using hg
      go_wp2_with fail
      refine (AW _ hb3).out.mono ?_
      rintro e w4 ⟨rfl, hB4⟩
      go_wp2
      go_ret
      exact ⟨rfl, below_tr hb3 hB4⟩
end Go.Proofs.YtkjapeafhcdnkaaDoor
