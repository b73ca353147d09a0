/-
  The reference of layer 42: places.
-/
import Derived.Test.YtigaflmhdbgmdaaFormA
import Derived.Test.YtigaflmhdbgmdaaAp
namespace Go.Proofs.Ytigaflmhdbgmdaa
open Go.RowKit

theorem bit_testS (m k : Nat) (hm : m < 65536) : (bits .and .i64 ((m : Int) / 2 ^ k) 1 == 0) = !m.testBit k := by
  have e1 : (m : Int) / 2 ^ k = ((m / 2 ^ k : Nat) : Int) := by simp
  have hlt : m / 2 ^ k < 65536 := Nat.lt_of_le_of_lt (Nat.div_le_self _ _) hm
  have e2 : bits .and .i64 ((m / 2 ^ k : Nat) : Int) ((1 : Nat) : Int) = ((m / 2 ^ k &&& 1 : Nat) : Int) := by
    generalize m / 2 ^ k = a at hlt
    have hx : a &&& 1 < 2 ^ 16 := Nat.and_lt_two_pow _ (by omega)
    have h1 : (BitVec.ofInt 64 (a : Int)).toNat = a := by
      rw [BitVec.ofInt_natCast, BitVec.toNat_ofNat]; exact Nat.mod_eq_of_lt (by omega)
    have h2 : (BitVec.ofInt 64 ((1 : Nat) : Int)).toNat = 1 := by decide
    show IntKind.i64.wrap ((BitVec.ofInt 64 (a : Int) &&& BitVec.ofInt 64 ((1 : Nat) : Int)).toNat : Int) = _
    rw [BitVec.toNat_and, h1, h2]
    have hw : ∀ z : Nat, z < 65536 → IntKind.i64.wrap (z : Int) = (z : Int) := by
      intro z hz
      simp [IntKind.wrap, IntKind.signed, IntKind.bits]
      omega
    exact hw _ hx
  rw [e1, show (1 : Int) = ((1 : Nat) : Int) from rfl, e2, Nat.and_one_is_mod, Nat.testBit_eq_decide_div_mod_eq]
  have hr2 : m / 2 ^ k % 2 < 2 := Nat.mod_lt _ (by omega)
  clear hlt e1 e2
  generalize m / 2 ^ k % 2 = r at *
  rw [Bool.eq_iff_iff]; simp; omega

/-- The groups of a choice: the first k. -/
def outTo (us : List Int) (c k : Nat) : List Int := (bitsTo c k).map fun j => us.getD j.toNat 0
/-- What the first k groups of a choice leave of a list. -/
def restTo (gs : List Grp) (us : List Int) (c : Nat) (l : List Int) : Nat → List Int
  | 0 => l
  | k + 1 => if c.testBit k then (restTo gs us c l k).filter fun x => !(memAt gs (us.getD k 0)).any fun y => decide (y = x) else restTo gs us c l k
def placesL (gs : List Grp) (us : List Int) (c : Nat) (l : List Int) : List Int := outTo us c us.length ++ (restTo gs us c l us.length).map fun x => (gs.length : Int) + x

theorem outTo_succ (us : List Int) (c k : Nat) (u : Int) (h : us[k]? = some u) : outTo us c (k + 1) = outTo us c k ++ if c.testBit k then [u] else [] := by
  unfold outTo
  rw [bitsTo_succ, List.map_append]
  congr 1
  cases c.testBit k with
  | false => rfl
  | true => simp [h]
theorem restTo_sub (gs : List Grp) (us : List Int) (c : Nat) (l : List Int) : ∀ k, ∀ x ∈ restTo gs us c l k, x ∈ l := by
  intro k
  induction k with
  | zero => intro x hx; exact hx
  | succ k ih =>
    intro x hx
    unfold restTo at hx
    split at hx
    · exact ih x (List.mem_filter.1 hx).1
    · exact ih x hx
theorem filter_take {p : Int → Bool} {l : List Int} {k : Nat} {x : Int} (h : l[k]? = some x) : (l.take (k + 1)).filter p = (l.take k).filter p ++ if p x then [x] else [] := by
  rw [List.take_add_one, h, List.filter_append]
  cases hp : p x <;> simp [hp]

theorem Rd.blk_lt {α : Type} {enc : α → Value} {W : World} {v : Value} {l : List α} (h : Rd enc W v l) (hne : l ≠ []) : ∀ b, v.ownBlock = some b → b < W.heap.size := by
  obtain ⟨a, cap, rfl, _, _, hc⟩ := h.open
  obtain ⟨x, b, off, _, rfl, hx⟩ := hc 0 (List.length_pos_iff.2 hne)
  intro k hk
  cases hk
  exact World.block_lt_of_cell? _ _ hx
theorem Rd.grown2 {α : Type} {enc : α → Value} {W W' : World} {v : Value} {l : List α} {row : Option Nat} (h : Rd enc W v l) (hg : W.grownBy W' row) (hne : l ≠ [] → ∀ k, v.ownBlock = some k → row ≠ some k) : Rd enc W' v l := by
  by_cases h0 : l = []
  · subst h0
    obtain ⟨a, cap, rfl, h2, h3, _⟩ := h
    exact ⟨a, cap, rfl, h2, h3, fun i x hx => by simp at hx⟩
  · exact h.grown hg (hne h0)

/-- The row o is written; what v leads to is not in it. -/
def Apart {α : Type} (l : List α) (v o : Value) : Prop := l ≠ [] → ∀ b, v.ownBlock = some b → o.ownBlock ≠ some b
theorem Apart.app {α : Type} {enc : α → Value} {W : World} {l : List α} {v o : Value} {g n cap : Nat} (h : Apart l v o) (hr : Rd enc W v l) (hg : o.ownBlock = some g ∨ W.heap.size < g) : Apart l v (.slice (some ⟨g, 0, none⟩) n cap) := by
  intro hne b hb
  have h1 := h hne b hb
  have h2 := hr.blk_lt hne b hb
  intro e
  have e' : g = b := Option.some.inj e
  subst e'
  rcases hg with h3 | h3
  · exact h1 h3
  · omega

set_option maxHeartbeats 4000000 in
set_option maxRecDepth 100000 in
theorem places_any (u s r : Value) (gs : List Grp) (us l : List Int) (c : Nat) (w : World) (hg : RdG w u gs) (hs : RdI w s us) (hr : RdI w r l) (hu : ∀ x ∈ us, 0 ≤ x ∧ x < gs.length) (hc : c < 65536)
    (hgl : gs.length ≤ 16) (hul : us.length ≤ 16) (hll : l.length ≤ 1000) (hlx : ∀ x ∈ l, 0 ≤ x ∧ x < 64) :
    Calls Try.prog 43 #[u, s, .int .i64 c, r] w fun e w' => ∃ v, e = .returned v ∧ RdI w' v (placesL gs us c l) ∧ Below w.heap.size w w' := by
  obtain ⟨a1, cap1, rfl, hlc1, hcm1, hcell1⟩ := hg.open
  obtain ⟨a2, cap2, rfl, hlc2, hcm2, hcell2⟩ := hs.open
  have HCell1 := hid hcell1; clear hcell1
  have HCell2 := hid hcell2; clear hcell2
  have HBT := fun k => hid (bit_testS c k hc)
  have HU := hid hu; clear hu hc
  have HLX := hid (fun k x (h : x ∈ restTo gs us c l k) => hlx x (restTo_sub gs us c l k x h))
  have hap0 : Apart l r (.slice (some ⟨w.heap.size, 0, none⟩) 0 0) := by
    intro hne b hb e
    have := hr.blk_lt hne b hb
    have e' : w.heap.size = b := Option.some.inj e
    omega
  have HLL := hid hll; clear hll
  go_enter Try.func43, Try.ntmps43
  go_wp2_with fail
  go_loopw [9, 10, 11] (fun o r i wr => ∃ (k : Nat) (xs rs : List Int), k ≤ us.length ∧ i = .int .i64 k ∧ Hid (xs = outTo us c k) ∧ Hid (rs = restTo gs us c l k) ∧ xs.length ≤ k ∧ rs.length ≤ 1000 ∧
      wr.ownsRow w.heap.size 3 1 o xs.length (xs.map (Value.int .i64)) ∧ RdI wr r rs ∧ Apart rs r o ∧ Below w.heap.size w wr) (fun _ _ i _ => us.length - (intOf i).toNat)
  case atStart => exact ⟨0, [], l, by omega, rfl, rfl, rfl, by simp, HLL.out, World.ownsRow_made w #[] 0 (Nat.le_refl _) (by unfold maxLen; omega) rfl, hr.below (below_al w _), hap0, below_al w _⟩
  case round =>
    clear hap0
    rename_i wr
    obtain ⟨k, xs, rs, hk, rfl, HX, HR, hxl, hrl, hown, hrr, hap, hB⟩ := hrel
    have hbt := (HBT k).out
    obtain ⟨ar, capr, rfl, hlcr, hcmr, hcellr⟩ := hrr.open
    have HCellr := hid hcellr; clear hcellr
    by_cases hlt : k < us.length
    · obtain ⟨ui, b2, off2, hui, rfl, hcu0⟩ := HCell2.out k hlt
      have hu1 := HU.out ui (List.mem_of_getElem? hui)
      have hos := outTo_succ us c k ui hui
      have hrs : restTo gs us c l (k + 1) = if c.testBit k then (restTo gs us c l k).filter fun x => !(memAt gs ui).any fun y => decide (y = x) else restTo gs us c l k := by
        rw [restTo, List.getD_eq_getElem?_getD, hui]; rfl
      obtain ⟨j, rfl⟩ : ∃ j : Nat, ui = (j : Int) := ⟨ui.toNat, by omega⟩
      have hjl : j < gs.length := by omega
      have hcu := Below.keeps hB _ _ hcu0
      by_cases hb : c.testBit k = true
      · rw [hb] at hbt
        rw [hb, if_pos rfl] at hos hrs
        have HOS := hid hos
        have HRS := hid hrs
        clear hos hrs hb hui hu1
        obtain ⟨g, b1, off1, m, hgx, rfl, hcg0, hdg0, hmg0⟩ := HCell1.out j hjl
        have hma : memAt gs (j : Int) = g.mem := by unfold memAt; rw [Int.toNat_natCast, hgx]
        rw [hma] at HRS
        clear hma hgx hcg0
        go_wp2_with (at_builtin; refine wpList_ap2 rfl _ _ 26 rfl w.heap.size 3 Try.underlying26 infoInt rfl (by decide) (by decide) _ _ _ rfl hown [.int .i64 j] rfl (by simp [Value.oneCell']) rfl (by simp) (by omega) hB.size ?_; intro gB capB w3 hown3 hb1 hgr hat hg3)
        have hB3 := hB.trans hb1
        have hap3 : Apart rs (.slice ar rs.length capr) (.slice (some ⟨gB, 0, none⟩) (xs.length + 1) capB) := hap.app hrr hat
        have hrr3 : RdI w3 (.slice ar rs.length capr) rs := hrr.grown2 hgr (fun hne b hb => hap hne b hb)
        clear hown hrr hap hgr hat hb1 hcu HCellr
        obtain ⟨ar', capr', er, _, _, hcellr⟩ := hrr3.open
        cases er
        have HCellr := hid hcellr; clear hcellr
        go_wp2_with fail
        have hgi : w3.heap.size ≤ w3.heap.size := Nat.le_refl _
        go_loopw [12, 13] (fun nx i wr => ∃ (q : Nat) (ys : List Int), q ≤ rs.length ∧ i = .int .i64 q ∧ Hid (ys = (rs.take q).filter fun x => !g.mem.any fun y => decide (y = x)) ∧ ys.length ≤ q ∧
            wr.ownsRow w3.heap.size 3 1 nx ys.length (ys.map (Value.int .i64)) ∧ Below w3.heap.size w3 wr) (fun _ i _ => rs.length - (intOf i).toNat)
        case atStart => exact ⟨0, [], by omega, rfl, rfl, by simp, World.ownsRow_made w3 #[] 0 (Nat.le_refl _) (by unfold maxLen; omega) rfl, below_al w3 _⟩
        case round =>
          rename_i wi
          have HBo := hid hB
          clear hB
          obtain ⟨q, ys, hq, rfl, HY, hyl, hownn, hBi⟩ := hrel
          by_cases hltq : q < rs.length
          · obtain ⟨x, br, offr, hx, rfl, hcx0⟩ := HCellr.out q hltq
            have hft := filter_take (p := fun x => !g.mem.any fun y => decide (y = x)) hx
            have hBw := below_tr hB3 hBi
            have hcu := Below.keeps (hB3.trans (hBi.mono hB3.size)) _ _ hcu0
            have hdg := Below.keeps (hB3.trans (hBi.mono hB3.size)) _ _ hdg0
            have hmg := hmg0.below (hB3.trans (hBi.mono hB3.size))
            obtain ⟨am, capm, rfl, hlm, hcmm, _⟩ := hmg.open
            have hcx := Below.keeps hBi _ _ hcx0
            have HH := fun w' h => hid (has_any (.slice am g.mem.length capm) g.mem x w' h)
            clear hx hBw
            generalize (g.mem.any fun y => decide (y = x)) = hb at *
            have HFT := hid hft
            clear hft
            cases hb with
            | true =>
              go_wp2
              go_quiet ((go_at_call 63; exact Calls.quiet_of_same ((HH _ (hmg.drewN _)).out.mono fun _ _ h => ⟨h.1, h.2.symm⟩)))
              go_wp2
              go_roundw
              case rel => exact ⟨q + 1, ys, by omega, by go_num, by rw [HFT.out, ← HY.out]; simp [Hid], by omega, own_below hownn (below_drewN (Below.refl _ _) nq), below_drewN hBi _⟩
              case measure => simp [intOf]; omega
            | false =>
              have HCX := hid hcx0
              go_wp2
              go_quiet ((go_at_call 63; exact Calls.quiet_of_same ((HH _ (hmg.drewN _)).out.mono fun _ _ h => ⟨h.1, h.2.symm⟩)))
              have hownq := own_below hownn (below_drewN (Below.refl _ _) nq)
              have hBq := below_drewN hBi nq
              have hcq := Below.keeps hBq _ _ HCX.out
              go_wp2_with (at_builtin; refine wpList_ap rfl _ _ 26 rfl w3.heap.size 3 Try.underlying26 infoInt rfl (by decide) (by decide) _ _ _ rfl hownq [.int .i64 x] rfl (by simp [Value.oneCell']) rfl (by simp) (by omega) hBq.size ?_; intro v' w4 hown' hb1 _)
              go_roundw
              case rel => exact ⟨q + 1, ys ++ [x], by omega, by go_num, by rw [HFT.out, ← HY.out]; simp [Hid], by rw [List.length_append, List.length_singleton]; omega, by simpa using hown', hBq.trans hb1⟩
              case measure => simp [intOf]; omega
          · obtain rfl : q = rs.length := by omega
            have HYR : Hid (ys = restTo gs us c l (k + 1)) := by rw [HY.out, HRS.out, ← HR.out, List.take_of_length_le (Nat.le_refl _)]; rfl
            have hownI := own_below hown3 hBi
            have hlto := hownn.lt
            have hrn := Rd.of_own (enc := Value.int .i64) hownn
            have hBz := hB3.trans (hBi.mono hB3.size)
            go_wp2
            go_roundw
            case rel =>
              refine ⟨k + 1, xs ++ [(j : Int)], ys, by omega, by go_num, by rw [HOS.out, HX.out]; rfl, HYR, by rw [List.length_append, List.length_singleton]; omega, by omega, by simpa using hownI, hrn, ?_, hBz⟩
              intro _ b hb e
              have h1 := (hlto b hb).1
              have e' : gB = b := Option.some.inj e
              omega
            case measure => simp [intOf]; omega
      · have hb' : c.testBit k = false := by simpa using hb
        rw [hb'] at hbt
        rw [hb', if_neg (by simp)] at hos hrs
        have HOS := hid hos
        have HRS := hid hrs
        clear hos hrs hb hb' hui hu1 hcu hcu0
        go_wp2
        go_roundw
        case rel => exact ⟨k + 1, xs, rs, by omega, by go_num, by rw [HOS.out, HX.out, List.append_nil]; rfl, by rw [HRS.out, HR.out]; rfl, by omega, hrl, hown, hrr, hap, hB⟩
        case measure => simp [intOf]; omega
    · obtain rfl : k = us.length := by omega
      have HPL : Hid (placesL gs us c l = xs ++ rs.map fun x => (gs.length : Int) + x) := by unfold placesL; rw [← HX.out, ← HR.out]; rfl
      have HRX : Hid (∀ x ∈ rs, 0 ≤ x ∧ x < 64) := fun x hx => HLX.out us.length x (by rw [← HR.out]; exact hx)
      clear hbt HBT HX HR HLX HCellr
      go_wp2_with fail
      go_loopw [9, 14] (fun o i wr => ∃ (q : Nat) (ys : List Int), q ≤ rs.length ∧ i = .int .i64 q ∧ Hid (ys = (rs.take q).map fun x => (gs.length : Int) + x) ∧ ys.length ≤ q ∧
          wr.ownsRow w.heap.size 3 1 o (xs.length + ys.length) ((xs ++ ys).map (Value.int .i64)) ∧ RdI wr (.slice ar rs.length capr) rs ∧ Apart rs (.slice ar rs.length capr) o ∧ Below w.heap.size w wr) (fun _ i _ => rs.length - (intOf i).toNat)
      case atStart => exact ⟨0, [], by omega, rfl, rfl, by simp, by simpa using hown, hrr, hap, hB⟩
      case round =>
        clear hown hrr hap hB
        rename_i wi
        obtain ⟨q, ys, hq, rfl, HY, hyl, hown, hrr, hap, hB⟩ := hrel
        by_cases hltq : q < rs.length
        · obtain ⟨ar', capr', er, _, _, hcellr⟩ := hrr.open
          cases er
          obtain ⟨x, br, offr, hx, rfl, hcx⟩ := hcellr q hltq
          have hx64 := HRX.out x (List.mem_of_getElem? hx)
          have HTX : Hid ((rs.take (q + 1)).map (fun x => (gs.length : Int) + x) = ys ++ [(gs.length : Int) + x]) := by rw [List.take_add_one, hx, List.map_append, ← HY.out]; rfl
          clear hcellr hx
          go_wp2_with (at_builtin; refine wpList_ap2 rfl _ _ 26 rfl w.heap.size 3 Try.underlying26 infoInt rfl (by decide) (by decide) _ _ _ rfl hown [.int .i64 ((gs.length : Int) + x)] rfl (by simp [Value.oneCell']) rfl (by simp) (by omega) hB.size ?_; intro gB capB w3 hown3 hb1 hgr hat hg3)
          have hap3 := hap.app (n := xs.length + ys.length + 1) (cap := capB) hrr hat
          have hrr3 := hrr.grown2 hgr (fun hne b hb => hap hne b hb)
          have hB3 := hB.trans hb1
          clear hown hrr hap hB hgr hat hb1
          go_roundw
          case rel => exact ⟨q + 1, ys ++ [(gs.length : Int) + x], by omega, by go_num, HTX.out.symm, by rw [List.length_append, List.length_singleton]; omega, by simpa [Nat.add_assoc] using hown3, hrr3, hap3, hB3⟩
          case measure => simp [intOf]; omega
        · obtain rfl : q = rs.length := by omega
          have HE : Hid (placesL gs us c l = xs ++ ys) := by rw [HPL.out, HY.out, List.take_of_length_le (Nat.le_refl _)]; rfl
          have hown2 := hown
          rw [← List.length_append] at hown2
          have hrz := Rd.of_own (enc := Value.int .i64) hown2
          clear hown2 hown
          go_wp2
          go_ret
          exact ⟨_, rfl, by rw [HE.out]; exact hrz, hB⟩
end Go.Proofs.Ytigaflmhdbgmdaa
