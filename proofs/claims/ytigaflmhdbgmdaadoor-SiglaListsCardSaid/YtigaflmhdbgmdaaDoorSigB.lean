/-
  Contracts: sigla.start, within, Groups, Expand.
-/
import Derived.Test.YtigaflmhdbgmdaaDoorCheck
import Derived.Test.YtigaflmhdbgmdaaDoorBits
namespace Go.Proofs.YtigaflmhdbgmdaaDoor
open Go.RowKit

/-! ### what a valid set gives -/
theorem ckSet_ok (n : Int) (l : List Int) : ∀ p, ckSet n p l = 0 → ∀ x ∈ l, 0 ≤ x ∧ x < n := by
  induction l with
  | nil => intro p _ x hx; cases hx
  | cons a l ih =>
    intro p h x hx
    unfold ckSet at h
    split at h
    · omega
    split at h
    · omega
    rcases List.mem_cons.1 hx with rfl | hx
    · omega
    · exact ih _ h x hx

theorem ckGrps_ok (names : List ByteArray) (l : List Grp) : ∀ pre, ckGrps names pre l = 0 → ∀ g ∈ l, isNameB g.name = true ∧ 0 < g.mem.length ∧ ckSet names.length none g.mem = 0 := by
  induction l with
  | nil => intro p _ x hx; cases hx
  | cons a l ih =>
    intro p h x hx
    unfold ckGrps at h
    split at h
    · omega
    split at h
    · omega
    split at h
    · omega
    split at h
    · omega
    rcases List.mem_cons.1 hx with rfl | hx
    · refine ⟨?_, by omega, by omega⟩
      cases hn : isNameB x.name <;> simp_all
    · exact ih _ h x hx

theorem checkI_ok {names : List ByteArray} {gs : List Grp} (h : checkI names gs = 0) : names.length ≤ 32 ∧ gs.length ≤ 16 ∧ ckNames [] names = 0 ∧ ckGrps names [] gs = 0 := by
  unfold checkI at h
  split at h
  · omega
  split at h
  · omega
  split at h
  · omega
  exact ⟨by omega, by omega, by omega, h⟩

theorem checkI_mem {names : List ByteArray} {gs : List Grp} (h : checkI names gs = 0) : ∀ g ∈ gs, ∀ x ∈ g.mem, 0 ≤ x ∧ x < 64 := by
  obtain ⟨h1, _, _, h4⟩ := checkI_ok h
  intro g hg x hx
  have := ckSet_ok _ _ _ (ckGrps_ok names gs [] h4 g hg).2.2 x hx
  omega

def startI (names : List ByteArray) (gs : List Grp) (set : List Int) : Int := if checkI names gs ≠ 0 then 1 else ckSet names.length none set

set_option maxHeartbeats 400000 in
theorem start_any (v u s : Value) (names : List ByteArray) (gs : List Grp) (set : List Int) (w : World) (hr : RdS w v names) (hg : RdG w u gs) (hs : RdI w s set) (hz : Szs names) (hzg : SzG gs) :
    Calls Tryd.prog 44 #[v, u, s] w fun e w' => e = .returned (.int .i64 (startI names gs set)) ∧ Below w.heap.size w w' := by
  have hC := hid (check_any v u names gs w hr hg hz hzg)
  obtain ⟨a, cap, rfl, hlc, hcm, _⟩ := hr.open
  have HI : Hid (startI names gs set = if checkI names gs ≠ 0 then 1 else ckSet names.length none set) := rfl
  have HS := fun w' h => hid (checkSet_any s set names.length w' h)
  generalize checkI names gs = c at *
  by_cases h0 : c = 0
  · have hb : (c != 0) = false := by simp [h0]
    have H0 := hid h0; clear h0
    go_enter Tryd.func44, Tryd.ntmps44
    go_wp2_with (first | (go_at_call 29; refine hC.out.mono ?_; rintro e w1 ⟨rfl, hB1⟩; have hs1 := hs.below hB1) | (go_at_call 40; refine (HS _ hs1).out.mono ?_; rintro e w2 ⟨rfl, rfl⟩))
    go_ret
    exact ⟨ret_int (by rw [HI.out]; simp [H0.out]), by assumption⟩
  · have hb : (c != 0) = true := by simpa using h0
    have H0 := hid h0; clear h0
    go_enter Tryd.func44, Tryd.ntmps44
    go_wp2_with (first | (go_at_call 29; refine hC.out.mono ?_; rintro e w1 ⟨rfl, hB1⟩))
    go_ret
    exact ⟨ret_int (by rw [HI.out]; simp [H0.out]), by assumption⟩

/-- The groups all of whose members are in a set of bits. -/
def inB (S : Nat) (g : Grp) : Bool := decide (andN (maskN g.mem) S = 0)
def withinTo (gs : List Grp) (S k : Nat) : List Int := ((List.range k).filter fun i => match gs[i]? with | some g => inB S g | none => false).map fun (i : Nat) => (i : Int)
theorem withinTo_succ (gs : List Grp) (S k : Nat) (g : Grp) (h : gs[k]? = some g) : withinTo gs S (k + 1) = withinTo gs S k ++ if inB S g = true then [(k : Int)] else [] := by
  unfold withinTo
  rw [List.range_succ, List.filter_append, List.map_append]
  by_cases hb : inB S g = true <;> simp [h, hb]
def withinL (gs : List Grp) (S : Nat) : List Int := withinTo gs S gs.length
theorem withinTo_len (gs : List Grp) (S k : Nat) : (withinTo gs S k).length ≤ k := by
  unfold withinTo
  rw [List.length_map]
  have := List.length_filter_le (fun i => match gs[i]? with | some g => inB S g | none => false) (List.range k)
  simpa using this

set_option maxHeartbeats 400000 in
set_option maxRecDepth 100000 in
theorem within_any (u : Value) (gs : List Grp) (S : Nat) (w : World) (hg : RdG w u gs) (hS : S < 18446744073709551616) (hm : ∀ g ∈ gs, ∀ x ∈ g.mem, 0 ≤ x ∧ x < 64) (hl : gs.length ≤ 1048576) :
    Calls Tryd.prog 45 #[u, .int .u64 S] w fun e w' => ∃ v, e = .returned v ∧ RdI w' v (withinL gs S) ∧ Below w.heap.size w w' := by
  obtain ⟨a2, cap2, rfl, hlc2, hcm2, hcell2⟩ := hg.open
  have HCell2 := hid hcell2; clear hcell2
  have HS := hid hS; clear hS
  have HM := hid hm; clear hm
  go_enter Tryd.func45, Tryd.ntmps45
  go_wp2
  go_loopw [5, 10] (fun v i wr => ∃ (k : Nat) (xs : List Int), k ≤ gs.length ∧ i = .int .i64 k ∧ Hid (xs = withinTo gs S k) ∧ xs.length ≤ k ∧ wr.ownsRow w.heap.size 3 1 v xs.length (xs.map (Value.int .i64)) ∧ Below w.heap.size w wr) (fun _ i _ => gs.length - (intOf i).toNat)
  case atStart => exact ⟨0, [], by omega, rfl, rfl, by simp, World.ownsRow_nil _ _ _ _, Below.refl _ _⟩
  case round =>
    rename_i wr
    obtain ⟨k, xs, hk, rfl, HX, hl, hown, hB⟩ := hrel
    by_cases hltj : k < gs.length
    · obtain ⟨g, b2, off2, m, hgx, rfl, hc0, hd0, hm0⟩ := HCell2.out k hltj
      have hc := Below.keeps hB _ _ hc0
      have hd := Below.keeps hB _ _ hd0
      have hm := hm0.below hB
      clear hc0 hd0 hm0
      obtain ⟨am, capm, rfl, hlm, hcm3, _⟩ := hm.open
      have hb1 := below_al wr (.cells #[.string g.name, .slice am g.mem.length capm] 45)
      have hm1 := hm.below hb1
      have hs := withinTo_succ gs S k g hgx
      have hgm := HM.out g (List.mem_of_getElem? hgx)
      have hbt : (bits BinOp.andNot IntKind.u64 (maskN g.mem : Nat) (S : Nat) == 0) = inB S g := by
        have := maskN_lt 64 g.mem (fun x hx => by have := hgm x hx; omega)
        rw [bits_andN _ _ (by simpa using this) HS.out, inB, Bool.eq_iff_iff]; simp
      have HMk := fun w' h => hid (mask_any (.slice am g.mem.length capm) g.mem w' h hgm)
      clear hgm hgx
      generalize maskN g.mem = M at *
      have HB1 := hid (below_tr hB hb1)
      have hown1 := hown.alloc (.cells #[.string g.name, .slice am g.mem.length capm] 45)
      have hsz := HB1.out.size
      clear hb1
      by_cases hb : inB S g = true
      · rw [hb] at hbt
        rw [hb, if_pos rfl] at hs
        have HSs := hid hs; clear hs hb
        go_wp2_with (first | (go_at_call 33; refine (HMk _ hm1).out.mono ?_; rintro e w' ⟨rfl, rfl⟩) | (at_builtin; refine wpList_ap rfl _ _ 33 rfl w.heap.size 3 Tryd.underlying33 infoInt rfl (by decide) (by decide) _ _ _ rfl hown1 [.int .i64 k] rfl (by simp [Value.oneCell']) rfl (by simp) (by omega) hsz ?_; intro v' w1 hown' hb1 _))
        go_roundw
        case rel => exact ⟨k + 1, xs ++ [(k : Int)], by omega, by go_num, by rw [HSs.out, HX.out]; rfl, by simp; omega, by simpa using hown', HB1.out.trans hb1⟩
        case measure => simp [intOf]; omega
      · have hb' : inB S g = false := by simpa using hb
        rw [hb'] at hbt
        rw [hb', if_neg (by simp)] at hs
        have HSs := hid hs; clear hs hb hb'
        go_wp2_with (first | (go_at_call 33; refine (HMk _ hm1).out.mono ?_; rintro e w' ⟨rfl, rfl⟩))
        go_roundw
        case rel => exact ⟨k + 1, xs, by omega, by go_num, by rw [HSs.out, HX.out, List.append_nil]; rfl, by omega, hown1, HB1.out⟩
        case measure => simp [intOf]; omega
    · obtain rfl : k = gs.length := by omega
      go_wp2
      go_ret
      exact ⟨_, rfl, by rw [show withinL gs S = xs from HX.out.symm]; exact Rd.of_own hown, hB⟩
end Go.Proofs.YtigaflmhdbgmdaaDoor
