/-
  slices.Concat of lists of groups.
-/
import Derived.Test.YtigaflmhdbgmdaaGrow
import Derived.Deep.Slices
namespace Go.Proofs.Ytigaflmhdbgmdaa
open Go.RowKit

theorem flatG_split (ks : List (Grp × Value)) : ∀ (j : Nat) (u : Value), (flatG ks)[j]? = some u → ∃ (i : Nat) (p : Grp × Value), ks[i]? = some p ∧ ((j = i * 2 ∧ u = .string p.1.name) ∨ (j = i * 2 + 1 ∧ u = p.2)) := by
  induction ks with
  | nil => intro j u h; simp [flatG] at h
  | cons a l ih =>
    intro j u h
    have e : flatG (a :: l) = .string a.1.name :: a.2 :: flatG l := rfl
    rw [e] at h
    match j, h with
    | 0, h => cases h; exact ⟨0, a, rfl, .inl ⟨rfl, rfl⟩⟩
    | 1, h => cases h; exact ⟨0, a, rfl, .inr ⟨rfl, rfl⟩⟩
    | j + 2, h =>
      obtain ⟨i, p, hp, hc⟩ := ih j u (by simpa using h)
      refine ⟨i + 1, p, by simpa using hp, ?_⟩
      rcases hc with ⟨h1, h2⟩ | ⟨h1, h2⟩
      · exact .inl ⟨by omega, h2⟩
      · exact .inr ⟨by omega, h2⟩

instance instInhPair : Inhabited (Grp × Value) := ⟨(⟨ByteArray.empty, []⟩, .bool false)⟩

/-- The cells of a list of groups, in order. -/
theorem RdG.pairs {W : World} {a : Option Addr} {n cap : Nat} {l : List Grp} (h : RdG W (.slice a n cap) l) : ∃ ms : List (Grp × Value), ms.map (·.1) = l ∧ (∀ p ∈ ms, RdI W p.2 p.1.mem) ∧
    (∀ ad, a = some ad → ∀ j u, (flatG ms)[j]? = some u → W.cell? (ad.add j) = some u) := by
  obtain ⟨a', cap', e, _, _, hc⟩ := h.open
  cases e
  have hex : ∀ i, i < l.length → ∃ p : Grp × Value, l[i]? = some p.1 ∧ RdI W p.2 p.1.mem ∧ ∀ ad, a = some ad → W.cell? (ad.add (i * 2)) = some (.string p.1.name) ∧ W.cell? (ad.add (i * 2 + 1)) = some p.2 := by
    intro i hi
    obtain ⟨x, b, off, m, hx, rfl, h1, h2, h3⟩ := hc i hi
    refine ⟨(x, m), hx, h3, fun ad e => ?_⟩
    cases e
    rw [Go.WideShapes.add_plain, Go.WideShapes.add_plain]
    exact ⟨h1, by rw [← Nat.add_assoc]; exact h2⟩
  obtain ⟨f, hf⟩ := Go.Deep.choose_lt hex
  have hat : ∀ i p, ((List.range l.length).map f)[i]? = some p → i < l.length ∧ p = f i := by
    intro i p hp
    have hi : i < l.length := by have := (List.getElem?_eq_some_iff.1 hp).1; simpa using this
    simp only [List.getElem?_map, List.getElem?_range hi, Option.map_some, Option.some.injEq] at hp
    exact ⟨hi, hp.symm⟩
  refine ⟨(List.range l.length).map f, ?_, ?_, ?_⟩
  · apply List.ext_getElem?
    intro i
    by_cases hi : i < l.length
    · rw [(hf i hi).1]; simp [hi]
    · simp [hi]
  · intro p hp
    obtain ⟨i, hi, rfl⟩ := List.mem_map.1 hp
    exact (hf i (List.mem_range.1 hi)).2.1
  · intro ad e j u hu
    obtain ⟨i, p, hp, hc⟩ := flatG_split _ j u hu
    obtain ⟨hi, rfl⟩ := hat i p hp
    obtain ⟨h1, h2⟩ := (hf i hi).2.2 ad e
    rcases hc with ⟨rfl, rfl⟩ | ⟨rfl, rfl⟩
    · exact h1
    · exact h2
theorem flatG_one {W : World} {ms : List (Grp × Value)} (h : ∀ p ∈ ms, RdI W p.2 p.1.mem) : ∀ u ∈ flatG ms, u.oneCell' = true := by
  intro u hu
  obtain ⟨p, hp, hm⟩ := List.mem_flatMap.1 hu
  obtain ⟨a, cap, e, _⟩ := h p hp
  simp only [List.mem_cons, List.not_mem_nil, or_false] at hm
  rcases hm with rfl | rfl
  · rfl
  · rw [e]; rfl

def sumTo (vs : List (Value × List Grp)) (k : Nat) : Nat := ((vs.take k).map fun p => p.2.length).sum
def catTo (vs : List (Value × List Grp)) (k : Nat) : List Grp := (vs.take k).flatMap (·.2)
theorem sumTo_succ (vs : List (Value × List Grp)) (k : Nat) (p : Value × List Grp) (h : vs[k]? = some p) : sumTo vs (k + 1) = sumTo vs k + p.2.length := by
  unfold sumTo
  rw [List.take_add_one, h]; simp
theorem catTo_succ (vs : List (Value × List Grp)) (k : Nat) (p : Value × List Grp) (h : vs[k]? = some p) : catTo vs (k + 1) = catTo vs k ++ p.2 := by
  unfold catTo
  rw [List.take_add_one, h]; simp

set_option maxHeartbeats 4000000 in
set_option maxRecDepth 100000 in
theorem concat_any (B : Nat) (vs : List (Value × List Grp)) (w : World) (hcell : ∀ j p, vs[j]? = some p → w.cell? ⟨B, j, none⟩ = some p.1 ∧ RdG w p.1 p.2) (hm : vs.length ≤ 10) (hlen : ∀ p ∈ vs, p.2.length ≤ 20) (hnil : ∀ p ∈ vs, ∀ n cap, p.1 = .slice none n cap → cap = 0) :
    Calls Try.prog 29 #[.slice (some ⟨B, 0, none⟩) vs.length vs.length] w fun e w' => ∃ r, e = .returned r ∧ RdG w' r (catTo vs vs.length) ∧ Below w.heap.size w w' := by
  have HCell := hid hcell; clear hcell
  have HLen := hid hlen; clear hlen
  have HNil := hid hnil; clear hnil
  obtain ⟨i0, hi1, hi2, hi3, hi4⟩ := info_parts infoGrp
  have HI := hid (And.intro hi1 (And.intro hi2 (And.intro hi3 hi4)))
  clear hi1 hi2 hi3 hi4
  go_enter Try.func29, Try.ntmps29
  go_wp2_with fail
  go_loopw [3, 11] (fun s i wr => ∃ k : Nat, k ≤ vs.length ∧ i = .int .i64 k ∧ (∃ z : Nat, s = .int .i64 z ∧ Hid (z = sumTo vs k) ∧ z ≤ k * 20) ∧ Below w.heap.size w wr) (fun _ i _ => vs.length - (intOf i).toNat)
  case atStart => exact ⟨0, by omega, rfl, ⟨0, rfl, rfl, by omega⟩, Below.refl _ _⟩
  case round =>
    obtain ⟨k, hk, rfl, ⟨z, rfl, HZ, hz⟩, hB⟩ := hrel
    by_cases hlt : k < vs.length
    · have hvk : vs[k]? = some vs[k] := List.getElem?_eq_getElem hlt
      obtain ⟨hc0, hg0⟩ := HCell.out k _ hvk
      have hl20 := HLen.out _ (List.mem_of_getElem? hvk)
      have HS := hid (sumTo_succ vs k _ hvk)
      generalize vs[k] = p at *
      obtain ⟨v, l⟩ := p
      dsimp only at hc0 hg0 hl20 HS
      obtain ⟨a, cap, rfl, hlc, hcm, _⟩ := hg0.open
      have hc := Below.keeps hB _ _ hc0
      clear hvk hc0
      go_wp2
      go_roundw
      case rel => exact ⟨k + 1, by omega, by go_num, ⟨z + l.length, by go_num, by rw [HS.out, HZ.out]; rfl, by omega⟩, hB⟩
      case measure => simp [intOf]; omega
    · obtain rfl : k = vs.length := by omega
      have hGr := hid (fun w' => grow_any z w' (by omega))
      go_wp2_with fail
      refine (hGr.out _).mono ?_
      rintro e w1 ⟨o, rfl, hown1, hB1⟩
      have HBo := hid hB
      clear hB hlt
      have hBow := below_tr HBo.out hB1
      go_wp2_with fail
      clear hk hz HZ hGr
      obtain ⟨wo, rfl⟩ : ∃ wo : World, wo = wr := ⟨_, rfl⟩
      go_loopw [6, 27] (fun o i wr => ∃ (k : Nat) (ks : List (Grp × Value)), k ≤ vs.length ∧ i = .int .i64 k ∧ Hid (ks.map (·.1) = catTo vs k) ∧ ks.length ≤ k * 20 ∧ wr.ownsRow wo.heap.size 40 2 o ks.length (flatG ks) ∧
          Hid (∀ p ∈ ks, RdI w p.2 p.1.mem) ∧ Below wo.heap.size wo wr) (fun _ i _ => vs.length - (intOf i).toNat)
      case atStart => exact ⟨0, [], by omega, rfl, rfl, by simp, hown1, (by unfold Hid; intro p hp; cases hp), hB1⟩
      case round =>
        clear hown1 hB1 hBow
        obtain ⟨k, ks, hk, rfl, HK, hkl, hown, HR, hB⟩ := hrel
        by_cases hlt : k < vs.length
        · have hvk : vs[k]? = some vs[k] := List.getElem?_eq_getElem hlt
          obtain ⟨hc0, hg0⟩ := HCell.out k _ hvk
          have hl20 := HLen.out _ (List.mem_of_getElem? hvk)
          have hnl := HNil.out _ (List.mem_of_getElem? hvk)
          have HS := hid (catTo_succ vs k _ hvk)
          generalize vs[k] = p at *
          obtain ⟨v, l⟩ := p
          dsimp only at hc0 hg0 hl20 HS hnl
          obtain ⟨a, cap, rfl, hlc, hcm, hcz⟩ := hg0.open
          obtain ⟨ms, hms, hmr, hmc⟩ := hg0.pairs
          have hml : ms.length = l.length := by rw [← hms, List.length_map]
          have hBw := below_tr HBo.out hB
          have hc := Below.keeps hBw _ _ hc0
          have HMS := hid hms
          have HMR := hid hmr
          have HMC := hid hmc
          clear hvk hc0 hms hmr hmc
          cases a with
          | none =>
            obtain rfl : cap = 0 := hnl _ _ rfl
            have hl0 : l.length = 0 := by omega
            have hl00 : l = [] := List.eq_nil_of_length_eq_zero hl0
            subst hl00
            have hrn := fun ty => run_append_owned_none (P := Try.prog) (w := wr) wo.heap.size 23 ty 40 i0 2 Try.underlying23 HI.out.1 _ _ _ hown
            go_wp2_with (at_builtin; refine Lib.wpList_append_run _ rfl _ _ _ _ rfl _ _ rfl rfl _ _ (hrn _) ?_)
            go_roundw
            case rel => exact ⟨k + 1, ks, by omega, by go_num, by rw [HS.out, List.append_nil]; exact HK.out, by omega, hown, HR, hB⟩
            case measure => simp [intOf]; omega
          | some ad =>
            go_wp2_with (at_builtin; refine wpList_append_own _ rfl _ _ 23 rfl wo.heap.size 40 i0 _ 2 40 Try.underlying23 HI.out.1 HI.out.2.1 HI.out.2.2.1 HI.out.2.2.2 rfl (by decide) _ _ _ rfl hown ad l.length cap (flatG ms) rfl (by rw [flatG_len, hml]) (fun j u h => Below.keeps hBw _ _ (HMC.out ad rfl j u h)) (flatG_one HMR.out) (by unfold maxLen; omega) (by omega) hB.size ?_; intro v' w4 hown' hgr _)
            go_roundw
            case rel =>
              refine ⟨k + 1, ks ++ ms, by omega, by go_num, ?_, by rw [List.length_append, hml]; omega, ?_, ?_, hB.grown hgr hB.size (fun b hb => (hown.lt b hb).1)⟩
              · rw [List.map_append, HK.out, HS.out, HMS.out]; rfl
              · rw [List.length_append, hml, show flatG (ks ++ ms) = flatG ks ++ flatG ms by simp [flatG]]; exact hown'
              · unfold Hid
                intro p hp
                rcases List.mem_append.1 hp with h | h
                · exact HR.out p h
                · exact HMR.out p h
            case measure => simp [intOf]; omega
        · obtain rfl : k = vs.length := by omega
          have hBw := below_tr HBo.out hB
          have hrz := RdG.of_own ks hown (fun p hp => (HR.out p hp).below hBw)
          go_wp2
          go_ret
          exact ⟨_, rfl, by rw [← HK.out]; exact hrz, hBw⟩
end Go.Proofs.Ytigaflmhdbgmdaa
