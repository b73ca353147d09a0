/-
  sigla.Parse.
-/
import Derived.Test.YtigaflmhdbgmdaaDoorSplit
import Derived.Test.YtigaflmhdbgmdaaDoorCut
import Derived.Test.YtigaflmhdbgmdaaDoorPrint
import Derived.Test.YtigaflmhdbgmdaaDoorSl
namespace Go.Proofs.YtigaflmhdbgmdaaDoor
open Go.RowKit Go.Shelf

def mtB : ByteArray := ⟨#[]⟩
def holeB (l : List ByteArray) : Bool := l.any fun x => decide ((⟨#[]⟩ : ByteArray) = x)
def parseI (s : ByteArray) : Int := if 65536 < s.size then 4 else if s.size = 0 then 0 else if holeB (splitS s) = true then 3 else printI (splitS s)
def parseL (s : ByteArray) : List ByteArray := if s.size = 0 then [] else if parseI s = 0 then splitS s else []

theorem split_any (s : ByteArray) (m : Int) (w : World) (hs : s.size < 4294967281) (hm : w.cell? ⟨0, 0, none⟩ = some (.int .i64 m)) :
    Calls Tryd.prog 23 #[.string s, .string ⟨#[32]⟩] w fun e w' => ∃ v, e = .returned v ∧ RdS w' v (splitS s) ∧ Below w.heap.size w w' := by
  refine (Go.Proofs.Any.strings_Split { Tryd.laysM146 with } Tryd.laysM146.i9 s ⟨#[32]⟩ m w hs hm (by decide)).mono ?_
  rintro e w' ⟨rfl, rfl⟩
  refine ⟨_, rfl, ?_, below_al _ _⟩
  refine ⟨some ⟨w.heap.size, 0, none⟩, (splitS s).length, by rw [splitS_count], Nat.le_refl _, ?_, fun i x hx => ⟨w.heap.size, 0, rfl, ?_⟩⟩
  · have := splitS_len s; unfold maxLen; omega
  · rw [Nat.zero_add]
    refine cell_nw w _ _ i ?_
    simp only [List.getElem?_toArray, List.getElem?_map]
    rw [show Lib.splitB ⟨#[32]⟩ 0 (Lib.countB s ⟨#[32]⟩) s = splitS s from rfl, hx]; rfl

theorem splitS_szs (s : ByteArray) (h : s.size ≤ maxLen) : Szs (splitS s) := fun x hx => Nat.le_trans (splitS_size s x hx) h
theorem splitS_join (s : ByteArray) : Lib.join ((splitS s).map (·.data.toList)) [32] = s.data.toList := by rw [splitS_data]; exact join_cut 32 _
theorem joinB_split (s : ByteArray) : joinB (splitS s) = s := by
  unfold joinB
  rw [splitS_join]

theorem mt_ne {s : ByteArray} (h : ¬ s.size = 0) : s.toList.isEmpty = false := by
  rw [List.isEmpty_eq_false_iff]
  intro e; apply h
  rw [ByteArray.toList_eq] at e
  show s.data.size = 0
  rw [← Array.length_toList, e]; rfl

set_option maxHeartbeats 1000000 in
set_option maxRecDepth 100000 in
theorem parse_any (s : ByteArray) (m : Int) (w : World) (hs : s.size ≤ maxLen) (hm : w.cell? ⟨0, 0, none⟩ = some (.int .i64 m)) :
    Calls Tryd.prog 7 #[.string s] w fun e w' => ∃ v, e = .returned (.tuple #[v, .int .i64 (parseI s)]) ∧ RdS w' v (parseL s) ∧ Below w.heap.size w w' := by
  by_cases h64 : 65536 < s.size
  · have hI : parseI s = 4 := by unfold parseI; rw [if_pos h64]
    have hL : parseL s = [] := by unfold parseL; rw [hI]; split <;> rfl
    rw [hI, hL]
    have h1 : (65536 : Int) < (s.size : Int) := by omega
    go_enter Tryd.func7, Tryd.ntmps7
    go_wp2
    go_ret2
    exact ⟨_, rfl, Rd.nil _, Below.refl _ _⟩
  by_cases h0 : s.size = 0
  · have hI : parseI s = 0 := by unfold parseI; rw [if_neg h64, if_pos h0]
    have hL : parseL s = [] := by unfold parseL; rw [if_pos h0]
    rw [hI, hL]
    obtain rfl : s = ⟨#[]⟩ := by
      rcases s with ⟨a⟩
      congr 1
      exact Array.eq_empty_of_size_eq_zero h0
    clear h0 h64
    go_enter Tryd.func7, Tryd.ntmps7
    go_wp2
    go_ret2
    exact ⟨_, rfl, Rd.nil _, Below.refl _ _⟩
  have h1 : ¬ (65536 : Int) < (s.size : Int) := by omega
  have h2 := mt_ne h0
  have HS := hid (split_any s m w (by omega) hm)
  have HC := fun v w' h => hid (containsS_any v (splitS s) ⟨#[]⟩ w' h)
  have HP := fun v w' h => hid (print_any v (splitS s) w' h (splitS_szs s hs) (by rw [splitS_join]; show s.size ≤ _; omega))
  have hl := splitS_len s
  have HI : Hid (parseI s = if holeB (splitS s) = true then 3 else printI (splitS s)) := by unfold parseI; rw [if_neg h64, if_neg h0]; rfl
  have HL : Hid (parseL s = if parseI s = 0 then splitS s else []) := by unfold parseL; rw [if_neg h0]; rfl
  rw [show ((splitS s).any fun x => decide ((⟨#[]⟩ : ByteArray) = x)) = holeB (splitS s) from rfl] at HC
  generalize splitS s = l at *
  go_enter Tryd.func7, Tryd.ntmps7
  go_wp2_with fail
  refine HS.out.mono ?_
  rintro e w1 ⟨v, rfl, hr, hB1⟩
  clear HS
  obtain ⟨a, cap, rfl, hlc, hcm, _⟩ := hr.open
  cases hh : holeB l with
  | true =>
    rw [hh] at HI HC
    have hI : parseI s = 3 := by rw [HI.out]; rfl
    have hL : parseL s = [] := by rw [HL.out, hI]; rfl
    have HI2 := hid hI; have HL2 := hid hL
    clear HI HL hI hL
    go_wp2_with fail
    refine (HC _ _ hr).out.mono ?_
    rintro e w2 ⟨rfl, rfl⟩
    go_wp2
    go_ret2
    exact ⟨_, by rw [HI2.out]; rfl, by rw [HL2.out]; exact Rd.nil _, hB1⟩
  | false =>
    rw [hh] at HI HC
    have hI : parseI s = printI l := by rw [HI.out]; rfl
    go_wp2_with fail
    refine (HC _ _ hr).out.mono ?_
    rintro e w2 ⟨rfl, rfl⟩
    clear HC HI
    go_wp2_with fail
    refine (HP _ _ hr).out.mono ?_
    rintro e w2 ⟨rfl, hB2⟩
    have hr2 := hr.below hB2
    have HB := hid (below_tr hB1 hB2)
    by_cases hp : printI l = 0
    · have HI2 : Hid (parseI s = 0) := by rw [hI, hp]; rfl
      have HL2 : Hid (parseL s = l) := by rw [HL.out, hI, hp]; rfl
      clear hI HL
      rw [hp]
      clear hp
      go_wp2
      go_ret2
      exact ⟨_, by rw [HI2.out]; rfl, by rw [HL2.out]; exact hr2, HB.out⟩
    · have HI2 := hid hI
      have HL2 : Hid (parseL s = []) := by rw [HL.out, hI, if_neg hp]; rfl
      clear hI HL
      generalize printI l = pe at *
      have hp2 : (pe == 0) = false := by simpa using hp
      go_wp2
      go_ret2
      exact ⟨_, by rw [HI2.out]; rfl, by rw [HL2.out]; exact Rd.nil _, HB.out⟩
end Go.Proofs.YtigaflmhdbgmdaaDoor
