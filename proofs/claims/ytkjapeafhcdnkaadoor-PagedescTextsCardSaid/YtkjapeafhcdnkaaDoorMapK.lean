/-
  A map of the call's own whose keys are strings and whose elements are function values: what a store and a look do.
-/
import Derived.Test.YtkjapeafhcdnkaaDoorRws
import Derived.MapKept
namespace Go.Proofs.YtkjapeafhcdnkaaDoor
open Go.RowKit Go.MapKept

theorem run_put_fresh {P : Program} {w : World} {mty kt et : TypeId} {r : Nat} {es : Array MapEntry} {clock : Nat} {s : ByteArray} {value : Value} (hm : P.underlying mty = some (.map kt et)) (hd : P.underlying kt = some .string)
    (hb : w.heap[r]? = some (.map es clock)) (hks : ∀ x ∈ es.toList, ∃ t, x.key = .string t) (hne : ∀ x ∈ es.toList, x.key ≠ .string s) :
    (Instr.mapUpdate mty (.map (some r)) (.string s) value).run P w = .ok () { w with heap := w.heap.setIfInBounds r (.map (es.push { key := .string s, val := value, born := clock }) (clock + 1)) } := by
  have hk : IsKey .string (.string s) := by simp [IsKey]
  have hks2 : ∀ x ∈ es.toList, IsKey .string x.key := fun x hx => by obtain ⟨t, e⟩ := hks x hx; rw [e]; simp [IsKey]
  rcases findNow_spec hk es.toList 0 hks2 with ⟨h1, _⟩ | ⟨j, e, _, h2, h3⟩
  · simp [Instr.mapUpdate, run_underlying hm, Go.MapKept.run_getObj_map hb, run_checkKey hd hk, run_findKey hd h1, Go.MapKept.run_setObj_map _ hb, Result.andThen]
  · exact absurd h3 (hne e (List.mem_of_getElem? h2))
theorem run_look {P : Program} {w : World} {mty kt et : TypeId} {r : Nat} {es : Array MapEntry} {clock : Nat} {s : ByteArray} {z : Value} (hm : P.underlying mty = some (.map kt et)) (hd : P.underlying kt = some .string)
    (hb : w.heap[r]? = some (.map es clock)) (hks : ∀ x ∈ es.toList, ∃ t, x.key = .string t) (hz : (zeroValue et).run P w = .ok z w) :
    (∃ e ∈ es.toList, e.key = .string s ∧ (Instr.lookup mty (.map (some r)) (.string s) false).run P w = .ok e.val w) ∨ ((∀ e ∈ es.toList, e.key ≠ .string s) ∧ (Instr.lookup mty (.map (some r)) (.string s) false).run P w = .ok z w) := by
  have hk : IsKey .string (.string s) := by simp [IsKey]
  have hks2 : ∀ x ∈ es.toList, IsKey .string x.key := fun x hx => by obtain ⟨t, e⟩ := hks x hx; rw [e]; simp [IsKey]
  rcases findNow_spec hk es.toList 0 hks2 with ⟨h1, h0⟩ | ⟨j, e, h1, h2, h3⟩
  · exact .inr ⟨h0, by simp [Instr.lookup, run_underlying hm, Go.MapKept.run_getObj_map hb, run_checkKey hd hk, run_findKey hd h1, hz, Result.andThen]⟩
  · exact .inl ⟨e, List.mem_of_getElem? h2, h3, by simp [Instr.lookup, run_underlying hm, Go.MapKept.run_getObj_map hb, run_checkKey hd hk, run_findKey hd h1, Result.andThen]⟩
theorem row_setIf {W : World} {r B : Nat} {o : Obj} {cs : Array Value} {t : TypeId} (h : Row W B cs t) (hne : B ≠ r) : Row { W with heap := W.heap.setIfInBounds r o } B cs t := by
  unfold Row at *
  show (W.heap.setIfInBounds r o)[B]? = _
  rw [Array.getElem?_setIfInBounds_ne (Ne.symm hne)]; exact h
theorem below_setIf {W w : World} {B r : Nat} {o : Obj} (h : Below B W w) (hr : B ≤ r) : Below B W { w with heap := w.heap.setIfInBounds r o } :=
  h.trans ⟨rfl, rfl, rfl, by simp, fun i hi => by
    show (w.heap.setIfInBounds r o)[i]? = w.heap[i]?
    exact Array.getElem?_setIfInBounds_ne (by omega)⟩
end Go.Proofs.YtkjapeafhcdnkaaDoor
