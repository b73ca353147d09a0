/-
  A function that leaves several marks of loops over functions (such a loop inside an ordinary one).
-/
import Derived.Test.YtlneimjenjpbnaaBox
namespace Go.Proofs.Ytlneimjenjpbnaa
open Go.RowKit

def mksD (Ds : List Nat) : List Deferred := Ds.map fun D => { target := .collected D, args := #[] }
structure MkOk (B : Nat) (Ds : List Nat) (W : World) : Prop where
  nd : Ds.Nodup
  at_ : ∀ D ∈ Ds, B ≤ D ∧ W.heap[D]? = some (.deferred (some []))
theorem MkOk.nil (B : Nat) (W : World) : MkOk B [] W := ⟨List.nodup_nil, fun D h => by cases h⟩
theorem MkOk.keeps {B n : Nat} {Ds : List Nat} {W W' : World} (h : MkOk B Ds W) (hn : n ≤ B) (hk : KeepsFrom n W W') : MkOk B Ds W' :=
  ⟨h.nd, fun D hD => ⟨(h.at_ D hD).1, hk.2 D _ (Nat.le_trans hn (h.at_ D hD).1) (h.at_ D hD).2 rfl⟩⟩
theorem MkOk.below {B : Nat} {Ds : List Nat} {W W' : World} (h : MkOk B Ds W) (hb : Below W.heap.size W W') : MkOk B Ds W' := h.keeps (Nat.zero_le _) (keepsFrom_below hb)
theorem MkOk.lt {B : Nat} {Ds : List Nat} {W : World} (h : MkOk B Ds W) {D : Nat} (hD : D ∈ Ds) : D < W.heap.size := (Array.getElem?_eq_some_iff.1 (h.at_ D hD).2).1
/-- One mark more, of a block that was not there. -/
theorem MkOk.cons {B n : Nat} {Ds : List Nat} {W W' : World} (h : MkOk B Ds W) (hk : KeepsFrom n W W') (hn : n ≤ B) {D : Nat} (hD : W.heap.size ≤ D) (hB : B ≤ D) (hat : W'.heap[D]? = some (.deferred (some []))) : MkOk B (D :: Ds) W' := by
  have h' := h.keeps hn hk
  refine ⟨List.nodup_cons.2 ⟨fun hm => by have := h.lt hm; omega, h.nd⟩, fun E hE => ?_⟩
  rcases List.mem_cons.1 hE with rfl | hE
  · exact ⟨hB, hat⟩
  · exact h'.at_ E hE
theorem leaveMks {F : Fence} {n : Nat} {P : Program} {fn : Func} {tmps : Array Value} {R : Ending → World → Prop} {t : Tmp} (hres : fn.results = #[.tmp t]) {B : Nat} (I : World → Prop)
    (hI : ∀ W D, I W → B ≤ D → W.heap[D]? = some (.deferred (some [])) → I (W.putObj D (.deferred none))) (hR : ∀ W, I W → R (.returned (tmps.getD t undef)) W) :
    ∀ (Ds : List Nat) (W : World), MkOk B Ds W → I W → LeavesInM F n P fn tmps R (mksD Ds) .returning W
  | [], W, _, h => leave1 hres (hR W h)
  | D :: Ds, W, hm, h => by
    obtain ⟨hB, hat⟩ := hm.at_ D (List.mem_cons_self ..)
    have hnd := List.nodup_cons.1 hm.nd
    refine ⟨by simp, .inl ⟨D, _, rfl, run_takeDeferred hat, leaveMks hres I hI hR Ds _ ⟨hnd.2, fun E hE => ?_⟩ (hI W D h hB hat)⟩⟩
    have hne : E ≠ D := fun e => hnd.1 (e ▸ hE)
    obtain ⟨h1, h2⟩ := hm.at_ E (List.mem_cons_of_mem _ hE)
    exact ⟨h1, (World.putObj_heap_other hne).trans h2⟩
end Go.Proofs.Ytlneimjenjpbnaa
