/-
  The frame of pagebreak.Verify's loop.
-/
import Derived.Test.YtlneimjenjpbnaaDoorMinI
import Derived.Test.YtlneimjenjpbnaaDoorPbk
import Derived.Test.YtlneimjenjpbnaaDoorPbc
namespace Go.Proofs.YtlneimjenjpbnaaDoor
open Go.RowKit

theorem leaveMksC {F : Fence} {n : Nat} {P : Program} {fn : Func} {tmps : Array Value} {R : Ending → World → Prop} {v : Value} {B : Nat} (I : World → Prop)
    (hI : ∀ W D, I W → B ≤ D → W.heap[D]? = some (.deferred (some [])) → I (W.putObj D (.deferred none))) (hres : ∀ W, I W → (results fn tmps).run P W = .ok v W) (hR : ∀ W, I W → R (.returned v) W) :
    ∀ (Ds : List Nat) (W : World), MkOk B Ds W → I W → LeavesInM F n P fn tmps R (mksD Ds) .returning W
  | [], W, _, h => ⟨_, hres W h, hR W h⟩
  | D :: Ds, W, hm, h => by
    obtain ⟨hB, hat⟩ := hm.at_ D (List.mem_cons_self ..)
    have hnd := List.nodup_cons.1 hm.nd
    refine ⟨by simp, .inl ⟨D, _, rfl, run_takeDeferred hat, leaveMksC I hI hres hR Ds _ ⟨hnd.2, fun E hE => ?_⟩ (hI W D h hB hat)⟩⟩
    have hne : E ≠ D := fun e => hnd.1 (e ▸ hE)
    obtain ⟨h1, h2⟩ := hm.at_ E (List.mem_cons_of_mem _ hE)
    exact ⟨h1, (World.putObj_heap_other hne).trans h2⟩
/-- The certificate that potentials are. -/
theorem pot_cert {p : PP} (h : PpOk p) {f : Nat} (hf : f < p.n) {x : Nat × Int} (hx : x ∈ pgs p f) : pot p x.1 < 0 ∨ (0 ≤ pot p f ∧ pot p f - x.2 ≤ pot p x.1) := by
  by_cases h1 : 0 ≤ pot p x.1
  · have := pot_le h hf hx h1
    exact .inr ⟨this.1, by omega⟩
  · exact .inl (by omega)
def pvfA (B5 B6 B N k : Nat) (ds : List Deferred) (u0 u1 u2 u3 u4 u7 u8 u11 u12 u13 u14 u15 u16 u17 u18 u19 u20 u21 u22 u23 u24 u25 u26 u27 u28 u29 u30 u31 u32 u33 u34 u35 u36 u37 u38 u39 u40 u41 u42 u43 u44 u45 u46 u47 u48 u49 u50 u51 u54 u55 u56 u57 u58 u59 u60 u61 u62 u63 u64 u65 u66 u67 u68 u69 u70 u71 u72 u73 u74 u75 u76 u77 u78 u79 u80 u81 u82 u83 u84 u85 u86 : Value) : Act :=
  { tmps := #[u0, u1, u2, u3, u4, .pointer (some ⟨B5, 0, none⟩), .pointer (some ⟨B6, 0, none⟩), u7, u8, .int .i64 N, .pointer (some ⟨B, 0, none⟩), u11, u12, u13, u14, u15, u16, u17, u18, u19, u20, u21, u22, u23, u24, u25, u26, u27, u28, u29, u30, u31, u32, u33, u34, u35, u36, u37, u38, u39, u40, u41, u42, u43, u44, u45, u46, u47, u48, u49, u50, u51, .int .i64 N, .int .i64 k, u54, u55, u56, u57, u58, u59, u60, u61, u62, u63, u64, u65, u66, u67, u68, u69, u70, u71, u72, u73, u74, u75, u76, u77, u78, u79, u80, u81, u82, u83, u84, u85, u86], defers := ds }
def PvfJ (w W0 : World) (B5 B6 B N m : Nat) (a : Act) (W : World) : Prop :=
  ∃ (Ds : List Nat) (k : Nat) (u0 u1 u2 u3 u4 u7 u8 u11 u12 u13 u14 u15 u16 u17 u18 u19 u20 u21 u22 u23 u24 u25 u26 u27 u28 u29 u30 u31 u32 u33 u34 u35 u36 u37 u38 u39 u40 u41 u42 u43 u44 u45 u46 u47 u48 u49 u50 u51 u54 u55 u56 u57 u58 u59 u60 u61 u62 u63 u64 u65 u66 u67 u68 u69 u70 u71 u72 u73 u74 u75 u76 u77 u78 u79 u80 u81 u82 u83 u84 u85 u86 : Value), a = pvfA B5 B6 B N k (mksD Ds) u0 u1 u2 u3 u4 u7 u8 u11 u12 u13 u14 u15 u16 u17 u18 u19 u20 u21 u22 u23 u24 u25 u26 u27 u28 u29 u30 u31 u32 u33 u34 u35 u36 u37 u38 u39 u40 u41 u42 u43 u44 u45 u46 u47 u48 u49 u50 u51 u54 u55 u56 u57 u58 u59 u60 u61 u62 u63 u64 u65 u66 u67 u68 u69 u70 u71 u72 u73 u74 u75 u76 u77 u78 u79 u80 u81 u82 u83 u84 u85 u86 ∧ k ≤ N ∧ m = N - k ∧ OldW W0 W ∧ Below w.heap.size w W ∧ MkOk w.heap.size Ds W
theorem PvfJ.elim {w W0 : World} {B5 B6 B N m : Nat} {P : Act → World → Prop} {a : Act} {W : World} (h : PvfJ w W0 B5 B6 B N m a W)
    (hP : ∀ (Ds : List Nat) (k : Nat) (u0 u1 u2 u3 u4 u7 u8 u11 u12 u13 u14 u15 u16 u17 u18 u19 u20 u21 u22 u23 u24 u25 u26 u27 u28 u29 u30 u31 u32 u33 u34 u35 u36 u37 u38 u39 u40 u41 u42 u43 u44 u45 u46 u47 u48 u49 u50 u51 u54 u55 u56 u57 u58 u59 u60 u61 u62 u63 u64 u65 u66 u67 u68 u69 u70 u71 u72 u73 u74 u75 u76 u77 u78 u79 u80 u81 u82 u83 u84 u85 u86 : Value), k ≤ N ∧ m = N - k ∧ OldW W0 W ∧ Below w.heap.size w W ∧ MkOk w.heap.size Ds W → P (pvfA B5 B6 B N k (mksD Ds) u0 u1 u2 u3 u4 u7 u8 u11 u12 u13 u14 u15 u16 u17 u18 u19 u20 u21 u22 u23 u24 u25 u26 u27 u28 u29 u30 u31 u32 u33 u34 u35 u36 u37 u38 u39 u40 u41 u42 u43 u44 u45 u46 u47 u48 u49 u50 u51 u54 u55 u56 u57 u58 u59 u60 u61 u62 u63 u64 u65 u66 u67 u68 u69 u70 u71 u72 u73 u74 u75 u76 u77 u78 u79 u80 u81 u82 u83 u84 u85 u86) W) : P a W := by
  obtain ⟨Ds, k, u0, u1, u2, u3, u4, u7, u8, u11, u12, u13, u14, u15, u16, u17, u18, u19, u20, u21, u22, u23, u24, u25, u26, u27, u28, u29, u30, u31, u32, u33, u34, u35, u36, u37, u38, u39, u40, u41, u42, u43, u44, u45, u46, u47, u48, u49, u50, u51, u54, u55, u56, u57, u58, u59, u60, u61, u62, u63, u64, u65, u66, u67, u68, u69, u70, u71, u72, u73, u74, u75, u76, u77, u78, u79, u80, u81, u82, u83, u84, u85, u86, rfl, h⟩ := h
  exact hP Ds k u0 u1 u2 u3 u4 u7 u8 u11 u12 u13 u14 u15 u16 u17 u18 u19 u20 u21 u22 u23 u24 u25 u26 u27 u28 u29 u30 u31 u32 u33 u34 u35 u36 u37 u38 u39 u40 u41 u42 u43 u44 u45 u46 u47 u48 u49 u50 u51 u54 u55 u56 u57 u58 u59 u60 u61 u62 u63 u64 u65 u66 u67 u68 u69 u70 u71 u72 u73 u74 u75 u76 u77 u78 u79 u80 u81 u82 u83 u84 u85 u86 h
end Go.Proofs.YtlneimjenjpbnaaDoor
