/-
  pagebreak.newSums: what is kept while it runs.
-/
import Derived.Test.YtlneimjenjpbnaaDoorJ01
import Derived.Test.YtlneimjenjpbnaaDoorPc
import Derived.Deep.RegionLaw
import Derived.BigRegion
namespace Go.Proofs.YtlneimjenjpbnaaDoor
open Go.RowKit

theorem infoIntP : (Tryd.prog.info? 3).map (fun i => (i.zero, i.size, i.bytes)) = some (some (.int .i64 0), 1, 8) := by kernel_rfl
/-- The first k sums. -/
def prefL (l : List Int) (k : Nat) : List Int := (List.range k).map (sumTo l)
theorem prefL_succ (l : List Int) (k : Nat) : prefL l (k + 1) = prefL l k ++ [sumTo l k] := by unfold prefL; rw [List.range_succ, List.map_append]; rfl
theorem prefL_len (l : List Int) (k : Nat) : (prefL l k).length = k := by unfold prefL; simp
theorem prefL_at (l : List Int) {k i : Nat} (h : i < k) : (prefL l k)[i]? = some (sumTo l i) := by unfold prefL; simp [h]
def mixM (p : PP) (i k nb : Nat) : List (List Int) := (List.range nb).map fun b => prefL (col p b) (if b < k then i + 1 else i)
theorem mixM_len (p : PP) (i k nb : Nat) : (mixM p i k nb).length = nb := by unfold mixM; simp
theorem mixM_at (p : PP) (i k nb : Nat) {b : Nat} (h : b < nb) : (mixM p i k nb)[b]? = some (prefL (col p b) (if b < k then i + 1 else i)) := by unfold mixM; simp [h]
theorem mixM_set (p : PP) {i k nb : Nat} (h : k < nb) : (mixM p i k nb).set k (prefL (col p k) (i + 1)) = mixM p i (k + 1) nb := by
  refine List.ext_getElem? fun b => ?_
  by_cases hb : b < nb
  · rw [mixM_at p i (k + 1) nb hb]
    by_cases hk : k = b
    · subst hk
      rw [List.getElem?_set_self (by rw [mixM_len]; exact h), if_pos (by omega)]
    · rw [List.getElem?_set_ne hk, mixM_at p i k nb hb]
      congr 2
      by_cases h1 : b < k
      · rw [if_pos h1, if_pos (by omega)]
      · rw [if_neg h1, if_neg (by omega)]
  · rw [List.getElem?_eq_none (by rw [List.length_set, mixM_len]; omega), List.getElem?_eq_none (by rw [mixM_len]; omega)]
theorem mixM_all (p : PP) (i nb : Nat) : mixM p i nb nb = mixM p (i + 1) 0 nb := by
  refine List.ext_getElem? fun b => ?_
  by_cases hb : b < nb
  · rw [mixM_at p i nb nb hb, mixM_at p (i + 1) 0 nb hb, if_pos hb, if_neg (by omega)]
  · rw [List.getElem?_eq_none (by rw [mixM_len]; omega), List.getElem?_eq_none (by rw [mixM_len]; omega)]
/-- The sums of a page problem, in a block. -/
structure SmR (W : World) (B : Nat) (p : PP) : Prop where
  ex : ∃ vl vn vp vs vb, Row W B #[vl, vn, vp, .int .i64 p.h, .int .i64 p.gap, vs, vb] 78 ∧ RdP5 W vl vn vp p ∧ RdI W vs (prefL p.lines (p.n + 1)) ∧ RdM W vb (mixM p (p.n + 1) 0 p.nb)
theorem SmR.below {W W' : World} {B : Nat} {p : PP} (h : SmR W B p) (hb : Below W.heap.size W W') : SmR W' B p := by
  obtain ⟨vl, vn, vp, vs, vb, h1, h2, h3, h4⟩ := h.ex
  exact ⟨vl, vn, vp, vs, vb, h1.below hb, h2.below hb, h3.below hb, h4.below hb⟩
structure NsI (w : World) (p : PP) (vl vn vp sl vb : Value) (L : List Int) (vs : List Value) (M : List (List Int)) (W : World) : Prop where
  pb : Row W w.heap.size (ppC p vl vn vp) 38
  sb : Row W (w.heap.size + 2) #[vl, vn, vp, .int .i64 p.h, .int .i64 p.gap, sl, vb] 78
  lo : W.ownsRow w.heap.size 3 1 sl L.length (L.map (Value.int .i64))
  bl : (vb = .slice none 0 0 ∧ vs = [] ∧ M = []) ∨ ∃ G, w.heap.size ≤ G ∧ vb = .slice (some ⟨G, 0, none⟩) M.length M.length ∧ OwM W w.heap.size G vs M
  ap : ∀ (i : Nat) (v : Value), vs[i]? = some v → v.ownBlock = none ∨ v.ownBlock ≠ sl.ownBlock
  bel : Below w.heap.size w W
theorem NsI.below {w : World} {p : PP} {vl vn vp sl vb : Value} {L : List Int} {vs : List Value} {M : List (List Int)} {W W' : World} (h : NsI w p vl vn vp sl vb L vs M W) (hb : Below W.heap.size W W') : NsI w p vl vn vp sl vb L vs M W' :=
  ⟨h.pb.below hb, h.sb.below hb, own_belowX h.lo hb, h.bl.imp id fun ⟨G, h0, h1, h2⟩ => ⟨G, h0, h1, h2.below hb⟩, h.ap, below_tr h.bel hb⟩
theorem NsI.al {w : World} {p : PP} {vl vn vp sl vb : Value} {L : List Int} {vs : List Value} {M : List (List Int)} {W : World} (h : NsI w p vl vn vp sl vb L vs M W) (o : Obj) : NsI w p vl vn vp sl vb L vs M (W.alloc o) := h.below (below_al W o)
theorem NsI.drew {w : World} {p : PP} {vl vn vp sl vb : Value} {L : List Int} {vs : List Value} {M : List (List Int)} {W : World} (h : NsI w p vl vn vp sl vb L vs M W) : NsI w p vl vn vp sl vb L vs M W.drew := h.below (Below.refl _ _).drew
/-- Behind 's.lines = append(s.lines, x)'. -/
theorem NsI.line {w : World} {p : PP} {vl vn vp sl vb : Value} {L : List Int} {vs : List Value} {M : List (List Int)} {W W' : World} {g n cap : Nat} {x : Int} (h : NsI w p vl vn vp sl vb L vs M W) (hg : W.grownBy W' sl.ownBlock) (hb : Below w.heap.size W W')
    (ho : W'.ownsRow w.heap.size 3 1 (.slice (some ⟨g, 0, none⟩) n cap) (L ++ [x]).length ((L ++ [x]).map (Value.int .i64))) (hat : sl.ownBlock = some g ∨ W.heap.size ≤ g) :
    NsI w p vl vn vp (.slice (some ⟨g, 0, none⟩) n cap) vb (L ++ [x]) vs M (W'.setCell ⟨w.heap.size + 2, 5, none⟩ (.slice (some ⟨g, 0, none⟩) n cap)) := by
  have n1 : sl.ownBlock ≠ some w.heap.size := row_own_neX h.pb h.lo (by decide)
  have n2 : sl.ownBlock ≠ some (w.heap.size + 2) := row_own_neX h.sb h.lo (by decide)
  have hpb : Row W' w.heap.size (ppC p vl vn vp) 38 := (hg.block _ h.pb.lt (fun e => n1 e.symm)).trans h.pb
  have hsb : Row W' (w.heap.size + 2) #[vl, vn, vp, .int .i64 p.h, .int .i64 p.gap, sl, vb] 78 := (hg.block _ h.sb.lt (fun e => n2 e.symm)).trans h.sb
  have hne : ∀ (i : Nat) (v : Value), vs[i]? = some v → v.ownBlock ≠ some (w.heap.size + 2) ∧ (v.ownBlock = none ∨ v.ownBlock ≠ some g) := by
    intro i v hv
    rcases h.bl with ⟨_, rfl, _⟩ | ⟨G, _, _, hm⟩
    · simp at hv
    · have hi : i < M.length := by rw [← hm.len]; exact (List.getElem?_eq_some_iff.1 hv).1
      have hr := hm.rows i v _ hv (List.getElem?_eq_getElem hi)
      refine ⟨row_own_neX h.sb hr (by decide), ?_⟩
      rcases h.ap i v hv with h1 | h1
      · exact .inl h1
      · rcases hat with ha | ha
        · exact .inr (by rw [← ha]; exact h1)
        · cases hb' : v.ownBlock with
          | none => exact .inl rfl
          | some k =>
            right
            intro e
            have := (own_lt hr hb').2
            cases e
            omega
  refine ⟨hpb.other _ _ (by simp), hsb.set 5 _, own_setX ho _ _ (row_own_neX hsb ho (by decide)), ?_, fun i v hv => (hne i v hv).2, (h.bel.trans hb).setCell (by simp) _⟩
  rcases h.bl with h1 | ⟨G, h0, h1, hm⟩
  · exact .inl h1
  · refine .inr ⟨G, h0, h1, ?_⟩
    have hG : sl.ownBlock ≠ some G := row_own_neX hm.outer h.lo (by decide)
    have hm2 := hm.grown hg hG h.ap
    have hGB : G ≠ w.heap.size + 2 := fun e => by
      have h3 : W.heap[G]? = _ := hm.outer
      have h4 : W.heap[w.heap.size + 2]? = _ := h.sb
      rw [e, h4] at h3
      cases h3
    exact hm2.grown (r := some (w.heap.size + 2)) ⟨rfl, rfl, rfl, by simp [World.setCell], fun k _ hk => Below.heap_setCell W' ⟨w.heap.size + 2, 5, none⟩ _ k (fun e => hk (by rw [e]))⟩ (by simp; omega) (fun i v hv => .inr (hne i v hv).1)
/-- Behind 's.blocks[i] = append(l, x)', or a row made anew. -/
theorem NsI.blk {w : World} {p : PP} {vl vn vp sl : Value} {L : List Int} {vs : List Value} {M : List (List Int)} {W W' : World} {G i g n cap : Nat} {v : Value} {row row' : List Int} (h : NsI w p vl vn vp sl (.slice (some ⟨G, 0, none⟩) M.length M.length) L vs M W)
    (hv : vs[i]? = some v) (hrow : M[i]? = some row) {r : Option Nat} (hg : W.grownBy W' r) (hr : r = none ∨ r = v.ownBlock) (hb : Below w.heap.size W W')
    (ho : W'.ownsRow w.heap.size 3 1 (.slice (some ⟨g, 0, none⟩) n cap) row'.length (row'.map (Value.int .i64))) (hat : v.ownBlock = some g ∨ W.heap.size ≤ g) :
    NsI w p vl vn vp sl (.slice (some ⟨G, 0, none⟩) (M.set i row').length (M.set i row').length) L (vs.set i (.slice (some ⟨g, 0, none⟩) n cap)) (M.set i row') (W'.setCell ⟨G, i, none⟩ (.slice (some ⟨g, 0, none⟩) n cap)) := by
  obtain ⟨hGlo, hm⟩ : w.heap.size ≤ G ∧ OwM W w.heap.size G vs M := by
    rcases h.bl with ⟨h1, _⟩ | ⟨G', h0, h1, hm⟩
    · cases h1
    · simp only [Value.slice.injEq, Option.some.injEq, Addr.mk.injEq, and_true] at h1
      subst h1; exact ⟨h0, hm⟩
  have hro := hm.rows i v row hv hrow
  have nr : ∀ (k : Nat) (cs : Array Value) (t : TypeId), Row W k cs t → t ≠ 3 → r ≠ some k := fun k cs t hk ht => by
    rcases hr with rfl | rfl
    · simp
    · exact row_own_neX hk hro ht
  have hpb := (hg.block _ h.pb.lt (fun e => nr _ _ _ h.pb (by decide) e.symm)).trans h.pb
  have hsb := (hg.block _ h.sb.lt (fun e => nr _ _ _ h.sb (by decide) e.symm)).trans h.sb
  have hG0 : w.heap.size ≠ G := fun e => by
    have h3 : W.heap[G]? = _ := hm.outer
    have h4 : W.heap[w.heap.size]? = _ := h.pb
    rw [← e, h4] at h3
    cases h3
  have hG2 : w.heap.size + 2 ≠ G := fun e => by
    have h3 : W.heap[G]? = _ := hm.outer
    have h4 : W.heap[w.heap.size + 2]? = _ := h.sb
    rw [← e, h4] at h3
    cases h3
  have hsl : W'.ownsRow w.heap.size 3 1 sl L.length (L.map (Value.int .i64)) := h.lo.kept hg (by
    rcases hr with rfl | rfl
    · cases sl.ownBlock <;> simp
    · cases hs : sl.ownBlock with
      | none => exact .inl rfl
      | some k =>
        right
        intro e
        rcases h.ap i v hv with h1 | h1
        · rw [h1] at e; cases e
        · exact h1 (by rw [← e, hs]))
  have hmp := hm.put hv hrow hg hr ho hat
  have hlen : (M.set i row').length = M.length := List.length_set
  have hout : Row W' G vs.toArray 32 := (hg.block _ hm.outer.lt (fun e => nr _ _ _ hm.outer (by decide) e.symm)).trans hm.outer
  refine ⟨Row.other hpb _ _ (by simpa using hG0), ?_, own_setX hsl _ _ (row_own_neX hout hsl (by decide)), .inr ⟨G, hGlo, rfl, hmp⟩, fun j u hu => ?_, (h.bel.trans hb).setCell hGlo _⟩
  · rw [hlen]; exact Row.other hsb _ _ (by simpa using hG2)
  · by_cases hji : i = j
    · subst hji
      have hil := (List.getElem?_eq_some_iff.1 hv).1
      rw [List.getElem?_set_self hil] at hu
      cases hu
      right
      intro e
      have e2 : sl.ownBlock = some g := e.symm
      rcases hat with ha | ha
      · rcases h.ap i v hv with h1 | h1
        · rw [h1] at ha; cases ha
        · exact h1 (by rw [ha, e2])
      · have := (own_lt h.lo e2).2
        omega
    · rw [List.getElem?_set_ne hji] at hu
      exact h.ap j u hu
theorem rep_at {α : Type} {n i : Nat} {a v : α} (h : (List.replicate n a)[i]? = some v) : v = a := (List.mem_replicate.1 (List.mem_of_getElem? h)).2
/-- Behind 's.blocks = make([][]int, n)'. -/
theorem NsI.made {w : World} {p : PP} {vl vn vp sl vb : Value} {L : List Int} {W W' : World} {G n : Nat} (h : NsI w p vl vn vp sl vb L [] [] W) (hb : Below W.heap.size W W') (hG : Row W' G (List.replicate n (Value.slice none 0 0)).toArray 32) (hlo : w.heap.size ≤ G) :
    NsI w p vl vn vp sl (.slice (some ⟨G, 0, none⟩) n n) L (List.replicate n (.slice none 0 0)) (List.replicate n []) (W'.setCell ⟨w.heap.size + 2, 6, none⟩ (.slice (some ⟨G, 0, none⟩) n n)) := by
  have h' := h.below hb
  have hGB : G ≠ w.heap.size + 2 := fun e => by
    have h3 : W'.heap[G]? = _ := hG
    have h4 : W'.heap[w.heap.size + 2]? = _ := h'.sb
    rw [e, h4] at h3
    simp only [Option.some.injEq, Obj.cells.injEq] at h3
    exact absurd h3.2.1 (by decide)
  refine ⟨h'.pb.other _ _ (by simp), h'.sb.set 6 _, own_setX h'.lo _ _ (row_own_neX h'.sb h'.lo (by decide)), .inr ⟨G, hlo, by simp, hG.other _ _ (by simpa using hGB), by simp, fun i v row hv hrow => ?_, fun i j v u _ hv _ => ?_⟩, fun i v hv => ?_, h'.bel.setCell (by simp) _⟩
  · obtain rfl := rep_at hv
    obtain rfl := rep_at hrow
    exact World.ownsRow_nil _ _ _ _
  · obtain rfl := rep_at hv
    exact .inl rfl
  · obtain rfl := rep_at hv
    exact .inl rfl
theorem mixM_zero (p : PP) (n : Nat) : mixM p 0 0 n = List.replicate n [] := by
  refine List.ext_getElem? fun b => ?_
  by_cases hb : b < n
  · rw [mixM_at p 0 0 n hb, List.getElem?_replicate, if_pos hb]; rfl
  · rw [List.getElem?_eq_none (by rw [mixM_len]; omega), List.getElem?_eq_none (by simp; omega)]
theorem infoSlP : (Tryd.prog.info? 32).map (fun i => (i.zero, i.size, i.bytes)) = some (some (.slice none 0 0), 1, 24) := by kernel_rfl
theorem NsI.vbf {w : World} {p : PP} {vl vn vp sl vb : Value} {L : List Int} {vs : List Value} {M : List (List Int)} {W : World} (h : NsI w p vl vn vp sl vb L vs M W) : ∃ av : Option Addr, vb = .slice av M.length M.length := by
  rcases h.bl with ⟨h1, _, h2⟩ | ⟨G, _, h1, _⟩
  · exact ⟨none, by rw [h1, h2]; rfl⟩
  · exact ⟨_, h1⟩
theorem NsI.bG {w : World} {p : PP} {vl vn vp sl : Value} {av : Option Addr} {n : Nat} {L : List Int} {vs : List Value} {M : List (List Int)} {W : World} (h : NsI w p vl vn vp sl (.slice av n n) L vs M W) (h0 : 0 < M.length) : ∃ G, av = some ⟨G, 0, none⟩ ∧ w.heap.size ≤ G ∧ OwM W w.heap.size G vs M := by
  rcases h.bl with ⟨_, _, h2⟩ | ⟨G, h3, h1, h4⟩
  · rw [h2] at h0; cases h0
  · simp only [Value.slice.injEq] at h1
    exact ⟨G, h1.1, h3, h4⟩
theorem NsI.rd {w : World} {p : PP} {vl vn vp sl vb : Value} {L : List Int} {vs : List Value} {M : List (List Int)} {W : World} (h : NsI w p vl vn vp sl vb L vs M W) (hr : RdP5 W vl vn vp p) (hL : L = prefL p.lines (p.n + 1)) (hM : M = mixM p (p.n + 1) 0 p.nb) (hb : p.nb ≤ 16) : SmR W (w.heap.size + 2) p := by
  refine ⟨vl, vn, vp, sl, vb, h.sb, hr, by rw [← hL]; exact Rd.of_own h.lo, ?_⟩
  rw [← hM]
  rcases h.bl with ⟨h1, _, h2⟩ | ⟨G, _, h1, h4⟩
  · rw [h1, h2]; exact RdM.nil _
  · rw [h1]
    exact h4.rd (Nat.le_refl _) (by rw [hM, mixM_len]; unfold maxLen; omega)
theorem own_sl {W : World} {base : Nat} {e : TypeId} {n : Nat} {v : Value} {xs : List Value} (h : W.ownsRow base e 1 v n xs) (h0 : 0 < n) : ∃ g cap, v = .slice (some ⟨g, 0, none⟩) n cap ∧ n ≤ cap ∧ ∀ (i : Nat) (x : Value), xs[i]? = some x → W.cell? ⟨g, i, none⟩ = some x := by
  rcases h.2 with ⟨_, hn⟩ | ⟨g, cap, cur, rfl, hb, hh, hc, hm, hs, ht⟩
  · omega
  · refine ⟨g, cap, rfl, hc, fun i x hx => ?_⟩
    have hr : Row W g cur e := hh
    refine hr.cell i ?_
    rw [← ht, List.getElem?_take] at hx
    split at hx
    · rw [← Array.getElem?_toList]; exact hx
    · cases hx
theorem NsI.lo2 {w : World} {p : PP} {vl vn vp sl vb : Value} {i : Nat} {vs : List Value} {M : List (List Int)} {W : World} (h : NsI w p vl vn vp sl vb (prefL p.lines (i + 1)) vs M W) : W.ownsRow w.heap.size 3 1 sl (i + 1) ((prefL p.lines (i + 1)).map (Value.int .i64)) := by
  have h := h.lo
  rw [prefL_len] at h
  exact h
theorem NsI.bk2 {w : World} {p : PP} {vl vn vp sl : Value} {L : List Int} {vs : List Value} {i k nb : Nat} {W : World} {G : Nat} {v : Value} (h : NsI w p vl vn vp sl (.slice (some ⟨G, 0, none⟩) nb nb) L vs (mixM p (i + 1) k nb) W) (hk : k < nb) (hv : vs[k]? = some v) : W.ownsRow w.heap.size 3 1 v (i + 1) ((prefL (col p k) (i + 1)).map (Value.int .i64)) := by
  obtain ⟨G', he, _, hm⟩ := h.bG (by rw [mixM_len]; omega)
  cases he
  have hro := hm.rows k v (prefL (col p k) (i + 1)) hv (by rw [mixM_at p (i + 1) k nb hk, if_neg (by omega)])
  rw [prefL_len] at hro
  exact hro
theorem NsI.sbG {w : World} {p : PP} {vl vn vp sl vb : Value} {L : List Int} {vs : List Value} {M : List (List Int)} {W W' : World} (h : NsI w p vl vn vp sl vb L vs M W) (hg : W.grownBy W' sl.ownBlock) : Row W' (w.heap.size + 1 + 1) #[vl, vn, vp, .int .i64 p.h, .int .i64 p.gap, sl, vb] 78 :=
  (hg.block _ h.sb.lt (fun e => row_own_neX h.sb h.lo (by decide) e.symm)).trans h.sb
theorem NsI.line2 {w : World} {p : PP} {vl vn vp sl vb : Value} {i : Nat} {vs : List Value} {M : List (List Int)} {W W' : World} {g cap : Nat} {x : Int} (h : NsI w p vl vn vp sl vb (prefL p.lines (i + 1)) vs M W) (hx : p.lines[i]? = some x) (hg : W.grownBy W' sl.ownBlock) (hb : Below w.heap.size W W')
    (ho : W'.ownsRow w.heap.size 3 1 (.slice (some ⟨g, 0, none⟩) (i + 1 + 1) cap) (i + 1 + 1) ((prefL p.lines (i + 1)).map (Value.int .i64) ++ [.int .i64 (sumTo p.lines i + x)])) (hat : sl.ownBlock = some g ∨ W.heap.size ≤ g) :
    NsI w p vl vn vp (.slice (some ⟨g, 0, none⟩) (i + 1 + 1) cap) vb (prefL p.lines (i + 1 + 1)) vs M (W'.setCell ⟨w.heap.size + 1 + 1, 5, none⟩ (.slice (some ⟨g, 0, none⟩) (i + 1 + 1) cap)) := by
  have e : prefL p.lines (i + 1 + 1) = prefL p.lines (i + 1) ++ [sumTo p.lines i + x] := by rw [prefL_succ, sumTo_succ hx]
  rw [e]
  refine NsI.line h hg hb ?_ hat
  rw [← e, prefL_len, e, List.map_append]
  exact ho
theorem NsI.blk2 {w : World} {p : PP} {vl vn vp sl : Value} {L : List Int} {vs : List Value} {i k nb : Nat} {W W' : World} {G g cap : Nat} {v : Value} {x : Int} (h : NsI w p vl vn vp sl (.slice (some ⟨G, 0, none⟩) nb nb) L vs (mixM p (i + 1) k nb) W)
    (hk : k < nb) (hv : vs[k]? = some v) (hx : (col p k)[i]? = some x) (hg : W.grownBy W' v.ownBlock) (hb : Below w.heap.size W W')
    (ho : W'.ownsRow w.heap.size 3 1 (.slice (some ⟨g, 0, none⟩) (i + 1 + 1) cap) (i + 1 + 1) ((prefL (col p k) (i + 1)).map (Value.int .i64) ++ [.int .i64 (sumTo (col p k) i + x)])) (hat : v.ownBlock = some g ∨ W.heap.size ≤ g) :
    NsI w p vl vn vp sl (.slice (some ⟨G, 0, none⟩) nb nb) L (vs.set k (.slice (some ⟨g, 0, none⟩) (i + 1 + 1) cap)) (mixM p (i + 1) (k + 1) nb) (W'.setCell ⟨G, k, none⟩ (.slice (some ⟨g, 0, none⟩) (i + 1 + 1) cap)) := by
  have e : prefL (col p k) (i + 1 + 1) = prefL (col p k) (i + 1) ++ [sumTo (col p k) i + x] := by rw [prefL_succ, sumTo_succ hx]
  have hml := mixM_len p (i + 1) k nb
  have h' : NsI w p vl vn vp sl (.slice (some ⟨G, 0, none⟩) (mixM p (i + 1) k nb).length (mixM p (i + 1) k nb).length) L vs (mixM p (i + 1) k nb) W := by rw [hml]; exact h
  have h2 := NsI.blk (row := prefL (col p k) (i + 1)) (row' := prefL (col p k) (i + 1 + 1)) (g := g) (n := i + 1 + 1) (cap := cap) h' hv (by rw [mixM_at p (i + 1) k nb hk, if_neg (by omega)]) hg (.inr rfl) hb (by rw [prefL_len, e, List.map_append]; exact ho) hat
  rw [List.length_set, hml, mixM_set p hk] at h2
  exact h2
/-- The cells of the sums' block, and of the blocks' slices, behind an append to a row of the blocks. -/
theorem NsI.bkG {w : World} {p : PP} {vl vn vp sl : Value} {L : List Int} {vs : List Value} {M : List (List Int)} {nb k : Nat} {W W' : World} {G : Nat} {v : Value} (h : NsI w p vl vn vp sl (.slice (some ⟨G, 0, none⟩) nb nb) L vs M W) (hn : M.length = nb)
    (hk : k < nb) (hv : vs[k]? = some v) (hg : W.grownBy W' v.ownBlock) : W'.cell? ⟨w.heap.size + 1 + 1, 6, none⟩ = some (.slice (some ⟨G, 0, none⟩) nb nb) ∧ W'.cell? ⟨G, k, none⟩ = some v ∧ W'.frozen? ⟨G, k, none⟩ = false := by
  obtain ⟨G', he, _, hm⟩ := h.bG (by omega)
  cases he
  have hro := hm.rows k v _ hv (List.getElem?_eq_getElem (by omega))
  have r1 : Row W' (w.heap.size + 2) _ _ := (hg.block _ h.sb.lt (fun e => row_own_neX h.sb hro (by decide) e.symm)).trans h.sb
  have r2 : Row W' G _ _ := (hg.block _ hm.outer.lt (fun e => row_own_neX hm.outer hro (by decide) e.symm)).trans hm.outer
  exact ⟨r1.cell 6 (x := .slice (some ⟨G, 0, none⟩) nb nb) rfl, r2.cell k (by simpa using hv), r2.frozen k⟩
theorem col_at (p : PP) (k : Nat) {i : Nat} {row : List Int} (h : p.notes[i]? = some row) : (col p k)[i]? = some (row.getD k 0) := by unfold col; rw [List.getElem?_map, h]; rfl
end Go.Proofs.YtlneimjenjpbnaaDoor
