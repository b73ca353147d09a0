/-
  Pages that the call itself gathers: a row of pages, each with a row of boxes of its own.
-/
import Derived.Test.YtkjapeafhcdnkaaDoorRdrs
import Derived.Test.YtkjapeafhcdnkaaDoorAp
import Derived.Test.YtkjapeafhcdnkaaDoorNum53
import Derived.Test.YtkjapeafhcdnkaaDoorBox
import Derived.Lib.OwnKind
import Derived.Laws.OwnMore
namespace Go.Proofs.YtkjapeafhcdnkaaDoor
open Go.RowKit

def Bx.cl (b : Bx) : List Value := b.cells.toList
def boxCs (l : List Bx) : List Value := l.flatMap Bx.cl
def pgCs (l : List (Pg × Value)) : List Value := l.flatMap fun ph => [.int .i64 ph.1.num, ph.2]
theorem pgCs_len (l : List (Pg × Value)) : (pgCs l).length = l.length * 2 := by
  induction l with
  | nil => rfl
  | cons a r ih =>
    have e : pgCs (a :: r) = [.int .i64 a.1.num, a.2] ++ pgCs r := rfl
    rw [e, List.length_append, ih, List.length_cons]; simp; omega
theorem pgCs_snoc (l : List (Pg × Value)) (a : Pg × Value) : pgCs (l ++ [a]) = pgCs l ++ [.int .i64 a.1.num, a.2] := by simp [pgCs]
theorem boxCs_snoc (l : List Bx) (b : Bx) : boxCs (l ++ [b]) = boxCs l ++ b.cl := by simp [boxCs]
theorem own_ne {W : World} {B1 B2 : Nat} {e1 e2 : TypeId} {s1 s2 n1 n2 : Nat} {v1 v2 : Value} {x1 x2 : List Value} (h1 : W.ownsRow B1 e1 s1 v1 n1 x1) (h2 : W.ownsRow B2 e2 s2 v2 n2 x2) (he : e1 ≠ e2) {g : Nat} (hg : v1.ownBlock = some g) : v2.ownBlock ≠ some g := by
  intro h
  obtain ⟨c1, f1, a1⟩ := Lib.ownsRow_kind h1 g hg
  obtain ⟨c2, f2, a2⟩ := Lib.ownsRow_kind h2 g h
  rw [a1] at a2; cases a2; exact he rfl
theorem kept_of {W w' : World} {row : Option Nat} {B : Nat} {e : TypeId} {s n : Nat} {v : Value} {xs : List Value} (h : W.ownsRow B e s v n xs) (hg : W.grownBy w' row) (hne : ∀ g, v.ownBlock = some g → row ≠ some g) : w'.ownsRow B e s v n xs :=
  h.kept hg (by
    cases ho : v.ownBlock with
    | none => exact .inl rfl
    | some g => exact .inr (fun e => hne g ho e.symm))

/-- v is a row of pages of the call's own, from block base on; they are ps. -/
structure PgI (W : World) (base : Nat) (v : Value) (ps : List Pg) : Prop where
  ex : ∃ phs : List (Pg × Value), phs.map (·.1) = ps ∧ W.ownsRow base 34 2 v ps.length (pgCs phs) ∧ (∀ ph ∈ phs, W.ownsRow base 42 6 ph.2 ph.1.bx.length (boxCs ph.1.bx)) ∧
    phs.Pairwise fun a b => ∀ g, a.2.ownBlock = some g → b.2.ownBlock ≠ some g
theorem PgI.nil (W : World) (base : Nat) : PgI W base (.slice none 0 0) [] := ⟨⟨[], rfl, ⟨rfl, .inl ⟨rfl, rfl⟩⟩, by simp, .nil⟩⟩
theorem PgI.below {W W' : World} {base : Nat} {v : Value} {ps : List Pg} (h : PgI W base v ps) (hb : Below W.heap.size W W') : PgI W' base v ps := by
  obtain ⟨phs, h1, h2, h3, h4⟩ := h.ex
  exact ⟨⟨phs, h1, own_below h2 hb, fun ph hp => own_below (h3 ph hp) hb, h4⟩⟩
theorem PgI.add {W w' : World} {base : Nat} {v v' : Value} {ps : List Pg} {n : Int} {phs : List (Pg × Value)} (h1 : phs.map (·.1) = ps) (h2 : W.ownsRow base 34 2 v ps.length (pgCs phs)) (h3 : ∀ ph ∈ phs, W.ownsRow base 42 6 ph.2 ph.1.bx.length (boxCs ph.1.bx))
    (h4 : phs.Pairwise fun a b => ∀ g, a.2.ownBlock = some g → b.2.ownBlock ≠ some g) (hown : w'.ownsRow base 34 2 v' (ps.length + 1) (pgCs phs ++ [.int .i64 n, .slice none 0 0])) (hg : W.grownBy w' v.ownBlock) : PgI w' base v' (ps ++ [⟨n, []⟩]) := by
  refine ⟨⟨phs ++ [(⟨n, []⟩, .slice none 0 0)], by simp [h1], ?_, ?_, ?_⟩⟩
  · rw [pgCs_snoc, List.length_append]; exact hown
  · intro ph hp
    rcases List.mem_append.1 hp with hp | hp
    · exact kept_of (h3 ph hp) hg (fun g hgo => own_ne (h3 ph hp) h2 (by decide) hgo)
    · have : ph = (⟨n, []⟩, .slice none 0 0) := by simpa using hp
      subst this
      exact ⟨rfl, .inl ⟨rfl, rfl⟩⟩
  · rw [List.pairwise_append]
    refine ⟨h4, List.pairwise_singleton _ _, fun a _ b hb g _ => ?_⟩
    have : b = (⟨n, []⟩, .slice none 0 0) := by simpa using hb
    subst this
    simp [Value.ownBlock]
theorem PgI.push {W w1 : World} {base gv capv : Nat} {init : List (Pg × Value)} {p : Pg} {h h' : Value} {b : Bx}
    (h2 : W.ownsRow base 34 2 (.slice (some ⟨gv, 0, none⟩) (init.length + 1) capv) (init.length + 1) (pgCs (init ++ [(p, h)])))
    (h3 : ∀ ph ∈ init ++ [(p, h)], W.ownsRow base 42 6 ph.2 ph.1.bx.length (boxCs ph.1.bx)) (h4 : (init ++ [(p, h)]).Pairwise fun a b => ∀ g, a.2.ownBlock = some g → b.2.ownBlock ≠ some g)
    (hown : w1.ownsRow base 42 6 h' (p.bx.length + 1) (boxCs p.bx ++ b.cl)) (hg : W.grownBy w1 h.ownBlock) (hh : ∀ g, h'.ownBlock = some g → h.ownBlock = some g ∨ W.heap.size ≤ g) :
    PgI (w1.setCell ⟨gv, init.length * 2 + 1, none⟩ h') base (.slice (some ⟨gv, 0, none⟩) (init.length + 1) capv) (init.map (·.1) ++ [⟨p.num, p.bx ++ [b]⟩]) ∧ w1.grownBy (w1.setCell ⟨gv, init.length * 2 + 1, none⟩ h') (some gv) := by
  have hlast := h3 (p, h) (by simp)
  have hv1 := kept_of h2 hg (fun g hgo => own_ne h2 hlast (by decide) hgo)
  obtain ⟨hst, hgs⟩ := hv1.stored (init.length * 2 + 1) h'
  have hset : (pgCs (init ++ [(p, h)])).set (init.length * 2 + 1) h' = pgCs (init ++ [(⟨p.num, p.bx ++ [b]⟩, h')]) := by
    rw [pgCs_snoc, pgCs_snoc, List.set_append_right _ _ (by rw [pgCs_len]; omega), pgCs_len]
    rw [show init.length * 2 + 1 - init.length * 2 = 1 by omega]; rfl
  rw [hset] at hst
  rw [List.pairwise_append] at h4
  obtain ⟨p1, _, p3⟩ := h4
  refine ⟨⟨⟨init ++ [(⟨p.num, p.bx ++ [b]⟩, h')], by simp, ?_, ?_, ?_⟩⟩, hgs⟩
  · rw [List.length_append, List.length_map]; exact hst
  · intro ph hp
    rcases List.mem_append.1 hp with hp | hp
    · have a1 := h3 ph (List.mem_append.2 (.inl hp))
      have a2 := kept_of a1 hg (fun g hgo => p3 ph hp (p, h) (by simp) g hgo)
      exact kept_of a2 hgs (fun g hgo e => own_ne a2 hv1 (by decide) hgo e)
    · have : ph = (⟨p.num, p.bx ++ [b]⟩, h') := by simpa using hp
      subst this
      show World.ownsRow _ base 42 6 h' (p.bx ++ [b]).length (boxCs (p.bx ++ [b]))
      rw [boxCs_snoc, List.length_append]
      exact kept_of hown hgs (fun g hgo e => own_ne hown hv1 (by decide) hgo e)
  · rw [List.pairwise_append]
    refine ⟨p1, List.pairwise_singleton _ _, fun a ha c hc g hga hgc => ?_⟩
    have : c = (⟨p.num, p.bx ++ [b]⟩, h') := by simpa using hc
    subst this
    rcases hh g hgc with e | e
    · exact p3 a ha (p, h) (by simp) g hga e
    · have := ((h3 a (List.mem_append.2 (.inl ha))).lt g hga).2
      omega
/-- What is gathered reads as pages. -/
theorem PgI.rd {W : World} {base : Nat} {v : Value} {ps : List Pg} (h : PgI W base v ps) : RdPg W v ps := by
  obtain ⟨phs, h1, h2, h3, h4⟩ := h.ex
  subst h1
  rcases h2.2 with ⟨rfl, hn⟩ | ⟨g, cap, cur, rfl, hb, hh, hc, hm, hs, ht⟩
  · have : phs = [] := by simpa using hn
    subst this
    exact RdPg.nil W
  · refine ⟨some ⟨g, 0, none⟩, cap, rfl, hc, hm, fun i p hp => ?_⟩
    rw [List.getElem?_map, Option.map_eq_some_iff] at hp
    obtain ⟨ph, hph, rfl⟩ := hp
    have hi := (List.getElem?_eq_some_iff.1 hph).1
    have hat : ∀ j, j < 2 → W.cell? ⟨g, i * 2 + j, none⟩ = [Value.int .i64 ph.1.num, ph.2][j]? := by
      intro j hj
      rw [World.ownsRow.cellAt h2 (i * 2 + j) (by simp; omega)]
      clear hs ht h2 h3 h4 hc
      have key : ∀ (l : List (Pg × Value)) (i : Nat), l[i]? = some ph → (pgCs l)[i * 2 + j]? = [Value.int .i64 ph.1.num, ph.2][j]? := by
        intro l
        induction l with
        | nil => intro i h; simp at h
        | cons a r ih =>
          intro i h
          have e : pgCs (a :: r) = [.int .i64 a.1.num, a.2] ++ pgCs r := rfl
          cases i with
          | zero =>
            have : a = ph := by simpa using h
            subst this
            rw [e, List.getElem?_append_left (by simp; omega)]; simp
          | succ i =>
            rw [e, List.getElem?_append_right (by simp; omega)]
            rw [show (i + 1) * 2 + j - [Value.int .i64 a.1.num, a.2].length = i * 2 + j by simp; omega]
            exact ih i (by simpa using h)
      exact key phs i hph
    have hb2 := h3 ph (List.mem_of_getElem? hph)
    refine ⟨g, 0, ph.2, rfl, by rw [Nat.zero_add]; exact hat 0 (by omega), by rw [Nat.zero_add]; exact hat 1 (by omega), ?_⟩
    rcases hb2.2 with ⟨e0, hn⟩ | ⟨g2, cap2, cur2, e0, hb2', hh2, hc2, hm2, hs2, ht2⟩
    · have : ph.1.bx = [] := List.eq_nil_of_length_eq_zero hn
      rw [this, e0]; exact RdB.nil W
    · rw [e0]
      refine ⟨some ⟨g2, 0, none⟩, cap2, rfl, hc2, hm2, fun i x hx => ?_⟩
      have hi2 := (List.getElem?_eq_some_iff.1 hx).1
      rw [e0] at hb2
      have hat2 : ∀ j, j < 6 → W.cell? ⟨g2, i * 6 + j, none⟩ = x.cl[j]? := by
        intro j hj
        rw [World.ownsRow.cellAt hb2 (i * 6 + j) (by omega)]
        have key : ∀ (l : List Bx) (i : Nat), l[i]? = some x → (boxCs l)[i * 6 + j]? = x.cl[j]? := by
          intro l
          induction l with
          | nil => intro i h; simp at h
          | cons a r ih =>
            intro i h
            have e : boxCs (a :: r) = a.cl ++ boxCs r := rfl
            have hl : a.cl.length = 6 := rfl
            cases i with
            | zero =>
              have : a = x := by simpa using h
              subst this
              rw [e, List.getElem?_append_left (by omega)]; simp
            | succ i =>
              rw [e, List.getElem?_append_right (by omega)]
              rw [show (i + 1) * 6 + j - a.cl.length = i * 6 + j by omega]
              exact ih i (by simpa using h)
        exact key _ i hx
      refine ⟨g2, 0, rfl, ?_⟩
      rw [Nat.zero_add]
      exact ⟨hat2 0 (by omega), hat2 1 (by omega), hat2 2 (by omega), hat2 3 (by omega), hat2 4 (by omega), hat2 5 (by omega)⟩

theorem infoPg : (Tryd.prog.info? 34).map (fun i => (i.zero, i.size, i.bytes)) = some (some (.agg #[.int .i64 0, .slice none 0 0]), 2, 32) := by kernel_rfl
theorem infoBx : (Tryd.prog.info? 42).map (fun i => (i.zero, i.size, i.bytes)) = some (some (.agg #[.int .i64 0, .int .i64 0, .int .i64 0, .int .i64 0, .int .i64 0, .string ⟨#[]⟩]), 6, 56) := by kernel_rfl

set_option maxRecDepth 100000 in
set_option maxHeartbeats 2000000 in
theorem rd1_any (v : Value) (ps : List Pg) (s : ByteArray) (base : Nat) (w : World) (he : Env w) (h : PgI w base v ps) (hb : base ≤ w.heap.size) (hs : s.size ≤ 1048576) (hn : ps.length ≤ 1000000) :
    Calls Tryd.prog 71 #[v, .string s] w fun e w' => ∃ v', e = .returned (.tuple #[v', .bool (nokB s)]) ∧ PgI w' base v' (ps ++ [⟨decV s, []⟩]) ∧ Below base w w' := by
  have HN := hid (number_any s w he hs)
  have HP := hid h
  go_enter Tryd.func71, Tryd.ntmps71
  go_wp2_with fail
  refine HN.out.mono ?_
  rintro e w1 ⟨rfl, hB1⟩
  have HP1 := hid (HP.out.below hB1)
  obtain ⟨phs, h1, h2, h3, h4⟩ := HP1.out.ex
  have HB1 := hid (hB1.mono hb)
  have hsz : base ≤ w1.heap.size := Nat.le_trans hb hB1.size
  have HADD := fun w' v' n a b => hid (PgI.add (w' := w') (v' := v') (n := n) h1 h2 h3 h4 a b)
  have HH2 := hid h2
  clear h1 h2 h3 h4 HN HP HP1 hB1 h
  go_wp2_with (at_builtin; refine wpList_ap rfl _ _ 22 rfl base 34 Tryd.underlying22 infoPg rfl (by decide) (by decide) v ps.length (pgCs phs) rfl HH2.out [.int .i64 (decV s), .slice none 0 0] rfl (by simp [Value.oneCell']) rfl rfl (by omega) hsz ?_; intro v' w2 hown2 hb2 hg2)
  go_ret2
  exact ⟨v', rfl, (HADD _ _ _ hown2 hg2).out, HB1.out.trans hb2⟩
end Go.Proofs.YtkjapeafhcdnkaaDoor
