/-
  slices.Clone of boxes, pagedesc.Move.
-/
import Derived.Test.YtkjapeafhcdnkaaDoorTwo
import Derived.Test.YtkjapeafhcdnkaaDoorBnd53
import Derived.Test.YtkjapeafhcdnkaaDoorPgI
import Derived.Test.YtkjapeafhcdnkaaDoorRws
import Derived.Deep.QuietTactic
import Derived.BigQuiet
import Derived.IntWalk
import Derived.Lib.SliceRun
import Derived.WalkSpells
namespace Go.Proofs.YtkjapeafhcdnkaaDoor
open Go.RowKit

theorem boxCs_len (l : List Bx) : (boxCs l).length = l.length * 6 := by
  induction l with
  | nil => rfl
  | cons a r ih =>
    have e : boxCs (a :: r) = a.cl ++ boxCs r := rfl
    have h6 : a.cl.length = 6 := rfl
    rw [e, List.length_append, ih, List.length_cons, h6]; omega
theorem boxCs_at : ∀ (l : List Bx) (i j : Nat) (x : Bx), l[i]? = some x → j < 6 → (boxCs l)[i * 6 + j]? = x.cl[j]? := by
  intro l
  induction l with
  | nil => intro i j x h; simp at h
  | cons a r ih =>
    intro i j x h hj
    have e : boxCs (a :: r) = a.cl ++ boxCs r := rfl
    have hl : a.cl.length = 6 := rfl
    cases i with
    | zero =>
      have : a = x := by simpa using h
      subst this
      rw [e, List.getElem?_append_left (by omega)]; simp
    | succ i =>
      rw [e, List.getElem?_append_right (by omega)]
      rw [show (i + 1) * 6 + j - a.cl.length = i * 6 + j by omega]
      exact ih i j x (by simpa using h) hj
theorem RdB.of_own {W : World} {base : Nat} {v : Value} {l : List Bx} (h : W.ownsRow base 42 6 v l.length (boxCs l)) : RdB W v l := by
  rcases h.2 with ⟨rfl, hn⟩ | ⟨g, cap, cur, rfl, hb', hh, hc, hm, hs, ht⟩
  · have : l = [] := List.eq_nil_of_length_eq_zero hn
    rw [this]; exact RdB.nil W
  · refine ⟨some ⟨g, 0, none⟩, cap, rfl, hc, hm, fun i x hx => ?_⟩
    have hi := (List.getElem?_eq_some_iff.1 hx).1
    have hat : ∀ j, j < 6 → W.cell? ⟨g, i * 6 + j, none⟩ = x.cl[j]? := by
      intro j hj
      rw [World.ownsRow.cellAt h (i * 6 + j) (by omega)]
      exact boxCs_at _ i j x hx hj
    refine ⟨g, 0, rfl, ?_⟩
    rw [Nat.zero_add]
    exact ⟨hat 0 (by omega), hat 1 (by omega), hat 2 (by omega), hat 3 (by omega), hat 4 (by omega), hat 5 (by omega)⟩
theorem boxCs_one (l : List Bx) : ∀ u ∈ boxCs l, u.oneCell' = true := by
  intro u hu
  obtain ⟨b, _, hm⟩ := List.mem_flatMap.1 hu
  simp only [Bx.cl, Bx.cells, List.mem_cons, List.not_mem_nil, or_false] at hm
  rcases hm with rfl | rfl | rfl | rfl | rfl | rfl <;> rfl
/-- The cells of boxes, in order. -/
theorem RdB.flat {W : World} {b off n cap : Nat} {l : List Bx} (h : RdB W (.slice (some ⟨b, off, none⟩) n cap) l) : ∀ j u, (boxCs l)[j]? = some u → W.cell? ⟨b, off + j, none⟩ = some u := by
  obtain ⟨a', cap', e, _, _, hc⟩ := h
  cases e
  intro j u hu
  have hj := (List.getElem?_eq_some_iff.1 hu).1
  rw [boxCs_len] at hj
  have hx : l[j / 6]? = some (l[j / 6]'(by omega)) := List.getElem?_eq_getElem _
  obtain ⟨b', off', e, c0, c1, c2, c3, c4, c5⟩ := hc _ _ hx
  cases e
  have hat := boxCs_at l (j / 6) (j % 6) _ hx (by omega)
  rw [show j / 6 * 6 + j % 6 = j by omega, hu] at hat
  generalize l[j / 6]'(by omega) = x at *
  have hq : off + j = off + j / 6 * 6 + j % 6 := by omega
  rw [hq]
  have h6 : j % 6 < 6 := by omega
  generalize j % 6 = r at *
  match r, h6 with
  | 0, _ => rw [hat]; exact c0
  | 1, _ => rw [hat]; exact c1
  | 2, _ => rw [hat]; exact c2
  | 3, _ => rw [hat]; exact c3
  | 4, _ => rw [hat]; exact c4
  | 5, _ => rw [hat]; exact c5

set_option maxHeartbeats 2000000 in
set_option maxRecDepth 100000 in
theorem cloneB_any (v : Value) (l : List Bx) (w : World) (hr : RdB w v l) (hl : l.length ≤ 4096) :
    Calls Tryd.prog 68 #[v] w fun e w' => ∃ v', e = .returned v' ∧ w'.ownsRow w.heap.size 42 6 v' l.length (boxCs l) ∧ Below w.heap.size w w' := by
  have HR := hid hr
  obtain ⟨ad, cap, rfl, hlc, hcm, hcell⟩ := hr.open
  have q22 : ∀ (w : World) (a : Option Addr) (n c n' c' : Nat), (binOp .eql 32 (.slice a n c) (.slice none n' c')).run Tryd.prog w = .ok (.bool a.isNone) w := fun w a n c n' c' => Lib.run_eql_slice_nil w _ _ a n c n' c' Tryd.underlying32
  cases ad with
  | none =>
    have hl0 : l = [] := by
      cases l with
      | nil => rfl
      | cons a r =>
        obtain ⟨x, b, off, _, e, _⟩ := hcell 0 (by simp)
        cases e
    subst hl0
    clear hcell hr HR
    go_enter Tryd.func68, Tryd.ntmps68
    go_wp2
    go_ret
    exact ⟨_, rfl, World.ownsRow_nil _ _ _ _, Below.refl _ _⟩
  | some a =>
    obtain ⟨i0, hi, hz0, hz1, hz2⟩ := info_parts infoBx
    have HN : Hid (∀ j u, (boxCs l)[j]? = some u → (w.alloc (.cells #[] 42)).cell? (a.add j) = some u) := by
      intro j u hu
      have hj := (List.getElem?_eq_some_iff.1 hu).1
      rw [boxCs_len] at hj
      obtain ⟨x, b, off, _, e, _⟩ := hcell 0 (by omega)
      cases e
      rw [Go.WideShapes.add_plain]
      exact Below.keeps (below_al w _) _ _ (HR.out.flat j u hu)
    have HI := hid (And.intro hi (And.intro hz0 (And.intro hz1 hz2)))
    have HL1 := hid (boxCs_len l)
    clear hcell hr HR hi hz0 hz1 hz2
    go_enter Tryd.func68, Tryd.ntmps68
    go_wp2_with (at_builtin; refine wpList_append_own _ rfl _ _ 32 rfl w.heap.size 42 i0 _ 6 56 Tryd.underlying32 HI.out.1 HI.out.2.1 HI.out.2.2.1 HI.out.2.2.2 rfl (by decide) _ _ _ rfl (World.ownsRow_made w #[] 0 (Nat.le_refl _) (Nat.zero_le _) rfl) a l.length cap (boxCs l) rfl HL1.out HN.out (boxCs_one l) (by unfold maxLen; omega) (by omega) (by simp) ?_; intro v' w1 hown hgrow hnil)
    go_ret
    refine ⟨v', rfl, by simpa using hown, ?_⟩
    exact ((Below.refl _ w).alloc (Nat.le_refl _) _).grown hgrow (by simp) (by intro k hk; cases hk; exact Nat.le_refl _)

def mvB (dx dy : Int) (b : Bx) : Bx := ⟨b.kind, b.x + dx, b.y + dy, b.wd, b.blk, b.text⟩
def mvOk (dx dy : Int) (b : Bx) : Bool := lenB (b.x + dx) && lenB (b.y + dy)
def mvFar (dx dy : Int) : Bool := decide (1073741824 < max dx dy) || decide (min dx dy < -1073741824)
def mvTo (dx dy : Int) (l : List Bx) (k : Nat) : List Bx := (l.take k).map (mvB dx dy) ++ l.drop k
theorem mvTo_len (dx dy : Int) (l : List Bx) (k : Nat) : (mvTo dx dy l k).length = l.length := by simp [mvTo]; omega
theorem mvTo_at {dx dy : Int} {l : List Bx} {k : Nat} {x : Bx} (h : l[k]? = some x) : (mvTo dx dy l k)[k]? = some x := by
  have hk := (List.getElem?_eq_some_iff.1 h).1
  rw [mvTo, List.getElem?_append_right (by simp; omega)]
  simp [Nat.min_eq_left (Nat.le_of_lt hk), h]
theorem own_form {W : World} {base : Nat} {e : TypeId} {s n : Nat} {v : Value} {xs : List Value} (h : W.ownsRow base e s v n xs) : ∃ ad cap, v = .slice ad n cap ∧ n ≤ cap ∧ cap ≤ 9223372036854775807 ∧ (0 < n → ∃ g, ad = some ⟨g, 0, none⟩ ∧ base ≤ g ∧ ∃ cur, W.heap[g]? = some (.cells cur e (0, 0))) := by
  rcases h.2 with ⟨rfl, hn⟩ | ⟨g, cap, cur, rfl, hb', hh, hc, hm, hs, ht⟩
  · subst hn
    exact ⟨none, 0, rfl, Nat.le_refl _, by omega, fun h => absurd h (by omega)⟩
  · exact ⟨_, _, rfl, hc, hm, fun _ => ⟨g, rfl, hb', cur, hh⟩⟩
theorem own_setO {W : World} {base : Nat} {e : TypeId} {s n : Nat} {v : Value} {xs : List Value} (h : W.ownsRow base e s v n xs) (p : Addr) (u : Value) (hp : v.ownBlock ≠ some p.block) : (W.setCell p u).ownsRow base e s v n xs := by
  refine ⟨h.1, ?_⟩
  rcases h.2 with h2 | ⟨g, cap, cur, h1, h2, h3, h4⟩
  · exact .inl h2
  · exact .inr ⟨g, cap, cur, h1, h2, (Below.heap_setCell W p u g (fun e => hp (by subst h1; subst e; rfl))).trans h3, h4⟩
theorem own_far {W : World} {base : Nat} {e : TypeId} {s n : Nat} {v : Value} {xs : List Value} (h : W.ownsRow base e s v n xs) {b : Nat} (hb : b < base) : v.ownBlock ≠ some b := fun e => by have := (h.lt b e).1; omega
theorem own_frozen {W : World} {base : Nat} {e : TypeId} {s n g cap : Nat} {xs : List Value} (h : W.ownsRow base e s (.slice (some ⟨g, 0, none⟩) n cap) n xs) (i : Nat) : W.frozen? ⟨g, i, none⟩ = false := by
  rcases h.2 with ⟨h2, _⟩ | ⟨g', cap', cur, h1, h2, h3, h4⟩
  · cases h2
  · cases h1
    exact frozen_of_row W g i cur e h3
theorem set_app {α : Type} (A B : List α) (i : Nat) (x : α) (n : Nat) (h : n = A.length + i) : (A ++ B).set n x = A ++ B.set i x := by
  subst h
  rw [List.set_append_right _ _ (by omega)]; simp
theorem mvTo_set {dx dy : Int} {l : List Bx} {k : Nat} {x : Bx} (h : l[k]? = some x) (a0 a1 a2 a3 a4 a5 : Value) (ha : [a0, a1, a2, a3, a4, a5] = (mvB dx dy x).cl) :
    ((((((boxCs (mvTo dx dy l k)).set (k * 6) a0).set (k * 6 + 1) a1).set (k * 6 + 2) a2).set (k * 6 + 3) a3).set (k * 6 + 4) a4).set (k * 6 + 5) a5 = boxCs (mvTo dx dy l (k + 1)) := by
  have hk := (List.getElem?_eq_some_iff.1 h).1
  have hd : l.drop k = x :: l.drop (k + 1) := by
    rw [List.drop_eq_getElem_cons hk]
    rw [List.getElem?_eq_getElem hk] at h
    rw [Option.some.inj h]
  have e1 : boxCs (mvTo dx dy l k) = boxCs ((l.take k).map (mvB dx dy)) ++ (x.cl ++ boxCs (l.drop (k + 1))) := by
    unfold mvTo; rw [hd]; simp [boxCs]
  have e2 : boxCs (mvTo dx dy l (k + 1)) = boxCs ((l.take k).map (mvB dx dy)) ++ ((mvB dx dy x).cl ++ boxCs (l.drop (k + 1))) := by
    unfold mvTo; rw [List.take_add_one, h]; simp [boxCs]
  have hlen : (boxCs ((l.take k).map (mvB dx dy))).length = k * 6 := by
    rw [boxCs_len, List.length_map, List.length_take, Nat.min_eq_left (Nat.le_of_lt hk)]
  rw [e1, e2, ← ha]
  generalize boxCs ((l.take k).map (mvB dx dy)) = A at *
  rw [set_app _ _ 0 _ _ (by omega), set_app _ _ 1 _ _ (by omega), set_app _ _ 2 _ _ (by omega), set_app _ _ 3 _ _ (by omega), set_app _ _ 4 _ _ (by omega), set_app _ _ 5 _ _ (by omega)]
  rfl
theorem results_ct {fn : Func} {p t : Tmp} {ty : TypeId} (h : fn.results = #[.cell p ty, .tmp t]) (tmps : Array Value) (P : Program) (w : World) :
    (results fn tmps).run P w = ((asAddr (tmps.getD p undef)).run P w).andThen fun a w₁ => ((loadVar ty a).run P w₁).andThen fun v w₂ => .ok (.tuple #[v, tmps.getD t undef]) w₂ := by
  simp only [results, h]
  simp [Sem.run_bind, Result.andThen]
/-- What Move answers of a page that is fine. -/
def MvR (p : Pg) (dx dy : Int) (w : World) (e : Ending) (w' : World) : Prop :=
  (p.bx.all (mvOk dx dy) = true → ∃ u, e = .returned (.tuple #[.agg #[.int .i64 p.num, u], .int .i64 0]) ∧ RdB w' u (p.bx.map (mvB dx dy)) ∧ Below w.heap.size w w') ∧
  (p.bx.all (mvOk dx dy) = false → e = .returned (.tuple #[.agg #[.int .i64 0, .slice none 0 0], .int .i64 2]) ∧ Below w.heap.size w w')
theorem MvR.no {p : Pg} {dx dy : Int} {w w' : World} (h : p.bx.all (mvOk dx dy) = false) (hb : Below w.heap.size w w') : MvR p dx dy w (.returned (.tuple #[.agg #[.int .i64 0, .slice none 0 0], .int .i64 2])) w' :=
  ⟨fun h2 => (by rw [h] at h2; cases h2), fun _ => ⟨rfl, hb⟩⟩
theorem MvR.yes {p : Pg} {dx dy : Int} {w w' : World} {u : Value} (h : p.bx.all (mvOk dx dy) = true) (hu : RdB w' u (p.bx.map (mvB dx dy))) (hb : Below w.heap.size w w') : MvR p dx dy w (.returned (.tuple #[.agg #[.int .i64 p.num, u], .int .i64 0])) w' :=
  ⟨fun _ => ⟨u, rfl, hu, hb⟩, fun h2 => (by rw [h] at h2; cases h2)⟩
end Go.Proofs.YtkjapeafhcdnkaaDoor
