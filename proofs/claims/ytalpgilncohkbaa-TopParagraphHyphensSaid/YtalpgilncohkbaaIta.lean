/-
  paragraph.Items: the plain words, what is kept while it runs.
-/
import Derived.Test.YtalpgilncohkbaaWds
import Derived.Test.YtalpgilncohkbaaStA
namespace Go.Proofs.Ytalpgilncohkbaa
open Go.RowKit

structure St where
  width : Int
  lh : Int
  nh : Int
  ph : Int
  gap : Int
  sp : Int
  stretch : Int
  shrink : Int
  letter : Int
  hyphen : Int
  every : Int
  pos : Option Addr × Nat × Nat
  lay : Option Addr × Nat × Nat
def St.cells (st : St) : Array Value := #[.int .i64 st.width, .int .i64 st.lh, .int .i64 st.nh, .int .i64 st.ph, .int .i64 st.gap, .int .i64 st.sp, .int .i64 st.stretch, .int .i64 st.shrink, .int .i64 st.letter, .int .i64 st.hyphen, .int .i64 st.every,
  .slice st.pos.1 st.pos.2.1 st.pos.2.2, .slice st.lay.1 st.lay.2.1 st.lay.2.2]
def eqS : ByteArray := ⟨#[61]⟩
def penV : It := ⟨3, 0, 0, 0, -10000, ⟨#[]⟩⟩
def glue (st : St) : It := ⟨2, st.sp, st.stretch, st.shrink, 0, ⟨#[]⟩⟩
def penH (st : St) : It := ⟨3, st.letter, 0, 0, st.hyphen, eqS⟩
def boxI (st : St) (part : ByteArray) : It := ⟨1, st.letter * (clN part : Int), 0, 0, 0, part⟩
/-- The items of the first j parts of a word. -/
def bxN (st : St) (parts : List ByteArray) : Nat → List It
  | 0 => []
  | j + 1 => bxN st parts j ++ ((if j = 0 then [] else [penH st]) ++ (match parts[j]? with | some p => [boxI st p] | none => []))
def preI (st : St) (i : Nat) (x : Wd) : List It := if i = 0 then [] else if x.ve = true then [penV] else if x.jo = true then [] else [glue st]
def wdI (st : St) (P : List Grp) (i : Nat) (x : Wd) : List It := preI st i x ++ bxN st (prtF P x.t) (prtF P x.t).length
def itmN (st : St) (P : List Grp) (ws : List Wd) : Nat → List It
  | 0 => []
  | i + 1 => itmN st P ws i ++ (match ws[i]? with | some x => wdI st P i x | none => [])
def itmF (st : St) (P : List Grp) (ws : List Wd) : List It := itmN st P ws ws.length
/-- The style is right. -/
structure StyOk (st : St) : Prop where
  le : lgP st.letter
  sp : lgP st.sp
  sr : lgP st.stretch
  sh : lgP st.shrink
  hy : 0 ≤ st.hyphen ∧ st.hyphen ≤ 10000
def badW (x : Wd) : Bool := decide (x.t.size = 0) || decide (64 < x.t.size)
def styB (st : St) : Bool := lgB st.letter && (lgB st.sp && (lgB st.stretch && (lgB st.shrink && (decide (0 ≤ st.hyphen) && decide (st.hyphen ≤ 10000)))))
theorem styB_ok {st : St} (h : styB st = true) : StyOk st := by
  unfold styB at h
  simp only [Bool.and_eq_true, lgB_iff, decide_eq_true_eq] at h
  exact ⟨h.1, h.2.1, h.2.2.1, h.2.2.2.1, h.2.2.2.2⟩
def itE (st : St) (P : List Grp) (ws : List Wd) : Int := if styB st = false then 2 else if hchkI P ≠ 0 then 1 else if ws.any badW = true then 1 else if ckIts (itmF st P ws) ≠ 0 then 4 else 0
theorem itE_ok {st : St} {P : List Grp} {ws : List Wd} (h : itE st P ws = 0) : StyOk st ∧ hchkI P = 0 ∧ ws.any badW = false ∧ ckIts (itmF st P ws) = 0 := by
  unfold itE at h
  split at h
  · cases h
  rename_i h1
  split at h
  · cases h
  rename_i h2
  split at h
  · cases h
  rename_i h3
  split at h
  · cases h
  rename_i h4
  exact ⟨styB_ok (by simpa using h1), Classical.not_not.1 h2, by simpa using h3, Classical.not_not.1 h4⟩
theorem prtF_sz (P : List Grp) {s : ByteArray} {n : Nat} (h : s.size ≤ n) : ∀ x ∈ prtF P s, x.size ≤ n := by
  intro x hx
  unfold prtF at hx
  split at hx
  · have key : ∀ j, ∀ x ∈ pcN s (ptE P s) j, x.size ≤ n := by
      intro j
      induction j with
      | zero => intro x hx; cases hx
      | succ j ih =>
        intro x hx
        rw [pcN] at hx
        rcases List.mem_append.1 hx with hx | hx
        · exact ih x hx
        · rcases List.mem_singleton.1 hx with rfl
          rw [ByteArray.size_extract]; omega
    exact key _ x hx
  · rcases List.mem_singleton.1 hx with rfl
    exact h
theorem boxI_s {st : St} (h : StyOk st) {x : ByteArray} (hx : x.size ≤ 20) : ItS (boxI st x) := by
  have h1 := clN_le x
  have h2 : 0 ≤ st.letter * (clN x : Int) := Int.mul_nonneg h.le.1 (by omega)
  have h3 : st.letter * (clN x : Int) ≤ 1073741824 * 20 := Int.mul_le_mul h.le.2 (by omega) (by omega) (by omega)
  exact .inl ⟨rfl, rfl, rfl, rfl, h2, by show st.letter * (clN x : Int) ≤ _; omega⟩
theorem penH_s {st : St} (h : StyOk st) : ItS (penH st) := .inr (.inr ⟨rfl, rfl, rfl, h.le, .inr h.hy⟩)
theorem glue_s {st : St} (h : StyOk st) : ItS (glue st) := .inr (.inl ⟨rfl, rfl, rfl, h.sp, h.sr, h.sh⟩)
theorem penV_s : ItS penV := .inr (.inr ⟨rfl, rfl, rfl, ⟨by decide, by decide⟩, .inl rfl⟩)
theorem bxN_s {st : St} (h : StyOk st) {parts : List ByteArray} (hp : ∀ x ∈ parts, x.size ≤ 20) : ∀ j, ∀ x ∈ bxN st parts j, ItS x
  | 0, x, hx => by cases hx
  | j + 1, x, hx => by
    rw [bxN] at hx
    rcases List.mem_append.1 hx with hx | hx
    · exact bxN_s h hp j x hx
    rcases List.mem_append.1 hx with hx | hx
    · split at hx
      · cases hx
      · rcases List.mem_singleton.1 hx with rfl; exact penH_s h
    · split at hx
      · rename_i q hq
        rcases List.mem_singleton.1 hx with rfl
        exact boxI_s h (hp q (List.mem_of_getElem? hq))
      · cases hx
theorem wdI_s {st : St} (h : StyOk st) {P : List Grp} {i : Nat} {x : Wd} (hx : x.t.size ≤ 20) : ∀ y ∈ wdI st P i x, ItS y := by
  intro y hy
  unfold wdI at hy
  rcases List.mem_append.1 hy with hy | hy
  · unfold preI at hy
    split at hy
    · cases hy
    split at hy
    · rcases List.mem_singleton.1 hy with rfl; exact penV_s
    split at hy
    · cases hy
    · rcases List.mem_singleton.1 hy with rfl; exact glue_s h
  · exact bxN_s h (prtF_sz P hx) _ y hy
theorem itmN_s {st : St} (h : StyOk st) {P : List Grp} {ws : List Wd} (hw : ∀ x ∈ ws, x.t.size ≤ 20) : ∀ i, ∀ y ∈ itmN st P ws i, ItS y
  | 0, y, hy => by cases hy
  | i + 1, y, hy => by
    rw [itmN] at hy
    rcases List.mem_append.1 hy with hy | hy
    · exact itmN_s h hw i y hy
    · split at hy
      · rename_i x hx
        exact wdI_s h (hw x (List.mem_of_getElem? hx)) y hy
      · cases hy
theorem bxN_len (st : St) (parts : List ByteArray) : ∀ j, (bxN st parts j).length ≤ 2 * j
  | 0 => Nat.le_refl _
  | j + 1 => by
    rw [bxN, List.length_append, List.length_append]
    have := bxN_len st parts j
    have h1 : (if j = 0 then ([] : List It) else [penH st]).length ≤ 1 := by split <;> simp
    have h2 : (match parts[j]? with | some p => [boxI st p] | none => []).length ≤ 1 := by split <;> simp
    omega
theorem prtF_len (P : List Grp) {s : ByteArray} (h : s.size ≤ 20) : (prtF P s).length ≤ 21 := by
  unfold prtF
  split
  · rw [pcN_len]
    unfold ptE
    rw [List.length_append]
    have h1 := ptN_len (clL s) (levF P s) (levF P s).length
    have h2 := levF_len P s
    have h3 := clN_le s
    have h4 : (ptsF P s).length = (ptN (clL s) (levF P s) (levF P s).length).length := rfl
    simp only [List.length_singleton]
    omega
  · simp
theorem itmN_len {st : St} {P : List Grp} {ws : List Wd} (hw : ∀ x ∈ ws, x.t.size ≤ 20) : ∀ i, (itmN st P ws i).length ≤ 50 * i
  | 0 => Nat.le_refl _
  | i + 1 => by
    rw [itmN, List.length_append]
    have := itmN_len (st := st) (P := P) hw i
    have h1 : (match ws[i]? with | some x => wdI st P i x | none => []).length ≤ 50 := by
      split
      · rename_i x hx
        unfold wdI
        rw [List.length_append]
        have h2 := bxN_len st (prtF P x.t) (prtF P x.t).length
        have h3 := prtF_len P (hw x (List.mem_of_getElem? hx))
        have h4 : (preI st i x).length ≤ 1 := by
          unfold preI
          split
          · simp
          split
          · simp
          split <;> simp
        omega
      · simp
    omega

/-- While Items runs: the style's block, the row of items. -/
structure ItI (w : World) (Bs : Nat) (st : St) (v : Value) (l : List It) (W : World) : Prop where
  row : Row W Bs st.cells 25
  own : W.ownsRow w.heap.size 43 6 v l.length (l.flatMap encIt)
  bel : Below w.heap.size w W
theorem ItI.below {w : World} {Bs : Nat} {st : St} {v : Value} {l : List It} {W W' : World} (h : ItI w Bs st v l W) (hb : Below W.heap.size W W') : ItI w Bs st v l W' := ⟨h.row.below hb, own_belowX h.own hb, below_tr h.bel hb⟩
theorem ItI.push {w : World} {Bs : Nat} {st : St} {v : Value} {l : List It} {W W' : World} (h : ItI w Bs st v l W) (x : It) {g cap : Nat} (ho : W'.ownsRow w.heap.size 43 6 (.slice (some ⟨g, 0, none⟩) (l.length + 1) cap) (l.length + 1) (l.flatMap encIt ++ encIt x)) (hb : Below w.heap.size W W') (hg : W.grownBy W' v.ownBlock) :
    ItI w Bs st (.slice (some ⟨g, 0, none⟩) (l.length + 1) cap) (l ++ [x]) W' := by
  have n1 := row_own_neX h.row h.own (by decide)
  refine ⟨(hg.block _ h.row.lt (fun e => n1 e.symm)).trans h.row, ?_, h.bel.trans hb⟩
  rw [List.length_append, List.flatMap_append]
  simpa using ho
/-- A block of another type stays. -/
theorem Row.kgr {W W' : World} {B base n s : Nat} {cs : Array Value} {t e : TypeId} {v : Value} {xs : List Value} (h : Row W B cs t) (ho : W.ownsRow base e s v n xs) (hne : t ≠ e) (hg : W.grownBy W' v.ownBlock) : Row W' B cs t := by
  have n1 := row_own_neX h ho hne
  exact (hg.block _ h.lt (fun e => n1 e.symm)).trans h
theorem own_neT {W : World} {b1 b2 s1 s2 n1 n2 : Nat} {e1 e2 : TypeId} {v1 v2 : Value} {x1 x2 : List Value} (h1 : W.ownsRow b1 e1 s1 v1 n1 x1) (h2 : W.ownsRow b2 e2 s2 v2 n2 x2) (hne : e1 ≠ e2) : v1.ownBlock = none ∨ v1.ownBlock ≠ v2.ownBlock := by
  rcases h1.2 with ⟨rfl, _⟩ | ⟨g, cap, cur, rfl, _, hg, _⟩
  · exact .inl rfl
  · right
    intro e
    have h3 : Row W g cur e1 := hg
    exact row_own_neX h3 h2 hne (by rw [← e]; rfl)
theorem OwnS.kgr {W W' : World} {v u : Value} {l : List ByteArray} {base n : Nat} {xs : List Value} (h : OwnS W v l) (ho : W.ownsRow base 43 6 u n xs) (hg : W.grownBy W' u.ownBlock) : OwnS W' v l := by
  obtain ⟨b, h⟩ := h
  exact ⟨b, h.kept hg (own_neT h ho (by decide))⟩
theorem infoItm : (Try.prog.info? 43).map (fun i => (i.zero, i.size, i.bytes)) = some (some (.agg #[.int .i64 0, .int .i64 0, .int .i64 0, .int .i64 0, .int .i64 0, .string ⟨#[]⟩]), 6, 56) := by kernel_rfl
end Go.Proofs.Ytalpgilncohkbaa
