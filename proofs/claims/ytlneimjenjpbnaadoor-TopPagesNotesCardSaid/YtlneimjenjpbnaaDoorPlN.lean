/-
  The lines of a note, the plain laws: they have the words, they fit, the next word would not have fitted, no division has fewer.
-/
import Derived.Test.YtlneimjenjpbnaaDoorNoteC
namespace Go.Proofs.YtlneimjenjpbnaaDoor

/-- What further words add to a line. -/
def incL (st : St) (l : List ByteArray) : Int := (l.map fun x => wd st x + st.sp).sum
/-- The width of a line. -/
def wL (st : St) : List ByteArray → Int
  | [] => - st.sp
  | x :: r => wd st x + incL st r

theorem wd_nn {st : St} (h : 0 ≤ st.letter) (x : ByteArray) : 0 ≤ wd st x := Int.mul_nonneg h (by omega)
theorem incL_nn {st : St} (h : 0 ≤ st.letter) (hs : 0 ≤ st.sp) : ∀ l : List ByteArray, 0 ≤ incL st l
  | [] => by simp [incL]
  | x :: r => by
    have h1 := incL_nn h hs r
    have h2 := wd_nn h x
    unfold incL at h1 ⊢
    simp only [List.map_cons, List.sum_cons]
    omega
theorem incL_app (st : St) (a b : List ByteArray) : incL st (a ++ b) = incL st a + incL st b := by
  unfold incL
  rw [List.map_append, List.sum_append]
theorem incL_cons (st : St) (x : ByteArray) (r : List ByteArray) : incL st (x :: r) = wd st x + st.sp + incL st r := by
  unfold incL
  rw [List.map_cons, List.sum_cons]
theorem wL_inc (st : St) (l : List ByteArray) : wL st l = incL st l - st.sp := by
  cases l with
  | nil => simp [wL, incL]
  | cons x r => rw [wL, incL_cons]; omega
theorem wL_snoc (st : St) (l : List ByteArray) (x : ByteArray) : wL st (l ++ [x]) = wL st l + (wd st x + st.sp) := by
  rw [wL_inc, wL_inc, incL_app, incL_cons]
  have : incL st [] = 0 := rfl
  omega
theorem wL_one (st : St) (x : ByteArray) : wL st [x] = wd st x := by simp [wL, incL]
theorem wL_go (st : St) (l : List ByteArray) : wL st l = st.sp * ((l.length : Int) - 1) + (l.map (wd st)).sum := by
  rw [wL_inc]
  suffices h : incL st l = st.sp * (l.length : Int) + (l.map (wd st)).sum by
    rw [h, Int.mul_sub]; omega
  induction l with
  | nil => simp [incL]
  | cons x r ih =>
    rw [incL_cons, ih, List.map_cons, List.sum_cons, List.length_cons]
    have : st.sp * ((r.length + 1 : Nat) : Int) = st.sp * (r.length : Int) + st.sp := by
      rw [Int.natCast_add, Int.mul_add]; simp
    rw [this]; omega

/-- The line at hand is closed behind k further words. -/
theorem goL_spec {st : St} (h : 0 ≤ st.letter) (hs : 0 ≤ st.sp) : ∀ (ws cur : List ByteArray) (room wdt : Int), ∃ k, k ≤ ws.length ∧ goL st room wdt cur ws = (cur ++ ws.take k) :: restL st (st.width - st.letter) (ws.drop k) ∧
    (0 < k → wdt + incL st (ws.take k) ≤ room) ∧ (∀ x, ws[k]? = some x → room < wdt + incL st (ws.take k) + (wd st x + st.sp))
  | [], cur, room, wdt => ⟨0, Nat.le_refl _, by simp [goL, restL], fun h => absurd h (by omega), fun x hx => by simp at hx⟩
  | y :: r, cur, room, wdt => by
    rw [goL]
    by_cases hc : room < wdt + (wd st y + st.sp)
    · rw [if_pos hc]
      refine ⟨0, by omega, by simp [restL], fun h => absurd h (by omega), fun x hx => ?_⟩
      have : y = x := by simpa using hx
      subst this
      have e : incL st (List.take 0 (y :: r)) = 0 := by simp [incL]
      rw [e]; omega
    · rw [if_neg hc]
      obtain ⟨k, h1, h2, h3, h4⟩ := goL_spec h hs r (cur ++ [y]) room (wdt + (wd st y + st.sp))
      refine ⟨k + 1, by simp; omega, by rw [h2]; simp, fun _ => ?_, fun x hx => ?_⟩
      · rw [List.take_succ_cons, incL_cons]
        rcases Nat.eq_zero_or_pos k with h0 | h0
        · subst h0; simp [incL]; omega
        · have := h3 h0; omega
      · have := h4 x (by simpa using hx)
        rw [List.take_succ_cons, incL_cons]; omega

/-- The first line and what is left. -/
theorem restL_spec {st : St} (h : 0 ≤ st.letter) (hs : 0 ≤ st.sp) (room : Int) {ws : List ByteArray} (h0 : ws ≠ []) : ∃ k, 0 < k ∧ k ≤ ws.length ∧ restL st room ws = ws.take k :: restL st (st.width - st.letter) (ws.drop k) ∧
    (1 < k → wL st (ws.take k) ≤ room) ∧ (∀ x, ws[k]? = some x → room < wL st (ws.take k ++ [x])) := by
  cases ws with
  | nil => exact absurd rfl h0
  | cons y r =>
    obtain ⟨k, h1, h2, h3, h4⟩ := goL_spec h hs r [y] room (wd st y)
    refine ⟨k + 1, by omega, by simp; omega, by rw [restL, h2]; simp, fun hk => ?_, fun x hx => ?_⟩
    · rw [List.take_succ_cons, wL]; exact h3 (by omega)
    · have := h4 x (by simpa using hx)
      rw [wL_snoc, List.take_succ_cons, wL]; omega

theorem restL_flat {st : St} (h : 0 ≤ st.letter) (hs : 0 ≤ st.sp) : ∀ (n : Nat) (ws : List ByteArray) (room : Int), ws.length ≤ n → (restL st room ws).flatten = ws ∧ ∀ p ∈ restL st room ws, p ≠ []
  | 0, ws, room, hn => by
    have : ws = [] := List.eq_nil_of_length_eq_zero (by omega)
    subst this
    simp [restL]
  | n + 1, ws, room, hn => by
    by_cases h0 : ws = []
    · subst h0; simp [restL]
    · obtain ⟨k, k0, k1, e, _, _⟩ := restL_spec h hs room h0
      have ih := restL_flat h hs n (ws.drop k) (st.width - st.letter) (by rw [List.length_drop]; omega)
      rw [e]
      refine ⟨by rw [List.flatten_cons, ih.1, List.take_append_drop], fun p hp => ?_⟩
      rcases List.mem_cons.1 hp with h1 | h1
      · subst h1
        intro e2
        have := congrArg List.length e2
        rw [List.length_take] at this
        simp at this
        rcases this with h2 | h2
        · omega
        · exact h0 h2
      · exact ih.2 p h1
theorem setL_flat {st : St} (h : 0 ≤ st.letter) (hs : 0 ≤ st.sp) (ws : List ByteArray) : (setL st ws).flatten = ws := (restL_flat h hs _ ws _ (Nat.le_refl _)).1
theorem setL_ne {st : St} (h : 0 ≤ st.letter) (hs : 0 ≤ st.sp) (ws : List ByteArray) : ∀ p ∈ setL st ws, p ≠ [] := (restL_flat h hs _ ws _ (Nat.le_refl _)).2

/-- The room of a line. -/
def roomAt (st : St) (i : Nat) : Int := if i = 0 then st.width else st.width - st.letter
theorem restL_room {st : St} (h : 0 ≤ st.letter) (hs : 0 ≤ st.sp) : ∀ (n : Nat) (ws : List ByteArray) (room : Int), ws.length ≤ n → ∀ (i : Nat) (p : List ByteArray), (restL st room ws)[i]? = some p →
    (1 < p.length → wL st p ≤ if i = 0 then room else st.width - st.letter) ∧ ∀ q x, (restL st room ws)[i + 1]? = some q → q[0]? = some x → (if i = 0 then room else st.width - st.letter) < wL st (p ++ [x])
  | 0, ws, room, hn, i, p, hp => by
    have : ws = [] := List.eq_nil_of_length_eq_zero (by omega)
    subst this
    simp [restL] at hp
  | n + 1, ws, room, hn, i, p, hp => by
    by_cases h0 : ws = []
    · subst h0; simp [restL] at hp
    · obtain ⟨k, k0, k1, e, h1, h2⟩ := restL_spec h hs room h0
      rw [e] at hp ⊢
      cases i with
      | zero =>
        have hp' : ws.take k = p := by simpa using hp
        subst hp'
        rw [if_pos rfl]
        refine ⟨fun hl => h1 (by rw [List.length_take] at hl; omega), fun q x hq hx => h2 x ?_⟩
        have hq' : (restL st (st.width - st.letter) (ws.drop k))[0]? = some q := by simpa using hq
        by_cases hd : ws.drop k = []
        · rw [hd] at hq'; simp [restL] at hq'
        · obtain ⟨k', k0', k1', e', _, _⟩ := restL_spec h hs (st.width - st.letter) hd
          rw [e'] at hq'
          have : (ws.drop k).take k' = q := by simpa using hq'
          rw [← this, List.getElem?_take, if_pos k0', List.getElem?_drop] at hx
          exact hx
      | succ i =>
        have hp' : (restL st (st.width - st.letter) (ws.drop k))[i]? = some p := by simpa using hp
        have ih := restL_room h hs n (ws.drop k) (st.width - st.letter) (by rw [List.length_drop]; omega) i p hp'
        rw [if_neg (by omega)]
        have e3 : (if i = 0 then st.width - st.letter else st.width - st.letter) = st.width - st.letter := by split <;> rfl
        rw [e3] at ih
        exact ⟨ih.1, fun q x hq hx => ih.2 q x (by simpa using hq) hx⟩
theorem setL_room {st : St} (h : 0 ≤ st.letter) (hs : 0 ≤ st.sp) (ws : List ByteArray) (i : Nat) (p : List ByteArray) (hp : (setL st ws)[i]? = some p) : (1 < p.length → wL st p ≤ roomAt st i) ∧ ∀ q x, (setL st ws)[i + 1]? = some q → q[0]? = some x → roomAt st i < wL st (p ++ [x]) :=
  restL_room h hs _ ws _ (Nat.le_refl _) i p hp

/-- A division into lines, each of which is one word or fits. -/
def Div (st : St) : Int → List (List ByteArray) → Prop
  | _, [] => True
  | room, p :: r => p ≠ [] ∧ (1 < p.length → wL st p ≤ room) ∧ Div st (st.width - st.letter) r
theorem Div.snoc {st : St} {p : List ByteArray} : ∀ {D : List (List ByteArray)} {room : Int}, Div st room D → p ≠ [] → (1 < p.length → wL st p ≤ if D = [] then room else st.width - st.letter) → Div st room (D ++ [p])
  | [], room, _, h1, h2 => ⟨h1, by simpa using h2, trivial⟩
  | q :: D, room, h, h1, h2 => by
    refine ⟨h.1, h.2.1, Div.snoc h.2.2 h1 fun hl => ?_⟩
    have := h2 hl
    rw [if_neg (by simp)] at this
    split <;> exact this
/-- No division has fewer lines, not even one that has words ahead of these. -/
theorem restL_least {st : St} (h : 0 ≤ st.letter) (hs : 0 ≤ st.sp) : ∀ (D : List (List ByteArray)) (room : Int) (a ws : List ByteArray), Div st room D → D.flatten = a ++ ws → (restL st room ws).length ≤ D.length
  | [], room, a, ws, _, he => by
    have : ws = [] := by
      have := he.symm
      simp at this
      exact this.2
    subst this
    simp [restL]
  | p :: D, room, a, ws, hd, he => by
    by_cases h0 : ws = []
    · subst h0; simp [restL]
    · obtain ⟨hp, hw, hd2⟩ := hd
      obtain ⟨k, k0, k1, e, h1, h2⟩ := restL_spec h hs room h0
      rw [e, List.length_cons, List.length_cons]
      refine Nat.succ_le_succ ?_
      rw [List.flatten_cons] at he
      -- where the first line of the division ends
      suffices hsuf : ∃ a', D.flatten = a' ++ ws.drop k from by
        obtain ⟨a', ha'⟩ := hsuf
        exact restL_least h hs D _ a' (ws.drop k) hd2 ha'
      rcases List.append_eq_append_iff.1 he with ⟨c, hc1, hc2⟩ | ⟨c, hc1, hc2⟩
      · exact ⟨c ++ ws.take k, by rw [List.append_assoc, List.take_append_drop]; exact hc2⟩
      · -- p = a ++ c, ws = c ++ D.flatten: c is taken whole
        have hk : c.length ≤ k := by
          by_cases hlt : c.length ≤ k
          · exact hlt
          · exfalso
            have hk2 : k < c.length := by omega
            obtain ⟨x, hx⟩ : ∃ x, c[k]? = some x := ⟨c[k], by simp [hk2]⟩
            have hx2 : ws[k]? = some x := by rw [hc2, List.getElem?_append_left hk2]; exact hx
            have h3 := h2 x hx2
            have e1 : ws.take k ++ [x] = c.take (k + 1) := by
              rw [List.take_add_one, hx, hc2, List.take_append_of_le_length (by omega)]; rfl
            rw [e1] at h3
            have h4 := hw (by rw [hc1, List.length_append]; omega)
            have e2 : wL st p = incL st a + (incL st (c.take (k + 1)) + incL st (c.drop (k + 1))) - st.sp := by
              rw [wL_inc, hc1, incL_app, ← incL_app st (c.take (k + 1)), List.take_append_drop]
            rw [wL_inc] at h3
            have h5 := incL_nn h hs a
            have h6 := incL_nn h hs (c.drop (k + 1))
            omega
        refine ⟨(D.flatten).take (k - c.length), ?_⟩
        rw [hc2, List.drop_append, List.drop_of_length_le hk, List.nil_append, List.take_append_drop]
theorem setL_least {st : St} (h : 0 ≤ st.letter) (hs : 0 ≤ st.sp) {D : List (List ByteArray)} (hd : Div st st.width D) {ws : List ByteArray} (he : D.flatten = ws) : (setL st ws).length ≤ D.length :=
  restL_least h hs D st.width [] ws hd he
theorem restL_div {st : St} (h : 0 ≤ st.letter) (hs : 0 ≤ st.sp) : ∀ (n : Nat) (ws : List ByteArray) (room : Int), ws.length ≤ n → Div st room (restL st room ws)
  | 0, ws, room, hn => by
    have : ws = [] := List.eq_nil_of_length_eq_zero (by omega)
    subst this
    simp [restL, Div]
  | n + 1, ws, room, hn => by
    by_cases h0 : ws = []
    · subst h0; simp [restL, Div]
    · obtain ⟨k, k0, k1, e, h1, _⟩ := restL_spec h hs room h0
      have ih := restL_div h hs n (ws.drop k) (st.width - st.letter) (by rw [List.length_drop]; omega)
      rw [e]
      refine ⟨fun e2 => ?_, fun hl => h1 (by rw [List.length_take] at hl; omega), ih⟩
      have := congrArg List.length e2
      rw [List.length_take] at this
      have h3 : 0 < ws.length := List.length_pos_iff.2 h0
      rw [List.length_nil] at this
      omega
/-- The same, but for the width. -/
def SameBut (st st' : St) : Prop := st'.letter = st.letter ∧ st'.sp = st.sp ∧ st.width ≤ st'.width
theorem wL_same {st st' : St} (h : SameBut st st') (l : List ByteArray) : wL st' l = wL st l := by
  rw [wL_go, wL_go, h.2.1]
  congr 2
  unfold wd
  rw [h.1]
theorem Div.wider {st st' : St} (h : SameBut st st') : ∀ {D : List (List ByteArray)} {room room' : Int}, Div st room D → room ≤ room' → Div st' room' D
  | [], _, _, _, _ => trivial
  | p :: D, room, room', hd, hr => by
    refine ⟨hd.1, fun hl => ?_, Div.wider h hd.2.2 ?_⟩
    · rw [wL_same h]; exact Int.le_trans (hd.2.1 hl) hr
    · have h1 := h.1
      have h2 := h.2.2
      omega
theorem setL_wider {st st' : St} (h : 0 ≤ st.letter) (hs : 0 ≤ st.sp) (hb : SameBut st st') (ws : List ByteArray) : (setL st' ws).length ≤ (setL st ws).length :=
  setL_least (by rw [hb.1]; exact h) (by rw [hb.2.1]; exact hs) (Div.wider hb (restL_div h hs _ ws _ (Nat.le_refl _)) hb.2.2) (setL_flat h hs ws)
theorem setL_pos {st : St} {ws : List ByteArray} (h0 : ws ≠ []) : 0 < (setL st ws).length := by
  cases ws with
  | nil => exact absurd rfl h0
  | cons x r =>
    show 0 < (goL st st.width (wd st x) [x] r).length
    suffices h : ∀ (r cur : List ByteArray) (room wdt : Int), 0 < (goL st room wdt cur r).length from h _ _ _ _
    intro r
    induction r with
    | nil => intro cur room wdt; simp [goL]
    | cons y r ih =>
      intro cur room wdt
      rw [goL]
      split
      · simp
      · exact ih _ _ _
theorem incL_le (st : St) (M : Int) : ∀ l : List ByteArray, (∀ x ∈ l, wd st x + st.sp ≤ M) → incL st l ≤ (l.length : Int) * M
  | [], _ => by simp [incL]
  | x :: r, h => by
    have h1 := h x (by simp)
    have h2 := incL_le st M r fun y hy => h y (by simp [hy])
    rw [incL_cons, List.length_cons]
    have : ((r.length + 1 : Nat) : Int) * M = (r.length : Int) * M + M := by rw [Int.natCast_add, Int.add_mul]; simp
    omega
/-- Where all words fit in one line, there is one. -/
theorem setL_one {st : St} (h : 0 ≤ st.letter) (hs : 0 ≤ st.sp) {ws : List ByteArray} (h0 : ws ≠ []) (hw : wL st ws ≤ st.width) : (setL st ws).length = 1 := by
  have h1 := setL_least h hs (D := [ws]) ⟨h0, fun _ => hw, trivial⟩ (ws := ws) (by simp)
  have h2 := setL_pos (st := st) h0
  simp at h1
  omega
theorem setL_len {st : St} (h : 0 ≤ st.letter) (hs : 0 ≤ st.sp) (ws : List ByteArray) : (setL st ws).length ≤ ws.length := by
  have e := setL_flat h hs ws
  have hn := setL_ne h hs ws
  generalize setL st ws = L at *
  subst e
  induction L with
  | nil => simp
  | cons p L ih =>
    have h1 : 0 < p.length := List.length_pos_iff.2 (hn p (by simp))
    have h2 := ih fun q hq => hn q (by simp [hq])
    rw [List.length_cons, List.flatten_cons, List.length_append]
    omega
end Go.Proofs.YtlneimjenjpbnaaDoor
