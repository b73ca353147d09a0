/-
  Plain: what the reference's Parse gathers.
-/
import Derived.Test.YtkjapeafhcdnkaaDoorRBb
import Derived.Test.YtkjapeafhcdnkaaDoorPLos
namespace Go.Proofs.YtkjapeafhcdnkaaDoor
open Go.RowKit

/-- What pages weigh: at least what is printed of them. -/
def wtB : List Bx → Nat
  | [] => 0
  | b :: r => 64 + b.text.size + wtB r
def wtP : List Pg → Nat
  | [] => 0
  | p :: r => 20 + wtB p.bx + wtP r
theorem wtB_app (l m : List Bx) : wtB (l ++ m) = wtB l + wtB m := by
  induction l with
  | nil => simp [wtB]
  | cons a r ih => simp only [List.cons_append, wtB, ih]; omega
theorem wtP_app (l m : List Pg) : wtP (l ++ m) = wtP l + wtP m := by
  induction l with
  | nil => simp [wtP]
  | cons a r ih => simp only [List.cons_append, wtP, ih]; omega
theorem wtP_page (ps : List Pg) (n : Int) : wtP (ps ++ [⟨n, []⟩]) = wtP ps + 20 := by
  rw [wtP_app]; simp [wtP, wtB]
theorem split_last {ps : List Pg} (h : ps ≠ []) : ∃ i p, ps = i ++ [p] := by
  rcases List.eq_nil_or_concat ps with e | ⟨i, p, e⟩
  · exact absurd e h
  · exact ⟨i, p, by rw [e, List.concat_eq_append]⟩
theorem putBx_at (i : List Pg) (p : Pg) (b : Bx) : putBx (i ++ [p]) b = i ++ [⟨p.num, p.bx ++ [b]⟩] := putBx_last i p.num p.bx b
theorem putBx_ne {ps : List Pg} (h : ps ≠ []) (b : Bx) : putBx ps b ≠ [] := by
  obtain ⟨i, p, rfl⟩ := split_last h
  rw [putBx_at]; simp
theorem wtP_put {ps : List Pg} (h : ps ≠ []) (b : Bx) : wtP (putBx ps b) = wtP ps + (64 + b.text.size) := by
  obtain ⟨i, p, rfl⟩ := split_last h
  rw [putBx_at, wtP_app, wtP_app]
  simp only [wtP, wtB_app, wtB]; omega
theorem box_len {b : Bx} (h : boxI b = 0) : (boxL b).length ≤ 64 + b.text.size := by
  obtain ⟨k, hk, k1, k2⟩ := kind_nat h
  obtain ⟨_, _, x1, x2, y1, y2, d1, d2, b1, b2, _⟩ := bx_good h
  have e1 := kw_len k k1 k2
  have e2 := ito_len x1 x2
  have e3 := ito_len y1 y2
  have e4 := ito_len d1 d2
  have e5 := ito_len b1 (by omega)
  have e6 := data_size b.text
  unfold boxL numL
  rw [hk]
  simp only [List.length_append, List.length_cons, List.length_nil]
  omega
theorem wt_boxes : ∀ (l : List Bx), (∀ b ∈ l, boxI b = 0) → (bxsL l).length ≤ wtB l
  | [], _ => by simp [bxsL]
  | b :: r, h => by
    have h1 := box_len (h b (by simp))
    have h2 := wt_boxes r (fun x hx => h x (by simp [hx]))
    have e : bxsL (b :: r) = boxL b ++ bxsL r := rfl
    rw [e, List.length_append]; simp only [wtB]; omega
theorem wt_pages : ∀ (l : List Pg), (∀ p ∈ l, pgI p = 0) → (printL l).length ≤ wtP l
  | [], _ => by simp [printL]
  | p :: r, h => by
    obtain ⟨g1, g2, _, g4⟩ := pg_good (h p (by simp))
    have h1 := wt_boxes p.bx g4
    have h2 := wt_pages r (fun x hx => h x (by simp [hx]))
    have h3 := ito_len (n := p.num) (by omega) (by omega)
    have e : printL (p :: r) = pageL p ++ printL r := rfl
    rw [e, List.length_append]
    unfold pageL headL
    simp only [wtP, List.length_append, List.length_cons, List.length_nil]; omega
theorem wt_print {l : List Pg} (h : firstP l = 0) : (printL l).length ≤ wtP l := wt_pages l (firstP_all l h)
theorem wtB_mem : ∀ (l : List Bx) (b : Bx), b ∈ l → b.text.size ≤ wtB l
  | [], b, h => by cases h
  | x :: r, b, h => by
    rcases List.mem_cons.1 h with rfl | h
    · simp only [wtB]; omega
    · have := wtB_mem r b h
      simp only [wtB]; omega
theorem wtB_len : ∀ (l : List Bx), l.length ≤ wtB l
  | [] => Nat.le_refl _
  | x :: r => by have := wtB_len r; simp only [wtB, List.length_cons]; omega
theorem wtP_mem : ∀ (l : List Pg) (p : Pg), p ∈ l → wtB p.bx ≤ wtP l
  | [], p, h => by cases h
  | x :: r, p, h => by
    rcases List.mem_cons.1 h with rfl | h
    · simp only [wtP]; omega
    · have := wtP_mem r p h
      simp only [wtP]; omega
theorem wtP_len : ∀ (l : List Pg), l.length * 20 ≤ wtP l
  | [] => Nat.le_refl _
  | x :: r => by have := wtP_len r; simp only [wtP, List.length_cons]; omega
theorem wt_sz {l : List Pg} (h : wtP l ≤ 1000000) : SzPg l := fun p hp b hb => by
  have h1 := wtP_mem l p hp
  have h2 := wtB_mem p.bx b hb
  unfold maxLen; omega

/-- The boxes bs put behind the last page's others. -/
def fillB (ps : List Pg) (bs : List Bx) : List Pg := bs.foldl putBx ps
theorem fill_page : ∀ (bs : List Bx) (ps : List Pg) (n : Int) (l : List Bx), fillB (ps ++ [⟨n, l⟩]) bs = ps ++ [⟨n, l ++ bs⟩]
  | [], ps, n, l => by simp [fillB]
  | b :: r, ps, n, l => by
    show fillB (putBx (ps ++ [⟨n, l⟩]) b) r = _
    rw [putBx_last, fill_page r]; simp
/-- Where ps are read, rest is still to be read, and the whole is qs. -/
def Todo (qs ps : List Pg) (rest : List UInt8) : Prop := ∃ bs rs, qs = fillB ps bs ++ rs ∧ rest = bxsL bs ++ printL rs ∧ (ps = [] → bs = []) ∧ (∀ b ∈ bs, boxI b = 0) ∧ (∀ r ∈ rs, pgI r = 0)
theorem todo_start {s : ByteArray} {qs : List Pg} (h : parR s = some qs) : Todo qs [] s.data.toList := by
  obtain ⟨h1, h2, _, _⟩ := par_back h
  refine ⟨[], qs, rfl, ?_, fun _ => rfl, (fun b hb => by cases hb), firstP_all qs h2⟩
  rw [← h1]; simp [bxsL]
theorem todo_step {qs ps : List Pg} {rest : List UInt8} (h : Todo qs ps rest) (hne : rest ≠ []) :
    (∃ n r, 1 ≤ n ∧ n ≤ 1024 ∧ rest = headL n ++ r ∧ Todo qs (ps ++ [⟨n, []⟩]) r) ∨ (∃ b r, boxI b = 0 ∧ ps ≠ [] ∧ rest = boxL b ++ r ∧ Todo qs (putBx ps b) r) := by
  obtain ⟨bs, rs, h1, h2, h3, h4, h5⟩ := h
  cases bs with
  | nil =>
    cases rs with
    | nil => rw [h2] at hne; exact absurd rfl hne
    | cons p r =>
      obtain ⟨g1, g2, _, g4⟩ := pg_good (h5 p (by simp))
      refine .inl ⟨p.num, bxsL p.bx ++ printL r, g1, g2, ?_, p.bx, r, ?_, rfl, fun e => absurd e (by simp), g4, fun x hx => h5 x (by simp [hx])⟩
      · rw [h2]
        show bxsL [] ++ (pageL p ++ printL r) = _
        unfold pageL; simp [bxsL]
      · rw [h1, fill_page]; simp [fillB]
  | cons b r =>
    have hp : ps ≠ [] := fun e => by cases h3 e
    refine .inr ⟨b, bxsL r ++ printL rs, h4 b (by simp), hp, ?_, r, rs, h1, rfl, fun e => absurd e (putBx_ne hp b), fun x hx => h4 x (by simp [hx]), h5⟩
    rw [h2]
    show (boxL b ++ bxsL r) ++ printL rs = _
    rw [List.append_assoc]
theorem todo_end {qs ps : List Pg} (h : Todo qs ps []) : ps = qs := by
  obtain ⟨bs, rs, h1, h2, _⟩ := h
  cases bs with
  | nil =>
    cases rs with
    | nil => rw [h1]; simp [fillB]
    | cons p r => exact absurd h2 (by simp [printL, pageL, headL])
  | cons b r => exact absurd h2 (by simp [bxsL, boxL])

def pgW : ByteArray := ⟨#[112, 97, 103, 101, 32]⟩
theorem head_line (n : Int) : headL n = (pgW.data.toList ++ itoL n) ++ [10] := by unfold headL pgW; simp
theorem head_no {n : Int} (h : 0 ≤ n) : (10 : UInt8) ∉ pgW.data.toList ++ itoL n := by
  rw [List.mem_append, not_or]
  exact ⟨by decide +kernel, ito_not h (by decide)⟩
theorem box_no {b : Bx} {l : List UInt8} (hb : boxI b = 0) (h : boxL b = l ++ [10]) : (10 : UInt8) ∉ l := by
  obtain ⟨k, hk, k1, k2⟩ := kind_nat hb
  obtain ⟨_, w2, _⟩ := kw_not k k1 k2
  obtain ⟨_, _, x1, x2, y1, y2, d1, d2, b1, b2, _⟩ := bx_good hb
  have e : boxL b = ((kwB k).data.toList ++ 32 :: (itoL b.x ++ 32 :: (itoL b.y ++ 32 :: (itoL b.wd ++ 32 :: itoL b.blk))) ++ 124 :: b.text.data.toList) ++ [10] := by
    unfold boxL numL; rw [hk]; simp
  rw [e] at h
  rw [← List.append_cancel_right h]
  simp only [List.mem_append, List.mem_cons, not_or]
  exact ⟨⟨w2, by decide, ito_not x1 (by decide), by decide, ito_not y1 (by decide), by decide, ito_not d1 (by decide), by decide, ito_not b1 (by decide)⟩, by decide, text_not hb⟩
theorem box_snoc (b : Bx) : ∃ l, boxL b = l ++ [10] := by
  refine ⟨(kwB b.kind).data.toList ++ (numL b.x ++ (numL b.y ++ (numL b.wd ++ numL b.blk))) ++ (124 :: b.text.data.toList), ?_⟩
  unfold boxL; simp
/-- Whatever is left has a line. -/
theorem todo_nl {qs ps : List Pg} {rest : List UInt8} (h : Todo qs ps rest) (hne : rest ≠ []) : (10 : UInt8) ∈ rest := by
  rcases todo_step h hne with ⟨n, r, _, _, e, _⟩ | ⟨b, r, _, _, e, _⟩
  · rw [e, head_line]; simp
  · obtain ⟨l, hl⟩ := box_snoc b
    rw [e, hl]; simp
theorem ext_list (s : ByteArray) (k e : Nat) : (s.extract k e).data.toList = (s.data.toList.drop k).take (e - k) := take_drop_piece s k e
/-- The line at k is the next page's head, or the next box. -/
theorem todo_read {s : ByteArray} {qs ps : List Pg} {k e : Nat} (h : Todo qs ps (s.data.toList.drop k)) (hke : k ≤ e) (he : e < s.size) (hn : (10 : UInt8) ∉ (s.data.toList.drop k).take (e - k)) (hc : s.data.toList[e]? = some 10) :
    (∃ n, 1 ≤ n ∧ n ≤ 1024 ∧ s.extract k e = pgW ++ itoaB n ∧ Todo qs (ps ++ [⟨n, []⟩]) (s.data.toList.drop (e + 1))) ∨
    (∃ b, boxI b = 0 ∧ ps ≠ [] ∧ boxL b = (s.extract k e).data.toList ++ [10] ∧ Todo qs (putBx ps b) (s.data.toList.drop (e + 1))) := by
  have hl : (s.data.toList.drop k).length = s.size - k := by rw [List.length_drop, data_size]
  have hne : s.data.toList.drop k ≠ [] := fun e => by rw [e] at hl; simp at hl; omega
  have hc2 : (s.data.toList.drop k)[e - k]? = some 10 := by rw [List.getElem?_drop, show k + (e - k) = e by omega]; exact hc
  have hd : (s.data.toList.drop k).drop (e - k + 1) = s.data.toList.drop (e + 1) := by rw [List.drop_drop, show k + (e - k + 1) = e + 1 by omega]
  rcases todo_step h hne with ⟨n, r, n1, n2, h1, h2⟩ | ⟨b, r, hb, hp, h1, h2⟩
  · have hs : s.data.toList.drop k = (pgW.data.toList ++ itoL n) ++ 10 :: r := by rw [h1, head_line]; simp
    obtain ⟨_, q2, q3⟩ := first_at hs (head_no (by omega)) (by omega) hn hc2
    refine .inl ⟨n, n1, n2, ?_, ?_⟩
    · apply ba_ext
      rw [ext_list, q2]; simp [itoL]
    · rw [← hd, q3]; exact h2
  · obtain ⟨l, hl2⟩ := box_snoc b
    have hs : s.data.toList.drop k = l ++ 10 :: r := by rw [h1, hl2]; simp
    obtain ⟨_, q2, q3⟩ := first_at hs (box_no hb hl2) (by omega) hn hc2
    refine .inr ⟨b, hb, hp, ?_, ?_⟩
    · rw [ext_list, q2]; exact hl2
    · rw [← hd, q3]; exact h2
theorem page_line {n : Int} (h0 : 0 ≤ n) : 5 < (pgW ++ itoaB n).size ∧ (pgW ++ itoaB n).extract 0 5 = pgW ∧ (pgW ++ itoaB n).extract 5 (pgW ++ itoaB n).size = itoaB n := by
  have hd : (pgW ++ itoaB n).data.toList = pgW.data.toList ++ itoL n := by simp [itoL]
  have h5 : pgW.data.toList.length = 5 := rfl
  have hi : 0 < (itoL n).length := by
    unfold itoL
    rw [itoaB_data h0]
    exact List.length_pos_iff.2 (digits_ok n.toNat).2.1
  have hsz : (pgW ++ itoaB n).size = 5 + (itoL n).length := by rw [← data_size, hd, List.length_append, h5]
  refine ⟨by omega, ?_, ?_⟩
  · apply ba_ext
    rw [ext_list, List.drop_zero, hd, Nat.sub_zero, ← h5, List.take_left' rfl]
  · apply ba_ext
    rw [ext_list, hd, hsz, ← h5, List.drop_left' rfl, List.take_of_length_le (by omega)]; rfl
theorem kw_p (k : Nat) (h1 : 1 ≤ k) (h2 : k ≤ 6) : (kwB k).data.toList.head? ≠ some 112 ∧ (kwB k).data.toList ≠ [] := by
  have : k = 1 ∨ k = 2 ∨ k = 3 ∨ k = 4 ∨ k = 5 ∨ k = 6 := by omega
  rcases this with rfl | rfl | rfl | rfl | rfl | rfl <;> decide +kernel
theorem box_line {b : Bx} {L : ByteArray} (hb : boxI b = 0) (h : boxL b = L.data.toList ++ [10]) : L.extract 0 5 ≠ pgW := fun e => by
  obtain ⟨k, hk, k1, k2⟩ := kind_nat hb
  obtain ⟨p1, p2⟩ := kw_p k k1 k2
  have e1 := congrArg (fun x => x.data.toList) e
  simp only [ext_list, List.drop_zero, Nat.sub_zero] at e1
  have e2 : L.data.toList.head? = some 112 := by
    cases hl : L.data.toList with
    | nil => rw [hl] at e1; exact absurd e1 (by decide)
    | cons x r =>
      rw [hl] at e1
      have : x = 112 := by
        have := congrArg List.head? e1
        simpa [pgW] using this
      rw [this]; rfl
  have e3 : (boxL b).head? = some 112 := by
    rw [h]
    cases hl : L.data.toList with
    | nil => rw [hl] at e2; cases e2
    | cons x r => rw [hl] at e2; exact e2
  apply p1
  unfold boxL at e3
  rw [hk] at e3
  cases hl : (kwB k).data.toList with
  | nil => exact absurd hl p2
  | cons x r => rw [hl] at e3; exact e3
end Go.Proofs.YtkjapeafhcdnkaaDoor
