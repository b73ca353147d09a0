/-
  The statements' own functions: fine, style, width; the words of a note.
-/
import Derived.Test.YtajhkfmhoihjfaaDoorAwk
namespace Go.Proofs.YtajhkfmhoihjfaaDoor
open Go.RowKit Go.Shelf

/-! ### plain -/
theorem joinTail_cons (sep y : List UInt8) (r : List (List UInt8)) : Lib.joinTail sep (y :: r) = sep ++ y ++ Lib.joinTail sep r := by
  unfold Lib.joinTail; simp
theorem mem_join {sep : List UInt8} {c : UInt8} : ∀ {l : List (List UInt8)} {x : List UInt8}, x ∈ l → c ∈ x → c ∈ Lib.join l sep
  | y :: r, x, hx, hc => by
    rw [Lib.join_cons, List.mem_append]
    rcases List.mem_cons.1 hx with rfl | h
    · exact .inl hc
    · refine .inr ?_
      unfold Lib.joinTail
      exact List.mem_flatten.2 ⟨sep ++ x, List.mem_map.2 ⟨x, h, rfl⟩, List.mem_append.2 (.inr hc)⟩
theorem of_mem_join {sep : List UInt8} {c : UInt8} : ∀ {l : List (List UInt8)}, c ∈ Lib.join l sep → c ∈ sep ∨ ∃ x ∈ l, c ∈ x
  | [], h => by rw [Lib.join_nil] at h; cases h
  | y :: r, h => by
    rw [Lib.join_cons, List.mem_append] at h
    rcases h with h | h
    · exact .inr ⟨y, by simp, h⟩
    · unfold Lib.joinTail at h
      obtain ⟨z, hz, hc⟩ := List.mem_flatten.1 h
      obtain ⟨x, hx, rfl⟩ := List.mem_map.1 hz
      rcases List.mem_append.1 hc with h1 | h1
      · exact .inl h1
      · exact .inr ⟨x, by simp [hx], h1⟩
theorem join_append {sep : List UInt8} {a b : List (List UInt8)} (ha : a ≠ []) (hb : b ≠ []) : Lib.join (a ++ b) sep = Lib.join a sep ++ sep ++ Lib.join b sep := by
  cases a with
  | nil => exact absurd rfl ha
  | cons x r =>
    cases b with
    | nil => exact absurd rfl hb
    | cons y q =>
      rw [List.cons_append, Lib.join_cons, Lib.join_cons, Lib.join_cons]
      have : Lib.joinTail sep (r ++ y :: q) = Lib.joinTail sep r ++ (sep ++ y ++ Lib.joinTail sep q) := by
        rw [← joinTail_cons]; unfold Lib.joinTail; simp
      rw [this]; simp
theorem join_flat {sep : List UInt8} : ∀ {L : List (List (List UInt8))}, (∀ p ∈ L, p ≠ []) → Lib.join (L.map fun p => Lib.join p sep) sep = Lib.join L.flatten sep
  | [], _ => rfl
  | [p], _ => by simp [Lib.join_one]
  | p :: q :: r, h => by
    have ih := join_flat (sep := sep) (L := q :: r) fun x hx => h x (by simp [hx])
    have hq : (q :: r).flatten ≠ [] := by
      intro e
      have := h q (by simp)
      rw [List.flatten_cons] at e
      exact this (List.append_eq_nil_iff.1 e).1
    rw [List.flatten_cons, join_append (h p (by simp)) hq, ← ih]
    rw [List.map_cons, List.map_cons, Lib.join_cons, joinTail_cons, Lib.join_cons]
    simp
/-- What a word of a note is. -/
structure Word (x : ByteArray) (n : Nat) : Prop where
  ne : x.size ≠ 0
  no : (32 : UInt8) ∉ x.data.toList
  ok : ∀ c ∈ x.data.toList, badC c = false
  le : x.size ≤ n
theorem note_words {s : ByteArray} (h : noteI s = 0) : ∀ x ∈ splitS s, Word x s.size := by
  intro x hx
  unfold noteI at h
  split at h
  · cases h
  · split at h
    · cases h
    · split at h
      · cases h
      · rename_i hbad
        split at h
        · cases h
        · rename_i hhole
          have hxm : x.data.toList ∈ cutL 32 s.data.toList := by rw [← splitS_data]; exact List.mem_map.2 ⟨x, hx, rfl⟩
          refine ⟨fun e => hhole ?_, cutL_no 32 _ _ hxm, fun c hc => ?_, splitS_size s x hx⟩
          · refine List.any_eq_true.2 ⟨x, hx, decide_eq_true ?_⟩
            rcases x with ⟨a⟩
            exact congrArg ByteArray.mk (Array.eq_empty_of_size_eq_zero e).symm
          · have hcs : c ∈ s.data.toList := by
              rw [← join_cut 32 s.data.toList]
              exact mem_join hxm hc
            cases hb : badC c with
            | false => rfl
            | true => exact absurd (List.any_eq_true.2 ⟨c, hcs, hb⟩) hbad
theorem split_joinB {p : List ByteArray} (h0 : p ≠ []) (hw : ∀ x ∈ p, (32 : UInt8) ∉ x.data.toList) : splitS (joinB p) = p := by
  apply map_data_inj
  rw [splitS_data]
  unfold joinB
  simp only
  cases p with
  | nil => exact absurd rfl h0
  | cons x r =>
    rw [List.map_cons]
    exact cut_join fun y hy => by
      rw [← List.map_cons (f := fun x : ByteArray => x.data.toList)] at hy
      obtain ⟨z, hz, rfl⟩ := List.mem_map.1 hy
      exact hw z hz
theorem joinB_size (l : List ByteArray) : (joinB l).size = (Lib.join (l.map (·.data.toList)) [32]).length := rfl
/-- A line of good words is a note. -/
theorem note_line {p : List ByteArray} {n : Nat} (h0 : p ≠ []) (hw : ∀ x ∈ p, Word x n) (hl : p.length * (n + 1) ≤ 65536) : noteI (joinB p) = 0 := by
  have hs : (joinB p).size ≤ 65536 := by
    have h1 := join_le n (p.map (·.data.toList)) fun x hx => by
      obtain ⟨y, hy, rfl⟩ := List.mem_map.1 hx
      exact (hw y hy).le
    rw [List.length_map] at h1
    rw [joinB_size]; omega
  have hn : (joinB p).size ≠ 0 := by
    intro e
    cases p with
    | nil => exact h0 rfl
    | cons x r =>
      rw [joinB_size, List.map_cons, Lib.join_cons, List.length_append] at e
      have h2 := (hw x (by simp)).ne
      have h3 : x.data.toList.length = x.size := rfl
      omega
  have hb : (joinB p).data.toList.any badC = false := by
    rw [List.any_eq_false]
    intro c hc
    unfold joinB at hc
    simp only at hc
    rcases of_mem_join hc with h1 | ⟨x, hx, h1⟩
    · have : c = 32 := by simpa using h1
      subst this; decide
    · obtain ⟨y, hy, rfl⟩ := List.mem_map.1 hx
      rw [(hw y hy).ok c h1]; decide
  have hh : holeB (splitS (joinB p)) = false := by
    rw [split_joinB h0 fun x hx => (hw x hx).no]
    exact hole_no fun x hx => (hw x hx).ne
  unfold noteI
  rw [if_neg (by omega), if_neg hn, hb, hh]
  rfl

/-! ### the functions -/
def fineB (s : ByteArray) : Bool := decide (s.size ≤ 100) && decide (noteI s = 0)
theorem fine_of {s : ByteArray} (h : fineB s = true) : s.size ≤ 100 ∧ noteI s = 0 := by
  unfold fineB at h
  simpa using h

set_option maxHeartbeats 1000000 in
theorem fine_any (s : ByteArray) (w : World) :
    Calls Tryd.prog 22 #[.string s] w fun e w' => e = .returned (.bool (fineB s)) ∧ Below w.heap.size w w' := by
  have HT := hid (rntext_any s w)
  have HB : Hid (fineB s = (decide (s.size ≤ 100) && decide (noteI s = 0))) := rfl
  by_cases h1 : s.size ≤ 100
  · have q1 : (s.size : Int) ≤ 100 := by omega
    by_cases h2 : noteI s = 0
    · have hf : Hid (fineB s = true) := by rw [HB.out, decide_eq_true h1, decide_eq_true h2]; rfl
      rw [h2] at HT
      clear HB h2
      go_enter Tryd.func22, Tryd.ntmps22
      go_wp2_with fail
      refine HT.out.mono ?_
      rintro e w1 ⟨v, rfl, hr, hB⟩
      obtain ⟨a, cap, rfl, _, _, _⟩ := hr.open
      go_wp2
      go_ret
      exact ⟨ret_bool hf.out.symm, hB⟩
    · have hf : Hid (fineB s = false) := by rw [HB.out, decide_eq_true h1, decide_eq_false h2]; rfl
      have h2b : (noteI s == 0) = false := by simpa using h2
      generalize noteI s = ni at *
      go_enter Tryd.func22, Tryd.ntmps22
      go_wp2_with fail
      refine HT.out.mono ?_
      rintro e w1 ⟨v, rfl, hr, hB⟩
      obtain ⟨a, cap, rfl, _, _, _⟩ := hr.open
      go_wp2
      go_ret
      exact ⟨ret_bool hf.out.symm, hB⟩
  · have hf : Hid (fineB s = false) := by rw [HB.out, decide_eq_false h1]; rfl
    have q1 : ¬ (s.size : Int) ≤ 100 := by omega
    generalize noteI s = ni at *
    go_enter Tryd.func22, Tryd.ntmps22
    go_wp2_with fail
    refine HT.out.mono ?_
    rintro e w1 ⟨v, rfl, hr, hB⟩
    obtain ⟨a, cap, rfl, _, _, _⟩ := hr.open
    go_wp2
    go_ret
    exact ⟨ret_bool hf.out.symm, hB⟩

/-- The style of three numbers. -/
def stW (a b c : Int) : St := { width := a, lh := 0, nh := 10, ph := 0, gap := 0, sp := c, stretch := 0, shrink := 0, letter := b, hyphen := 0, every := 0, pos := (none, 0, 0), lay := (none, 0, 0) }
theorem stW_ok {a b c : Int} (ha : 0 ≤ a ∧ a ≤ 1073741824) (hb : 0 ≤ b ∧ b < 100) (hc : 0 ≤ c ∧ c < 100) : styleI (stW a b c) = 0 := by
  unfold styleI stW okL
  dsimp only
  rw [if_pos]
  refine ⟨?_, ?_, ?_, ?_⟩ <;> simp only [Bool.and_eq_true, decide_eq_true_eq] <;> omega

set_option maxHeartbeats 1000000 in
theorem lstyle_any (a b c : Int) (w : World) (ha : 0 ≤ a ∧ a < 65536) (hb : 0 ≤ b ∧ b < 65536) (hc : 0 ≤ c ∧ c < 65536) :
    Calls Tryd.prog 23 #[.int .u16 a, .int .u16 b, .int .u16 c] w fun e w' => e = .returned (.agg (stW (a % 1000) (b % 100) (c % 100)).cells) ∧ Below w.heap.size w w' := by
  obtain ⟨ha0, ha1⟩ := ha
  obtain ⟨hb0, hb1⟩ := hb
  obtain ⟨hc0, hc1⟩ := hc
  unfold stW St.cells
  dsimp only
  go_enter Tryd.func23, Tryd.ntmps23
  go_wp2
  exact bodyPost_ret (v := .agg #[.int .i64 (a % 1000), .int .i64 0, .int .i64 10, .int .i64 0, .int .i64 0, .int .i64 (c % 100), .int .i64 0, .int .i64 0, .int .i64 (b % 100), .int .i64 0, .int .i64 0, .slice none 0 0, .slice none 0 0]) (by simp [results, Tryd.results23, go_sem]) rfl ⟨rfl, below_al _ _⟩

/-- Words of a note, or the first words of one. -/
def Wds (n : Nat) (l : List ByteArray) : Prop := ∀ x ∈ l, x.size ≤ n

theorem sum_take (st : St) {l : List ByteArray} {k : Nat} {x : ByteArray} (h : l[k]? = some x) : ((l.take (k + 1)).map (wd st)).sum = ((l.take k).map (wd st)).sum + wd st x := by
  rw [List.take_add_one, h, List.map_append, List.sum_append]; simp

set_option maxHeartbeats 2000000 in
set_option maxRecDepth 100000 in
theorem lwidth_any (st : St) (v : Value) (l : List ByteArray) (w : World) (hr : RdS w v l) (hl : l.length ≤ 1000) (hw : Wds 100 l) (hlt : 0 ≤ st.letter ∧ st.letter < 100) (hsp : 0 ≤ st.sp ∧ st.sp < 100) :
    Calls Tryd.prog 26 #[.agg st.cells, v] w fun e w' => e = .returned (.int .i64 (wL st l)) ∧ Below w.heap.size w w' := by
  have HE := hid (wL_go st l)
  obtain ⟨a, cap, rfl, hlc, hcm, hcell⟩ := hr.open
  have HCell := hid hcell; clear hcell
  have HWd := hid hw; clear hw
  have hnw := World.alloc_heap_new w (.cells st.cells 25)
  have hb0 := below_al w (.cells st.cells 25)
  have HRow : Hid (∀ W : World, W.heap[w.heap.size]? = some (.cells st.cells 25 (0, 0)) → W.cell? ⟨w.heap.size, 8, none⟩ = some (.int .i64 st.letter)) := fun W h => cell_st h 8 rfl
  have hsz : w.heap.size < (w.alloc (.cells st.cells 25)).heap.size := by simp
  have hp : -100 ≤ st.sp * ((l.length : Int) - 1) ∧ st.sp * ((l.length : Int) - 1) ≤ 100000 := by
    have h1 : 0 ≤ st.sp * (l.length : Int) := Int.mul_nonneg hsp.1 (by omega)
    have h2 : st.sp * (l.length : Int) ≤ 100 * (l.length : Int) := Int.mul_le_mul_of_nonneg_right (by omega) (by omega)
    have h3 : st.sp * ((l.length : Int) - 1) = st.sp * (l.length : Int) - st.sp := by rw [Int.mul_sub, Int.mul_one]
    omega
  have HST : Hid (((w.alloc (.cells st.cells 25))).heap[w.heap.size]? = some (.cells st.cells 25 (0, 0))) := hnw
  have HB0 := hid hb0
  have HSZ := hid hsz
  clear hnw hb0 hsz
  unfold St.cells at *
  go_enter Tryd.func26, Tryd.ntmps26
  go_wp2
  generalize w.alloc (.cells #[.int .i64 st.width, .int .i64 st.lh, .int .i64 st.nh, .int .i64 st.ph, .int .i64 st.gap, .int .i64 st.sp, .int .i64 st.stretch, .int .i64 st.shrink, .int .i64 st.letter, .int .i64 st.hyphen, .int .i64 st.every, .slice st.pos.1 st.pos.2.1 st.pos.2.2, .slice st.lay.1 st.lay.2.1 st.lay.2.2] 25) = w0 at *
  go_loopw [5, 16] (fun s i wr => ∃ (k : Nat) (S : Int), k ≤ l.length ∧ i = .int .i64 k ∧ s = .int .i64 S ∧ Hid (S = st.sp * ((l.length : Int) - 1) + ((l.take k).map (wd st)).sum) ∧ -100 ≤ S ∧ S ≤ 100000 + k * 9900 ∧ Below w0.heap.size w0 wr) (fun _ i _ => l.length - (intOf i).toNat)
  case atStart => exact ⟨0, _, by omega, rfl, rfl, by simp [Hid], by omega, by omega, Below.refl _ _⟩
  case round =>
    obtain ⟨k, S, hk, rfl, rfl, HS, hs0, hs1, hB⟩ := hrel
    by_cases hkl : k < l.length
    · obtain ⟨x, b, off, hx, rfl, hc⟩ := HCell.out k hkl
      have hcw := Below.keeps hB _ _ (Below.keeps HB0.out _ _ hc)
      have hst := HRow.out wr ((hB.block _ HSZ.out).trans HST.out)
      have hxs := HWd.out x (List.mem_of_getElem? hx)
      have HSum := hid (sum_take st hx)
      clear hx hc
      have HCl := fun w' => hid (clus_any x w' (by omega))
      have hcl := clN_le x
      have hwd : 0 ≤ st.letter * (clN x : Int) ∧ st.letter * (clN x : Int) ≤ 9900 := by
        refine ⟨Int.mul_nonneg hlt.1 (by omega), ?_⟩
        have h1 : st.letter * (clN x : Int) ≤ 99 * (clN x : Int) := Int.mul_le_mul_of_nonneg_right (by omega) (by omega)
        omega
      obtain ⟨W, hW⟩ : ∃ W, st.letter * (clN x : Int) = W := ⟨_, rfl⟩
      rw [hW] at hwd
      have HWD : Hid (wd st x = W) := hW
      have hwrW : IntKind.i64.wrap W = W := IntWalk.i64_in _ (by omega)
      have hwrS : IntKind.i64.wrap (S + W) = S + W := IntWalk.i64_in _ (by omega)
      go_wp2_with fail
      go_region_held3 (fun w' => w'.cell? ⟨w.heap.size, 8, none⟩ = some (.int .i64 st.letter) ∧ Below wr.heap.size wr w')
        ((refine ⟨?_, ?_⟩ <;> first | assumption | (exact Below.refl _ _) | (exact Below.drew (by assumption)) | (exact (Below.refl _ _).drew) | go_keep))
        (first
          | (go_at_call 47; go_split_ands; refine (HCl _).out.mono ?_; rintro e w3 ⟨v', ks, rfl, hks, hkl, hB'⟩; obtain ⟨a', cap', rfl, _, _, _⟩ := hks.open; rw [hkl]; have k1 : w3.cell? ⟨w.heap.size, 8, none⟩ = some (.int .i64 st.letter) := Below.keeps hB' _ _ (by assumption); have k2 : Below wr.heap.size wr w3 := below_tr (by assumption) hB'))
      all_goals go_split_ands
      all_goals
        go_wp2
        go_roundw
        case rel => exact ⟨k + 1, S + W, by omega, by go_num, rfl, by unfold Hid; rw [HSum.out, HS.out, HWD.out]; omega, by omega, by omega, below_tr hB k2⟩
        case measure => simp [intOf]; omega
    · have HF : Hid (wL st l = S) := by rw [HE.out, HS.out, List.take_of_length_le (by omega)]; rfl
      have HBE := hid (below_tr HB0.out (hB))
      go_wp2
      go_ret
      exact ⟨ret_int HF.out.symm, HBE.out⟩
end Go.Proofs.YtajhkfmhoihjfaaDoor
