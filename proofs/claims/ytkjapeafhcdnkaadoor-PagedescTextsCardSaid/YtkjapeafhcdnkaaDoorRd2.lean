/-
  The reader of the line of a box (pagedesc.readers$2).
-/
import Derived.Test.YtkjapeafhcdnkaaDoorPgI
import Derived.Test.YtkjapeafhcdnkaaDoorTxS
import Derived.Test.YtkjapeafhcdnkaaDoorCut
namespace Go.Proofs.YtkjapeafhcdnkaaDoor
open Go.RowKit Go.Shelf

/-- append, under a name that the walk does not lay open: its run is then taken from the context. -/
def apx (ts : Array TypeId) (ty : TypeId) (args : Array Value) : Sem Value := Builtin.append_ ts ty args
theorem apx_eq (ts : Array TypeId) (ty : TypeId) (args : Array Value) : Builtin.append_ ts ty args = apx ts ty args := rfl
attribute [local go_sem ↓] apx_eq
theorem run_apx {P : Program} {W : World} (t ty : TypeId) (base : Nat) (e : TypeId) {z : Value} {size bytes : Nat} (ht : P.underlying t = some (.slice e)) (hi : (P.info? e).map (fun i => (i.zero, i.size, i.bytes)) = some (some z, size, bytes))
    (hzs : z.cells.size = size) (hsz : 0 < size) (hby : bytes ≤ 64)
    (v : Value) (n : Nat) (xs : List Value) (hown : W.ownsRow base e size v n xs) (news : List Value) (hl : news.length = size) (h1 : ∀ u ∈ news, u.oneCell' = true)
    (hn : n + 1 ≤ 4294967296) (hbase : base ≤ W.heap.size) :
    ∃ g cap w', (apx #[t, t] ty #[v, .slice (some ⟨W.heap.size, 0, none⟩) 1 1]).run P (W.alloc (.cells news.toArray e)) = .ok (.slice (some ⟨g, 0, none⟩) (n + 1) cap) w' ∧
      w'.ownsRow base e size (.slice (some ⟨g, 0, none⟩) (n + 1) cap) (n + 1) (xs ++ news) ∧ W.grownBy w' v.ownBlock ∧ (v.ownBlock = some g ∨ W.heap.size < g) := by
  obtain ⟨g, cap, w', h1, h2, _, h4, h5, _⟩ := run_ap t ty base e ht hi hzs hsz hby v n xs hown news hl h1 hn hbase
  exact ⟨g, cap, w', h1, h2, h4, h5⟩

theorem form_of {W : World} {base : Nat} {e : TypeId} {size n cap : Nat} {av : Option Addr} {xs : List Value} (h : W.ownsRow base e size (.slice av n cap) n xs) (hn : 0 < n) : ∃ g cap', Value.slice av n cap = .slice (some ⟨g, 0, none⟩) n cap' := by
  rcases h.2 with ⟨_, h0⟩ | ⟨g, cap', cur, e, _⟩
  · omega
  · exact ⟨g, cap', e⟩
/-- strings.Cut at the byte c. -/
def cutC (c : UInt8) (s : ByteArray) : ByteArray × ByteArray × Bool := (⟨(Lib.cut s.data.toList [c]).1.toArray⟩, ⟨(Lib.cut s.data.toList [c]).2.1.toArray⟩, (Lib.cut s.data.toList [c]).2.2)
theorem cutC_any (c : UInt8) (s : ByteArray) (m : Int) (w : World) (hs : s.size < 4294967281) (hm : w.cell? ⟨0, 0, none⟩ = some (.int .i64 m)) :
    Calls Tryd.prog 49 #[.string s, .string ⟨#[c]⟩] w fun e w' => e = .returned (.tuple #[.string (cutC c s).1, .string (cutC c s).2.1, .bool (cutC c s).2.2]) ∧ Below w.heap.size w w' := by
  refine (Go.Proofs.Any.strings_Cut { Tryd.laysM145 with } s ⟨#[c]⟩ m w hs hm).mono ?_
  rintro e w' ⟨rfl, n, rfl⟩
  exact ⟨rfl, below_drewN (Below.refl _ _) n⟩
theorem cutC_size (c : UInt8) (s : ByteArray) : (cutC c s).1.size ≤ s.size ∧ (cutC c s).2.1.size ≤ s.size := by
  unfold cutC Lib.cut
  constructor
  · split
    · show (List.toArray _).size ≤ _
      rw [List.size_toArray, List.length_take, data_size]; omega
    · show (List.toArray _).size ≤ _
      rw [List.size_toArray, data_size]; exact Nat.le_refl _
  · split
    · show (List.toArray _).size ≤ _
      rw [List.size_toArray, List.length_drop, data_size]; omega
    · show (List.toArray _).size ≤ _
      exact Nat.zero_le _
theorem splitX_any (s : ByteArray) (m : Int) (w : World) (hs : s.size < 4294967281) (hm : w.cell? ⟨0, 0, none⟩ = some (.int .i64 m)) :
    Calls Tryd.prog 74 #[.string s, .string ⟨#[32]⟩] w fun e w' => e = .returned (.slice (some ⟨w.heap.size, 0, none⟩) (splitS s).length (splitS s).length) ∧ w.alloc (.cells ((splitS s).map Value.string).toArray 9) = w' := by
  refine (Go.Proofs.Any.strings_Split { Tryd.laysM146 with } Tryd.laysM146.i9 s ⟨#[32]⟩ m w hs hm (by decide)).mono ?_
  rintro e w' ⟨rfl, rfl⟩
  exact ⟨by rw [splitS_count], rfl⟩
/-- The box of a line behind its word. -/
def boxP (i : Int) (s : ByteArray) : Option Bx :=
  match (cutC 124 s).2.2, splitS (cutC 124 s).1 with
  | true, [a, b, c, d] => if (nokB a && nokB b && nokB c && nokB d) = true then some ⟨i, decV a, decV b, decV c, decV d, (cutC 124 s).2.1⟩ else none
  | _, _ => none
/-- The cells of the box while its numbers are read. -/
def bxc (i d0 d1 d2 d3 : Int) (t : ByteArray) : Nat → Array Value
  | 0 => #[.int .i64 i, .int .i64 0, .int .i64 0, .int .i64 0, .int .i64 0, .string t]
  | 1 => #[.int .i64 i, .int .i64 d0, .int .i64 0, .int .i64 0, .int .i64 0, .string t]
  | 2 => #[.int .i64 i, .int .i64 d0, .int .i64 d1, .int .i64 0, .int .i64 0, .string t]
  | 3 => #[.int .i64 i, .int .i64 d0, .int .i64 d1, .int .i64 d2, .int .i64 0, .string t]
  | _ => #[.int .i64 i, .int .i64 d0, .int .i64 d1, .int .i64 d2, .int .i64 d3, .string t]
def okc (a b c d : Bool) : Nat → Bool
  | 0 => true
  | 1 => a
  | 2 => a && b
  | 3 => a && b && c
  | _ => a && b && c && d
/-- The box put behind the last page's others. -/
def putBx (ps : List Pg) (b : Bx) : List Pg := match ps.getLast? with
  | none => ps
  | some p => ps.dropLast ++ [⟨p.num, p.bx ++ [b]⟩]
theorem boxP_none1 {i : Int} {s : ByteArray} (h : (cutC 124 s).2.2 = false) : boxP i s = none := by unfold boxP; rw [h]
theorem boxP_none2 {i : Int} {s : ByteArray} (h : (splitS (cutC 124 s).1).length ≠ 4) : boxP i s = none := by
  unfold boxP
  split
  · rename_i e; rw [e] at h; exact absurd rfl h
  · rfl
theorem boxP_four {i : Int} {s a b c d : ByteArray} (h1 : (cutC 124 s).2.2 = true) (h2 : splitS (cutC 124 s).1 = [a, b, c, d]) : boxP i s = if (nokB a && nokB b && nokB c && nokB d) = true then some ⟨i, decV a, decV b, decV c, decV d, (cutC 124 s).2.1⟩ else none := by
  unfold boxP; rw [h1, h2]

set_option maxRecDepth 100000 in
set_option maxHeartbeats 4000000 in
theorem rd2_any (v : Value) (ps : List Pg) (s : ByteArray) (base c : Nat) (i : Int) (m : Int) (w : World) (he : Env w) (hm : w.cell? ⟨0, 0, none⟩ = some (.int .i64 m)) (h : PgI w base v ps) (hc : Row w c #[.int .i64 i] 3) (hb : base ≤ w.heap.size) (hs : s.size ≤ 1048576) (hn : ps.length ≤ 1000000) (hbn : ∀ p ∈ ps, p.bx.length ≤ 1000000) :
    Calls Tryd.prog 73 #[v, .string s, .pointer (some ⟨c, 0, none⟩)] w fun e w' => ∃ v' ok, e = .returned (.tuple #[v', .bool ok]) ∧ (ok = (decide (ps ≠ []) && (boxP i s).isSome)) ∧ (∀ b, boxP i s = some b → ps ≠ [] → PgI w' base v' (putBx ps b)) ∧ Below base w w' := by
  have hz := cutC_size 124 s
  have HC1 := hid (cutC_any 124 s m w (by omega) hm)
  have HS1 := fun w' (hB : Below w.heap.size w w') => hid (splitX_any (cutC 124 s).1 m w' (by omega) (Below.keeps hB _ _ hm))
  have HE := fun w' (h : Below w.heap.size w w') => hid (he.below h)
  have HP := hid h
  have HRC := hid hc
  have HBN := hid hbn
  obtain ⟨av, nv, cv, rfl⟩ : ∃ av nv cv, v = .slice av nv cv := by
    obtain ⟨a, cap, e, _⟩ := h.rd
    exact ⟨_, _, _, e⟩
  obtain ⟨rfl⟩ : nv = ps.length := by
    obtain ⟨a, cap, e, _⟩ := h.rd
    cases e; rfl
  clear h hc he hm hbn
  have HX := hid (show boxP i s = boxP i s from rfl)
  cases h1 : (cutC 124 s).2.2 with
  | false =>
    have HV := hid (boxP_none1 (i := i) h1)
    rw [h1] at HC1
    go_enter Tryd.func73, Tryd.ntmps73
    go_wp2_with fail
    refine HC1.out.mono ?_
    rintro e w1 ⟨rfl, hB1⟩
    have HS := HS1 _ hB1
    have HB2 := hid (below_tr hB1 (below_al w1 (.cells ((splitS (cutC 124 s).1).map Value.string).toArray 9)))
    clear hB1 HC1 HS1
    go_wp2_with fail
    refine HS.out.mono ?_
    rintro e w2 ⟨rfl, hw2⟩
    rw [hw2] at HB2
    clear HS hw2
    go_wp2
    go_ret2
    exact ⟨_, _, rfl, by rw [HV.out]; simp, (by intro b hbb; rw [HV.out] at hbb; cases hbb), HB2.out.mono hb⟩
  | true =>
    rw [h1] at HC1
    by_cases h4 : (splitS (cutC 124 s).1).length = 4
    · obtain ⟨p0, p1, p2, p3, hp⟩ : ∃ p0 p1 p2 p3, splitS (cutC 124 s).1 = [p0, p1, p2, p3] := by
        match splitS (cutC 124 s).1, h4 with
        | [p0, p1, p2, p3], _ => exact ⟨p0, p1, p2, p3, rfl⟩
      have HV := hid (boxP_four (i := i) h1 hp)
      have hpz := splitS_size (cutC 124 s).1
      rw [hp] at HS1 hpz
      have z0 := hpz p0 (by simp)
      have z1 := hpz p1 (by simp)
      have z2 := hpz p2 (by simp)
      have z3 := hpz p3 (by simp)
      simp only [List.length_cons, List.length_nil, Nat.reduceAdd, List.map_cons, List.map_nil] at HS1
      clear h4 hp hpz h1
      by_cases h0 : ps = []
      · subst h0
        go_enter Tryd.func73, Tryd.ntmps73
        go_wp2_with fail
        refine HC1.out.mono ?_
        rintro e w1 ⟨rfl, hB1⟩
        have HS := HS1 _ hB1
        have HB2 := hid (below_tr hB1 (below_al w1 (.cells #[.string p0, .string p1, .string p2, .string p3] 9)))
        clear hB1 HC1 HS1
        go_wp2_with fail
        refine HS.out.mono ?_
        rintro e w2 ⟨rfl, hw2⟩
        rw [hw2] at HB2
        clear HS hw2
        go_wp2
        go_ret2
        exact ⟨_, _, rfl, by simp, (by intro b _ h; exact absurd rfl h), HB2.out.mono hb⟩
      · obtain ⟨init, p, rfl⟩ : ∃ init p, ps = init ++ [p] := by
          rcases List.eq_nil_or_concat ps with h | ⟨a, b, h⟩
          · exact absurd h h0
          · exact ⟨a, b, by rw [h, List.concat_eq_append]⟩
        have hnl : ((init ++ [p]).length : Nat) = init.length + 1 := by simp
        rw [hnl] at HP ⊢
        have HPB : ∀ b, putBx (init ++ [p]) b = init ++ [⟨p.num, p.bx ++ [b]⟩] := fun b => by
          unfold putBx; rw [List.getLast?_concat, List.dropLast_concat]
        have HPB := hid HPB
        have hne0 : ¬ (init.length : Int) + 1 = 0 := by omega
        have hne1 : ((init.length : Int) + 1 == 0) = false := by rw [beq_eq_false_iff_ne]; omega
        have hnl2 : init.length + 1 ≤ 1000000 := by omega
        go_enter Tryd.func73, Tryd.ntmps73
        go_wp2_with fail
        refine HC1.out.mono ?_
        rintro e w1 ⟨rfl, hB1⟩
        have HS := HS1 _ hB1
        have HB2 := hid (below_tr hB1 (below_al w1 (.cells #[.string p0, .string p1, .string p2, .string p3] 9)))
        have HR2 := hid (row_nw w1 #[.string p0, .string p1, .string p2, .string p3] 9 rfl)
        have hw1s := hB1.size
        clear hB1 HC1 HS1
        go_wp2_with fail
        refine HS.out.mono ?_
        rintro e w2 ⟨rfl, hw2⟩
        rw [hw2] at HB2 HR2
        generalize w1.heap.size = pb at *
        clear HS hw2
        have k0 := (HRC.out.below HB2.out).cell 0 rfl
        have hr1 := row_nw w2 #[.int .i64 i, .int .i64 0, .int .i64 0, .int .i64 0, .int .i64 0, .string (cutC 124 s).2.1] 42 rfl
        have hr2 := hr1.al (.cells #[.pointer (some ⟨w2.heap.size, 1, none⟩), .pointer (some ⟨w2.heap.size, 2, none⟩), .pointer (some ⟨w2.heap.size, 3, none⟩), .pointer (some ⟨w2.heap.size, 4, none⟩)] 111)
        have HRB := hid hr2
        have HRQ := hid (row_nw (w2.alloc (.cells #[.int .i64 i, .int .i64 0, .int .i64 0, .int .i64 0, .int .i64 0, .string (cutC 124 s).2.1] 42)) #[.pointer (some ⟨w2.heap.size, 1, none⟩), .pointer (some ⟨w2.heap.size, 2, none⟩), .pointer (some ⟨w2.heap.size, 3, none⟩), .pointer (some ⟨w2.heap.size, 4, none⟩)] 111 (n := w2.heap.size + 1) (by simp))
        have HB3 := hid (below_tr HB2.out (below_tr (below_al w2 (.cells #[.int .i64 i, .int .i64 0, .int .i64 0, .int .i64 0, .int .i64 0, .string (cutC 124 s).2.1] 42)) (below_al _ (.cells #[.pointer (some ⟨w2.heap.size, 1, none⟩), .pointer (some ⟨w2.heap.size, 2, none⟩), .pointer (some ⟨w2.heap.size, 3, none⟩), .pointer (some ⟨w2.heap.size, 4, none⟩)] 111))))
        have HR3 := hid ((HR2.out.al (.cells #[.int .i64 i, .int .i64 0, .int .i64 0, .int .i64 0, .int .i64 0, .string (cutC 124 s).2.1] 42)).al (.cells #[.pointer (some ⟨w2.heap.size, 1, none⟩), .pointer (some ⟨w2.heap.size, 2, none⟩), .pointer (some ⟨w2.heap.size, 3, none⟩), .pointer (some ⟨w2.heap.size, 4, none⟩)] 111))
        have hpbl := HR2.out.lt
        have hs2 := HB2.out.size
        clear hr1 hr2 HB2 HR2
        go_wp2_with fail
        generalize (w2.alloc (.cells #[.int .i64 i, .int .i64 0, .int .i64 0, .int .i64 0, .int .i64 0, .string (cutC 124 s).2.1] 42)).alloc (.cells #[.pointer (some ⟨w2.heap.size, 1, none⟩), .pointer (some ⟨w2.heap.size, 2, none⟩), .pointer (some ⟨w2.heap.size, 3, none⟩), .pointer (some ⟨w2.heap.size, 4, none⟩)] 111) = w3 at *
        generalize w2.heap.size = bb at *
        generalize (cutC 124 s).2.1 = tx at *
        clear k0
        go_loopw [46] (fun ix wr => ∃ n : Nat, n ≤ 4 ∧ ix = .int .i64 n ∧ Hid (Row wr bb (bxc i (decV p0) (decV p1) (decV p2) (decV p3) tx n) 42) ∧ Hid (Row wr (bb + 1) #[.pointer (some ⟨bb, 1, none⟩), .pointer (some ⟨bb, 2, none⟩), .pointer (some ⟨bb, 3, none⟩), .pointer (some ⟨bb, 4, none⟩)] 111) ∧ Hid (Row wr pb #[.string p0, .string p1, .string p2, .string p3] 9) ∧ Hid (Below w.heap.size w wr) ∧ Hid (okc (nokB p0) (nokB p1) (nokB p2) (nokB p3) n = true)) (fun ix _ => 4 - (intOf ix).toNat)
        case atStart => exact ⟨0, by omega, rfl, HRB.out, HRQ.out, HR3.out, HB3.out, rfl⟩
        case round =>
          clear HRB HRQ HR3 HB3
          obtain ⟨n, hn4, rfl, HRB, HRQ, HR3, HB, HOK⟩ := hrel
          by_cases hlt : n < 4
          · have hn : n = 0 ∨ n = 1 ∨ n = 2 ∨ n = 3 := by omega
            rcases hn with rfl | rfl | rfl | rfl
            · have cq := HRQ.out.cell 0 rfl
              have cp := HR3.out.cell 0 rfl
              have HN := hid (number_any p0 wr (HE _ HB.out).out (by omega))
              go_wp2_with fail
              refine HN.out.mono ?_
              rintro e w5 ⟨rfl, hB5⟩
              have HRB5 := hid (HRB.out.below hB5)
              have HRQ5 := hid (HRQ.out.below hB5)
              have HR5 := hid (HR3.out.below hB5)
              have HB5 := hid (below_tr HB.out hB5)
              clear HRB HRQ HR3 HB hB5 HN cq cp
              cases hk : nokB p0 with
              | false =>
                have HV2 : Hid (boxP i s = none) := by unfold Hid; rw [HV.out, hk]; simp
                go_wp2
                go_ret2
                exact ⟨_, _, rfl, by rw [HV2.out]; simp, (by intro b hbb; rw [HV2.out] at hbb; cases hbb), HB5.out.mono hb⟩
              | true =>
                have cb := HRB5.out.cell 1 rfl
                have fb := HRB5.out.frozen 1
                have HRB6 := hid (HRB5.out.set 1 (.int .i64 (decV p0)))
                have HRQ6 := hid (HRQ5.out.other ⟨bb, 1, none⟩ (.int .i64 (decV p0)) (by simp))
                have HR6 := hid (HR5.out.other ⟨bb, 1, none⟩ (.int .i64 (decV p0)) (by show pb ≠ bb; omega))
                have HB6 := hid (HB5.out.setCell (p := ⟨bb, 1, none⟩) (by show w.heap.size ≤ bb; omega) (.int .i64 (decV p0)))
                have HOK2 : Hid (okc (nokB p0) (nokB p1) (nokB p2) (nokB p3) 1 = true) := by have h := HOK.out; simp only [Hid, okc] at *; simp [hk]
                clear HRB5 HRQ5 HR5 HB5 HOK
                go_wp2_with fail
                go_roundw
                case rel => exact ⟨1, by omega, by go_num, HRB6.out, HRQ6.out, HR6.out, HB6.out, HOK2.out⟩
                case measure => first | (simp [intOf]; omega) | simp [intOf]
            · have cq := HRQ.out.cell 1 rfl
              have cp := HR3.out.cell 1 rfl
              have HN := hid (number_any p1 wr (HE _ HB.out).out (by omega))
              go_wp2_with fail
              refine HN.out.mono ?_
              rintro e w5 ⟨rfl, hB5⟩
              have HRB5 := hid (HRB.out.below hB5)
              have HRQ5 := hid (HRQ.out.below hB5)
              have HR5 := hid (HR3.out.below hB5)
              have HB5 := hid (below_tr HB.out hB5)
              clear HRB HRQ HR3 HB hB5 HN cq cp
              cases hk : nokB p1 with
              | false =>
                have HV2 : Hid (boxP i s = none) := by unfold Hid; rw [HV.out, hk]; simp
                go_wp2
                go_ret2
                exact ⟨_, _, rfl, by rw [HV2.out]; simp, (by intro b hbb; rw [HV2.out] at hbb; cases hbb), HB5.out.mono hb⟩
              | true =>
                have cb := HRB5.out.cell 2 rfl
                have fb := HRB5.out.frozen 2
                have HRB6 := hid (HRB5.out.set 2 (.int .i64 (decV p1)))
                have HRQ6 := hid (HRQ5.out.other ⟨bb, 2, none⟩ (.int .i64 (decV p1)) (by simp))
                have HR6 := hid (HR5.out.other ⟨bb, 2, none⟩ (.int .i64 (decV p1)) (by show pb ≠ bb; omega))
                have HB6 := hid (HB5.out.setCell (p := ⟨bb, 2, none⟩) (by show w.heap.size ≤ bb; omega) (.int .i64 (decV p1)))
                have HOK2 : Hid (okc (nokB p0) (nokB p1) (nokB p2) (nokB p3) 2 = true) := by have h := HOK.out; simp only [Hid, okc] at *; simp [h, hk]
                clear HRB5 HRQ5 HR5 HB5 HOK
                go_wp2_with fail
                go_roundw
                case rel => exact ⟨2, by omega, by go_num, HRB6.out, HRQ6.out, HR6.out, HB6.out, HOK2.out⟩
                case measure => first | (simp [intOf]; omega) | simp [intOf]
            · have cq := HRQ.out.cell 2 rfl
              have cp := HR3.out.cell 2 rfl
              have HN := hid (number_any p2 wr (HE _ HB.out).out (by omega))
              go_wp2_with fail
              refine HN.out.mono ?_
              rintro e w5 ⟨rfl, hB5⟩
              have HRB5 := hid (HRB.out.below hB5)
              have HRQ5 := hid (HRQ.out.below hB5)
              have HR5 := hid (HR3.out.below hB5)
              have HB5 := hid (below_tr HB.out hB5)
              clear HRB HRQ HR3 HB hB5 HN cq cp
              cases hk : nokB p2 with
              | false =>
                have HV2 : Hid (boxP i s = none) := by unfold Hid; rw [HV.out, hk]; simp
                go_wp2
                go_ret2
                exact ⟨_, _, rfl, by rw [HV2.out]; simp, (by intro b hbb; rw [HV2.out] at hbb; cases hbb), HB5.out.mono hb⟩
              | true =>
                have cb := HRB5.out.cell 3 rfl
                have fb := HRB5.out.frozen 3
                have HRB6 := hid (HRB5.out.set 3 (.int .i64 (decV p2)))
                have HRQ6 := hid (HRQ5.out.other ⟨bb, 3, none⟩ (.int .i64 (decV p2)) (by simp))
                have HR6 := hid (HR5.out.other ⟨bb, 3, none⟩ (.int .i64 (decV p2)) (by show pb ≠ bb; omega))
                have HB6 := hid (HB5.out.setCell (p := ⟨bb, 3, none⟩) (by show w.heap.size ≤ bb; omega) (.int .i64 (decV p2)))
                have HOK2 : Hid (okc (nokB p0) (nokB p1) (nokB p2) (nokB p3) 3 = true) := by have h := HOK.out; simp only [Hid, okc] at *; simp [h, hk]
                clear HRB5 HRQ5 HR5 HB5 HOK
                go_wp2_with fail
                go_roundw
                case rel => exact ⟨3, by omega, by go_num, HRB6.out, HRQ6.out, HR6.out, HB6.out, HOK2.out⟩
                case measure => first | (simp [intOf]; omega) | simp [intOf]
            · have cq := HRQ.out.cell 3 rfl
              have cp := HR3.out.cell 3 rfl
              have HN := hid (number_any p3 wr (HE _ HB.out).out (by omega))
              go_wp2_with fail
              refine HN.out.mono ?_
              rintro e w5 ⟨rfl, hB5⟩
              have HRB5 := hid (HRB.out.below hB5)
              have HRQ5 := hid (HRQ.out.below hB5)
              have HR5 := hid (HR3.out.below hB5)
              have HB5 := hid (below_tr HB.out hB5)
              clear HRB HRQ HR3 HB hB5 HN cq cp
              cases hk : nokB p3 with
              | false =>
                have HV2 : Hid (boxP i s = none) := by unfold Hid; rw [HV.out, hk]; simp
                go_wp2
                go_ret2
                exact ⟨_, _, rfl, by rw [HV2.out]; simp, (by intro b hbb; rw [HV2.out] at hbb; cases hbb), HB5.out.mono hb⟩
              | true =>
                have cb := HRB5.out.cell 4 rfl
                have fb := HRB5.out.frozen 4
                have HRB6 := hid (HRB5.out.set 4 (.int .i64 (decV p3)))
                have HRQ6 := hid (HRQ5.out.other ⟨bb, 4, none⟩ (.int .i64 (decV p3)) (by simp))
                have HR6 := hid (HR5.out.other ⟨bb, 4, none⟩ (.int .i64 (decV p3)) (by show pb ≠ bb; omega))
                have HB6 := hid (HB5.out.setCell (p := ⟨bb, 4, none⟩) (by show w.heap.size ≤ bb; omega) (.int .i64 (decV p3)))
                have HOK2 : Hid (okc (nokB p0) (nokB p1) (nokB p2) (nokB p3) 4 = true) := by have h := HOK.out; simp only [Hid, okc] at *; simp [h, hk]
                clear HRB5 HRQ5 HR5 HB5 HOK
                go_wp2_with fail
                go_roundw
                case rel => exact ⟨4, by omega, by go_num, HRB6.out, HRQ6.out, HR6.out, HB6.out, HOK2.out⟩
                case measure => first | (simp [intOf]; omega) | simp [intOf]
          · have hni : ¬ (n : Int) < 4 := by omega
            obtain rfl : n = 4 := by omega
            have HV2 : Hid (boxP i s = some ⟨i, decV p0, decV p1, decV p2, decV p3, tx⟩) := by unfold Hid; rw [HV.out, if_pos (show (nokB p0 && nokB p1 && nokB p2 && nokB p3) = true from HOK.out)]
            clear HV HOK HRQ HR3
            obtain ⟨phs, g1, g2, g3, g4⟩ := (HP.out.below (Below.drew HB.out)).ex
            obtain ⟨ini, h, rfl, rfl⟩ : ∃ (ini : List (Pg × Value)) (h : Value), init = ini.map (·.1) ∧ phs = ini ++ [(p, h)] := by
              rcases List.eq_nil_or_concat phs with e | ⟨x, y, e⟩
              · rw [e] at g1; simp at g1
              · rw [List.concat_eq_append] at e
                rw [e, List.map_append] at g1
                obtain ⟨e1, e2⟩ := List.append_inj' g1 rfl
                have e3 : y.1 = p := by simpa using e2
                refine ⟨x, y.2, e1.symm, ?_⟩
                rw [e, ← e3]
            have hl : (ini.map (fun x => x.1) ++ [p]).length = ini.length + 1 := by simp
            rw [hl] at g2
            simp only [List.length_map] at g2 hne0 hne1 hnl2 ⊢
            obtain ⟨gv, capv, hge⟩ := Go.Proofs.YtkjapeafhcdnkaaDoor.form_of g2 (by omega)
            cases hge
            have hrow := g3 (p, h) (by simp)
            have hbl := HBN.out p (by simp)
            have hsz : base ≤ wr.drew.heap.size := Nat.le_trans hb HB.out.size
            obtain ⟨g9, cap9, w9, happ, hown9, hgr, hlies⟩ := run_apx (P := Tryd.prog) 32 32 base 42 Tryd.underlying32 infoBx rfl (by decide) (by decide) h p.bx.length (boxCs p.bx) hrow [.int .i64 i, .int .i64 (decV p0), .int .i64 (decV p1), .int .i64 (decV p2), .int .i64 (decV p3), .string tx] rfl (by simp [Value.oneCell']) (by omega) hsz
            have hpush := PgI.push (b := ⟨i, decV p0, decV p1, decV p2, decV p3, tx⟩) g2 g3 g4 hown9 hgr (fun g hg => by
              have e : g9 = g := by simpa [Value.ownBlock] using hg
              rcases hlies with e1 | e1
              · exact .inl (by rw [e1, e])
              · exact .inr (by omega))
            have hv1 := kept_of g2 hgr (fun g hgo => own_ne g2 hrow (by decide) hgo)
            have hat : (pgCs (ini ++ [(p, h)]))[ini.length * 2 + 1]? = some h := by
              rw [pgCs_snoc, List.getElem?_append_right (by rw [pgCs_len]; omega), pgCs_len, show ini.length * 2 + 1 - ini.length * 2 = 1 by omega]; rfl
            have ch : wr.cell? ⟨gv, ini.length * 2 + 1, none⟩ = some h := (World.ownsRow.cellAt g2 (ini.length * 2 + 1) (by omega)).trans hat
            have ch2 := cell_al ch (.cells #[.int .i64 i, .int .i64 (decV p0), .int .i64 (decV p1), .int .i64 (decV p2), .int .i64 (decV p3), .string tx] 42)
            have cst : w9.cell? ⟨gv, ini.length * 2 + 1, none⟩ = some h := (World.ownsRow.cellAt hv1 (ini.length * 2 + 1) (by omega)).trans hat
            have fst := World.ownsRow.frozenAt hv1 (ini.length * 2 + 1)
            have hgv := (g2.lt gv rfl).1
            have HBF := hid (((((Below.drew HB.out).mono hb).grown hgr hsz (fun k hk => (hrow.lt k hk).1)).setCell (p := ⟨gv, ini.length * 2 + 1, none⟩) hgv (.slice (some ⟨g9, 0, none⟩) (p.bx.length + 1) cap9)))
            have happ2 : (apx #[32, 32] 32 #[h, .slice (some ⟨wr.heap.size, 0, none⟩) 1 1]).run Tryd.prog (wr.alloc (.cells #[.int .i64 i, .int .i64 (decV p0), .int .i64 (decV p1), .int .i64 (decV p2), .int .i64 (decV p3), .string tx] 42)).drew = .ok (.slice (some ⟨g9, 0, none⟩) (p.bx.length + 1) cap9) w9 := happ
            have HPU := hid hpush.1
            have e0 : wr.cell? ⟨bb, 0, none⟩ = some (.int .i64 i) := HRB.out.cell 0 rfl
            have e1 : wr.cell? ⟨bb, 1, none⟩ = some (.int .i64 (decV p0)) := HRB.out.cell 1 rfl
            have e2 : wr.cell? ⟨bb, 2, none⟩ = some (.int .i64 (decV p1)) := HRB.out.cell 2 rfl
            have e3 : wr.cell? ⟨bb, 3, none⟩ = some (.int .i64 (decV p2)) := HRB.out.cell 3 rfl
            have e4 : wr.cell? ⟨bb, 4, none⟩ = some (.int .i64 (decV p3)) := HRB.out.cell 4 rfl
            have e5 : wr.cell? ⟨bb, 5, none⟩ = some (.string tx) := HRB.out.cell 5 rfl
            have hli : (ini.length : Int) < (ini.length : Int) + 1 := by omega
            have hl0 : (0 : Int) ≤ (ini.length : Int) := by omega
            have hw0 : IntKind.i64.wrap ((ini.length : Int) + 1 - 1) = (ini.length : Int) := by rw [show (ini.length : Int) + 1 - 1 = ini.length by omega]; exact IntWalk.i64_in _ (by omega)
            clear g1 g2 g3 g4 hrow hown9 hgr hlies hpush hv1 hat happ HRB HP HB
            go_wp2_with fail
            go_region
            all_goals go_wp2
            all_goals go_ret2
            all_goals exact ⟨_, _, rfl, by rw [HV2.out]; simp, (by intro b hbb _; rw [HV2.out] at hbb; cases hbb; rw [HPB.out]; exact HPU.out), HBF.out⟩
    · have HV := hid (boxP_none2 (i := i) h4)
      have h4i : ¬ ((splitS (cutC 124 s).1).length : Int) = 4 := by omega
      have h4b : (((splitS (cutC 124 s).1).length : Int) != 4) = true := by rw [bne_iff_ne]; omega
      go_enter Tryd.func73, Tryd.ntmps73
      go_wp2_with fail
      refine HC1.out.mono ?_
      rintro e w1 ⟨rfl, hB1⟩
      have HS := HS1 _ hB1
      have HB2 := hid (below_tr hB1 (below_al w1 (.cells ((splitS (cutC 124 s).1).map Value.string).toArray 9)))
      clear hB1 HC1 HS1
      go_wp2_with fail
      refine HS.out.mono ?_
      rintro e w2 ⟨rfl, hw2⟩
      rw [hw2] at HB2
      clear HS hw2
      go_wp2
      go_ret2
      exact ⟨_, _, rfl, by rw [HV.out]; simp, (by intro b hbb; rw [HV.out] at hbb; cases hbb), HB2.out.mono hb⟩
end Go.Proofs.YtkjapeafhcdnkaaDoor
