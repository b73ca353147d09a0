/-
  P50.3: the plain law and the walk of NotesRoom.
-/
import Derived.Test.YtajhkfmhoihjfaaDoorBack
namespace Go.Proofs.YtajhkfmhoihjfaaDoor
open Go.RowKit Go.Shelf

/-- strings.Split at a space, and whose the row is that it hands back. -/
theorem split_own (s : ByteArray) (m : Int) (w : World) (hs : s.size < 4294967281) (hm : w.cell? ⟨0, 0, none⟩ = some (.int .i64 m)) :
    Calls Tryd.prog 24 #[.string s, .string ⟨#[32]⟩] w fun e w' => ∃ b, e = .returned (.slice (some ⟨b, 0, none⟩) (splitS s).length (splitS s).length) ∧ w'.ownsRow w.heap.size 9 1 (.slice (some ⟨b, 0, none⟩) (splitS s).length (splitS s).length) (splitS s).length ((splitS s).map Value.string) ∧ Below w.heap.size w w' := by
  refine (Go.Proofs.Any.strings_Split { Tryd.laysM146 with } Tryd.laysM146.i9 s ⟨#[32]⟩ m w hs hm (by decide)).mono ?_
  rintro e w' ⟨rfl, rfl⟩
  have hle := splitS_len s
  have e1 : Lib.splitB ⟨#[32]⟩ 0 (Lib.countB s ⟨#[32]⟩) s = splitS s := rfl
  refine ⟨w.heap.size, by rw [splitS_count], ⟨by simp, .inr ⟨w.heap.size, (splitS s).length, _, rfl, Nat.le_refl _, World.alloc_heap_new w _, Nat.le_refl _, by unfold maxLen; omega, ?_, ?_⟩⟩, below_al _ _⟩
  · simp [e1]
  · simp [e1, List.take_of_length_le]

theorem cut_first {x : List UInt8} {r : List (List UInt8)} (hx : (32 : UInt8) ∉ x) : (Lib.cut (Lib.join (x :: r) [32]) [32]).1 = x := by
  cases r with
  | nil =>
    rw [Lib.join_one]
    unfold Lib.cut
    have : ¬ 0 ≤ Lib.index x [32] := by
      intro h
      obtain ⟨n, hn⟩ : ∃ n : Nat, Lib.index x [32] = n := ⟨(Lib.index x [32]).toNat, by omega⟩
      obtain ⟨a, q, e, _, _⟩ := index_at hn
      exact hx (by rw [e]; simp)
    rw [if_neg this]
  | cons y q =>
    have e : Lib.join (x :: y :: q) [32] = x ++ 32 :: Lib.join (y :: q) [32] := by
      rw [Lib.join_cons, joinTail_cons, Lib.join_cons]; simp
    unfold Lib.cut
    rw [e]
    have hge : 0 ≤ Lib.index (x ++ 32 :: Lib.join (y :: q) [32]) [32] := by
      apply Classical.byContradiction
      intro h
      have h1 := Lib.index_ge (x ++ 32 :: Lib.join (y :: q) [32]) [32]
      have h2 : Lib.index (x ++ 32 :: Lib.join (y :: q) [32]) [32] = -1 := by omega
      exact index_miss h2 (by simp)
    rw [if_pos hge]
    obtain ⟨n, hn⟩ : ∃ n : Nat, Lib.index (x ++ 32 :: Lib.join (y :: q) [32]) [32] = n := ⟨(Lib.index (x ++ 32 :: Lib.join (y :: q) [32]) [32]).toNat, by omega⟩
    obtain ⟨a, b, e2, hl, hna⟩ := index_at hn
    have hax : a = x := by
      rcases List.append_eq_append_iff.1 e2 with ⟨c, hc1, hc2⟩ | ⟨c, hc1, hc2⟩
      · cases c with
        | nil => simpa using hc1
        | cons d c' =>
          have : d = 32 := by have := hc2; simp at this; exact this.1.symm
          subst this
          exact absurd (by rw [hc1]; simp) hna
      · cases c with
        | nil => simpa using hc1.symm
        | cons d c' =>
          have : d = 32 := by have := hc2; simp at this; exact this.1.symm
          subst this
          exact absurd (by rw [hc1]; simp) hx
    dsimp only
    rw [hn, Int.toNat_natCast, ← hax, ← hl]
    simp
theorem cutw_any (p : List ByteArray) (x : ByteArray) (m : Int) (w : World) (hp : p[0]? = some x) (hx : (32 : UInt8) ∉ x.data.toList) (hs : (joinB p).size < 4294967281) (hm : w.cell? ⟨0, 0, none⟩ = some (.int .i64 m)) :
    Calls Tryd.prog 27 #[.string (joinB p), .string ⟨#[32]⟩] w fun e w' => (∃ r t, e = .returned (.tuple #[.string x, .string r, .bool t])) ∧ Below w.heap.size w w' := by
  refine (Go.Proofs.Any.strings_Cut { Tryd.laysM145 with } (joinB p) ⟨#[32]⟩ m w hs hm).mono ?_
  rintro e w' ⟨rfl, n, rfl⟩
  have hx1 : (Lib.cut (joinB p).data.toList (ByteArray.mk #[32]).data.toList).1 = x.data.toList := by
    cases p with
    | nil => cases hp
    | cons y r =>
      obtain rfl : y = x := by simpa using hp
      exact cut_first (r := r.map (·.data.toList)) hx
  exact ⟨⟨⟨(Lib.cut (joinB p).data.toList (ByteArray.mk #[32]).data.toList).2.1.toArray⟩, (Lib.cut (joinB p).data.toList (ByteArray.mk #[32]).data.toList).2.2, by rw [hx1]⟩, below_drewN (Below.refl _ _) _⟩

/-- What is known of a line. -/
structure LineOk (st : St) (PL : List (List ByteArray)) (k : Nat) (p : List ByteArray) : Prop where
  ne : p ≠ []
  wds : Wds 100 p
  len : p.length ≤ 101
  spl : splitS (joinB p) = p
  sz : (joinB p).size ≤ 10201
  fit : 1 < p.length → wL st p ≤ roomAt st k
  next : ∀ q, PL[k + 1]? = some q → ∃ x, q[0]? = some x ∧ (32 : UInt8) ∉ x.data.toList ∧ x.size ≤ 100 ∧ (joinB q).size ≤ 10201 ∧ roomAt st k < wL st (p ++ [x])
theorem line_ok {st : St} {s : ByteArray} (h1 : styleI st = 0) (h2 : noteI s = 0) (h3 : s.size ≤ 100) (k : Nat) (p : List ByteArray) (hp : (setL st (splitS s))[k]? = some p) : LineOk st (setL st (splitS s)) k p := by
  obtain ⟨_, kl, ks, _⟩ := style_ok h1
  have hfl := setL_flat kl.1 ks.1 (splitS s)
  have hne := setL_ne kl.1 ks.1 (splitS s)
  have hs := split_le h3
  have hrm := setL_room kl.1 ks.1 (splitS s) k p hp
  have hwd : ∀ q ∈ setL st (splitS s), (∀ y ∈ q, Word y 100) ∧ q.length ≤ 101 ∧ (joinB q).size ≤ 10201 := by
    intro q hq
    have hw : ∀ y ∈ q, Word y 100 := fun y hy => by
      have hy2 : y ∈ splitS s := by rw [← hfl]; exact List.mem_flatten.2 ⟨q, hq, hy⟩
      have hw := note_words h2 y hy2
      exact ⟨hw.ne, hw.no, hw.ok, Nat.le_trans hw.le h3⟩
    have hl : q.length ≤ 101 := by
      have : q.length ≤ (splitS s).length := by
        rw [← hfl]
        exact List.Sublist.length_le (List.sublist_flatten_of_mem hq)
      omega
    refine ⟨hw, hl, ?_⟩
    have h1 := join_le 100 (q.map (·.data.toList)) fun x hx => by
      obtain ⟨y, hy, rfl⟩ := List.mem_map.1 hx
      exact (hw y hy).le
    rw [List.length_map] at h1
    rw [joinB_size]; omega
  have hm := List.mem_of_getElem? hp
  obtain ⟨a1, a2, a3⟩ := hwd p hm
  refine ⟨hne p hm, fun y hy => (a1 y hy).le, a2, split_joinB (hne p hm) fun y hy => (a1 y hy).no, a3, hrm.1, fun q hq => ?_⟩
  obtain ⟨b1, b2, b3⟩ := hwd q (List.mem_of_getElem? hq)
  cases q with
  | nil => exact absurd rfl (hne _ (List.mem_of_getElem? hq))
  | cons x r =>
    have hx := b1 x (by simp)
    exact ⟨x, rfl, hx.no, hx.le, b3, hrm.2 (x :: r) x hq rfl⟩

theorem infoStrR : (Tryd.prog.info? 9).map (fun i => (i.zero, i.size, i.bytes)) = some (some (.string ⟨#[]⟩), 1, 16) := by kernel_rfl
def apy (ts : Array TypeId) (ty : TypeId) (args : Array Value) : Sem Value := Builtin.append_ ts ty args
theorem apy_eq (ts : Array TypeId) (ty : TypeId) (args : Array Value) : Builtin.append_ ts ty args = apy ts ty args := rfl
attribute [local go_sem ↓] apy_eq
theorem run_apy {P : Program} {W : World} (t ty : TypeId) (base : Nat) (e : TypeId) {z : Value} {size bytes : Nat} (ht : P.underlying t = some (.slice e)) (hi : (P.info? e).map (fun i => (i.zero, i.size, i.bytes)) = some (some z, size, bytes))
    (hzs : z.cells.size = size) (hsz : 0 < size) (hby : bytes ≤ 64)
    (v : Value) (n : Nat) (xs : List Value) (hown : W.ownsRow base e size v n xs) (news : List Value) (hl : news.length = size) (h1 : ∀ u ∈ news, u.oneCell' = true)
    (hn : n + 1 ≤ 4294967296) (hbase : base ≤ W.heap.size) :
    ∃ g cap w', (apy #[t, t] ty #[v, .slice (some ⟨W.heap.size, 0, none⟩) 1 1]).run P (W.alloc (.cells news.toArray e)) = .ok (.slice (some ⟨g, 0, none⟩) (n + 1) cap) w' ∧
      w'.ownsRow base e size (.slice (some ⟨g, 0, none⟩) (n + 1) cap) (n + 1) (xs ++ news) ∧ Below base W w' := by
  obtain ⟨g, cap, w', h1, h2, h3, _⟩ := run_ap t ty base e ht hi hzs hsz hby v n xs hown news hl h1 hn hbase
  exact ⟨g, cap, w', h1, h2, h3⟩

set_option maxHeartbeats 8000000 in
set_option maxRecDepth 100000 in
theorem room_any (s : ByteArray) (a b c : Int) (m : Int) (w : World) (ha : 0 ≤ a ∧ a < 65536) (hb : 0 ≤ b ∧ b < 65536) (hc : 0 ≤ c ∧ c < 65536) (hm : w.cell? ⟨0, 0, none⟩ = some (.int .i64 m)) :
    Calls Tryd.prog 7 #[.string s, .int .u16 a, .int .u16 b, .int .u16 c] w fun e w' => e = .returned (.bool true) ∧ Below w.heap.size w w' := by
  have HF := hid (fine_any s w)
  cases hf : fineB s with
  | false =>
    rw [hf] at HF
    go_enter Tryd.func7, Tryd.ntmps7
    go_wp2_with fail
    refine HF.out.mono ?_
    rintro e w1 ⟨rfl, hB1⟩
    have hm1 := Below.keeps hB1 _ _ hm
    have HB1 := hid hB1
    clear hB1 hm HF
    go_wp2_with fail
    refine (awake_any m _ hm1).mono ?_
    rintro e w2 ⟨rfl, hB2⟩
    have HB2 := hid (below_tr HB1.out hB2)
    clear hB2
    go_wp2
    go_ret
    exact ⟨rfl, HB2.out⟩
  | true =>
    rw [hf] at HF
    obtain ⟨hs1, hn1⟩ := fine_of hf
    have HST' := fun w' => hid (lstyle_any a b c w' ha hb hc)
    have ra : 0 ≤ a % 1000 ∧ a % 1000 < 1000 := by omega
    have rb : 0 ≤ b % 100 ∧ b % 100 < 100 := by omega
    have rc : 0 ≤ c % 100 ∧ c % 100 < 100 := by omega
    obtain ⟨st, hst⟩ : ∃ st, st = stW (a % 1000) (b % 100) (c % 100) := ⟨_, rfl⟩
    have i1 : styleI st = 0 := by rw [hst]; exact stW_ok (by omega) rb rc
    have lw : 0 ≤ st.width ∧ st.width < 1000 := by rw [hst]; exact ra
    have lb : 0 ≤ st.letter ∧ st.letter < 100 := by rw [hst]; exact rb
    have lc : 0 ≤ st.sp ∧ st.sp < 100 := by rw [hst]; exact rc
    have HSet := fun w' h => hid (nSet_any st s m w' h)
    have HOK := hid (line_ok i1 hn1 hs1)
    have hpos := setL_pos (st := st) (split_ne s)
    have hlen : (setL st (splitS s)).length ≤ 101 := by
      obtain ⟨_, kl, ks, _⟩ := style_ok i1
      have := setL_len kl.1 ks.1 (splitS s)
      have := split_le hs1
      omega
    have HWID := fun v l w' (hr : RdS w' v l) (h1 : l.length ≤ 1000) (h2 : Wds 100 l) => hid (lwidth_any st v l w' hr h1 h2 lb lc)
    rw [(setR_eq i1 hn1).1, (setR_eq i1 hn1).2] at HSet
    rw [← hst] at HST'
    generalize hPL : setL st (splitS s) = PL at *
    clear hst i1 hf hs1 hn1 ra rb rc hPL
    have hln : (PL.map joinB).length = PL.length := List.length_map ..
    have HLN := hid hln
    clear hln
    unfold St.cells at HSet HST' HWID
    go_enter Tryd.func7, Tryd.ntmps7
    go_wp2_with fail
    refine HF.out.mono ?_
    rintro e w1 ⟨rfl, hB1⟩
    have hm1 := Below.keeps hB1 _ _ hm
    have HB1 := hid hB1
    clear hB1 hm HF
    go_wp2_with fail
    refine (HST' _).out.mono ?_
    rintro e w2 ⟨rfl, hB2⟩
    have hm2 := Below.keeps hB2 _ _ hm1
    have HB2 := hid (below_tr HB1.out hB2)
    clear hB2 hm1 HB1 HST'
    have HST3 : Hid ((w2.alloc (.cells st.cells 25)).heap[w2.heap.size]? = some (.cells st.cells 25 (0, 0))) := World.alloc_heap_new w2 (.cells st.cells 25)
    have HLT : Hid (w2.heap.size < (w2.alloc (.cells st.cells 25)).heap.size) := by simp [Hid]
    have hm3 := cell_al hm2 (.cells st.cells 25)
    have HB3 := hid (below_tr HB2.out (below_al w2 (.cells st.cells 25)))
    have HM3 := hid hm3
    clear hm2 HB2
    unfold St.cells at hm3
    go_wp2_with fail
    refine (HSet _ hm3).out.mono ?_
    rintro e w4 ⟨v4, rfl, hr4, hB4⟩
    change Below (w2.alloc (.cells st.cells 25)).heap.size (w2.alloc (.cells st.cells 25)) w4 at hB4
    obtain ⟨a4, cap4, rfl, hlc4, hcm4, hcell4⟩ := hr4.open
    have hst4 := (hB4.block w2.heap.size HLT.out).trans HST3.out
    have hm4 := Below.keeps hB4 _ _ HM3.out
    have HB4 := hid (below_tr HB3.out hB4)
    have HLT4 : Hid (w2.heap.size < w4.heap.size) := Nat.lt_of_lt_of_le HLT.out hB4.size
    have HST4 := hid hst4
    have HM4 := hid hm4
    have HC4 := hid hcell4
    clear hB4 hst4 hm3 HST3 HM3 HLT HB3 HSet hr4 hm4 hcell4
    rw [HLN.out] at hlc4 HC4 ⊢
    have q0 : ¬ (PL.length : Int) = 0 := by omega
    have q0b : ((PL.length : Int) == 0) = false := by simp; intro h; rw [h] at hpos; simp at hpos
    go_wp2
    go_loopw [42] (fun i wr => ∃ k : Nat, k ≤ PL.length ∧ i = .int .i64 k ∧ Hid (Below w4.heap.size w4 wr)) (fun i _ => PL.length - (intOf i).toNat)
    case atStart => exact ⟨0, by omega, rfl, Below.refl _ _⟩
    case round =>
      obtain ⟨k, hk, rfl, HB⟩ := hrel
      by_cases hlt : k < PL.length
      · obtain ⟨p, hp⟩ : ∃ p, PL[k]? = some p := ⟨PL[k], by simp [hlt]⟩
        have hok := HOK.out k p hp
        obtain ⟨x0, b4, off4, hx0, rfl, hc0⟩ := HC4.out k hlt
        have hx1 : x0 = joinB p := by
          rw [List.getElem?_map, hp] at hx0
          exact (Option.some.inj hx0).symm
        subst hx1
        have hc := Below.keeps HB.out _ _ hc0
        have hm5 := Below.keeps HB.out _ _ HM4.out
        have hst5 := (HB.out.block w2.heap.size HLT4.out).trans HST4.out
        obtain ⟨f0, f1, f2, f3, f4, f5, f6, f7, f8, f9, f10, f11, f12⟩ := st_facts hst5
        have HM5 := hid hm5
        have HST5 := hid hst5
        have HSp := fun w' h => hid (split_own (joinB p) m w' (by have := hok.sz; omega) h)
        rw [hok.spl] at HSp
        have HK := hid hok
        have hplen := hok.len
        have hfit := hok.fit
        have HNX := hid hok.next
        have HLTw : Hid (w2.heap.size < wr.heap.size) := Nat.lt_of_lt_of_le HLT4.out HB.out.size
        clear hok hp hx0 hc0 hst5
        unfold roomAt at hfit
        by_cases hk0 : k = 0
/-ROUND-/
        · rw [if_pos hk0] at hfit
          have hk0i : ¬ (0 : Int) < (k : Int) := by omega
          have HRM : Hid (roomAt st k = st.width) := by unfold roomAt; rw [if_pos hk0]; rfl
          clear hk0
          go_wp2_with fail
          refine (HSp _ hm5).out.mono ?_
          rintro e w6 ⟨b6, rfl, hown6, hB6⟩
          have hr6 : RdS w6 _ p := Rd.of_own hown6
          have HST6 := hid ((hB6.block w2.heap.size HLTw.out).trans HST5.out)
          have HLT6 : Hid (w2.heap.size < w6.heap.size) := Nat.lt_of_lt_of_le HLTw.out hB6.size
          have HM6 := hid (Below.keeps hB6 _ _ HM5.out)
          have HB6 := hid (below_tr HB.out hB6)
          have HOW6 := hid hown6
          have HSZ := hid HB.out.size
          have HSB : Hid (w2.heap.size < wr.heap.size) := HLTw.out
          clear f0 f1 f2 f3 f4 f5 f6 f7 f8 f9 f10 f11 f12
          clear hB6 HB HST5 HLTw HM5 hown6 hm5 HSp
          by_cases h1p : 1 < p.length
          · have h1i : (1 : Int) < (p.length : Int) := by omega
            have hle := hfit h1p
            have hnl : ¬ st.width < wL st p := by omega
            obtain ⟨g0, g1, g2, g3, g4, g5, g6, g7, g8, g9, g10, g11, g12⟩ := st_facts HST6.out
            go_wp2_with fail
            refine (HWID _ p _ hr6 (by omega) HK.out.wds).out.mono ?_
            rintro e w7 ⟨rfl, hB7⟩
            have HST7 := hid ((hB7.block w2.heap.size HLT6.out).trans HST6.out)
            have HM7 := hid (Below.keeps hB7 _ _ HM6.out)
            have HLT7 : Hid (w2.heap.size < w7.heap.size) := Nat.lt_of_lt_of_le HLT6.out hB7.size
            have HB7 := hid (below_tr HB6.out hB7)
            have HOW7 := hid (own_below HOW6.out hB7)
            clear g0 g1 g2 g3 g4 g5 g6 g7 g8 g9 g10 g11 g12
            clear hB7 HST6 HM6 HB6 HOW6 hr6 hle hfit HLT6
            by_cases hls : k + 1 < PL.length
            · have hli : (k : Int) + 1 < (PL.length : Int) := by omega
              obtain ⟨q, hq⟩ : ∃ q, PL[k + 1]? = some q := ⟨PL[k + 1], by simp [hls]⟩
              obtain ⟨x, hx0, hxn, hxs, hqs, hnx⟩ := HNX.out q hq
              obtain ⟨xq, bq, offq, hxq, eq, hcq0⟩ := HC4.out (k + 1) hls
              cases eq
              have hxq1 : xq = joinB q := by
                rw [List.getElem?_map, hq] at hxq
                exact (Option.some.inj hxq).symm
              subst hxq1
              have hcq := Below.keeps HB7.out _ _ hcq0
              rw [HRM.out] at hnx
              have hm7 := HM7.out
              have HXQ := hid (fun w' h => hid (cutw_any q x m w' hx0 hxn (by omega) h))
              clear hq hxq hcq0 hx0 hxn
              have HOWx := HOW7
              clear HOW7
              go_wp2_with fail
              refine (HXQ.out _ hm7).out.mono ?_
              rintro e w8 ⟨⟨r8, t8, rfl⟩, hB8⟩
              have HST8 := hid ((hB8.block w2.heap.size HLT7.out).trans HST7.out)
              have HB8 := hid (below_tr HB7.out hB8)
              have hown8 := own_below HOWx.out hB8
              have hbase8 := HB8.out.size
              obtain ⟨z0, z1, z2, z3, z4, z5, z6, z7, z8, z9, z10, z11, z12⟩ := st_facts HST8.out
              clear hB8 HST7 HM7 HB7 HOWx hm7 HXQ hcq
              go_wp2_with fail
              obtain ⟨g9, cap9, w9, happ0, hown9, hB9⟩ := run_apy (P := Tryd.prog) (W := w8.drew) 23 23 _ 9 Tryd.underlying23 infoStrR rfl (by decide) (by decide) _ _ _ hown8.drew [.string x] rfl (by simp [Value.oneCell']) (by omega) (by have := hown8.lt _ rfl; exact Nat.le_of_lt (Nat.lt_of_le_of_lt this.1 this.2))
              have happ : (apy #[23, 23] 23 #[.slice (some ⟨b6, 0, none⟩) p.length p.length, .slice (some ⟨w8.heap.size, 0, none⟩) 1 1]).run Tryd.prog (w8.alloc (.cells #[.string x] 9)).drew = .ok (.slice (some ⟨g9, 0, none⟩) (p.length + 1) cap9) w9 := happ0
              clear happ0
              have hr9 : RdS w9 _ (p ++ [x]) := Rd.of_own (by rw [List.length_append, List.length_singleton, List.map_append]; exact hown9)
              have hst9 := (hB9.block w2.heap.size HSB.out).trans HST8.out
              have HB9 := hid (HB8.out.trans ((Below.refl _ w8).drew.trans (hB9.mono HSZ.out)))
              have HW9 := hid (HWID _ (p ++ [x]) w9 hr9 (by rw [List.length_append, List.length_singleton]; omega) (fun y hy => by
                rcases List.mem_append.1 hy with h | h
                · exact HK.out.wds y h
                · have : y = x := by simpa using h
                  subst this; exact hxs))
              obtain ⟨y0, y1, y2, y3, y4, y5, y6, y7, y8, y9, y10, y11, y12⟩ := st_facts hst9
              have hnb : ¬ wL st (p ++ [x]) ≤ st.width := by omega
              clear hown8 hown9 hB9 hr9 HST8 HB8 HOK HNX HK hst9 HWID
              go_region_held3 (fun w' => w'.cell? ⟨w2.heap.size, 0, none⟩ = some (.int .i64 st.width) ∧ w'.cell? ⟨w2.heap.size, 1, none⟩ = some (.int .i64 st.lh) ∧ w'.cell? ⟨w2.heap.size, 2, none⟩ = some (.int .i64 st.nh) ∧ w'.cell? ⟨w2.heap.size, 3, none⟩ = some (.int .i64 st.ph) ∧ w'.cell? ⟨w2.heap.size, 4, none⟩ = some (.int .i64 st.gap) ∧ w'.cell? ⟨w2.heap.size, 5, none⟩ = some (.int .i64 st.sp) ∧ w'.cell? ⟨w2.heap.size, 6, none⟩ = some (.int .i64 st.stretch) ∧ w'.cell? ⟨w2.heap.size, 7, none⟩ = some (.int .i64 st.shrink) ∧ w'.cell? ⟨w2.heap.size, 8, none⟩ = some (.int .i64 st.letter) ∧ w'.cell? ⟨w2.heap.size, 9, none⟩ = some (.int .i64 st.hyphen) ∧ w'.cell? ⟨w2.heap.size, 10, none⟩ = some (.int .i64 st.every) ∧ w'.cell? ⟨w2.heap.size, 11, none⟩ = some (.slice st.pos.1 st.pos.2.1 st.pos.2.2) ∧ w'.cell? ⟨w2.heap.size, 12, none⟩ = some (.slice st.lay.1 st.lay.2.1 st.lay.2.2))
                ((refine ⟨?_, ?_, ?_, ?_, ?_, ?_, ?_, ?_, ?_, ?_, ?_, ?_, ?_⟩ <;> first | assumption | (exact cell_al (by assumption) _) | go_keep))
                (first
                  | (go_at_call 26; go_split_ands; refine HW9.out.mono ?_; rintro e w10 ⟨rfl, hB'⟩; have u0 := Below.keeps hB' _ _ (by assumption : World.cell? _ ⟨w2.heap.size, 0, none⟩ = some _); have u1 := Below.keeps hB' _ _ (by assumption : World.cell? _ ⟨w2.heap.size, 1, none⟩ = some _); have u2 := Below.keeps hB' _ _ (by assumption : World.cell? _ ⟨w2.heap.size, 2, none⟩ = some _); have u3 := Below.keeps hB' _ _ (by assumption : World.cell? _ ⟨w2.heap.size, 3, none⟩ = some _); have u4 := Below.keeps hB' _ _ (by assumption : World.cell? _ ⟨w2.heap.size, 4, none⟩ = some _); have u5 := Below.keeps hB' _ _ (by assumption : World.cell? _ ⟨w2.heap.size, 5, none⟩ = some _); have u6 := Below.keeps hB' _ _ (by assumption : World.cell? _ ⟨w2.heap.size, 6, none⟩ = some _); have u7 := Below.keeps hB' _ _ (by assumption : World.cell? _ ⟨w2.heap.size, 7, none⟩ = some _); have u8 := Below.keeps hB' _ _ (by assumption : World.cell? _ ⟨w2.heap.size, 8, none⟩ = some _); have u9 := Below.keeps hB' _ _ (by assumption : World.cell? _ ⟨w2.heap.size, 9, none⟩ = some _); have u10 := Below.keeps hB' _ _ (by assumption : World.cell? _ ⟨w2.heap.size, 10, none⟩ = some _); have u11 := Below.keeps hB' _ _ (by assumption : World.cell? _ ⟨w2.heap.size, 11, none⟩ = some _); have u12 := Below.keeps hB' _ _ (by assumption : World.cell? _ ⟨w2.heap.size, 12, none⟩ = some _); have HBF := hid (below_tr HB9.out hB')))
              all_goals go_split_ands
              all_goals
                go_wp2
                go_roundw
                case rel => exact ⟨k + 1, by omega, by go_num, HBF.out⟩
                case measure => simp [intOf]; omega
            · have hli : ¬ (k : Int) + 1 < (PL.length : Int) := by omega
              go_wp2
              go_roundw
              case rel => exact ⟨k + 1, by omega, by go_num, HB7.out⟩
              case measure => simp [intOf]; omega
          · have h1i : ¬ (1 : Int) < (p.length : Int) := by omega
            have HST7 := HST6
            have HM7 := HM6
            have HB7 := HB6
            have HOW7 := HOW6
            have HLT7 := HLT6
            clear HST6 HM6 HB6 HOW6 hr6 hfit HLT6
            by_cases hls : k + 1 < PL.length
            · have hli : (k : Int) + 1 < (PL.length : Int) := by omega
              obtain ⟨q, hq⟩ : ∃ q, PL[k + 1]? = some q := ⟨PL[k + 1], by simp [hls]⟩
              obtain ⟨x, hx0, hxn, hxs, hqs, hnx⟩ := HNX.out q hq
              obtain ⟨xq, bq, offq, hxq, eq, hcq0⟩ := HC4.out (k + 1) hls
              cases eq
              have hxq1 : xq = joinB q := by
                rw [List.getElem?_map, hq] at hxq
                exact (Option.some.inj hxq).symm
              subst hxq1
              have hcq := Below.keeps HB7.out _ _ hcq0
              rw [HRM.out] at hnx
              have hm7 := HM7.out
              have HXQ := hid (fun w' h => hid (cutw_any q x m w' hx0 hxn (by omega) h))
              clear hq hxq hcq0 hx0 hxn
              have HOWx := HOW7
              clear HOW7
              go_wp2_with fail
              refine (HXQ.out _ hm7).out.mono ?_
              rintro e w8 ⟨⟨r8, t8, rfl⟩, hB8⟩
              have HST8 := hid ((hB8.block w2.heap.size HLT7.out).trans HST7.out)
              have HB8 := hid (below_tr HB7.out hB8)
              have hown8 := own_below HOWx.out hB8
              have hbase8 := HB8.out.size
              obtain ⟨z0, z1, z2, z3, z4, z5, z6, z7, z8, z9, z10, z11, z12⟩ := st_facts HST8.out
              clear hB8 HST7 HM7 HB7 HOWx hm7 HXQ hcq
              go_wp2_with fail
              obtain ⟨g9, cap9, w9, happ0, hown9, hB9⟩ := run_apy (P := Tryd.prog) (W := w8.drew) 23 23 _ 9 Tryd.underlying23 infoStrR rfl (by decide) (by decide) _ _ _ hown8.drew [.string x] rfl (by simp [Value.oneCell']) (by omega) (by have := hown8.lt _ rfl; exact Nat.le_of_lt (Nat.lt_of_le_of_lt this.1 this.2))
              have happ : (apy #[23, 23] 23 #[.slice (some ⟨b6, 0, none⟩) p.length p.length, .slice (some ⟨w8.heap.size, 0, none⟩) 1 1]).run Tryd.prog (w8.alloc (.cells #[.string x] 9)).drew = .ok (.slice (some ⟨g9, 0, none⟩) (p.length + 1) cap9) w9 := happ0
              clear happ0
              have hr9 : RdS w9 _ (p ++ [x]) := Rd.of_own (by rw [List.length_append, List.length_singleton, List.map_append]; exact hown9)
              have hst9 := (hB9.block w2.heap.size HSB.out).trans HST8.out
              have HB9 := hid (HB8.out.trans ((Below.refl _ w8).drew.trans (hB9.mono HSZ.out)))
              have HW9 := hid (HWID _ (p ++ [x]) w9 hr9 (by rw [List.length_append, List.length_singleton]; omega) (fun y hy => by
                rcases List.mem_append.1 hy with h | h
                · exact HK.out.wds y h
                · have : y = x := by simpa using h
                  subst this; exact hxs))
              obtain ⟨y0, y1, y2, y3, y4, y5, y6, y7, y8, y9, y10, y11, y12⟩ := st_facts hst9
              have hnb : ¬ wL st (p ++ [x]) ≤ st.width := by omega
              clear hown8 hown9 hB9 hr9 HST8 HB8 HOK HNX HK hst9 HWID
              go_region_held3 (fun w' => w'.cell? ⟨w2.heap.size, 0, none⟩ = some (.int .i64 st.width) ∧ w'.cell? ⟨w2.heap.size, 1, none⟩ = some (.int .i64 st.lh) ∧ w'.cell? ⟨w2.heap.size, 2, none⟩ = some (.int .i64 st.nh) ∧ w'.cell? ⟨w2.heap.size, 3, none⟩ = some (.int .i64 st.ph) ∧ w'.cell? ⟨w2.heap.size, 4, none⟩ = some (.int .i64 st.gap) ∧ w'.cell? ⟨w2.heap.size, 5, none⟩ = some (.int .i64 st.sp) ∧ w'.cell? ⟨w2.heap.size, 6, none⟩ = some (.int .i64 st.stretch) ∧ w'.cell? ⟨w2.heap.size, 7, none⟩ = some (.int .i64 st.shrink) ∧ w'.cell? ⟨w2.heap.size, 8, none⟩ = some (.int .i64 st.letter) ∧ w'.cell? ⟨w2.heap.size, 9, none⟩ = some (.int .i64 st.hyphen) ∧ w'.cell? ⟨w2.heap.size, 10, none⟩ = some (.int .i64 st.every) ∧ w'.cell? ⟨w2.heap.size, 11, none⟩ = some (.slice st.pos.1 st.pos.2.1 st.pos.2.2) ∧ w'.cell? ⟨w2.heap.size, 12, none⟩ = some (.slice st.lay.1 st.lay.2.1 st.lay.2.2))
                ((refine ⟨?_, ?_, ?_, ?_, ?_, ?_, ?_, ?_, ?_, ?_, ?_, ?_, ?_⟩ <;> first | assumption | (exact cell_al (by assumption) _) | go_keep))
                (first
                  | (go_at_call 26; go_split_ands; refine HW9.out.mono ?_; rintro e w10 ⟨rfl, hB'⟩; have u0 := Below.keeps hB' _ _ (by assumption : World.cell? _ ⟨w2.heap.size, 0, none⟩ = some _); have u1 := Below.keeps hB' _ _ (by assumption : World.cell? _ ⟨w2.heap.size, 1, none⟩ = some _); have u2 := Below.keeps hB' _ _ (by assumption : World.cell? _ ⟨w2.heap.size, 2, none⟩ = some _); have u3 := Below.keeps hB' _ _ (by assumption : World.cell? _ ⟨w2.heap.size, 3, none⟩ = some _); have u4 := Below.keeps hB' _ _ (by assumption : World.cell? _ ⟨w2.heap.size, 4, none⟩ = some _); have u5 := Below.keeps hB' _ _ (by assumption : World.cell? _ ⟨w2.heap.size, 5, none⟩ = some _); have u6 := Below.keeps hB' _ _ (by assumption : World.cell? _ ⟨w2.heap.size, 6, none⟩ = some _); have u7 := Below.keeps hB' _ _ (by assumption : World.cell? _ ⟨w2.heap.size, 7, none⟩ = some _); have u8 := Below.keeps hB' _ _ (by assumption : World.cell? _ ⟨w2.heap.size, 8, none⟩ = some _); have u9 := Below.keeps hB' _ _ (by assumption : World.cell? _ ⟨w2.heap.size, 9, none⟩ = some _); have u10 := Below.keeps hB' _ _ (by assumption : World.cell? _ ⟨w2.heap.size, 10, none⟩ = some _); have u11 := Below.keeps hB' _ _ (by assumption : World.cell? _ ⟨w2.heap.size, 11, none⟩ = some _); have u12 := Below.keeps hB' _ _ (by assumption : World.cell? _ ⟨w2.heap.size, 12, none⟩ = some _); have HBF := hid (below_tr HB9.out hB')))
              all_goals go_split_ands
              all_goals
                go_wp2
                go_roundw
                case rel => exact ⟨k + 1, by omega, by go_num, HBF.out⟩
                case measure => simp [intOf]; omega
            · have hli : ¬ (k : Int) + 1 < (PL.length : Int) := by omega
              go_wp2
              go_roundw
              case rel => exact ⟨k + 1, by omega, by go_num, HB7.out⟩
              case measure => simp [intOf]; omega
        · rw [if_neg hk0] at hfit
          have hk0i : (0 : Int) < (k : Int) := by omega
          have HRM : Hid (roomAt st k = (st.width - st.letter)) := by unfold roomAt; rw [if_neg hk0]; rfl
          clear hk0
          go_wp2_with fail
          refine (HSp _ hm5).out.mono ?_
          rintro e w6 ⟨b6, rfl, hown6, hB6⟩
          have hr6 : RdS w6 _ p := Rd.of_own hown6
          have HST6 := hid ((hB6.block w2.heap.size HLTw.out).trans HST5.out)
          have HLT6 : Hid (w2.heap.size < w6.heap.size) := Nat.lt_of_lt_of_le HLTw.out hB6.size
          have HM6 := hid (Below.keeps hB6 _ _ HM5.out)
          have HB6 := hid (below_tr HB.out hB6)
          have HOW6 := hid hown6
          have HSZ := hid HB.out.size
          have HSB : Hid (w2.heap.size < wr.heap.size) := HLTw.out
          clear f0 f1 f2 f3 f4 f5 f6 f7 f8 f9 f10 f11 f12
          clear hB6 HB HST5 HLTw HM5 hown6 hm5 HSp
          by_cases h1p : 1 < p.length
          · have h1i : (1 : Int) < (p.length : Int) := by omega
            have hle := hfit h1p
            have hnl : ¬ (st.width - st.letter) < wL st p := by omega
            obtain ⟨g0, g1, g2, g3, g4, g5, g6, g7, g8, g9, g10, g11, g12⟩ := st_facts HST6.out
            go_wp2_with fail
            refine (HWID _ p _ hr6 (by omega) HK.out.wds).out.mono ?_
            rintro e w7 ⟨rfl, hB7⟩
            have HST7 := hid ((hB7.block w2.heap.size HLT6.out).trans HST6.out)
            have HM7 := hid (Below.keeps hB7 _ _ HM6.out)
            have HLT7 : Hid (w2.heap.size < w7.heap.size) := Nat.lt_of_lt_of_le HLT6.out hB7.size
            have HB7 := hid (below_tr HB6.out hB7)
            have HOW7 := hid (own_below HOW6.out hB7)
            clear g0 g1 g2 g3 g4 g5 g6 g7 g8 g9 g10 g11 g12
            clear hB7 HST6 HM6 HB6 HOW6 hr6 hle hfit HLT6
            by_cases hls : k + 1 < PL.length
            · have hli : (k : Int) + 1 < (PL.length : Int) := by omega
              obtain ⟨q, hq⟩ : ∃ q, PL[k + 1]? = some q := ⟨PL[k + 1], by simp [hls]⟩
              obtain ⟨x, hx0, hxn, hxs, hqs, hnx⟩ := HNX.out q hq
              obtain ⟨xq, bq, offq, hxq, eq, hcq0⟩ := HC4.out (k + 1) hls
              cases eq
              have hxq1 : xq = joinB q := by
                rw [List.getElem?_map, hq] at hxq
                exact (Option.some.inj hxq).symm
              subst hxq1
              have hcq := Below.keeps HB7.out _ _ hcq0
              rw [HRM.out] at hnx
              have hm7 := HM7.out
              have HXQ := hid (fun w' h => hid (cutw_any q x m w' hx0 hxn (by omega) h))
              clear hq hxq hcq0 hx0 hxn
              have HOWx := HOW7
              clear HOW7
              go_wp2_with fail
              refine (HXQ.out _ hm7).out.mono ?_
              rintro e w8 ⟨⟨r8, t8, rfl⟩, hB8⟩
              have HST8 := hid ((hB8.block w2.heap.size HLT7.out).trans HST7.out)
              have HB8 := hid (below_tr HB7.out hB8)
              have hown8 := own_below HOWx.out hB8
              have hbase8 := HB8.out.size
              obtain ⟨z0, z1, z2, z3, z4, z5, z6, z7, z8, z9, z10, z11, z12⟩ := st_facts HST8.out
              clear hB8 HST7 HM7 HB7 HOWx hm7 HXQ hcq
              go_wp2_with fail
              obtain ⟨g9, cap9, w9, happ0, hown9, hB9⟩ := run_apy (P := Tryd.prog) (W := w8.drew) 23 23 _ 9 Tryd.underlying23 infoStrR rfl (by decide) (by decide) _ _ _ hown8.drew [.string x] rfl (by simp [Value.oneCell']) (by omega) (by have := hown8.lt _ rfl; exact Nat.le_of_lt (Nat.lt_of_le_of_lt this.1 this.2))
              have happ : (apy #[23, 23] 23 #[.slice (some ⟨b6, 0, none⟩) p.length p.length, .slice (some ⟨w8.heap.size, 0, none⟩) 1 1]).run Tryd.prog (w8.alloc (.cells #[.string x] 9)).drew = .ok (.slice (some ⟨g9, 0, none⟩) (p.length + 1) cap9) w9 := happ0
              clear happ0
              have hr9 : RdS w9 _ (p ++ [x]) := Rd.of_own (by rw [List.length_append, List.length_singleton, List.map_append]; exact hown9)
              have hst9 := (hB9.block w2.heap.size HSB.out).trans HST8.out
              have HB9 := hid (HB8.out.trans ((Below.refl _ w8).drew.trans (hB9.mono HSZ.out)))
              have HW9 := hid (HWID _ (p ++ [x]) w9 hr9 (by rw [List.length_append, List.length_singleton]; omega) (fun y hy => by
                rcases List.mem_append.1 hy with h | h
                · exact HK.out.wds y h
                · have : y = x := by simpa using h
                  subst this; exact hxs))
              obtain ⟨y0, y1, y2, y3, y4, y5, y6, y7, y8, y9, y10, y11, y12⟩ := st_facts hst9
              have hnb : ¬ wL st (p ++ [x]) ≤ (st.width - st.letter) := by omega
              clear hown8 hown9 hB9 hr9 HST8 HB8 HOK HNX HK hst9 HWID
              go_region_held3 (fun w' => w'.cell? ⟨w2.heap.size, 0, none⟩ = some (.int .i64 st.width) ∧ w'.cell? ⟨w2.heap.size, 1, none⟩ = some (.int .i64 st.lh) ∧ w'.cell? ⟨w2.heap.size, 2, none⟩ = some (.int .i64 st.nh) ∧ w'.cell? ⟨w2.heap.size, 3, none⟩ = some (.int .i64 st.ph) ∧ w'.cell? ⟨w2.heap.size, 4, none⟩ = some (.int .i64 st.gap) ∧ w'.cell? ⟨w2.heap.size, 5, none⟩ = some (.int .i64 st.sp) ∧ w'.cell? ⟨w2.heap.size, 6, none⟩ = some (.int .i64 st.stretch) ∧ w'.cell? ⟨w2.heap.size, 7, none⟩ = some (.int .i64 st.shrink) ∧ w'.cell? ⟨w2.heap.size, 8, none⟩ = some (.int .i64 st.letter) ∧ w'.cell? ⟨w2.heap.size, 9, none⟩ = some (.int .i64 st.hyphen) ∧ w'.cell? ⟨w2.heap.size, 10, none⟩ = some (.int .i64 st.every) ∧ w'.cell? ⟨w2.heap.size, 11, none⟩ = some (.slice st.pos.1 st.pos.2.1 st.pos.2.2) ∧ w'.cell? ⟨w2.heap.size, 12, none⟩ = some (.slice st.lay.1 st.lay.2.1 st.lay.2.2))
                ((refine ⟨?_, ?_, ?_, ?_, ?_, ?_, ?_, ?_, ?_, ?_, ?_, ?_, ?_⟩ <;> first | assumption | (exact cell_al (by assumption) _) | go_keep))
                (first
                  | (go_at_call 26; go_split_ands; refine HW9.out.mono ?_; rintro e w10 ⟨rfl, hB'⟩; have u0 := Below.keeps hB' _ _ (by assumption : World.cell? _ ⟨w2.heap.size, 0, none⟩ = some _); have u1 := Below.keeps hB' _ _ (by assumption : World.cell? _ ⟨w2.heap.size, 1, none⟩ = some _); have u2 := Below.keeps hB' _ _ (by assumption : World.cell? _ ⟨w2.heap.size, 2, none⟩ = some _); have u3 := Below.keeps hB' _ _ (by assumption : World.cell? _ ⟨w2.heap.size, 3, none⟩ = some _); have u4 := Below.keeps hB' _ _ (by assumption : World.cell? _ ⟨w2.heap.size, 4, none⟩ = some _); have u5 := Below.keeps hB' _ _ (by assumption : World.cell? _ ⟨w2.heap.size, 5, none⟩ = some _); have u6 := Below.keeps hB' _ _ (by assumption : World.cell? _ ⟨w2.heap.size, 6, none⟩ = some _); have u7 := Below.keeps hB' _ _ (by assumption : World.cell? _ ⟨w2.heap.size, 7, none⟩ = some _); have u8 := Below.keeps hB' _ _ (by assumption : World.cell? _ ⟨w2.heap.size, 8, none⟩ = some _); have u9 := Below.keeps hB' _ _ (by assumption : World.cell? _ ⟨w2.heap.size, 9, none⟩ = some _); have u10 := Below.keeps hB' _ _ (by assumption : World.cell? _ ⟨w2.heap.size, 10, none⟩ = some _); have u11 := Below.keeps hB' _ _ (by assumption : World.cell? _ ⟨w2.heap.size, 11, none⟩ = some _); have u12 := Below.keeps hB' _ _ (by assumption : World.cell? _ ⟨w2.heap.size, 12, none⟩ = some _); have HBF := hid (below_tr HB9.out hB')))
              all_goals go_split_ands
              all_goals
                go_wp2
                go_roundw
                case rel => exact ⟨k + 1, by omega, by go_num, HBF.out⟩
                case measure => simp [intOf]; omega
            · have hli : ¬ (k : Int) + 1 < (PL.length : Int) := by omega
              go_wp2
              go_roundw
              case rel => exact ⟨k + 1, by omega, by go_num, HB7.out⟩
              case measure => simp [intOf]; omega
          · have h1i : ¬ (1 : Int) < (p.length : Int) := by omega
            have HST7 := HST6
            have HM7 := HM6
            have HB7 := HB6
            have HOW7 := HOW6
            have HLT7 := HLT6
            clear HST6 HM6 HB6 HOW6 hr6 hfit HLT6
            by_cases hls : k + 1 < PL.length
            · have hli : (k : Int) + 1 < (PL.length : Int) := by omega
              obtain ⟨q, hq⟩ : ∃ q, PL[k + 1]? = some q := ⟨PL[k + 1], by simp [hls]⟩
              obtain ⟨x, hx0, hxn, hxs, hqs, hnx⟩ := HNX.out q hq
              obtain ⟨xq, bq, offq, hxq, eq, hcq0⟩ := HC4.out (k + 1) hls
              cases eq
              have hxq1 : xq = joinB q := by
                rw [List.getElem?_map, hq] at hxq
                exact (Option.some.inj hxq).symm
              subst hxq1
              have hcq := Below.keeps HB7.out _ _ hcq0
              rw [HRM.out] at hnx
              have hm7 := HM7.out
              have HXQ := hid (fun w' h => hid (cutw_any q x m w' hx0 hxn (by omega) h))
              clear hq hxq hcq0 hx0 hxn
              have HOWx := HOW7
              clear HOW7
              go_wp2_with fail
              refine (HXQ.out _ hm7).out.mono ?_
              rintro e w8 ⟨⟨r8, t8, rfl⟩, hB8⟩
              have HST8 := hid ((hB8.block w2.heap.size HLT7.out).trans HST7.out)
              have HB8 := hid (below_tr HB7.out hB8)
              have hown8 := own_below HOWx.out hB8
              have hbase8 := HB8.out.size
              obtain ⟨z0, z1, z2, z3, z4, z5, z6, z7, z8, z9, z10, z11, z12⟩ := st_facts HST8.out
              clear hB8 HST7 HM7 HB7 HOWx hm7 HXQ hcq
              go_wp2_with fail
              obtain ⟨g9, cap9, w9, happ0, hown9, hB9⟩ := run_apy (P := Tryd.prog) (W := w8.drew) 23 23 _ 9 Tryd.underlying23 infoStrR rfl (by decide) (by decide) _ _ _ hown8.drew [.string x] rfl (by simp [Value.oneCell']) (by omega) (by have := hown8.lt _ rfl; exact Nat.le_of_lt (Nat.lt_of_le_of_lt this.1 this.2))
              have happ : (apy #[23, 23] 23 #[.slice (some ⟨b6, 0, none⟩) p.length p.length, .slice (some ⟨w8.heap.size, 0, none⟩) 1 1]).run Tryd.prog (w8.alloc (.cells #[.string x] 9)).drew = .ok (.slice (some ⟨g9, 0, none⟩) (p.length + 1) cap9) w9 := happ0
              clear happ0
              have hr9 : RdS w9 _ (p ++ [x]) := Rd.of_own (by rw [List.length_append, List.length_singleton, List.map_append]; exact hown9)
              have hst9 := (hB9.block w2.heap.size HSB.out).trans HST8.out
              have HB9 := hid (HB8.out.trans ((Below.refl _ w8).drew.trans (hB9.mono HSZ.out)))
              have HW9 := hid (HWID _ (p ++ [x]) w9 hr9 (by rw [List.length_append, List.length_singleton]; omega) (fun y hy => by
                rcases List.mem_append.1 hy with h | h
                · exact HK.out.wds y h
                · have : y = x := by simpa using h
                  subst this; exact hxs))
              obtain ⟨y0, y1, y2, y3, y4, y5, y6, y7, y8, y9, y10, y11, y12⟩ := st_facts hst9
              have hnb : ¬ wL st (p ++ [x]) ≤ (st.width - st.letter) := by omega
              clear hown8 hown9 hB9 hr9 HST8 HB8 HOK HNX HK hst9 HWID
              go_region_held3 (fun w' => w'.cell? ⟨w2.heap.size, 0, none⟩ = some (.int .i64 st.width) ∧ w'.cell? ⟨w2.heap.size, 1, none⟩ = some (.int .i64 st.lh) ∧ w'.cell? ⟨w2.heap.size, 2, none⟩ = some (.int .i64 st.nh) ∧ w'.cell? ⟨w2.heap.size, 3, none⟩ = some (.int .i64 st.ph) ∧ w'.cell? ⟨w2.heap.size, 4, none⟩ = some (.int .i64 st.gap) ∧ w'.cell? ⟨w2.heap.size, 5, none⟩ = some (.int .i64 st.sp) ∧ w'.cell? ⟨w2.heap.size, 6, none⟩ = some (.int .i64 st.stretch) ∧ w'.cell? ⟨w2.heap.size, 7, none⟩ = some (.int .i64 st.shrink) ∧ w'.cell? ⟨w2.heap.size, 8, none⟩ = some (.int .i64 st.letter) ∧ w'.cell? ⟨w2.heap.size, 9, none⟩ = some (.int .i64 st.hyphen) ∧ w'.cell? ⟨w2.heap.size, 10, none⟩ = some (.int .i64 st.every) ∧ w'.cell? ⟨w2.heap.size, 11, none⟩ = some (.slice st.pos.1 st.pos.2.1 st.pos.2.2) ∧ w'.cell? ⟨w2.heap.size, 12, none⟩ = some (.slice st.lay.1 st.lay.2.1 st.lay.2.2))
                ((refine ⟨?_, ?_, ?_, ?_, ?_, ?_, ?_, ?_, ?_, ?_, ?_, ?_, ?_⟩ <;> first | assumption | (exact cell_al (by assumption) _) | go_keep))
                (first
                  | (go_at_call 26; go_split_ands; refine HW9.out.mono ?_; rintro e w10 ⟨rfl, hB'⟩; have u0 := Below.keeps hB' _ _ (by assumption : World.cell? _ ⟨w2.heap.size, 0, none⟩ = some _); have u1 := Below.keeps hB' _ _ (by assumption : World.cell? _ ⟨w2.heap.size, 1, none⟩ = some _); have u2 := Below.keeps hB' _ _ (by assumption : World.cell? _ ⟨w2.heap.size, 2, none⟩ = some _); have u3 := Below.keeps hB' _ _ (by assumption : World.cell? _ ⟨w2.heap.size, 3, none⟩ = some _); have u4 := Below.keeps hB' _ _ (by assumption : World.cell? _ ⟨w2.heap.size, 4, none⟩ = some _); have u5 := Below.keeps hB' _ _ (by assumption : World.cell? _ ⟨w2.heap.size, 5, none⟩ = some _); have u6 := Below.keeps hB' _ _ (by assumption : World.cell? _ ⟨w2.heap.size, 6, none⟩ = some _); have u7 := Below.keeps hB' _ _ (by assumption : World.cell? _ ⟨w2.heap.size, 7, none⟩ = some _); have u8 := Below.keeps hB' _ _ (by assumption : World.cell? _ ⟨w2.heap.size, 8, none⟩ = some _); have u9 := Below.keeps hB' _ _ (by assumption : World.cell? _ ⟨w2.heap.size, 9, none⟩ = some _); have u10 := Below.keeps hB' _ _ (by assumption : World.cell? _ ⟨w2.heap.size, 10, none⟩ = some _); have u11 := Below.keeps hB' _ _ (by assumption : World.cell? _ ⟨w2.heap.size, 11, none⟩ = some _); have u12 := Below.keeps hB' _ _ (by assumption : World.cell? _ ⟨w2.heap.size, 12, none⟩ = some _); have HBF := hid (below_tr HB9.out hB')))
              all_goals go_split_ands
              all_goals
                go_wp2
                go_roundw
                case rel => exact ⟨k + 1, by omega, by go_num, HBF.out⟩
                case measure => simp [intOf]; omega
            · have hli : ¬ (k : Int) + 1 < (PL.length : Int) := by omega
              go_wp2
              go_roundw
              case rel => exact ⟨k + 1, by omega, by go_num, HB7.out⟩
              case measure => simp [intOf]; omega
      · obtain rfl : k = PL.length := by omega
        have HBA := hid (below_tr HB4.out HB.out)
        have hm5 := Below.keeps HB.out _ _ HM4.out
        go_wp2_with fail
        refine (awake_any m _ hm5).mono ?_
        rintro e w6 ⟨rfl, hB6⟩
        have HBE := hid (below_tr HBA.out hB6)
        clear hB6
        go_wp2
        go_ret
        exact ⟨rfl, HBE.out⟩
end Go.Proofs.YtajhkfmhoihjfaaDoor
