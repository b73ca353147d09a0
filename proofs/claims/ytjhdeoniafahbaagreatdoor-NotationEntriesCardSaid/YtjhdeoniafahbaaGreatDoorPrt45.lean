/-
  notation.Print.
-/
import Derived.Test.YtjhdeoniafahbaaGreatDoorPlNp
import Derived.Test.YtjhdeoniafahbaaGreatDoorJ06
import Derived.Test.YtjhdeoniafahbaaGreatDoorJ04
import Derived.Test.YtjhdeoniafahbaaGreatDoorJ03
import Derived.Test.YtjhdeoniafahbaaGreatDoorJ01
import Derived.Deep.RegionHeld3
import Derived.Deep.CutBlock
import Derived.Deep.DeepCutAuto
namespace Go.Proofs.YtjhdeoniafahbaaGreatDoor
open Go.RowKit

/-- Sizes. -/
theorem wordB_66 {s : ByteArray} (h : wordB s = true) : s.size ≤ 66 := by
  unfold wordB at h
  rw [Bool.or_eq_true] at h
  rcases h with h | h
  · unfold isWordB at h
    simp only [Bool.and_eq_true, decide_eq_true_eq] at h
    omega
  · split at h
    · omega
    · obtain ⟨h1, h2⟩ := gap_data h
      obtain ⟨_, _, h3⟩ := dec_back h2
      have h4 := ba_len s
      have h5 := ba_len (innB s)
      rw [h1, List.length_cons, List.length_append, h5] at h4
      simp only [List.length_singleton] at h4
      omega
/-- Print while its parts are gathered. -/
structure PrI (x : Nt) (u s : Value) (w : World) (v : Value) (l : List ByteArray) (W : World) : Prop where
  note : Row W w.heap.size (x.cells u s) 30
  own : W.ownsRow (w.heap.size + 1) 9 1 v l.length (l.map Value.string)
  bel : Below w.heap.size w W
  siz : w.heap.size + 1 ≤ W.heap.size
theorem PrI.push {x : Nt} {u s : Value} {w W w' : World} {v v' : Value} {l : List ByteArray} (h : PrI x u s w v l W) (ts : List ByteArray) (ho : w'.ownsRow (w.heap.size + 1) 9 1 v' (l.length + ts.length) (l.map Value.string ++ ts.map Value.string)) (hb : Below (w.heap.size + 1) W w') : PrI x u s w v' (l ++ ts) w' :=
  ⟨(hb.block _ (by omega)).trans h.note, by rw [List.length_append, List.map_append]; exact ho, h.bel.trans (hb.mono (by omega)), Nat.le_trans h.siz hb.size⟩
theorem PrI.below {x : Nt} {u s : Value} {w W w' : World} {v : Value} {l : List ByteArray} (h : PrI x u s w v l W) (hb : Below W.heap.size W w') : PrI x u s w v l w' :=
  ⟨h.note.below hb, own_below h.own hb, below_tr h.bel hb, Nat.le_trans h.siz hb.size⟩
theorem PrI.al {x : Nt} {u s : Value} {w W : World} {v : Value} {l : List ByteArray} (h : PrI x u s w v l W) (o : Obj) : PrI x u s w v l (W.alloc o) := h.below (below_al W o)
theorem PrI.drew {x : Nt} {u s : Value} {w W : World} {v : Value} {l : List ByteArray} (h : PrI x u s w v l W) : PrI x u s w v l W.drew := h.below (Below.refl _ _).drew
theorem own_new1 (W : World) (s : ByteArray) (base : Nat) (hb : base ≤ W.heap.size) : (W.alloc (.cells #[.string s] 9)).ownsRow base 9 1 (.slice (some ⟨W.heap.size, 0, none⟩) 1 1) 1 [.string s] := by
  refine ⟨rfl, .inr ⟨W.heap.size, 1, #[.string s], rfl, hb, heap_alloc_new W _, Nat.le_refl _, by unfold maxLen; omega, rfl, rfl⟩⟩
theorem prE_bounds {x : Nt} (h : NtOk x) : -9223372036854775808 ≤ x.fr ∧ x.fr ≤ 9223372036854775807 ∧ -9223372036854775808 ≤ x.to_ ∧ x.to_ ≤ 9223372036854775807 := by
  have := h.f1; have := h.f2; have := h.f3
  exact ⟨by omega, by omega, by omega, by omega⟩

theorem signs_of {p : Int} {b : Bool} {s : ByteArray} (hb : b = decide (p ≠ 1)) (hs : s = sgS p) (h1 : 1 ≤ p) (h4 : p ≤ 4) : (b = false → signsB p = []) ∧ (b = true → signsB p = [s]) := by
  have hp : p = 1 ∨ p = 2 ∨ p = 3 ∨ p = 4 := by omega
  rcases hp with rfl | rfl | rfl | rfl <;> subst hb <;> subst hs <;> exact ⟨by decide +kernel, by decide +kernel⟩
theorem signs_len (p : Int) : (signsB p).length ≤ 1 := by
  unfold signsB
  split
  · simp
  · split
    · simp
    · split <;> simp
theorem varsV_len (l : List Vr) : (varsV l).length ≤ 3 * l.length := by
  cases l with
  | nil => simp [varsV]
  | cons v r =>
    have : ∀ r : List Vr, (r.flatMap fun u => barB :: oneV u).length = 3 * r.length := by
      intro r
      induction r with
      | nil => rfl
      | cons a r ih => rw [List.flatMap_cons, List.length_append, ih]; simp [oneV]; omega
    unfold varsV
    rw [List.length_append, this]
    simp [oneV]; omega
theorem parts_len {x : Nt} (h : NtOk x) : (partsN x).length ≤ 12400 := by
  have h1 := varsV_len x.vs
  have h2 := h.vl
  have h3 := signs_len x.pl
  unfold partsN frontL
  simp only [List.length_append, List.length_singleton]
  split <;> split <;> simp only [List.length_nil, List.length_singleton] <;> omega
theorem row_own_ne {W : World} {k base size n : Nat} {cs : Array Value} {t e : TypeId} {v : Value} {xs : List Value} (h : Row W k cs t) (ho : W.ownsRow base e size v n xs) (hte : t ≠ e) : v.ownBlock ≠ some k := by
  rcases ho.2 with ⟨rfl, _⟩ | ⟨g, cap, cur, rfl, _, hh, _⟩
  · simp [Value.ownBlock]
  · intro he
    have : g = k := by simpa [Value.ownBlock] using he
    subst this
    unfold Row at h
    rw [hh] at h
    injection h with h
    injection h with _ h2
    exact hte h2.symm
theorem printT_300 {f l : ByteArray} {n : Int} (h : lemCk f l n = 0) : (printT f l n).size ≤ 300 := by
  obtain ⟨hf, hl, h0, h1⟩ := lck_parts h
  have e1 := wordB_66 hf
  have e2 : l.size ≤ 66 := by
    rcases hl with h | h
    · omega
    · exact wordB_66 h
  have e3 := itoaB_21 (n := n) (by omega) (by omega)
  rw [← ba_len, printT_data]
  have d1 := ba_len f
  have d2 := ba_len l
  have d3 := ba_len (itoaB n)
  rw [List.length_append, List.length_append]
  split <;> split <;> simp only [List.length_nil, List.length_append, List.length_cons] <;> omega
theorem sigs_size {l : List ByteArray} (h : ∀ s ∈ l, sigB s = true) (hl : l.length ≤ 4096) : (bracesB l).size ≤ 300000 := by
  have h1 := joinB_len (fun s hs => (sig_brc (h s hs)).2.1)
  have h2 : l.length * (16 + 1) ≤ 4096 * (16 + 1) := Nat.mul_le_mul hl (Nat.le_refl _)
  rw [← ba_len, braces_data, List.length_cons, List.length_append, ba_len]
  simp only [List.length_singleton]
  omega
theorem quote_size {l : List ByteArray} (h : ∀ s ∈ l, wordB s = true) (hl : l.length ≤ 4096) : (quoteB l).size ≤ 300000 := by
  have h1 := joinB_len (fun s hs => wordB_66 (h s hs))
  have h2 : l.length * (66 + 1) ≤ 4096 * (66 + 1) := Nat.mul_le_mul hl (Nat.le_refl _)
  unfold quoteB
  split
  · decide
  · omega
theorem parts_size {x : Nt} (h : NtOk x) : ∀ p ∈ partsN x, p.size ≤ 300000 := by
  intro p hp
  unfold partsN frontL at hp
  have hb := prE_bounds h
  simp only [List.mem_append, List.mem_singleton] at hp
  rcases hp with (rfl | hp | hp | hp) | rfl | hp
  · have h1 := itoaB_21 hb.1 hb.2.1
    have h2 := itoaB_21 hb.2.2.1 hb.2.2.2
    unfold spanB
    split
    · omega
    · rw [ByteArray.size_append, ByteArray.size_append]
      show _ + 1 + _ ≤ _
      omega
  · split at hp
    · cases hp
    · rename_i h4
      rw [List.mem_singleton.1 hp]
      have := printT_300 (h.lm h4); omega
  · have : signsB x.pl ⊆ [plusB, minB, starB] := by
      unfold signsB
      split
      · simp
      · split
        · simp
        · split <;> simp
    have hm := this hp
    simp only [List.mem_cons, List.not_mem_nil, or_false] at hm
    rcases hm with rfl | rfl | rfl <;> decide
  · split at hp
    · rw [List.mem_singleton.1 hp]; exact sigs_size h.sp h.sl
    · cases hp
  · decide
  · have hone : ∀ (v : Vr), v ∈ x.vs → ∀ q ∈ oneV v, q.size ≤ 300000 := by
      intro v hv q hq
      have hk := h.vs v hv
      unfold oneV at hq
      simp only [List.mem_cons, List.not_mem_nil, or_false] at hq
      rcases hq with rfl | rfl
      · exact quote_size hk.ws hk.wl
      · exact sigs_size hk.sg hk.sl
    cases hvs : x.vs with
    | nil => rw [hvs] at hp; cases hp
    | cons v r =>
      rw [hvs] at hp hone
      unfold varsV at hp
      rcases List.mem_append.1 hp with hp | hp
      · exact hone v (by simp) p hp
      · obtain ⟨u, hu, hp⟩ := List.mem_flatMap.1 hp
        rcases List.mem_cons.1 hp with rfl | hp
        · decide
        · exact hone u (by simp [hu]) p hp
theorem SgM.drewN {W : World} {r : Nat} (h : SgM W r) (n : Nat) : SgM (W.drewN n) r := h.below (below_drewN (Below.refl _ _) n)

set_option maxRecDepth 100000 in
set_option maxHeartbeats 4000000 in
theorem pprt_any (x : Nt) (u s : Value) (w : World) (he : Env w) (hr : RdN w u s x) (hz : SzN x) :
    Calls Tryz.prog 21 #[.agg (x.cells u s)] w fun e w' => e = .returned (.tuple #[.string (prS x), .int .i64 (prE x)]) ∧ Below w.heap.size w w' := by
  have HB0 := hid (below_al w (.cells (x.cells u s) 30))
  have HR0 := hid (row_nw w (x.cells u s) 30 rfl)
  have HC := hid (pchk_any x u s _ (he.below HB0.out) (hr.below HB0.out) hz)
  by_cases h0 : nteI x = 0
  · have hN := note_ok h0
    have HN := hid hN
    have hbd := prE_bounds hN
    have HSP := fun w' (h : Below w.heap.size w w') => hid (span_any x.fr x.to_ w' (he.below h) hbd.1 hbd.2.1 hbd.2.2.1 hbd.2.2.2)
    have HLM := fun (hp : x.pl ≠ 4) w' (h : Below w.heap.size w w') => hid (print_any x.lf x.ll x.ln w' (he.below h) hz.lf hz.ll (hN.lm hp))
    have HRD := fun w' (h : Below w.heap.size w w') => hid (hr.below h)
    have HFL : Hid (frontL x = [spanB x.fr x.to_] ++ ((if x.pl = 4 then [] else [printT x.lf x.ll x.ln]) ++ (signsB x.pl ++ (if x.pos = true then [bracesB x.sup] else [])))) := rfl
    have HPS : Hid ((joinB (partsN x)).size ≤ 140737488355328) := by
      show _ ≤ _
      have h1 := joinB_len (parts_size hN)
      have h2 := parts_len hN
      have h3 : (partsN x).length * (300000 + 1) ≤ 12400 * (300000 + 1) := Nat.mul_le_mul h2 (Nat.le_refl _)
      omega
    have HPL : Hid ((partsN x).length ≤ 12400) := parts_len hN
    rw [h0] at HC
    clear hN he hr
    obtain ⟨au, cu, rfl, hlu, hmu, _⟩ := (HRD w (Below.refl _ _)).out.rs.open
    obtain ⟨av, cv, rfl, hlv, hmv, _⟩ := (HRD w (Below.refl _ _)).out.rv.open
    unfold Nt.cells at HC
    go_enter Tryz.func21, Tryz.ntmps21
    unfold Nt.cells
    go_wp2_with fail
    (with_reducible refine HC.out.mono ?_)
    rintro e w1 ⟨rfl, hB1⟩
    have HR1 := hid (HR0.out.below hB1)
    have HB1 := hid (below_tr HB0.out hB1)
    unfold Nt.cells at HR1
    have c0 := HR1.out.cell 0 (x := .int .i64 x.fr) rfl
    have c1 := HR1.out.cell 1 (x := .int .i64 x.to_) rfl
    go_wp2_with fail
    (with_reducible refine (HSP _ HB1.out).out.mono ?_)
    rintro e w2 ⟨rfl, hB2⟩
    go_upto_region 5 with fail
    have HI3 : Hid (PrI x (.slice au x.sup.length cu) (.slice av x.vs.length cv) w (.slice (some ⟨w2.heap.size, 0, none⟩) 1 1) [spanB x.fr x.to_] (w2.alloc (.cells #[.string (spanB x.fr x.to_)] 9))) := by
      have hb := below_tr HB1.out hB2
      have hsz : w.heap.size + 1 ≤ w2.heap.size := by have h1 := HR1.out.lt; have h2 := hB2.size; omega
      exact ⟨((HR1.out.below hB2).al _), own_new1 w2 _ _ hsz, below_tr hb (below_al w2 _), by simp; omega⟩
    generalize w2.alloc (.cells #[.string (spanB x.fr x.to_)] 9) = W3 at *
    generalize w2.heap.size = n2 at *
    clear HB1 HR1 hB1 hB2 c0 c1 HSP HB0 HR0 HC
    have c2 := HI3.out.note.cell 2 (x := .int .i64 x.pl) rfl
    -- the lemma
    go_upto_if 26 with fail
    go_cut [5] from 24 to 39 (fun v wx => PrI x (.slice au x.sup.length cu) (.slice av x.vs.length cv) w v ([spanB x.fr x.to_] ++ (if x.pl = 4 then [] else [printT x.lf x.ll x.ln])) wx)
    case first =>
      by_cases hp : x.pl = 4
      · have hpb : (x.pl != 4) = false := by rw [hp]; rfl
        have hpc : (x.pl == 4) = true := by rw [hp]; rfl
        have HX : Hid ((if x.pl = 4 then [] else [printT x.lf x.ll x.ln]) = []) := by show _ = _; rw [if_pos hp]
        clear hp
        go_wp2_with fail
        go_meet
        rw [HX.out]
        exact HI3.out
      · have hpb : (x.pl != 4) = true := bne_iff_ne.2 hp
        have hpc : (x.pl == 4) = false := beq_eq_false_iff_ne.2 hp
        have HX : Hid ((if x.pl = 4 then [] else [printT x.lf x.ll x.ln]) = [printT x.lf x.ll x.ln]) := by show _ = _; rw [if_neg hp]
        have HLM2 := fun w' h => HLM hp w' h
        have c3 := HI3.out.note.cell 3 (x := .string x.lf) rfl
        have c4 := HI3.out.note.cell 4 (x := .string x.ll) rfl
        have c5 := HI3.out.note.cell 5 (x := .int .i64 x.ln) rfl
        clear HLM hp
        go_wp2_with fail
        (with_reducible refine (HLM2 _ HI3.out.bel).out.mono ?_)
        rintro e w4 ⟨rfl, hB4⟩
        clear c3 c4 c5
        have HI4 := hid (HI3.out.below hB4)
        clear hB4 HLM2 HI3
        have hown := HI4.out.own
        go_wp2_with (at_builtin; refine wpList_ap rfl _ _ 23 rfl (w.heap.size + 1) 9 Tryz.underlying23 infoStr rfl (by decide) (by decide) _ _ _ rfl hown [.string (printT x.lf x.ll x.ln)] rfl (by simp [Value.oneCell']) rfl (by simp) (by first | omega | (simp; done) | (simp; omega)) HI4.out.siz ?_; intro v5 w5 hown5 hb5 _)
        have HI5 := hid (HI4.out.push [(printT x.lf x.ll x.ln)] hown5 hb5)
        clear hown hown5 hb5
        go_meet
        rw [HX.out]
        exact HI5.out
    case rest =>
      obtain ⟨va, hI⟩ : ∃ va, va = va := ⟨0, rfl⟩
      clear hI va
      obtain ⟨lA, hlA⟩ : ∃ l, l = [spanB x.fr x.to_] ++ (if x.pl = 4 then [] else [printT x.lf x.ll x.ln]) := ⟨_, rfl⟩
      have hlAn : lA.length ≤ 2 := by rw [hlA]; split <;> simp
      rw [← hlA] at hcut
      have HLA := hid hlA
      clear hlA
      have HI6 := hid hcut
      obtain ⟨bq, hbq⟩ : ∃ b, b = decide (x.pl ≠ 1) := ⟨_, rfl⟩
      obtain ⟨sg, hsg⟩ : ∃ b, b = sgS x.pl := ⟨_, rfl⟩
      have HLK := fun (W : World) (r : Nat) (h : SgM W r) => hid (sg_look h x.pl HN.out.p1 HN.out.p4)
      rw [← hbq, ← hsg] at HLK
      have HSG := hid (And.intro hbq hsg)
      clear hbq hsg
      have c2 := hcut.note.cell 2 (x := .int .i64 x.pl) rfl
      have hI := hcut
      clear hcut HI3 HLM
      go_upto_region 10 with fail
      go_cut [8, 9] from 40 to 46 (fun sv bv wx => sv = .string sg ∧ bv = .bool bq ∧ PrI x (.slice au x.sup.length cu) (.slice av x.vs.length cv) w u5 lA wx)
      case first =>
        go_region_held3 (fun w' => w'.cell? ⟨w.heap.size, 2, none⟩ = some (.int .i64 x.pl) ∧ PrI x (.slice au x.sup.length cu) (.slice av x.vs.length cv) w u5 lA w')
          ((refine ⟨?_, ?_⟩ <;> first | assumption | (exact PrI.drew (by assumption)) | go_keep))
          (first
            | (go_at_call 51; go_split_ands; refine (signs_any _).mono ?_; rintro e w6 ⟨r, rfl, hsm, hB6, _⟩; have z0 := Below.keeps hB6 _ _ (by assumption : World.cell? _ ⟨w.heap.size, 2, none⟩ = some _); have z1 := PrI.below (by assumption) hB6; have hlk := (HLK _ _ hsm).out; have hlk2 := (HLK _ _ (SgM.drewN hsm 1)).out))
        all_goals go_split_ands
        all_goals (go_wp2_with fail; go_meet; exact ⟨rfl, rfl, by assumption⟩)
      case rest =>
        obtain ⟨rfl, rfl, hI7⟩ := hcut
        clear hI c2 HI6 HLK
        have HI7 := hid hI7
        clear hI7
        -- the sign
        go_upto_if 47 with fail
        go_cut [5] from 47 to 51 (fun v wx => PrI x (.slice au x.sup.length cu) (.slice av x.vs.length cv) w v (lA ++ signsB x.pl) wx)
        case first =>
          have HX := hid (signs_of HSG.out.1 HSG.out.2 HN.out.p1 HN.out.p4)
          cases bq with
          | false =>
            have HX1 := hid (HX.out.1 rfl)
            clear HX
            go_wp2_with fail
            go_meet
            rw [HX1.out, List.append_nil]
            exact HI7.out
          | true =>
            have HX1 := hid (HX.out.2 rfl)
            clear HSG HX
            have hown := HI7.out.own
            go_wp2_with (at_builtin; refine wpList_ap rfl _ _ 23 rfl (w.heap.size + 1) 9 Tryz.underlying23 infoStr rfl (by decide) (by decide) _ _ _ rfl hown [.string sg] rfl (by simp [Value.oneCell']) rfl (by simp) (by first | omega | (simp; done) | (simp; omega)) HI7.out.siz ?_; intro v8 w8 hown8 hb8 _)
            have HI8 := hid (HI7.out.push [sg] hown8 hb8)
            clear hown hown8 hb8
            go_meet
            rw [HX1.out]
            exact HI8.out
        case rest =>
          obtain ⟨lC, hlC⟩ : ∃ l, l = lA ++ signsB x.pl := ⟨_, rfl⟩
          have hlCn : lC.length ≤ 3 := by
            have := signs_len x.pl
            rw [hlC, List.length_append]; omega
          rw [← hlC] at hcut
          have HLC := hid hlC
          clear hlC
          have HI8 := hid hcut
          obtain ⟨ps, hps⟩ : ∃ b, b = x.pos := ⟨_, rfl⟩
          have c6 : wc.cell? ⟨w.heap.size, 6, none⟩ = some (.bool ps) := by rw [hps]; exact hcut.note.cell 6 (x := .bool x.pos) rfl
          have HPS := hid hps
          clear hps
          have c7 := hcut.note.cell 7 (x := .slice au x.sup.length cu) rfl
          clear hcut HI7 HSG
          -- the support
          go_upto_if 53 with fail
          go_cut [5] from 52 to 59 (fun v wx => PrI x (.slice au x.sup.length cu) (.slice av x.vs.length cv) w v (lC ++ (if x.pos = true then [bracesB x.sup] else [])) wx)
          case first =>
            cases ps with
            | false =>
              have HX1 : Hid ((if x.pos = true then [bracesB x.sup] else []) = []) := by show _ = _; rw [← HPS.out]; rfl
              clear HPS
              go_wp2_with fail
              go_meet
              rw [HX1.out, List.append_nil]
              exact HI8.out
            | true =>
              have HX1 : Hid ((if x.pos = true then [bracesB x.sup] else []) = [bracesB x.sup]) := by show _ = _; rw [← HPS.out]; rfl
              clear HPS
              have hjz := joinB_len (fun s hs => (sig_brc (HN.out.sp s hs)).2.1)
              have hsl := HN.out.sl
              have h2 : x.sup.length * (16 + 1) ≤ 4096 * (16 + 1) := Nat.mul_le_mul hsl (Nat.le_refl _)
              have HBR := fun w' h => hid (braces_any (.slice au x.sup.length cu) x.sup w' h (by omega) (by omega))
              clear hjz h2
              go_wp2_with fail
              (with_reducible refine (HBR _ (HRD _ HI8.out.bel).out.rs).out.mono ?_)
              rintro e w9 ⟨rfl, hB9⟩
              have HI9 := hid (HI8.out.below hB9)
              clear hB9 HBR c6 c7
              have hown := HI9.out.own
              go_wp2_with (at_builtin; refine wpList_ap rfl _ _ 23 rfl (w.heap.size + 1) 9 Tryz.underlying23 infoStr rfl (by decide) (by decide) _ _ _ rfl hown [.string (bracesB x.sup)] rfl (by simp [Value.oneCell']) rfl (by simp) (by first | omega | (simp; done) | (simp; omega)) HI9.out.siz ?_; intro v10 w10 hown10 hb10 _)
              have HI10 := hid (HI9.out.push [(bracesB x.sup)] hown10 hb10)
              clear hown hown10 hb10
              go_meet
              rw [HX1.out]
              exact HI10.out
          case rest =>
            obtain ⟨lD, hlD⟩ : ∃ l, l = lC ++ (if x.pos = true then [bracesB x.sup] else []) := ⟨_, rfl⟩
            have hlDn : lD.length ≤ 4 := by rw [hlD, List.length_append]; split <;> simp <;> omega
            rw [← hlD] at hcut
            have HLD := hid hlD
            have HI11 := hid hcut
            clear hcut HI8 c6 c7 HPS hlD
            -- the ]
            go_upto_region 15 with fail
            have hown := HI11.out.own
            go_wp2_with (at_builtin; refine wpList_ap rfl _ _ 23 rfl (w.heap.size + 1) 9 Tryz.underlying23 infoStr rfl (by decide) (by decide) _ _ _ rfl hown [.string ⟨#[93]⟩] rfl (by simp [Value.oneCell']) rfl (by simp) (by first | omega | (simp; done) | (simp; omega)) HI11.out.siz ?_; intro v12 w12 hown12 hb12 _; have HI12 := hid (HI11.out.push [behB] hown12 hb12); have c8 := HI12.out.note.cell 8 (x := .slice av x.vs.length cv) rfl)
            clear hown hown12 hb12
            obtain ⟨lE, hlE⟩ : ∃ l, l = lD ++ [behB] := ⟨_, rfl⟩
            have hlEn : lE.length ≤ 5 := by rw [hlE, List.length_append, List.length_singleton]; omega
            have HI13 : Hid (PrI x (.slice au x.sup.length cu) (.slice av x.vs.length cv) w v12 lE w12) := by show PrI _ _ _ _ _ _ _; rw [hlE]; exact HI12.out
            have HLE := hid hlE
            clear HI11 HI12 hlE c8
            have HVS := fun w' (h : Below w.heap.size w w') => hid ((HRD w' h).out.rv)
            obtain ⟨_, _, he8, _, _, hcell⟩ := (HRD w (Below.refl _ _)).out.rv.open
            simp only [Value.slice.injEq] at he8
            obtain ⟨rfl, _, rfl⟩ := he8
            have HC := hid hcell
            have HVL : Hid (x.vs.length ≤ 4096) := HN.out.vl
            have HNV : Hid (∀ v ∈ x.vs, VrOk x.pl v) := HN.out.vs
            clear hcell HRD HVS
            generalize hvsl : x.vs = vs at *
            go_loopw [5, 66] (fun v i wr => ∃ k : Nat, k ≤ vs.length ∧ i = .int .i64 k ∧ Hid (PrI x (.slice au x.sup.length cu) (.slice av vs.length cv) w v (lE ++ varsV (vs.take k)) wr)) (fun _ i _ => vs.length - (intOf i).toNat)
            case atStart => exact ⟨0, Nat.zero_le _, rfl, by show PrI _ _ _ _ _ _ _; rw [List.take_zero, varsV, List.append_nil]; exact HI13.out⟩
            case round =>
              obtain ⟨k, hk, rfl, HI⟩ := hrel
              by_cases hlt : k < vs.length
              · obtain ⟨y, b, o, vw, vg, hx, rfl, d0, d1, rw0, rs0⟩ := HC.out k hlt
                have hki : (k : Int) < (vs.length : Int) := by omega
                have e0 := Below.keeps HI.out.bel _ _ d0
                have e1 := Below.keeps HI.out.bel _ _ d1
                have hok := HNV.out y (List.mem_of_getElem? hx)
                have j1 := joinB_len (fun s hs => wordB_66 (hok.ws s hs))
                have j2 := joinB_len (fun s hs => (sig_brc (hok.sg s hs)).2.1)
                have j3 : y.ws.length * (66 + 1) ≤ 4096 * (66 + 1) := Nat.mul_le_mul hok.wl (Nat.le_refl _)
                have j4 : y.sg.length * (16 + 1) ≤ 4096 * (16 + 1) := Nat.mul_le_mul hok.sl (Nat.le_refl _)
                have j5 := hok.wl
                have j6 := hok.sl
                have HQ := fun w' h => hid (quote_any vw y.ws w' (rw0.below h) (by omega) (by omega))
                have HBR := fun w' h => hid (braces_any vg y.sg w' (rs0.below h) (by omega) (by omega))
                have EQ := enters_of Tryz.func53 (by kernel_rfl) rfl
                have EB := enters_of Tryz.func52 (by kernel_rfl) rfl
                have HOV : Hid (oneV y = [quoteB y.ws, bracesB y.sg]) := rfl
                clear j1 j2 j3 j4 j5 j6 hok d0 d1
                obtain ⟨aw, cw, rfl, hlw, hmw, _⟩ := rw0.open
                obtain ⟨ag, cg, rfl, hlg, hmg, _⟩ := rs0.open
                clear rw0 rs0
                have HV1 := hid (varsV_snoc (vs.take k) y)
                have HV2 : Hid (vs.take (k + 1) = vs.take k ++ [y]) := by show _ = _; rw [List.take_add_one, hx]; rfl
                have HV3 : Hid ((vs.take k).length = k) := by show _ = _; rw [List.length_take]; omega
                have hvl := varsV_len (vs.take k)
                have hVL := HVL.out
                rw [HV3.out] at hvl
                obtain ⟨lK, hlK⟩ : ∃ l, l = lE ++ varsV (vs.take k) := ⟨_, rfl⟩
                have hlKn : lK.length ≤ 12400 := by rw [hlK, List.length_append]; omega
                rw [← hlK] at HI
                have HLK := hid hlK
                clear hlK hvl hVL hx
                generalize quoteB y.ws = qv at *
                generalize bracesB y.sg = bv at *
                generalize y.ws.length = nw at *
                generalize y.sg.length = ng at *
                have HI1 := hid (HI.out.al (.cells #[.slice aw nw cw, .slice ag ng cg] 63))
                have HRv := hid (row_nw wr #[.slice aw nw cw, .slice ag ng cg] 63 rfl)
                have hsz := HI.out.siz
                by_cases hk0 : k = 0
                · have hk0i : ¬ (0 : Int) < (k : Int) := by omega
                  have HF : Hid (lK ++ [qv, bv] = lE ++ varsV (vs.take (k + 1))) := by
                    show _ = _
                    rw [HLK.out, HV2.out, HV1.out, if_pos (by rw [HV3.out]; exact hk0), List.append_assoc, HOV.out]
                  clear HI hk0 HV1 HV2 HV3
                  go_upto_region 21 with fail
                  generalize wr.alloc (.cells #[.slice aw nw cw, .slice ag ng cg] 63) = W1 at *
                  generalize wr.heap.size = nv at *
                  generalize u5 = v5 at *
                  have r0 := HRv.out.cell 0 (x := .slice aw nw cw) rfl
                  have r1 := HRv.out.cell 1 (x := .slice ag ng cg) rfl
                  have hI := HI1.out
                  clear HI1
                  go_region_law (first
                    | (refine step_callB rfl 53 EQ (.tmp 78) #[23] rfl (.slice aw nw cw) (by simp [Act.eval]) (.string qv) (HQ _ (PrI.bel (by first | exact hI | exact PrI.drew hI))).out ?_; intro w6 hB6; have z1 := Below.keeps hB6 _ _ r1; have z2 := PrI.below (by first | exact hI | exact PrI.drew hI) hB6)
                    | (refine step_callB rfl 52 EB (.tmp 81) #[23] rfl (.slice ag ng cg) (by simp [Act.eval]) (.string bv) (HBR _ (PrI.bel (by first | with_reducible assumption | (with_reducible refine PrI.drew ?_; with_reducible assumption)))).out ?_; intro w7 hB7; have z3 := PrI.below (by first | with_reducible assumption | (with_reducible refine PrI.drew ?_; with_reducible assumption)) hB7)
                    | (refine step_ap rfl (.tmp 76) (.tmp 83) 23 rfl (w.heap.size + 1) 9 Tryz.underlying23 infoStr rfl (by decide) (by decide) v5 lK.length (lK.map Value.string) ?_ ?_ 2 (by decide) [.string qv, .string bv] rfl ?_ w7.heap.size ?_ ?_ ?_ ?_ ?_; (focus (simp [Act.eval]; done)); (focus (refine PrI.own (x := x) (u := .slice au x.sup.length cu) (s := .slice (some ⟨b, o, none⟩) vs.length cv) ?_; (repeat (first | with_reducible assumption | with_reducible refine PrI.drew ?_ | with_reducible refine PrI.al ?_ _)); done)); (focus (simp [Value.oneCell']; done)); (focus (simp [Act.eval]; done)); (focus (intro j u hj; exact cell_nw w7 #[.string qv, .string bv] _ j (by simpa using hj))); (focus (first | omega | (simp; omega))); (focus (refine PrI.siz (x := x) (u := .slice au x.sup.length cu) (s := .slice (some ⟨b, o, none⟩) vs.length cv) (v := v5) (l := lK) ?_; (repeat (first | with_reducible assumption | with_reducible refine PrI.drew ?_ | with_reducible refine PrI.al ?_ _)); done)); intro g9 c9 w9 ho9 hb9 _ _; have HI9 := hid (PrI.push z3 [qv, bv] ho9 (Below.trans ((below_al w7 _).mono (by have := z3.siz; omega)) hb9))))
                  all_goals (go_wp2_with fail; go_roundw)
                  all_goals (first | (simp [intOf]; omega; done) | (refine ⟨k + 1, by omega, by go_num, ?_⟩; show PrI _ _ _ _ _ _ _; rw [← HF.out]; exact HI9.out))
                  -- END
                · have hk0i : (0 : Int) < (k : Int) := by omega
                  have HF : Hid ((lK ++ [barB]) ++ [qv, bv] = lE ++ varsV (vs.take (k + 1))) := by
                    show _ = _
                    rw [HLK.out, HV2.out, HV1.out, if_neg (by rw [HV3.out]; exact hk0), List.append_assoc, List.append_assoc, List.append_assoc, HOV.out]
                  have hown := HI1.out.own
                  have HNE := hid (row_own_ne HRv.out hown (by decide))
                  clear HI hk0 HV1 HV2 HV3
                  go_upto_region 21 with (at_builtin; refine wpList_ap rfl _ _ 23 rfl (w.heap.size + 1) 9 Tryz.underlying23 infoStr rfl (by decide) (by decide) _ _ _ rfl hown [.string ⟨#[124]⟩] rfl (by simp [Value.oneCell']) rfl (by simp) (by omega) HI1.out.siz ?_; intro v5 w5 hown5 hb5 hg5)
                  have HI5 := hid (HI1.out.push [barB] hown5 hb5)
                  have HRv5 : Hid (Row w5 wr.heap.size #[.slice aw nw cw, .slice ag ng cg] 63) := (hg5.block _ HRv.out.lt (Ne.symm HNE.out)).trans HRv.out
                  clear HI1 HRv hown hown5 hb5 hg5 HNE
                  generalize wr.heap.size = nv at *
                  obtain ⟨lJ, hlJ⟩ : ∃ l, l = lK ++ [barB] := ⟨_, rfl⟩
                  have hlJn : lJ.length ≤ 12401 := by rw [hlJ, List.length_append, List.length_singleton]; omega
                  have hlJe : lK.length + 1 = lJ.length := by rw [hlJ, List.length_append, List.length_singleton]
                  rw [← hlJ] at HI5 HF
                  clear hlJ
                  have r0 := HRv5.out.cell 0 (x := .slice aw nw cw) rfl
                  have r1 := HRv5.out.cell 1 (x := .slice ag ng cg) rfl
                  have hI := HI5.out
                  clear HI5
                  go_region_law (first
                    | (refine step_callB rfl 53 EQ (.tmp 78) #[23] rfl (.slice aw nw cw) (by simp [Act.eval]) (.string qv) (HQ _ (PrI.bel (by first | exact hI | exact PrI.drew hI))).out ?_; intro w6 hB6; have z1 := Below.keeps hB6 _ _ r1; have z2 := PrI.below (by first | exact hI | exact PrI.drew hI) hB6)
                    | (refine step_callB rfl 52 EB (.tmp 81) #[23] rfl (.slice ag ng cg) (by simp [Act.eval]) (.string bv) (HBR _ (PrI.bel (by first | with_reducible assumption | (with_reducible refine PrI.drew ?_; with_reducible assumption)))).out ?_; intro w7 hB7; have z3 := PrI.below (by first | with_reducible assumption | (with_reducible refine PrI.drew ?_; with_reducible assumption)) hB7)
                    | (refine step_ap rfl (.tmp 76) (.tmp 83) 23 rfl (w.heap.size + 1) 9 Tryz.underlying23 infoStr rfl (by decide) (by decide) v5 lJ.length (lJ.map Value.string) ?_ ?_ 2 (by decide) [.string qv, .string bv] rfl ?_ w7.heap.size ?_ ?_ ?_ ?_ ?_; (focus (simp [Act.eval]; done)); (focus (refine PrI.own (x := x) (u := .slice au x.sup.length cu) (s := .slice (some ⟨b, o, none⟩) vs.length cv) ?_; (repeat (first | with_reducible assumption | with_reducible refine PrI.drew ?_ | with_reducible refine PrI.al ?_ _)); done)); (focus (simp [Value.oneCell']; done)); (focus (simp [Act.eval]; done)); (focus (intro j u hj; exact cell_nw w7 #[.string qv, .string bv] _ j (by simpa using hj))); (focus (first | omega | (simp; omega))); (focus (refine PrI.siz (x := x) (u := .slice au x.sup.length cu) (s := .slice (some ⟨b, o, none⟩) vs.length cv) (v := v5) (l := lJ) ?_; (repeat (first | with_reducible assumption | with_reducible refine PrI.drew ?_ | with_reducible refine PrI.al ?_ _)); done)); intro g9 c9 w9 ho9 hb9 _ _; have HI9 := hid (PrI.push z3 [qv, bv] ho9 (Below.trans ((below_al w7 _).mono (by have := z3.siz; omega)) hb9))))
                  all_goals (go_wp2_with fail; go_roundw)
                  all_goals (first | (simp [intOf]; omega; done) | (refine ⟨k + 1, by omega, by go_num, ?_⟩; show PrI _ _ _ _ _ _ _; rw [← HF.out]; exact HI9.out))
                  -- END
              · have hki : ¬ (k : Int) < (vs.length : Int) := by omega
                have HX : Hid (lE ++ varsV vs = partsN x) := by
                  show _ = _
                  rw [HLE.out, HLD.out, HLC.out, HLA.out]
                  unfold partsN frontL
                  rw [hvsl]
                  simp only [List.append_assoc]
                rw [List.take_of_length_le (by omega), HX.out] at HI
                have hbig := HPS.out
                have hpl := HPL.out
                have HJ := hid (joinX_any _ (partsN x) wr (Rd.of_own HI.out.own) (by omega) (by omega))
                have HB := hid HI.out.bel
                have HI2 : Hid (prE x = if 65536 < (joinB (partsN x)).size then 4 else 0) := by show _ = _; unfold prE; rw [if_pos h0]; rfl
                have HS2 : Hid (prS x = if prE x = 0 then joinB (partsN x) else ⟨#[]⟩) := rfl
                clear HI HLE HLD HLC HLA HX hpl HPL HPS HFL HN HNV HC HVL
                generalize joinB (partsN x) = j at *
                by_cases hj : 65536 < j.size
                · have hji : (65536 : Int) < (j.size : Int) := by omega
                  have HV : Hid (prE x = 4) := by show _ = _; rw [HI2.out, if_pos hj]
                  have HV2 : Hid (prS x = ⟨#[]⟩) := by show _ = _; rw [HS2.out, HV.out]; rfl
                  go_wp2_with fail
                  (with_reducible refine HJ.out.mono ?_)
                  rintro e w9 ⟨rfl, hB9⟩
                  go_wp2
                  go_ret2
                  exact ⟨by rw [HV.out, HV2.out]; rfl, below_tr HB.out hB9⟩
                · have hji : ¬ (65536 : Int) < (j.size : Int) := by omega
                  have HV : Hid (prE x = 0) := by show _ = _; rw [HI2.out, if_neg hj]
                  have HV2 : Hid (prS x = j) := by show _ = _; rw [HS2.out, HV.out]; rfl
                  go_wp2_with fail
                  (with_reducible refine HJ.out.mono ?_)
                  rintro e w9 ⟨rfl, hB9⟩
                  go_wp2
                  go_ret2
                  exact ⟨by rw [HV.out, HV2.out]; rfl, below_tr HB.out hB9⟩
  · have hb : (nteI x == 0) = false := beq_eq_false_iff_ne.2 h0
    have HV : Hid (prE x = nteI x) := by show _ = _; unfold prE; rw [if_neg h0]
    have HV2 : Hid (prS x = ⟨#[]⟩) := by show _ = _; unfold prS; rw [HV.out, if_neg h0]
    clear h0 he
    obtain ⟨au, cu, rfl, hlu, hmu, _⟩ := hr.rs.open
    obtain ⟨av, cv, rfl, hlv, hmv, _⟩ := hr.rv.open
    clear hr
    generalize prE x = pe at *
    generalize prS x = ps at *
    generalize nteI x = ne at *
    unfold Nt.cells at *
    go_enter Tryz.func21, Tryz.ntmps21
    go_wp2_with fail
    (with_reducible refine HC.out.mono ?_)
    rintro e w1 ⟨rfl, hB1⟩
    go_wp2
    go_ret2
    exact ⟨by rw [HV.out, HV2.out]; rfl, below_tr HB0.out hB1⟩
end Go.Proofs.YtjhdeoniafahbaaGreatDoor
