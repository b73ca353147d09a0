/-
  pagedesc.kinds, pagedesc.Print.
-/
import Derived.Test.YtkjapeafhcdnkaaDoorPck
import Derived.Test.YtkjapeafhcdnkaaDoorBld2
import Derived.Test.YtkjapeafhcdnkaaDoorRws
import Derived.Deep.RegionHeld3
import Derived.Lib.ItoaMem
import Derived.Shelf.Strings.MapGrows
namespace Go.Proofs.YtkjapeafhcdnkaaDoor
open Go.RowKit

/-- The builder in block b holds the bytes l. -/
def Bu (W : World) (b : Nat) (l : List UInt8) : Prop := Lib.IsBuilderF 72 5 b b (Lib.byteCells l) W
theorem Bu.below {W W' : World} {b : Nat} {l : List UInt8} (h : Bu W b l) (hb : Below W.heap.size W W') : Bu W' b l := Lib.IsBuilderF.below h hb
theorem Bu.lt {W : World} {b : Nat} {l : List UInt8} (h : Bu W b l) : b < W.heap.size := h.elim (fun x => x.lt) (fun x => x.lt)
theorem bu_nw (W : World) : Bu (W.alloc (.cells #[.pointer none, .slice none 0 0] 72)) W.heap.size [] := Lib.IsBuilderF.of (Lib.fresh_isBuilder 72 5 W)
/-- What a write leaves alone. -/
def Kpt (b : Nat) (W W' : World) : Prop := Below b W W' ∧ Lib.OthersKept 5 (some b) W W'
theorem Row.kpt {W W' : World} {b B : Nat} {cs : Array Value} {t : TypeId} (h : Row W B cs t) (hk : Kpt b W W') (hB : B ≠ b) (ht : t ≠ 5) : Row W' B cs t :=
  hk.2 B _ h (fun e => hB (Option.some.inj e)) (fun c fz e => ht (by cases e; rfl))
theorem wstr_any (b : Nat) (l : List UInt8) (s : ByteArray) (w : World) (h : Bu w b l) (hlen : l.length + s.size ≤ 100000000) :
    Calls Tryd.prog 43 #[.pointer (some ⟨b, 0, none⟩), .string s] w fun e w' => e = .returned (.tuple #[.int .i64 s.size, .nilIface]) ∧ Bu w' b (l ++ s.data.toList) ∧ Kpt b w w' := by
  refine (Tryd.Builder_WriteString_k b b (Lib.byteCells l) s w h (by rw [Lib.byteCells_length]; omega) (Nat.le_of_lt h.lt)).mono ?_
  rintro e w' ⟨rfl, h1, h2, h3⟩
  refine ⟨rfl, .inr ?_, h2, h3⟩
  rw [Lib.byteCells_append, ← Lib.strCells_eq]; exact h1
theorem blen_any (b : Nat) (l : List UInt8) (w : World) (h : Bu w b l) :
    Calls Tryd.prog 46 #[.pointer (some ⟨b, 0, none⟩)] w fun e w' => e = .returned (.int .i64 l.length) ∧ w = w' := by
  refine (Tryd.Builder_Len_f b b (Lib.byteCells l) w h).mono ?_
  rintro e w' ⟨rfl, rfl⟩
  exact ⟨by rw [Lib.byteCells_length], rfl⟩
theorem bstr_any (b : Nat) (l : List UInt8) (w : World) (h : Bu w b l) :
    Calls Tryd.prog 47 #[.pointer (some ⟨b, 0, none⟩)] w fun e w' => e = .returned (.string ⟨l.toArray⟩) ∧ Below b w w' := by
  refine (Tryd.Builder_String_any_k b b l w h (Nat.le_of_lt h.lt)).mono ?_
  rintro e w' ⟨rfl, _, h2, _⟩
  exact ⟨rfl, h2⟩

def kwA : Array Value := #[.string ⟨#[]⟩, .string ⟨#[116, 101, 120, 116]⟩, .string ⟨#[110, 117, 109, 98, 101, 114]⟩, .string ⟨#[110, 111, 116, 101]⟩, .string ⟨#[104, 101, 97, 100]⟩, .string ⟨#[115, 105, 103, 108, 97]⟩, .string ⟨#[102, 97, 99, 105, 110, 103]⟩]
def kwB (n : Int) : ByteArray := if n = 1 then ⟨#[116, 101, 120, 116]⟩ else if n = 2 then ⟨#[110, 117, 109, 98, 101, 114]⟩ else if n = 3 then ⟨#[110, 111, 116, 101]⟩ else if n = 4 then ⟨#[104, 101, 97, 100]⟩ else if n = 5 then ⟨#[115, 105, 103, 108, 97]⟩ else if n = 6 then ⟨#[102, 97, 99, 105, 110, 103]⟩ else ⟨#[]⟩
theorem kw_at {k : Nat} (h1 : 1 ≤ k) (h2 : k ≤ 6) : kwA[k]? = some (.string (kwB k)) := by
  have : k = 1 ∨ k = 2 ∨ k = 3 ∨ k = 4 ∨ k = 5 ∨ k = 6 := by omega
  rcases this with rfl | rfl | rfl | rfl | rfl | rfl <;> rfl
theorem kinds_any (w : World) : Calls Tryd.prog 45 #[] w fun e w' => e = .returned (.slice (some ⟨w.heap.size, 0, none⟩) 7 7) ∧ w.alloc (.cells kwA 9) = w' := by
  unfold kwA
  go_enter Tryd.func45, Tryd.ntmps45
  go_wp2
  go_ret
  exact ⟨rfl, rfl⟩

def itoL (n : Int) : List UInt8 := (itoaB n).data.toList
def headL (n : Int) : List UInt8 := [112, 97, 103, 101, 32] ++ itoL n ++ [10]
def numL (n : Int) : List UInt8 := 32 :: itoL n
def boxL (b : Bx) : List UInt8 := (kwB b.kind).data.toList ++ (numL b.x ++ (numL b.y ++ (numL b.wd ++ numL b.blk))) ++ (124 :: (b.text.data.toList ++ [10]))
def bxsL (l : List Bx) : List UInt8 := l.flatMap boxL
def pageL (p : Pg) : List UInt8 := headL p.num ++ bxsL p.bx
def printL (l : List Pg) : List UInt8 := l.flatMap pageL
theorem ito_size {n : Int} (h0 : 0 ≤ n) (h1 : n ≤ 1073741824) : (itoaB n).size ≤ 1073741825 := by
  have hle : ∀ (u : Nat), Lib.nDigits u ≤ u + 1 := by
    intro u
    induction u using Nat.strongRecOn with
    | ind u ih =>
      unfold Lib.nDigits
      split
      · omega
      · have := ih (u / 10) (by omega)
        omega
  have h := hle n.toNat
  have e : (itoaB n).size = Lib.nDigits n.toNat := by
    show (Lib.itoa n).toArray.size = _
    rw [List.size_toArray]
    unfold Lib.itoa
    rw [if_neg (by omega), Lib.decDigits_length]
  omega
theorem head_data (n : Int) : ((⟨#[112, 97, 103, 101, 32]⟩ ++ itoaB n) ++ ⟨#[10]⟩ : ByteArray).data.toList = headL n := by
  unfold headL itoL; simp
theorem num_data (n : Int) : (⟨#[32]⟩ ++ itoaB n : ByteArray).data.toList = numL n := by
  unfold numL itoL; simp
theorem text_data (s : ByteArray) : ((⟨#[124]⟩ ++ s) ++ ⟨#[10]⟩ : ByteArray).data.toList = 124 :: (s.data.toList ++ [10]) := by simp
theorem data_size (s : ByteArray) : s.data.toList.length = s.size := by rw [Array.length_toList]; rfl
def numsL (b : Bx) : List Int := [b.x, b.y, b.wd, b.blk]
theorem box_parts (b : Bx) : boxL b = ((kwB b.kind).data.toList ++ (numsL b).flatMap numL) ++ (124 :: (b.text.data.toList ++ [10])) := by
  unfold boxL numsL; simp
def firstP : List Pg → Int
  | [] => 0
  | p :: r => if pgI p = 0 then firstP r else pgI p
theorem firstP_hit : ∀ (l : List Pg) (k : Nat) (x : Pg), (∀ y ∈ l.take k, pgI y = 0) → l[k]? = some x → pgI x ≠ 0 → firstP l = pgI x
  | [], k, x, _, hx, _ => by simp at hx
  | b :: r, 0, x, _, hx, hn => by
    have : b = x := by simpa using hx
    subst this
    rw [firstP, if_neg hn]
  | b :: r, k + 1, x, h, hx, hn => by
    have hb := h b (by simp)
    rw [firstP, if_pos hb]
    exact firstP_hit r k x (fun y hy => h y (by simp [hy])) (by simpa using hx) hn
theorem firstP_none : ∀ (l : List Pg), (∀ y ∈ l, pgI y = 0) → firstP l = 0
  | [], _ => rfl
  | b :: r, h => by rw [firstP, if_pos (h b (by simp))]; exact firstP_none r (fun y hy => h y (by simp [hy]))
theorem firstP_all : ∀ (l : List Pg), firstP l = 0 → ∀ y ∈ l, pgI y = 0
  | [], _, y, hy => by cases hy
  | b :: r, h, y, hy => by
    rw [firstP] at h
    by_cases hb : pgI b = 0
    · rw [if_pos hb] at h
      rcases List.mem_cons.1 hy with rfl | hy
      · exact hb
      · exact firstP_all r h y hy
    · rw [if_neg hb] at h; exact absurd h hb
theorem flat_snoc {α : Type} (f : α → List UInt8) (l : List α) (k : Nat) (x : α) (h : l[k]? = some x) : (l.take (k + 1)).flatMap f = (l.take k).flatMap f ++ f x := by
  rw [List.take_add_one, h, List.flatMap_append]; simp
theorem flat_le {α : Type} (f : α → List UInt8) (l : List α) (k : Nat) : ((l.take k).flatMap f).length ≤ (l.flatMap f).length := by
  conv => rhs; rw [← List.take_append_drop k l, List.flatMap_append, List.length_append]
  omega
theorem ba_str (s : ByteArray) : (⟨s.data.toList.toArray⟩ : ByteArray) = s := by cases s; simp
/-- All the pages' checks give nothing against them. -/
theorem pg_good {p : Pg} (h : pgI p = 0) : 1 ≤ p.num ∧ p.num ≤ 1024 ∧ p.bx.length ≤ 4096 ∧ ∀ b ∈ p.bx, boxI b = 0 := by
  unfold pgI at h
  by_cases h1 : p.num < 1 ∨ 1024 < p.num
  · rw [if_pos h1] at h; cases h
  · rw [if_neg h1] at h
    by_cases h2 : 4096 < p.bx.length
    · rw [if_pos h2] at h; cases h
    · rw [if_neg h2] at h
      exact ⟨by omega, by omega, by omega, firstE_all _ h⟩
theorem bx_good {b : Bx} (h : boxI b = 0) : 1 ≤ b.kind ∧ b.kind ≤ 6 ∧ 0 ≤ b.x ∧ b.x ≤ 1073741824 ∧ 0 ≤ b.y ∧ b.y ≤ 1073741824 ∧ 0 ≤ b.wd ∧ b.wd ≤ 1073741824 ∧ 0 ≤ b.blk ∧ b.blk ≤ 63 ∧ (decide (b.kind = 3) = decide (0 < b.blk)) ∧ b.text.size ≤ 65536 ∧ (bytesL b.text).any badC = false := by
  unfold boxI at h
  by_cases h1 : b.kind < 1 ∨ 6 < b.kind
  · rw [if_pos h1] at h; cases h
  · rw [if_neg h1] at h
    by_cases h2 : (!lenB b.x || !lenB b.y || !lenB b.wd || decide (b.blk < 0) || decide (63 < b.blk)) = true
    · rw [if_pos h2] at h; cases h
    · rw [if_neg h2] at h
      by_cases h3 : decide (b.kind = 3) ≠ decide (0 < b.blk)
      · rw [if_pos h3] at h; cases h
      · rw [if_neg h3] at h
        by_cases h4 : 65536 < b.text.size
        · rw [if_pos h4] at h; cases h
        · rw [if_neg h4] at h
          by_cases h5 : (bytesL b.text).any badC = true
          · rw [if_pos h5] at h; cases h
          · unfold lenB at h2
            simp only [Bool.or_eq_true, Bool.not_eq_true', Bool.and_eq_false_iff, decide_eq_true_eq, decide_eq_false_iff_not] at h2
            refine ⟨by omega, by omega, by omega, by omega, by omega, by omega, by omega, by omega, by omega, by omega, Classical.byContradiction h3, by omega, by simpa using h5⟩

def pprV (l : List Pg) : Value := if firstP l = 0 then .tuple #[.string ⟨(printL l).toArray⟩, .int .i64 0] else .tuple #[.string ⟨#[]⟩, .int .i64 (firstP l)]
set_option maxRecDepth 100000 in
set_option maxHeartbeats 4000000 in
theorem pprint_any (l : List Pg) (v : Value) (w : World) (he : Env w) (hr : RdPg w v l) (hz : SzPg l) (hlen : l.length ≤ 1024) (htot0 : firstP l = 0 → (printL l).length ≤ 1000000) :
    Calls Tryd.prog 13 #[v] w fun e w' => e = .returned (pprV l) ∧ Below w.heap.size w w' := by
  have HD : Hid (pprV l = if firstP l = 0 then .tuple #[.string ⟨(printL l).toArray⟩, .int .i64 0] else .tuple #[.string ⟨#[]⟩, .int .i64 (firstP l)]) := rfl
  obtain ⟨ad, cap, rfl, hlc, hcm, hcell⟩ := hr.open
  have HC := hid hcell
  have HE := fun w' (h : Below w.heap.size w w') => hid (he.below h)
  have hli : ¬ (1024 : Int) < (l.length : Int) := by omega
  clear hcell hr he
  go_enter Tryd.func13, Tryd.ntmps13
  go_wp2
  go_loopw [19] (fun i wr => ∃ k : Nat, k ≤ l.length ∧ i = .int .i64 k ∧ Hid (∀ y ∈ l.take k, pgI y = 0) ∧ Hid (Below w.heap.size w wr)) (fun i _ => l.length - (intOf i).toNat)
  case atStart => exact ⟨0, Nat.zero_le _, rfl, by simp [Hid], Below.refl _ _⟩
  case round =>
    obtain ⟨k, hk, rfl, HN, HB⟩ := hrel
    by_cases hlt : k < l.length
    · obtain ⟨p, b, off, u, hp, rfl, c0, c1, hu⟩ := HC.out k hlt
      obtain ⟨au, cu, rfl, _, _, _⟩ := hu.open
      have hki : (k : Int) < (l.length : Int) := by omega
      have d0 := Below.keeps HB.out _ _ c0
      have d1 := Below.keeps HB.out _ _ c1
      have hb1 := below_al wr (.cells #[.int .i64 p.num, .slice au p.bx.length cu] 34)
      have HP := hid hp
      have HCK := hid (pcheck_any p _ (wr.alloc (.cells #[.int .i64 p.num, .slice au p.bx.length cu] 34)) (hu.below (below_tr HB.out hb1)) (hz p (List.mem_of_getElem? hp)))
      clear hp c0 c1 hu
      go_wp2_with fail
      refine HCK.out.mono ?_
      rintro e w3 ⟨rfl, hB3⟩
      have HB3 := hid (below_tr HB.out (below_tr hb1 hB3))
      clear hB3 hb1 HCK d0 d1
      by_cases hbx : pgI p = 0
      · have HN2 : Hid (∀ y ∈ l.take (k + 1), pgI y = 0) := by
          intro y hy
          rw [List.take_add_one, HP.out, List.mem_append] at hy
          rcases hy with hy | hy
          · exact HN.out y hy
          · have : y = p := by simpa using hy
            rw [this]; exact hbx
        clear HP HN
        go_wp2_with fail
        go_roundw
        case rel => exact ⟨k + 1, by omega, by go_num, HN2.out, HB3.out⟩
        case measure => simp [intOf]; omega
      · have hbb : (pgI p == 0) = false := beq_eq_false_iff_ne.2 hbx
        have HV2 : Hid (firstP l = pgI p) := firstP_hit l k p HN.out HP.out hbx
        go_wp2
        go_ret2
        exact ⟨by rw [HD.out, HV2.out, if_neg hbx]; rfl, HB3.out⟩
    · have hki : ¬ (k : Int) < (l.length : Int) := by omega
      have HALL : Hid (∀ y ∈ l, pgI y = 0) := by
        have h := HN.out
        rw [List.take_of_length_le (by omega)] at h
        exact h
      have HV2 : Hid (firstP l = 0) := firstP_none l HALL.out
      have htot := htot0 HV2.out
      have HBU := hid (bu_nw wr)
      have HB1 := hid (below_tr HB.out (below_al wr (.cells #[.pointer none, .slice none 0 0] 72)))
      have hbb := HB.out.size
      clear HN HB hlt hk
      go_wp2_with fail
      generalize wr.alloc (.cells #[.pointer none, .slice none 0 0] 72) = w1 at *
      generalize wr.heap.size = bb at *
      go_loopw [31] (fun i wr => ∃ k : Nat, k ≤ l.length ∧ i = .int .i64 k ∧ Hid (Bu wr bb (printL (l.take k))) ∧ Hid (Below w.heap.size w wr)) (fun i _ => l.length - (intOf i).toNat)
      case atStart => exact ⟨0, Nat.zero_le _, rfl, HBU.out, HB1.out⟩
      case round =>
        clear HBU HB1
        obtain ⟨k, hk, rfl, HBU, HB⟩ := hrel
        by_cases hlt : k < l.length
        · obtain ⟨p, b, off, u, hp, rfl, c0, c1, hu⟩ := HC.out k hlt
          obtain ⟨au, cu, rfl, _, _, hucell⟩ := hu.open
          have hki : (k : Int) < (l.length : Int) := by omega
          have d0 := Below.keeps HB.out _ _ c0
          have d1 := Below.keeps HB.out _ _ c1
          have hpm := List.mem_of_getElem? hp
          obtain ⟨gn1, gn2, gl, gbx⟩ := pg_good (HALL.out p hpm)
          have HGB := hid (fun x (hx : x ∈ p.bx) => bx_good (gbx x hx))
          have HUC := hid hucell
          have HTP := hid (flat_snoc pageL l k p hp)
          have hpre := flat_le pageL l (k + 1)
          rw [HTP.out] at hpre
          have hpre2 : (printL (l.take k)).length + (pageL p).length ≤ 1000000 := by
            rw [List.length_append] at hpre
            have : ((l.take k).flatMap pageL).length = (printL (l.take k)).length := rfl
            have h2 : (l.flatMap pageL).length = (printL l).length := rfl
            omega
          have hhl : (headL p.num).length + (bxsL p.bx).length = (pageL p).length := by unfold pageL; rw [List.length_append]
          have hbl := HBU.out.lt
          have hb1 := below_al wr (.cells #[.int .i64 p.num, .slice au p.bx.length cu] 34)
          have HRP := hid (row_nw wr #[.int .i64 p.num, .slice au p.bx.length cu] 34 rfl)
          have HBU1 := hid (HBU.out.below hb1)
          have HB1 := hid (below_tr HB.out hb1)
          have HIT := hid (itoa_b p.num (wr.alloc (.cells #[.int .i64 p.num, .slice au p.bx.length cu] 34)) (HE _ HB1.out).out (by omega) (by omega))
          have hisz := ito_size (n := p.num) (by omega) (by omega)
          have f0 := HRP.out.cell 0 rfl
          clear hucell hu hp hpm gbx c0 c1 hpre hb1
          go_wp2_with fail
          generalize wr.alloc (.cells #[.int .i64 p.num, .slice au p.bx.length cu] 34) = w2 at *
          refine HIT.out.mono ?_
          rintro e w3 ⟨rfl, hB3⟩
          have HWS := hid (wstr_any bb (printL (l.take k)) ((⟨#[112, 97, 103, 101, 32]⟩ ++ itoaB p.num) ++ ⟨#[10]⟩) w3 (HBU1.out.below hB3) (by rw [← data_size, head_data]; omega))
          rw [head_data] at HWS
          clear f0 HIT HBU
          go_wp2_with fail
          refine HWS.out.mono ?_
          rintro e w4 ⟨rfl, hbu4, hk4⟩
          have HB4 := hid ((below_tr HB1.out hB3).trans (hk4.1.mono hbb))
          have HBU4 := hid hbu4
          have f1 := ((HRP.out.below hB3).kpt hk4 (by omega) (by decide)).cell 1 rfl
          clear HWS hB3 hbu4 hk4 HB1 HBU1 HRP
          go_wp2_with fail
          go_loopw [44] (fun i wi => ∃ j : Nat, j ≤ p.bx.length ∧ i = .int .i64 j ∧ Hid (Bu wi bb ((printL (l.take k) ++ headL p.num) ++ bxsL (p.bx.take j))) ∧ Hid (Below w.heap.size w wi)) (fun i _ => p.bx.length - (intOf i).toNat)
          case atStart => exact ⟨0, Nat.zero_le _, rfl, by simpa [Hid, bxsL] using HBU4.out, HB4.out⟩
          case round =>
            clear HBU4 HB4 f1
            obtain ⟨j, hj, rfl, HBU, HB⟩ := hrel
            by_cases hjl : j < p.bx.length
            · obtain ⟨x, bo, oo, hx, rfl, e0, e1, e2, e3, e4, e5⟩ := HUC.out j hjl
              have hji : (j : Int) < (p.bx.length : Int) := by omega
              obtain ⟨k1, k2, x1, x2, y1, y2, v1, v2, t1, t2, _, tz, _⟩ := HGB.out x (List.mem_of_getElem? hx)
              have HTB := hid (flat_snoc boxL p.bx j x hx)
              have hpb := flat_le boxL p.bx (j + 1)
              rw [HTB.out] at hpb
              have hpb2 : (bxsL (p.bx.take j)).length + (boxL x).length ≤ (bxsL p.bx).length := by
                rw [List.length_append] at hpb
                exact hpb
              have HBP := hid (box_parts x)
              have hbp : (kwB x.kind).data.toList.length + ((numsL x).flatMap numL).length + (2 + x.text.size) = (boxL x).length := by
                rw [HBP.out]; simp only [List.length_append, List.length_cons, List.length_nil, data_size]; omega
              obtain ⟨kn, hkn⟩ := Int.eq_ofNat_of_zero_le (show 0 ≤ x.kind by omega)
              have g0 := Below.keeps HB.out _ _ e0
              have g1 := Below.keeps HB.out _ _ e1
              have g2 := Below.keeps HB.out _ _ e2
              have g3 := Below.keeps HB.out _ _ e3
              have g4 := Below.keeps HB.out _ _ e4
              have g5 := Below.keeps HB.out _ _ e5
              have hbl2 := HBU.out.lt
              have hb1 := below_al wr (.cells #[.int .i64 x.kind, .int .i64 x.x, .int .i64 x.y, .int .i64 x.wd, .int .i64 x.blk, .string x.text] 42)
              have HRX := hid (row_nw wr #[.int .i64 x.kind, .int .i64 x.x, .int .i64 x.y, .int .i64 x.wd, .int .i64 x.blk, .string x.text] 42 rfl)
              have HBU1 := hid (HBU.out.below hb1)
              have HB1 := hid (below_tr HB.out hb1)
              rw [hkn] at HRX HBU1 HB1
              clear e0 e1 e2 e3 e4 e5 hx hpb hb1
              have HKW := hid (kw_at (k := kn) (by omega) (by omega))
              have HRK := hid ((HRX.out.al (.cells kwA 9)))
              go_wp2_with fail
              generalize wr.alloc (.cells #[.int .i64 (kn : Int), .int .i64 x.x, .int .i64 x.y, .int .i64 x.wd, .int .i64 x.blk, .string x.text] 42) = w0 at *
              have q0 : w0.cell? ⟨wr.heap.size, 0, none⟩ = some (.int .i64 kn) := HRX.out.cell 0 rfl
              have q1 : (w0.alloc (.cells kwA 9)).cell? ⟨wr.heap.size, 0, none⟩ = some (.int .i64 kn) := cell_al q0 _
              have q2 : (w0.alloc (.cells kwA 9)).cell? ⟨w0.heap.size, kn, none⟩ = some (.string (kwB kn)) := cell_nw w0 kwA 9 kn HKW.out
              have hkw := HKW.out
              have q3 : (w0.drew.alloc (.cells kwA 9)).cell? ⟨w0.heap.size, kn, none⟩ = some (.string (kwB kn)) := q2
              have q4 : (w0.drew.alloc (.cells kwA 9)).cell? ⟨wr.heap.size, 0, none⟩ = some (.int .i64 kn) := q1
              have HBK := hid ((HBU1.out.below (below_al w0 (.cells kwA 9))).below (Below.refl _ (w0.alloc (.cells kwA 9))).drew)
              have hkwl : (kwB (kn : Int)).data.toList.length = (kwB (kn : Int)).size := data_size _
              have hlb : ((printL (l.take k) ++ headL p.num) ++ bxsL (p.bx.take j)).length = (printL (l.take k)).length + (headL p.num).length + (bxsL (p.bx.take j)).length := by simp only [List.length_append]
              have HOB := hid hlb
              rw [hkn] at hbp
              have hkni : (kn : Int) < 7 := by omega
              have hkn0 : (0 : Int) ≤ (kn : Int) := by omega
              have HTOT := hid (show (printL (l.take k)).length + (headL p.num).length + (bxsL (p.bx.take j)).length + (boxL x).length ≤ 1000000 by omega)
              have HWS := hid (fun w' (h : Bu w' bb ((printL (l.take k) ++ headL p.num) ++ bxsL (p.bx.take j))) => wstr_any bb ((printL (l.take k) ++ headL p.num) ++ bxsL (p.bx.take j)) (kwB kn) w' h (by rw [HOB.out]; omega))
              go_region_with (first | (go_at_call 45; refine (kinds_any _).mono ?_; rintro e w' ⟨rfl, rfl⟩) | (go_at_call 43; refine (HWS.out _ HBK.out).mono ?_; rintro e w5 ⟨rfl, hbu5, hk5⟩))
              all_goals
                have HRX5 := hid ((show Row (w0.alloc (.cells kwA 9)).drew wr.heap.size #[.int .i64 (kn : Int), .int .i64 x.x, .int .i64 x.y, .int .i64 x.wd, .int .i64 x.blk, .string x.text] 42 from HRX.out.al _).kpt hk5 (by omega) (by decide))
                have HB5 := hid ((Below.drew (below_tr HB1.out (below_al w0 (.cells kwA 9)))).trans (hk5.1.mono hbb))
                have HB6 := hid (below_tr HB5.out (below_al w5 (.cells #[.int .i64 x.x, .int .i64 x.y, .int .i64 x.wd, .int .i64 x.blk] 3)))
                have HBU6 := hid (Bu.below hbu5 (below_al w5 (.cells #[.int .i64 x.x, .int .i64 x.y, .int .i64 x.wd, .int .i64 x.blk] 3)))
                have HRX6 := hid (HRX5.out.al (.cells #[.int .i64 x.x, .int .i64 x.y, .int .i64 x.wd, .int .i64 x.blk] 3))
                have HRN6 := hid (row_nw w5 #[.int .i64 x.x, .int .i64 x.y, .int .i64 x.wd, .int .i64 x.blk] 3 rfl)
                have hnb5 : bb < w5.heap.size := hbu5.lt
                have c1 := HRX5.out.cell 1 rfl
                have c2 := HRX5.out.cell 2 rfl
                have c3 := HRX5.out.cell 3 rfl
                have c4 := HRX5.out.cell 4 rfl
                clear hbu5 hk5 HRX HBU1 HB1 HBK q0 q1 q2 q3 q4 hkw HKW HWS HRX5 HB5 HRK g0 g1 g2 g3 g4 g5 HBU HB
                go_wp2_with fail
                generalize w5.alloc (.cells #[.int .i64 x.x, .int .i64 x.y, .int .i64 x.wd, .int .i64 x.blk] 3) = w6 at *
                generalize w5.heap.size = nb at *
                generalize wr.heap.size = bj at *
                clear c1 c2 c3 c4
                go_loopw [64] (fun i wl => ∃ n : Nat, n ≤ 4 ∧ i = .int .i64 n ∧ Hid (Bu wl bb ((((printL (l.take k) ++ headL p.num) ++ bxsL (p.bx.take j)) ++ (kwB (kn : Int)).data.toList) ++ ((numsL x).take n).flatMap numL)) ∧ Hid (Row wl nb #[.int .i64 x.x, .int .i64 x.y, .int .i64 x.wd, .int .i64 x.blk] 3) ∧ Hid (Row wl bj #[.int .i64 (kn : Int), .int .i64 x.x, .int .i64 x.y, .int .i64 x.wd, .int .i64 x.blk, .string x.text] 42) ∧ Hid (Below w.heap.size w wl)) (fun i _ => 4 - (intOf i).toNat)
                case atStart => exact ⟨0, Nat.zero_le _, rfl, by simpa [Hid] using HBU6.out, HRN6.out, HRX6.out, HB6.out⟩
                case round =>
                  clear HBU6 HRN6 HRX6 HB6
                  obtain ⟨n, hn, rfl, HBU, HRN, HRX, HB⟩ := hrel
                  by_cases hn4 : n < 4
                  · obtain ⟨z, hz, hz0, hz1, hzc⟩ : ∃ z, (numsL x)[n]? = some z ∧ 0 ≤ z ∧ z ≤ 1073741824 ∧ (#[Value.int .i64 x.x, .int .i64 x.y, .int .i64 x.wd, .int .i64 x.blk] : Array Value)[n]? = some (.int .i64 z) := by
                      have : n = 0 ∨ n = 1 ∨ n = 2 ∨ n = 3 := by omega
                      rcases this with rfl | rfl | rfl | rfl
                      · exact ⟨x.x, rfl, x1, x2, rfl⟩
                      · exact ⟨x.y, rfl, y1, y2, rfl⟩
                      · exact ⟨x.wd, rfl, v1, v2, rfl⟩
                      · exact ⟨x.blk, rfl, t1, by omega, rfl⟩
                    have hni : (n : Int) < 4 := by omega
                    have cz := HRN.out.cell n hzc
                    have HTN := hid (flat_snoc numL (numsL x) n z hz)
                    have hpn := flat_le numL (numsL x) (n + 1)
                    rw [HTN.out, List.length_append] at hpn
                    have HIT := hid (itoa_b z wr (HE _ HB.out).out (by omega) (by omega))
                    have hisz := ito_size (n := z) (by omega) (by omega)
                    have hnd := congrArg List.length (num_data z)
                    rw [data_size] at hnd
                    clear hzc hz
                    go_wp2_with fail
                    refine HIT.out.mono ?_
                    rintro e w7 ⟨rfl, hB7⟩
                    have HWS := hid (wstr_any bb _ (⟨#[32]⟩ ++ itoaB z) w7 (HBU.out.below hB7) (by simp only [List.length_append]; rw [hnd]; omega))
                    rw [num_data] at HWS
                    clear cz HIT
                    go_wp2_with fail
                    refine HWS.out.mono ?_
                    rintro e w8 ⟨rfl, hbu8, hk8⟩
                    have HB8 := hid ((below_tr HB.out hB7).trans (hk8.1.mono hbb))
                    have HRN8 := hid ((HRN.out.below hB7).kpt hk8 (by omega) (by decide))
                    have HRX8 := hid ((HRX.out.below hB7).kpt hk8 (by omega) (by decide))
                    have HBU8 : Hid (Bu w8 bb ((((printL (l.take k) ++ headL p.num) ++ bxsL (p.bx.take j)) ++ (kwB (kn : Int)).data.toList) ++ ((numsL x).take (n + 1)).flatMap numL)) := by
                      unfold Hid; rw [HTN.out, ← List.append_assoc]; exact hbu8
                    clear HWS hB7 hbu8 hk8 HBU HRN HRX HB HTN
                    go_wp2_with fail
                    go_roundw
                    case rel => exact ⟨n + 1, by omega, by go_num, HBU8.out, HRN8.out, HRX8.out, HB8.out⟩
                    case measure => simp [intOf]; omega
                  · have hni : ¬ (n : Int) < 4 := by omega
                    obtain rfl : n = 4 := by omega
                    have c5 := HRX.out.cell 5 rfl
                    have hnl : ((numsL x).take 4) = numsL x := rfl
                    rw [hnl] at HBU
                    have HWS := hid (wstr_any bb _ ((⟨#[124]⟩ ++ x.text) ++ ⟨#[10]⟩) wr HBU.out (by rw [← data_size, text_data]; simp only [List.length_append, List.length_cons, List.length_nil, data_size]; omega))
                    rw [text_data] at HWS
                    clear HRX HRN
                    go_wp2_with fail
                    refine HWS.out.mono ?_
                    rintro e w8 ⟨rfl, hbu8, hk8⟩
                    have HB8 := hid (HB.out.trans (hk8.1.mono hbb))
                    have HBU8 : Hid (Bu w8 bb ((printL (l.take k) ++ headL p.num) ++ bxsL (p.bx.take (j + 1)))) := by
                      unfold Hid bxsL; rw [HTB.out, HBP.out, hkn]
                      have e : ((printL (l.take k) ++ headL p.num) ++ ((p.bx.take j).flatMap boxL ++ (((kwB (kn : Int)).data.toList ++ (numsL x).flatMap numL) ++ 124 :: (x.text.data.toList ++ [10])))) = ((((printL (l.take k) ++ headL p.num) ++ bxsL (p.bx.take j)) ++ (kwB (kn : Int)).data.toList) ++ (numsL x).flatMap numL) ++ (124 :: (x.text.data.toList ++ [10])) := by unfold bxsL; simp
                      rw [e]; exact hbu8
                    have hl8 : ((printL (l.take k) ++ headL p.num) ++ bxsL (p.bx.take (j + 1))).length ≤ 1000000 := by
                      unfold bxsL; rw [HTB.out]; simp only [List.length_append]
                      have h2 : ((p.bx.take j).flatMap boxL).length = (bxsL (p.bx.take j)).length := rfl
                      omega
                    have HLN := hid (blen_any bb _ w8 HBU8.out)
                    have hl8i : ¬ (1048576 : Int) < (((printL (l.take k) ++ headL p.num) ++ bxsL (p.bx.take (j + 1))).length : Int) := by omega
                    generalize ((printL (l.take k) ++ headL p.num) ++ bxsL (p.bx.take (j + 1))).length = ln at *
                    clear HWS hbu8 hk8 HBU HB
                    go_wp2_with fail
                    refine HLN.out.mono ?_
                    rintro e w9 ⟨rfl, rfl⟩
                    clear HLN
                    go_wp2_with fail
                    go_roundw
                    case rel => exact ⟨j + 1, by omega, by go_num, HBU8.out, HB8.out⟩
                    case measure => simp [intOf]; omega
            · have hji : ¬ (j : Int) < (p.bx.length : Int) := by omega
              have HBU2 : Hid (Bu wr bb (printL (l.take (k + 1)))) := by
                have h := HBU.out
                rw [show p.bx.take j = p.bx from List.take_of_length_le (by omega)] at h
                have e : printL (l.take (k + 1)) = (printL (l.take k) ++ headL p.num) ++ bxsL p.bx := by
                  rw [List.append_assoc]; exact HTP.out
                unfold Hid; rw [e]; exact h
              clear HBU
              go_wp2_with fail
              go_roundw
              case rel => exact ⟨k + 1, by omega, by go_num, HBU2.out, HB.out⟩
              case measure => simp [intOf]; omega
        · have hki : ¬ (k : Int) < (l.length : Int) := by omega
          have hbu := HBU.out
          rw [List.take_of_length_le (by omega)] at hbu
          have HLN := hid (blen_any bb _ wr hbu)
          have HST := hid (bstr_any bb _ wr hbu)
          have hl8i : ¬ (1048576 : Int) < ((printL l).length : Int) := by omega
          clear HBU hbu
          go_wp2_with fail
          refine HLN.out.mono ?_
          rintro e w9 ⟨rfl, rfl⟩
          go_wp2_with fail
          refine HST.out.mono ?_
          rintro e w9 ⟨rfl, hB9⟩
          go_wp2
          go_ret2
          exact ⟨by rw [HD.out, HV2.out, if_pos rfl]; rfl, HB.out.trans (hB9.mono hbb)⟩
end Go.Proofs.YtkjapeafhcdnkaaDoor
