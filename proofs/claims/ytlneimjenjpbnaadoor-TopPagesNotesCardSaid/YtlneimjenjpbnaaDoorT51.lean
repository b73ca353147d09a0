/-
  P51 (TopPagesNotes): the notes of a line are on its page.
-/
import Derived.Test.YtlneimjenjpbnaaDoorTpb
import Derived.Test.YtlneimjenjpbnaaDoorJ03
import Derived.Sort.CutIn
import Derived.Test.YtlneimjenjpbnaaDoorQtl
namespace Go.Proofs.YtlneimjenjpbnaaDoor
open Go.RowKit

abbrev RdU8 (W : World) (v : Value) (l : List Int) : Prop := Rd (Value.int .u8) W v l
theorem rd_ends {W : World} {base g cap k : Nat} {Lo : List Nat} (h : W.ownsRow base 3 1 (.slice (some ⟨g, 0, none⟩) (Lo.length + 1) cap) (Lo.length + 1) ((Lo.map fun x => Value.int .i64 ((x : Nat) : Int)) ++ [Value.int .i64 (k : Int)])) : RdI W (.slice (some ⟨g, 0, none⟩) (Lo.length + 1) cap) ((Lo ++ [k]).map Int.ofNat) := by
  have e : ((Lo ++ [k]).map Int.ofNat).length = Lo.length + 1 := by simp
  have h2 : W.ownsRow base 3 1 (.slice (some ⟨g, 0, none⟩) (Lo.length + 1) cap) ((Lo ++ [k]).map Int.ofNat).length (((Lo ++ [k]).map Int.ofNat).map (Value.int .i64)) := by
    rw [e, List.map_map, List.map_append]
    exact h
  have h3 := Rd.of_own (enc := Value.int .i64) h2
  exact h3
theorem Rd.open51 {α : Type} {enc : α → Value} {W : World} {a : Option Addr} {c n : Nat} {l : List α} (h : Rd enc W (.slice a n c) l) {i : Nat} (hi : i < l.length) : ∃ x b off, l[i]? = some x ∧ a = some ⟨b, off, none⟩ ∧ W.cell? ⟨b, off + i, none⟩ = some (enc x) := by
  obtain ⟨a', c', e1, _, _, e4⟩ := h
  cases e1
  obtain ⟨b, off, e, hc⟩ := e4 i _ (List.getElem?_eq_getElem hi)
  exact ⟨_, b, off, List.getElem?_eq_getElem hi, e, hc⟩
def r3 (st : St) (f t : Nat) (ys : List Nt) : Array Value := #[.bool (decide (0 < hIn st f t 0 ys)), .bool (decide (0 < hIn st f t 1 ys)), .bool (decide (0 < hIn st f t 2 ys))]
theorem r3_get (st : St) (f t : Nat) (ys : List Nt) {b : Nat} (hb : b < 3) : (r3 st f t ys)[b]? = some (.bool (decide (0 < hIn st f t b ys))) := by
  rcases (show b = 0 ∨ b = 1 ∨ b = 2 by omega) with rfl | rfl | rfl <;> rfl
theorem hAll_out {st : St} {f t i : Nat} {xs : List Nt} {x : Nt} (h : xs[i]? = some x) (hn : ¬ ((f : Int) ≤ x.at' ∧ x.at' < (t : Int))) : hAll st f t (xs.take i) = hAll st f t (xs.take (i + 1)) := by
  rw [hAll_next h, if_neg hn]; omega
theorem r3_out {st : St} {f t i : Nat} {xs : List Nt} {x : Nt} (h : xs[i]? = some x) (hn : ¬ ((f : Int) ≤ x.at' ∧ x.at' < (t : Int))) : r3 st f t (xs.take i) = r3 st f t (xs.take (i + 1)) := by
  have e : ∀ b : Nat, hIn st f t b (xs.take (i + 1)) = hIn st f t b (xs.take i) := fun b => by rw [hIn_next h, if_neg (fun k => hn k.2)]; omega
  unfold r3
  rw [e, e, e]
theorem hAll_in {st : St} {f t i : Nat} {xs : List Nt} {x : Nt} (h : xs[i]? = some x) (hn : (f : Int) ≤ x.at' ∧ x.at' < (t : Int)) : hAll st f t (xs.take i) + heightN st x.txt = hAll st f t (xs.take (i + 1)) := by
  rw [hAll_next h, if_pos hn]
theorem r3_put {st : St} {f t i b : Nat} {xs : List Nt} {x : Nt} {v : Bool} (h : xs[i]? = some x) (hb : x.lay = (b : Int)) (hb3 : b < 3) (hin : (f : Int) ≤ x.at' ∧ x.at' < (t : Int)) (hnn : ∀ y ∈ xs, heightI st y.txt = 0) (hv : v = (decide (0 < hIn st f t b (xs.take i)) || decide (0 < heightN st x.txt))) :
    (r3 st f t (xs.take i)).setIfInBounds b (.bool v) = r3 st f t (xs.take (i + 1)) := by
  have hn : ∀ b, 0 ≤ hIn st f t b (xs.take i) := fun b => hIn_nn fun y hy => hnn y (List.mem_of_mem_take hy)
  have h0 : 0 ≤ heightN st x.txt := (heightN_bd (hnn x (List.mem_of_getElem? h))).1
  have e : ∀ c : Nat, c ≠ b → hIn st f t c (xs.take (i + 1)) = hIn st f t c (xs.take i) := fun c hc => by rw [hIn_next h, if_neg (fun k => hc (by have := k.1; omega))]; omega
  have e2 : hIn st f t b (xs.take (i + 1)) = hIn st f t b (xs.take i) + heightN st x.txt := by rw [hIn_next h, if_pos ⟨hb, hin⟩]
  rw [some_next (hn b) h0, ← e2] at hv
  subst hv
  unfold r3
  rcases (show b = 0 ∨ b = 1 ∨ b = 2 by omega) with rfl | rfl | rfl
  · rw [e 1 (by decide), e 2 (by decide)]; rfl
  · rw [e 0 (by decide), e 2 (by decide)]; rfl
  · rw [e 0 (by decide), e 1 (by decide)]; rfl
def gB (c : Bool) (g : Int) : Int := if c = true then g else 0
theorem gB_bd {c : Bool} {g : Int} (h : 0 ≤ g) : 0 ≤ gB c g ∧ gB c g ≤ g := by unfold gB; split <;> omega
theorem gapI_eq (g o : Int) : gapI g o = gB (decide (0 < o)) g := by
  unfold gapI gB
  by_cases h : 0 < o
  · rw [if_pos h, if_pos (decide_eq_true h)]
  · rw [if_neg h, if_neg (by rw [decide_eq_false h]; exact Bool.false_ne_true)]
theorem idx3b_0 (c0 c1 c2 : Bool) (w : World) : (Instr.index 48 (.agg #[.bool c0, .bool c1, .bool c2]) (.int .i64 0)).run Tryd.prog w = .ok (.bool c0) w := by kernel_rfl
theorem idx3b_1 (c0 c1 c2 : Bool) (w : World) : (Instr.index 48 (.agg #[.bool c0, .bool c1, .bool c2]) (.int .i64 1)).run Tryd.prog w = .ok (.bool c1) w := by kernel_rfl
theorem idx3b_2 (c0 c1 c2 : Bool) (w : World) : (Instr.index 48 (.agg #[.bool c0, .bool c1, .bool c2]) (.int .i64 2)).run Tryd.prog w = .ok (.bool c2) w := by kernel_rfl
theorem height_set {st : St} {s : ByteArray} (h : heightI st s = 0) : setI st s = 0 ∧ heightN st s = ((setR st s).length : Int) * st.nh := by
  refine ⟨?_, by unfold heightN; rw [if_pos h]⟩
  unfold heightI at h
  split at h
  · assumption
  · exact h
set_option maxRecDepth 100000 in
set_option maxHeartbeats 8000000 in
theorem tpn_any (st : St) (cnt : Nat) (va vy vl : Value) (at' ly : List Int) (l : List ByteArray) (bits : Nat) (m : Int) (w : World) (ha : RdU8 w va at') (hy : RdU8 w vy ly) (hl : RdS w vl l) (hz : Szs l) (hc : cnt ≤ 255) (_hb : bits ≤ 65535) (hau : ∀ x ∈ at', 0 ≤ x ∧ x ≤ 255) (hyu : ∀ x ∈ ly, 0 ≤ x ∧ x ≤ 255)
    (hm : w.cell? ⟨0, 0, none⟩ = some (.int .i64 m)) :
    Calls Tryd.prog 3 #[.agg st.cells, .int .u8 cnt, va, vy, vl, .int .u16 bits] w fun e w' => e = .returned (.bool true) ∧ Below w.heap.size w w' := by
  have HAW := hid awake51_any
  have HB0 := hid (below_al w (.cells #[.int .i64 st.width, .int .i64 st.lh, .int .i64 st.nh, .int .i64 st.ph, .int .i64 st.gap, .int .i64 st.sp, .int .i64 st.stretch, .int .i64 st.shrink, .int .i64 st.letter, .int .i64 st.hyphen, .int .i64 st.every, .slice st.pos.1 st.pos.2.1 st.pos.2.2, .slice st.lay.1 st.lay.2.1 st.lay.2.2] 25))
  have HR0 := hid (row_nw w #[.int .i64 st.width, .int .i64 st.lh, .int .i64 st.nh, .int .i64 st.ph, .int .i64 st.gap, .int .i64 st.sp, .int .i64 st.stretch, .int .i64 st.shrink, .int .i64 st.letter, .int .i64 st.hyphen, .int .i64 st.every, .slice st.pos.1 st.pos.2.1 st.pos.2.2, .slice st.lay.1 st.lay.2.1 st.lay.2.2] 25 rfl)
  have HM0 := hid (Below.keeps HB0.out _ _ hm)
  have HL0 := hid (hl.below HB0.out)
  have HA0 := hid (ha.below HB0.out)
  have HY0 := hid (hy.below HB0.out)
  have HG := hid (fun w' h => great50_any vl l w' h hz)
  have HCF := hid (fun w' h => containsFuncS_any 5 (fun _ _ => rfl) (fun x => decide (80 < x.size)) vl l w' h (fun x W' hx => tpn1_any x W' (hz x hx)))
  obtain ⟨a4, c4, e4, _, hm4, _⟩ := hl.open
  obtain ⟨a2, c2, e2, _, hm2, _⟩ := ha.open
  obtain ⟨a3, c3, e3, _, hm3, _⟩ := hy.open
  subst e4 e2 e3
  have HAU := hid hau
  have HYU := hid hyu
  clear hm hl ha hy hz hau hyu
  generalize great50 l = gr at *
  generalize l.any (fun x => decide (80 < x.size)) = an at *
  unfold St.cells
  go_enter Tryd.func3, Tryd.ntmps3
  go_upto_region 1 with fail
  generalize w.alloc (.cells #[.int .i64 st.width, .int .i64 st.lh, .int .i64 st.nh, .int .i64 st.ph, .int .i64 st.gap, .int .i64 st.sp, .int .i64 st.stretch, .int .i64 st.shrink, .int .i64 st.letter, .int .i64 st.hyphen, .int .i64 st.every, .slice st.pos.1 st.pos.2.1 st.pos.2.2, .slice st.lay.1 st.lay.2.1 st.lay.2.2] 25) = W0 at *
  obtain ⟨Bs, hBs⟩ : ∃ Bs, Bs = w.heap.size := ⟨_, rfl⟩
  rw [← hBs] at HR0 ⊢
  have HBS := hid hBs
  clear hBs
  go_cut [62] from 42 to 63 (fun v wx => ∃ g : Bool, v = .bool g ∧ Hid (g = false → l.length ≤ 6) ∧ wx = W0)
  case first =>
    --RG<
    by_cases k1 : 6 < l.length
    · have t1 : (6 : Int) < (l.length : Int) := by omega
      go_wp2_with fail
      go_meet
      exact ⟨true, rfl, hid (fun h => by cases h), rfl⟩
    have HK1 : Hid (l.length ≤ 6) := by show _ ≤ _; omega
    have t1 : ¬ (6 : Int) < (l.length : Int) := by omega
    clear k1
    by_cases k2 : 20 < at'.length
    · have t2 : (20 : Int) < (at'.length : Int) := by omega
      go_wp2_with fail
      go_meet
      exact ⟨true, rfl, hid (fun h => by cases h), rfl⟩
    have t2 : ¬ (20 : Int) < (at'.length : Int) := by omega
    clear k2
    by_cases k3 : 20 < ly.length
    · have t3 : (20 : Int) < (ly.length : Int) := by omega
      go_wp2_with fail
      go_meet
      exact ⟨true, rfl, hid (fun h => by cases h), rfl⟩
    have t3 : ¬ (20 : Int) < (ly.length : Int) := by omega
    clear k3
    go_wp2_with fail
    (with_reducible refine (HCF.out _ HL0.out).mono ?_)
    rintro e w2 ⟨rfl, rfl⟩
    cases an with
    | true =>
      go_wp2_with fail
      go_meet
      exact ⟨true, rfl, hid (fun h => by cases h), rfl⟩
    | false =>
      go_wp2_with fail
      (with_reducible refine (HG.out _ HL0.out).mono ?_)
      rintro e w3 ⟨rfl, rfl⟩
      go_wp2_with fail
      go_meet
      exact ⟨gr, rfl, hid (fun _ => HK1.out), rfl⟩
    --RG>
  case rest =>
    obtain ⟨g, rfl, HL6, rfl⟩ := hcut
    clear HG HCF
    cases g with
    | true =>
      go_wp2_with fail
      (with_reducible refine (HAW.out m _ HM0.out).mono ?_)
      rintro e w3 ⟨rfl, hb3⟩
      have HB3 := hid (below_tr HB0.out hb3)
      clear hb3
      go_wp2_with fail
      go_ret
      exact ⟨rfl, HB3.out⟩
    | false =>
      have hl6 : l.length ≤ 6 := HL6.out rfl
      clear HL6
      obtain ⟨W0, rfl⟩ : ∃ W0 : World, W0 = wc := ⟨_, rfl⟩
      go_upto_region 4 with fail
      have hn : (1 + (cnt : Int) % 8) = ((1 + cnt % 8 : Nat) : Int) := by omega
      rw [hn]
      have hn1 : 1 ≤ 1 + cnt % 8 := by omega
      have hn8 : 1 + cnt % 8 ≤ 8 := by omega
      clear hn
      generalize 1 + cnt % 8 = n at *
      go_wp2_with fail
      go_loopw [14, 15, 70] (fun v u i wr => ∃ (k : Nat) (LL BB : List Int), k ≤ l.length ∧ i = .int .i64 k ∧ LL.length = k ∧ BB.length = k ∧ Hid (TwI wr W0.heap.size v u LL BB) ∧ Hid (Below W0.heap.size W0 wr)) (fun _ _ i _ => l.length - (intOf i).toNat)
      case atStart => exact ⟨0, [], [], Nat.zero_le _, rfl, rfl, rfl, TwI.nil _ _, Below.refl _ _⟩
      case round =>
        obtain ⟨k, LL, BB, hk, rfl, hL1, hL2, HT, HB⟩ := hrel
        by_cases hlt : k < l.length
        case pos =>
          --R1<
          have hti : (k : Int) < (l.length : Int) := by omega
          have nn : (0 : Int) < (n : Int) := by omega
          go_upto_if 76 with fail
          go_cut [17] from 73 to 84 (fun v wx => ∃ z : Int, v = .int .i64 z ∧ wx = wr)
          case first =>
            by_cases j1 : k < at'.length
            · have j2 : (k : Int) < (at'.length : Int) := by omega
              obtain ⟨x, b, off, hx, rfl, hcx⟩ := HA0.out.open51 j1
              have hcx' := Below.keeps HB.out _ _ hcx
              obtain ⟨b0, b1⟩ := HAU.out x (List.mem_of_getElem? hx)
              have q1 : (0 : Int) ≤ (k : Int) := by omega
              clear hx hcx
              go_wp2_with fail
              go_meet
              exact ⟨_, rfl, rfl⟩
            · have j2 : ¬ (k : Int) < (at'.length : Int) := by omega
              go_wp2_with fail
              go_meet
              exact ⟨_, rfl, rfl⟩
          case rest =>
            obtain ⟨z1, rfl, rfl⟩ := hcut
            go_upto_if 87 with fail
            go_cut [18] from 84 to 94 (fun v wx => ∃ z : Int, v = .int .i64 z ∧ wx = wc)
            case first =>
              by_cases j1 : k < ly.length
              · have j2 : (k : Int) < (ly.length : Int) := by omega
                obtain ⟨x, b, off, hx, rfl, hcx⟩ := HY0.out.open51 j1
                have hcx' := Below.keeps HB.out _ _ hcx
                obtain ⟨b0, b1⟩ := HYU.out x (List.mem_of_getElem? hx)
                have q1 : (0 : Int) ≤ (k : Int) := by omega
                clear hx hcx
                go_wp2_with fail
                go_meet
                exact ⟨_, rfl, rfl⟩
              · have j2 : ¬ (k : Int) < (ly.length : Int) := by omega
                go_wp2_with fail
                go_meet
                exact ⟨_, rfl, rfl⟩
            case rest =>
              obtain ⟨z2, rfl, rfl⟩ := hcut
              have o1 := HT.out.o1
              have hsz := HB.out.size
              go_wp2_with (at_builtin; first
                | (refine wpList_ap2 rfl (.tmp 94) _ 32 rfl W0.heap.size 3 Tryd.underlying32 infoIntP rfl (by decide) (by decide) _ _ _ rfl o1 [.int .i64 z1] rfl (by simp [Value.oneCell']) rfl (by simp) (by omega) hsz ?_; intro g1 cap1 w8 hown' hb8 hgr hat _; have T1 := hid (HT.out.push1 z1 hown' hgr hat); have o2 := T1.out.o2; have hs8 : W0.heap.size ≤ w8.heap.size := Nat.le_trans hsz hb8.size; clear hown' hgr hat)
                | (refine wpList_ap2 rfl (.tmp 98) _ 32 rfl W0.heap.size 3 Tryd.underlying32 infoIntP rfl (by decide) (by decide) _ _ _ rfl o2 [.int .i64 z2] rfl (by simp [Value.oneCell']) rfl (by simp) (by omega) hs8 ?_; intro g2 cap2 w9 hown' hb9 hgr hat _; have T2 := hid (T1.out.push2 z2 hown' hgr hat); clear hown' hgr hat))
              go_roundw
              case rel => exact ⟨k + 1, LL ++ [z1], BB ++ [z2], by omega, by go_num, by simp; omega, by simp; omega, hid (by have h := T2.out; rw [hL1, hL2] at h; exact h), hid ((HB.out.trans hb8).trans hb9)⟩
              case measure => simp [intOf]; omega
          --R1>
        case neg =>
          obtain rfl : k = l.length := by omega
          have hti : ¬ (l.length : Int) < (l.length : Int) := by omega
          --RN<
          have HS1 := hid (HR0.out.below HB.out)
          have HB1 := hid (below_tr HB0.out HB.out)
          have HL1 := hid (HL0.out.below HB.out)
          have HM1 := hid (Below.keeps HB.out _ _ HM0.out)
          have HN := hid (nblocks_any st (n : Int) 3 _ _ _ LL BB l m _ HT.out.rd1 HT.out.rd2 HL1.out (by omega) HM1.out)
          unfold St.cells at HN
          have HLB : Hid (LL.length = l.length ∧ BB.length = l.length) := ⟨hL1, hL2⟩
          clear HL0 HR0 HA0 HY0 HAU HYU HB0 HM0 hL1 hL2 hk
          go_wp2_with (first | (refine wpList_load_row rfl 25 _ rfl Bs rfl 25 _ (0, 0) _ HS1.out Tryd.underlying25 rfl (by kernel_rfl) ?_) | fail)
          refine HN.out.mono ?_
          rintro e w2 ⟨vh, rfl, hvh, hb2⟩
          have HB2 := hid (below_tr HB1.out hb2)
          have HS2 := hid (HS1.out.below hb2)
          have HT2 := hid (HT.out.below hb2)
          have HL2 := hid (HL1.out.below hb2)
          have HM2 := hid (Below.keeps hb2 _ _ HM1.out)
          clear HN HT HB HS1 HB1 HL1 HM1 hb2
          by_cases he : blocksI st (n : Int) 3 LL BB l = 0
          case neg =>
            have i1 : (blocksI st (n : Int) 3 LL BB l != 0) = true := bne_iff_ne.2 he
            clear he hvh
            generalize blocksI st (n : Int) 3 LL BB l = E at *
            go_wp2_with fail
            (with_reducible refine (HAW.out m _ HM2.out).mono ?_)
            rintro e w3 ⟨rfl, hb3⟩
            have HB3 := hid (below_tr HB2.out hb3)
            clear hb3
            go_wp2_with fail
            go_ret
            exact ⟨rfl, HB3.out⟩
          case pos =>
            have HE := hid he
            have HVH : Hid (RdM w2 vh (blocksM st (n : Int) 3 LL BB l)) := hvh
            obtain ⟨ah, ch, hvv, _⟩ := hvh.open
            subst hvv
            rw [HE.out]
            clear he hvh
            have s3 := HS2.out.cell 3 (x := .int .i64 st.ph) rfl
            have s4 := HS2.out.cell 4 (x := .int .i64 st.gap) rfl
            --SA<
            have HLN : Hid (LnI w2 w2.heap.size (.slice ah (blocksM st (n : Int) 3 LL BB l).length ch) (.slice none 0 0) (.int .i64 st.ph) (.int .i64 st.gap) 0 st.lh (.slice none 0 0) (w2.alloc (.cells #[.slice none 0 0, .slice ah (blocksM st (n : Int) 3 LL BB l).length ch, .slice none 0 0, .int .i64 st.ph, .int .i64 st.gap] 38))) :=
              ⟨row_nw w2 _ _ rfl, World.ownsRow_nil _ _ _ _, below_al _ _, Nat.le_refl _⟩
            go_wp2_with fail
            generalize w2.alloc (.cells #[.slice none 0 0, .slice ah (blocksM st (n : Int) 3 LL BB l).length ch, .slice none 0 0, .int .i64 st.ph, .int .i64 st.gap] 38) = W3 at *
            obtain ⟨Bp, hBp⟩ : ∃ Bp, Bp = w2.heap.size := ⟨_, rfl⟩
            rw [← hBp] at HLN ⊢
            have HBP := hid hBp
            clear hBp s3 s4
            go_loopw [122] (fun i wr => ∃ (k : Nat) (v : Value), k ≤ n ∧ i = .int .i64 k ∧ Hid (LnI w2 Bp (.slice ah (blocksM st (n : Int) 3 LL BB l).length ch) (.slice none 0 0) (.int .i64 st.ph) (.int .i64 st.gap) k st.lh v wr)) (fun i _ => n - (intOf i).toNat)
            case atStart => exact ⟨0, _, Nat.zero_le _, rfl, HLN.out⟩
            case round =>
              clear HLN
              obtain ⟨k, v, hk, rfl, HI⟩ := hrel
              by_cases hlt : k < n
              case pos =>
                --R2<
                have hti : (k : Int) < (n : Int) := by omega
                have b0 := HI.out.row.cell 0 (x := v) rfl
                have s1 := (HS2.out.below HI.out.bel).cell 1 (x := .int .i64 st.lh) rfl
                have hown := HI.out.own
                have hsz := HI.out.bel.size
                go_wp2_with (at_builtin; refine wpList_ap2 rfl _ _ 32 rfl w2.heap.size 3 Tryd.underlying32 infoIntP rfl (by decide) (by decide) _ _ _ rfl hown [.int .i64 st.lh] rfl (by simp [Value.oneCell']) rfl (by simp) (by omega) hsz ?_; intro g1 cap1 w8 hown' hb8 hgr hat _; have HP := hid (HI.out.push hown' hb8 hgr); have c8 := HP.out.2.1; have f8 := HP.out.2.2; clear hown' hb8 hgr hat)
                go_roundw
                case rel => exact ⟨k + 1, _, by omega, by go_num, HP.out.1⟩
                case measure => simp [intOf]; omega
                --R2>
              case neg =>
                obtain rfl : k = n := by omega
                have hti : ¬ (k : Int) < (k : Int) := by omega
                have HPE := hid (fun w' => pens_any k hn1 hn8 w')
                go_wp2_with fail
                refine (HPE.out _).mono ?_
                rintro e w4 ⟨G, Lp, rfl, hG, hv3, hl3, hb4⟩
                obtain ⟨hfr, hfp, hfb, c2', f2'⟩ := HI.out.fin HVH.out hb4 hG hv3
                obtain ⟨av, cv, hvv, _⟩ := hfp.l.open
                simp only [List.length_replicate] at hvv
                subst hvv
                obtain ⟨p, hp⟩ : ∃ p : PP, p = ⟨List.replicate k st.lh, blocksM st (k : Int) 3 LL BB l, Lp, st.ph, st.gap⟩ := ⟨_, rfl⟩
                rw [← hp] at hfp
                have HPX : Hid (p.h = st.ph ∧ p.gap = st.gap ∧ p.lines = List.replicate k st.lh ∧ p.notes = blocksM st (k : Int) 3 LL BB l) := by rw [hp]; exact ⟨rfl, rfl, rfl, rfl⟩
                have HPN : Hid (p.n = k) := by rw [hp]; show (List.replicate k st.lh).length = k; simp
                have hPC : ppC p (.slice av k cv) (.slice ah (blocksM st (k : Int) 3 LL BB l).length ch) (.slice (some ⟨G, 0, none⟩) k k) = #[.slice av k cv, .slice ah (blocksM st (k : Int) 3 LL BB l).length ch, .slice (some ⟨G, 0, none⟩) k k, .int .i64 st.ph, .int .i64 st.gap] := by rw [hp]; rfl
                have HC := hid (fun w' h => ppchk_any p (.slice av k cv) (.slice ah (blocksM st (k : Int) 3 LL BB l).length ch) (.slice (some ⟨G, 0, none⟩) k k) w' h)
                have HBK := hid (fun w' h hz h0 => pbk_any p (.slice av k cv) (.slice ah (blocksM st (k : Int) 3 LL BB l).length ch) (.slice (some ⟨G, 0, none⟩) k k) w' h hz h0)
                have HBN := hid (fun w' h hz h0 => pbk_no p (.slice av k cv) (.slice ah (blocksM st (k : Int) 3 LL BB l).length ch) (.slice (some ⟨G, 0, none⟩) k k) w' h hz h0)
                have HPT := hid (fun w' h hz => ppt_any p (.slice av k cv) (.slice ah (blocksM st (k : Int) 3 LL BB l).length ch) (.slice (some ⟨G, 0, none⟩) k k) w' h hz)
                have HCO := hid (fun ve L w' h hz he hc => pbc_any p (.slice av k cv) (.slice ah (blocksM st (k : Int) 3 LL BB l).length ch) (.slice (some ⟨G, 0, none⟩) k k) ve L w' h hz he hc)
                have HVF := hid (fun ve vt w' h hz h0 he ht => pvf_any p (.slice av k cv) (.slice ah (blocksM st (k : Int) 3 LL BB l).length ch) (.slice (some ⟨G, 0, none⟩) k k) ve vt w' h hz h0 he ht)
                simp only [hPC] at HC HBK HBN HPT HCO HVF
                have HFR := hid hfr
                have HFP := hid hfp
                have HFB := hid hfb
                have HGO := hid HE.out
                clear hfr hfp hfb hG hv3 hl3 hb4 hPC hp HI HPE HVH HE hk hti
                go_upto_region 24 with fail
                generalize w4.setCell ⟨Bp, 2, none⟩ (.slice (some ⟨G, 0, none⟩) k k) = W5 at *
                clear c2' f2'
                have HM5 := hid (Below.keeps HFB.out _ _ HM2.out)
                have HS5 := hid (HS2.out.below HFB.out)
                have HT5 := hid (HT2.out.below HFB.out)
                have HL5 := hid (HL2.out.below HFB.out)
                have HB5 := hid (below_tr HB2.out HFB.out)
                clear HM2 HS2 HT2 HL2 HB2 HFB HBP
                generalize hnb : (blocksM st (k : Int) 3 LL BB l).length = nb at *
                have HNB := hid hnb
                clear hnb
                have x0 := HFR.out.cell 0 (x := .slice av k cv) rfl
                have x1 := HFR.out.cell 1 (x := .slice ah nb ch) rfl
                have x2 := HFR.out.cell 2 (x := .slice (some ⟨G, 0, none⟩) k k) rfl
                have x3 := HFR.out.cell 3 (x := .int .i64 st.ph) rfl
                have x4 := HFR.out.cell 4 (x := .int .i64 st.gap) rfl
                go_wp2_with fail
                (with_reducible refine (HC.out _ HFP.out).mono ?_)
                rintro e w6 ⟨rfl, hb6⟩
                have HFR6 := hid (HFR.out.below hb6)
                have HFP6 := hid (HFP.out.below hb6)
                have HM6 := hid (Below.keeps hb6 _ _ HM5.out)
                have HS6 := hid (HS5.out.below hb6)
                have HT6 := hid (HT5.out.below hb6)
                have HL6 := hid (HL5.out.below hb6)
                have HB6 := hid (below_tr HB5.out hb6)
                clear HFR HFP HM5 HS5 HT5 HL5 HB5 hb6 HC x0 x1 x2 x3 x4
                by_cases hz : ppI p = 0
                case neg =>
                  have i1 : (ppI p != 0) = true := bne_iff_ne.2 hz
                  clear hz HBK HBN HPT HCO HVF
                  generalize ppI p = E at *
                  go_wp2_with fail
                  (with_reducible refine (HAW.out m _ HM6.out).mono ?_)
                  rintro e w7 ⟨rfl, hb7⟩
                  have HB7 := hid (below_tr HB6.out hb7)
                  clear hb7
                  go_wp2_with fail
                  go_ret
                  exact ⟨rfl, HB7.out⟩
                case pos =>
                  have HZ := hid hz
                  rw [HZ.out]
                  clear hz
                  have x0 := HFR6.out.cell 0 (x := .slice av k cv) rfl
                  have x1 := HFR6.out.cell 1 (x := .slice ah nb ch) rfl
                  have x2 := HFR6.out.cell 2 (x := .slice (some ⟨G, 0, none⟩) k k) rfl
                  have x3 := HFR6.out.cell 3 (x := .int .i64 st.ph) rfl
                  have x4 := HFR6.out.cell 4 (x := .int .i64 st.gap) rfl
                  go_upto_region 26 with fail
                  go_cut [22, 23, 24] from 146 to 152 (fun v c f wx => Hid ((0 ≤ pot p 0 ∧ c = .int .i64 (pot p 0) ∧ f = .int .i64 0 ∧ RdI wx v ((brk p).map Int.ofNat)) ∨ (pot p 0 < 0 ∧ v = .slice none 0 0 ∧ c = .int .i64 0 ∧ f = .int .i64 23)) ∧ Hid (Below w6.heap.size w6 wx))
                  case first =>
                    --RB<
                    by_cases h0 : 0 ≤ pot p 0
                    · have H0 := hid h0
                      have HX := hid (HBK.out _ HFP6.out HZ.out h0)
                      clear h0
                      go_wp2_with fail
                      (with_reducible refine HX.out.mono ?_)
                      rintro e w7 ⟨v, rfl, hv, hb7⟩
                      have HV := hid hv
                      have HB7 := hid hb7
                      clear hv hb7
                      go_wp2_with fail
                      go_meet
                      exact ⟨hid (.inl ⟨H0.out, rfl, rfl, HV.out⟩), HB7⟩
                    · have H0 : Hid (pot p 0 < 0) := by show _ < _; omega
                      have HX := hid (HBN.out _ HFP6.out HZ.out H0.out)
                      clear h0
                      go_wp2_with fail
                      (with_reducible refine HX.out.mono ?_)
                      rintro e w7 ⟨rfl, hb7⟩
                      have HB7 := hid hb7
                      clear hb7
                      go_wp2_with fail
                      go_meet
                      exact ⟨hid (.inr ⟨H0.out, rfl, rfl, rfl⟩), HB7⟩
                    --RB>
                  case rest =>
                    obtain ⟨HDJ, HB7⟩ := hcut
                    obtain ⟨W7, rfl⟩ : ∃ W7 : World, W7 = wc := ⟨_, rfl⟩
                    clear HBK HBN x0 x1 x2 x3 x4
                    have HFR7 := hid (HFR6.out.below HB7.out)
                    have HFP7 := hid (HFP6.out.below HB7.out)
                    have x0 := HFR7.out.cell 0 (x := .slice av k cv) rfl
                    have x1 := HFR7.out.cell 1 (x := .slice ah nb ch) rfl
                    have x2 := HFR7.out.cell 2 (x := .slice (some ⟨G, 0, none⟩) k k) rfl
                    have x3 := HFR7.out.cell 3 (x := .int .i64 st.ph) rfl
                    have x4 := HFR7.out.cell 4 (x := .int .i64 st.gap) rfl
                    go_wp2_with fail
                    (with_reducible refine (HPT.out _ HFP7.out HZ.out).mono ?_)
                    rintro e W8 ⟨vt, rfl, hvt, hb8⟩
                    have hb68 := below_tr HB7.out hb8
                    have HDJ8 : Hid ((0 ≤ pot p 0 ∧ u23 = .int .i64 (pot p 0) ∧ u24 = .int .i64 0 ∧ RdI W8 u22 ((brk p).map Int.ofNat)) ∨ (pot p 0 < 0 ∧ u22 = .slice none 0 0 ∧ u23 = .int .i64 0 ∧ u24 = .int .i64 23)) := by
                      rcases HDJ.out with ⟨h1, h2, h3, h4⟩ | h
                      · exact .inl ⟨h1, h2, h3, h4.below hb8⟩
                      · exact .inr h
                    have HVT := hid hvt
                    have HFR8 := hid (HFR6.out.below hb68)
                    have HFP8 := hid (HFP6.out.below hb68)
                    have HM8 := hid (Below.keeps hb68 _ _ HM6.out)
                    have HS8 := hid (HS6.out.below hb68)
                    have HT8 := hid (HT6.out.below hb68)
                    have HL8 := hid (HL6.out.below hb68)
                    have HB8 := hid (below_tr HB6.out hb68)
                    clear HDJ HB7 HFR7 HFP7 HFR6 HFP6 HM6 HS6 HT6 HL6 HB6 hvt hb8 hb68 HPT x0 x1 x2 x3 x4
                    have HOW : Hid ((W8.alloc (.cells #[] 3)).ownsRow W8.heap.size 3 1 (.slice (some ⟨W8.heap.size, 0, none⟩) 0 0) 0 []) := ⟨rfl, .inr ⟨W8.heap.size, 0, #[], rfl, Nat.le_refl _, heap_alloc_new W8 _, Nat.le_refl _, by unfold maxLen; omega, rfl, rfl⟩⟩
                    have HBW := hid (below_al W8 (.cells #[] 3))
                    go_wp2_with fail
                    generalize W8.alloc (.cells #[] 3) = W9 at *
                    go_loopw [27, 28] (fun v i wr => ∃ (j : Nat) (Lo : List Nat), 1 ≤ j ∧ j ≤ k ∧ i = .int .i64 j ∧ Hid (Up 0 Lo j) ∧ Lo.length < j ∧ Hid (wr.ownsRow W8.heap.size 3 1 v Lo.length (Lo.map fun x => Value.int .i64 ((x : Nat) : Int))) ∧ Hid (Below W8.heap.size W8 wr)) (fun _ i _ => k - (intOf i).toNat)
                    case atStart => exact ⟨1, [], Nat.le_refl _, hn1, rfl, Nat.lt_succ_self 0, Nat.lt_succ_self 0, HOW.out, HBW.out⟩
                    case round =>
                      clear HOW HBW
                      obtain ⟨j, Lo, hj1, hjk, rfl, HUP, hLo, HO, HB⟩ := hrel
                      by_cases hlt : j < k
                      case pos =>
                        --R3<
                        have hti : (j : Int) < (k : Int) := by omega
                        have hj0 : (0 : Int) ≤ (j : Int) := by omega
                        have hown := HO.out
                        have hsz := HB.out.size
                        go_wp2_with (at_builtin; refine wpList_ap2 rfl _ _ 32 rfl W8.heap.size 3 Tryd.underlying32 infoIntP rfl (by decide) (by decide) _ _ _ rfl hown [.int .i64 (j : Int)] rfl (by simp [Value.oneCell']) rfl (by simp) (by omega) hsz ?_; intro g1 cap1 w9 hown' hb9 hgr hat _; have HO9 := hid hown'; have HB9 := hid (HB.out.trans hb9); clear hown' hb9 hgr hat)
                        all_goals go_roundw
                        all_goals (first
                          | exact ⟨j + 1, Lo ++ [j], by omega, by omega, by go_num, HUP.out.snoc, by simp; omega, by have h := HO9.out; rw [List.length_append, List.map_append]; exact h, HB9.out⟩
                          | exact ⟨j + 1, Lo, by omega, by omega, by go_num, HUP.out.weak (by omega), by omega, HO.out, HB.out⟩
                          | (simp [intOf]; omega))
                        --R3>
                      case neg =>
                        obtain rfl : j = k := by omega
                        have hti : ¬ (j : Int) < (j : Int) := by omega
                        have hown := HO.out
                        have hsz := HB.out.size
                        have HCH : Hid (Chn p 0 (Lo ++ [j])) := by
                          have h := HUP.out
                          rw [← HPN.out] at h
                          have h2 := Up.chn (p := p) h
                          rw [HPN.out] at h2
                          exact h2
                        --RT<
                        go_wp2_with (at_builtin; refine wpList_ap2 rfl _ _ 32 rfl W8.heap.size 3 Tryd.underlying32 infoIntP rfl (by decide) (by decide) _ _ _ rfl hown [.int .i64 (j : Int)] rfl (by simp [Value.oneCell']) rfl (by simp) (by omega) hsz ?_; intro g1 cap1 w9 hown' hb9 hgr hat _; have HRO : Hid (RdI w9 (.slice (some ⟨g1, 0, none⟩) (Lo.length + 1) cap1) ((Lo ++ [j]).map Int.ofNat)) := rd_ends hown'; have hb89 := HB.out.trans hb9; have HFR9 := hid (HFR8.out.below hb89); have x0 := HFR9.out.cell 0 (x := .slice av j cv) rfl; have x1 := HFR9.out.cell 1 (x := .slice ah nb ch) rfl; have x2 := HFR9.out.cell 2 (x := .slice (some ⟨G, 0, none⟩) j j) rfl; have x3 := HFR9.out.cell 3 (x := .int .i64 st.ph) rfl; have x4 := HFR9.out.cell 4 (x := .int .i64 st.gap) rfl; clear hown' hgr hat)
                        (with_reducible refine (HCO.out _ _ _ (HFP8.out.below hb89) HZ.out HRO.out HCH.out).mono ?_)
                        rintro e w10 ⟨rfl, hb10⟩
                        have hbX := below_tr hb89 hb10
                        have HMN := hid (fun h => pot_min (pp_ok HZ.out) (Lo ++ [j]) 0 HCH.out h)
                        have HFRX := hid (HFR8.out.below hbX)
                        have HFPX := hid (HFP8.out.below hbX)
                        have HMX := hid (Below.keeps hbX _ _ HM8.out)
                        have HSX := hid (HS8.out.below hbX)
                        have HTX := hid (HT8.out.below hbX)
                        have HLX := hid (HL8.out.below hbX)
                        have HBX := hid (below_tr HB8.out hbX)
                        have HVX := hid (HVT.out.below hbX)
                        have HDX : Hid ((0 ≤ pot p 0 ∧ u23 = .int .i64 (pot p 0) ∧ u24 = .int .i64 0 ∧ RdI w10 u22 ((brk p).map Int.ofNat)) ∨ (pot p 0 < 0 ∧ u22 = .slice none 0 0 ∧ u23 = .int .i64 0 ∧ u24 = .int .i64 23)) := by
                          rcases HDJ8.out with ⟨h1, h2, h3, h4⟩ | h
                          · exact .inl ⟨h1, h2, h3, h4.below hbX⟩
                          · exact .inr h
                        clear hbX hb10 HFR8 HFP8 HM8 HS8 HT8 HL8 HB8 HVT HDJ8 HO HB hown hsz HCH HUP HRO HCO x0 x1 x2 x3 x4
                        generalize (costF p 0 (Lo ++ [j])).1 = mc at *
                        generalize (costF p 0 (Lo ++ [j])).2 = hc at *
                        have HDX2 := HDX.out
                        rcases HDX2 with ⟨h0, rfl, rfl, hve⟩ | ⟨h0, rfl, rfl, rfl⟩
                        case inr =>
                          --RN2<
                          have hcn : (hc != 0) = true := bne_iff_ne.2 fun e => by have := (HMN.out e).1; omega
                          clear h0 HDX
                          go_wp2_with fail
                          (with_reducible refine (HAW.out m _ HMX.out).mono ?_)
                          rintro e w11 ⟨rfl, hb11⟩
                          have HB11 := hid (below_tr HBX.out hb11)
                          clear hb11
                          go_wp2_with fail
                          go_ret
                          exact ⟨rfl, HB11.out⟩
                          --RN2>
                        case inl =>
                          have H0 := hid h0
                          have HVE := hid hve
                          have HNL : Hid (hc = 0 → pot p 0 ≤ mc) := fun e => (HMN.out e).2
                          obtain ⟨aE, cE, hvE, hlE, hmE, _⟩ := hve.open
                          simp only [List.length_map] at hvE hlE
                          subst hvE
                          clear h0 hve HDX HMN
                          generalize hpz : pot p 0 = pz at *
                          go_upto_region 40 with fail
                          go_cut [208] from 195 to 209 (fun v wx => v = .bool false ∧ Hid (Below w10.heap.size w10 wx))
                          case first =>
                            --RV<
                            have HX := hid (HVF.out _ _ _ HFPX.out HZ.out H0.out HVE.out HVX.out)
                            have x0 := HFRX.out.cell 0 (x := .slice av j cv) rfl
                            have x1 := HFRX.out.cell 1 (x := .slice ah nb ch) rfl
                            have x2 := HFRX.out.cell 2 (x := .slice (some ⟨G, 0, none⟩) j j) rfl
                            have x3 := HFRX.out.cell 3 (x := .int .i64 st.ph) rfl
                            have x4 := HFRX.out.cell 4 (x := .int .i64 st.gap) rfl
                            by_cases e0 : hc = 0
                            · have i1 : (hc == 0) = true := by rw [e0]; rfl
                              have i2 : decide (mc < pz) = false := decide_eq_false (by have := HNL.out e0; omega)
                              have i3 : ¬ mc < pz := by have := HNL.out e0; omega
                              clear e0
                              go_wp2_with fail
                              (with_reducible refine HX.out.mono ?_)
                              rintro e w11 ⟨rfl, hb11⟩
                              go_wp2_with fail
                              go_meet
                              exact ⟨rfl, hid hb11⟩
                            · have i1 : (hc == 0) = false := beq_eq_false_iff_ne.2 e0
                              clear e0
                              go_wp2_with fail
                              (with_reducible refine HX.out.mono ?_)
                              rintro e w11 ⟨rfl, hb11⟩
                              go_wp2_with fail
                              go_meet
                              exact ⟨rfl, hid hb11⟩
                            --RV>
                          case rest =>
                            obtain ⟨rfl, HBC⟩ := hcut
                            have HFRY := hid (HFRX.out.below HBC.out)
                            have HMY := hid (Below.keeps HBC.out _ _ HMX.out)
                            have HSY := hid (HSX.out.below HBC.out)
                            have HTY := hid (HTX.out.below HBC.out)
                            have HLY := hid (HLX.out.below HBC.out)
                            have HBY := hid (below_tr HBX.out HBC.out)
                            have HVEY := hid (HVE.out.below HBC.out)
                            have hok := pp_ok HZ.out
                            have HOK := hid hok
                            obtain ⟨hch, hco⟩ := brkF_ok hok p.n 0 (Nat.zero_le _) (by omega) (by rw [hpz]; exact H0.out)
                            have HC0 : Hid (Chn p 0 ((brk p).drop 0) ∧ (costF p 0 ((brk p).drop 0)).2 = 0) := ⟨hch, by rw [List.drop_zero]; show (costF p 0 (brkF p p.n 0)).2 = 0; rw [hco]⟩
                            have HLH : Hid (0 ≤ st.lh ∧ st.lh ≤ 1073741824) := hok.ls st.lh (by rw [HPX.out.2.2.1]; exact List.mem_replicate.2 ⟨by omega, rfl⟩)
                            have HGG := hid (blocks_good HGO.out)
                            obtain ⟨aV, cV, eV, _⟩ := HTY.out.rd1.open
                            obtain ⟨aW, cW, eW, _⟩ := HTY.out.rd2.open
                            subst eV eW
                            clear HFRX HFPX HMX HSX HTX HLX HBX HVE HBC hok hch hco HVF HVX HNL
                            generalize hE : brk p = E at *
                            go_wp2_with fail
                            obtain ⟨W11, rfl⟩ : ∃ W11 : World, W11 = wc := ⟨_, rfl⟩
                            go_loopw [31, 211] (fun fr i wr => ∃ (q f : Nat), q ≤ E.length ∧ i = .int .i64 q ∧ fr = .int .i64 f ∧ Hid (Chn p f (E.drop q)) ∧ Hid ((costF p f (E.drop q)).2 = 0) ∧ Hid (Below W11.heap.size W11 wr)) (fun _ i _ => E.length - (intOf i).toNat)
                            case atStart => exact ⟨0, 0, Nat.zero_le _, rfl, rfl, HC0.out.1, HC0.out.2, Below.refl _ _⟩
                            case round =>
                              clear HC0
                              obtain ⟨q, f, hq, rfl, rfl, HCH, HCF, HB⟩ := hrel
                              by_cases hlt : q < E.length
                              case pos =>
                                --R4<
                                have hti : (q : Int) < (E.length : Int) := by omega
                                obtain ⟨t, ht, hdr⟩ : ∃ t, E[q]? = some t ∧ E.drop q = t :: E.drop (q + 1) := ⟨E[q], List.getElem?_eq_getElem hlt, List.drop_eq_getElem_cons hlt⟩
                                have hch := HCH.out
                                have hcf := HCF.out
                                rw [hdr] at hch hcf
                                obtain ⟨hft, htn, hch2⟩ := hch
                                rw [HPN.out] at htn
                                obtain ⟨hpg, hcf2⟩ := cost_step hcf
                                have HCH2 := hid hch2
                                have HCF2 := hid hcf2
                                have HFIT : Hid (needI st st.lh st.gap f t (nts LL BB l) ≤ st.ph) := by
                                  have h1 := page_fits hpg
                                  have h2 := need_hgt (st := st) (p := p) (lh := st.lh) (n := j) (f := f) (t := t) (xs := nts LL BB l) HPX.out.2.2.1 (by rw [HPX.out.2.2.2]; exact HGG.out) (by omega) (by omega) htn
                                  rw [← h2, HPX.out.2.1, HPX.out.1] at h1
                                  exact h1
                                obtain ⟨xe, be, oe, hxe, rfl, hce⟩ := HVEY.out.open51 (i := q) (by rw [List.length_map]; exact hlt)
                                rw [List.getElem?_map, ht] at hxe
                                obtain rfl : (t : Int) = xe := by simpa using hxe
                                have hce' := Below.keeps HB.out _ _ hce
                                have hq0 : (0 : Int) ≤ (q : Int) := by omega
                                have hlh := HLH.out
                                have m0 : 0 ≤ ((t : Int) - (f : Int)) * st.lh := Int.mul_nonneg (by omega) hlh.1
                                have m1 : ((t : Int) - (f : Int)) * st.lh ≤ 8 * 1073741824 := Int.mul_le_mul (by omega) hlh.2 hlh.1 (by omega)
                                have w1 : IntKind.i64.wrap ((t : Int) - (f : Int)) = (t : Int) - (f : Int) := IntWalk.i64_in _ (by omega)
                                have w2 : IntKind.i64.wrap (((t : Int) - (f : Int)) * st.lh) = ((t : Int) - (f : Int)) * st.lh := IntWalk.i64_in _ (by omega)
                                have s1 := (HSY.out.below HB.out).cell 1 (x := .int .i64 st.lh) rfl
                                clear hce hxe hch2 hcf2 hpg hcf hdr hlh
                                go_upto_region 48 with fail
                                have HRA := hid (row_nw wr #[.bool false, .bool false, .bool false] 48 rfl)
                                have HBA := hid (below_tr HB.out (below_al wr (.cells #[.bool false, .bool false, .bool false] 48)))
                                have HWA : Hid (W11.heap.size ≤ wr.heap.size) := HB.out.size
                                clear hce' s1 w1 w2
                                generalize wr.alloc (.cells #[.bool false, .bool false, .bool false] 48) = W12 at *
                                generalize wr.heap.size = Ba at *
                                obtain ⟨xs, hxs⟩ : ∃ xs, xs = nts LL BB l := ⟨_, rfl⟩
                                have HXS := hid hxs
                                rw [← hxs] at HFIT HGG
                                clear hxs
                                go_wp2_with fail
                                go_loopw [34, 223] (fun nd i wr => ∃ (z : Nat), z ≤ l.length ∧ i = .int .i64 z ∧ nd = .int .i64 (((t : Int) - (f : Int)) * st.lh + hAll st f t (xs.take z)) ∧ Hid (Row wr Ba (r3 st f t (xs.take z)) 48) ∧ Hid (Below W11.heap.size W11 wr)) (fun _ i _ => l.length - (intOf i).toNat)
                                case atStart => exact ⟨0, Nat.zero_le _, rfl, by simp [hAll], by have h : r3 st f t (xs.take 0) = #[.bool false, .bool false, .bool false] := rfl; rw [h]; exact HRA.out, HBA.out⟩
                                case round =>
                                  clear HRA HBA
                                  obtain ⟨z, hzl, rfl, rfl, HR, HBz⟩ := hrel
                                  by_cases hzt : z < l.length
                                  case pos =>
                                    --R6<
                                    have hti : (z : Int) < (l.length : Int) := by omega
                                    have hz0 : (0 : Int) ≤ (z : Int) := by omega
                                    have hzL : z < LL.length := by rw [HLB.out.1]; exact hzt
                                    have hzB : z < BB.length := by rw [HLB.out.2]; exact hzt
                                    have hzLi : (z : Int) < (LL.length : Int) := by omega
                                    have hzBi : (z : Int) < (BB.length : Int) := by omega
                                    obtain ⟨s, bl, ol, hs, rfl, hcl⟩ := HLY.out.open51 hzt
                                    obtain ⟨a, bA, oA, ha, rfl, hca⟩ := HTY.out.rd1.open51 hzL
                                    obtain ⟨b', bB, oB, hb', rfl, hcb⟩ := HTY.out.rd2.open51 hzB
                                    have hx : xs[z]? = some ⟨a, b', s⟩ := by rw [HXS.out]; exact nts_get ha hb' hs
                                    obtain ⟨hbad, hhi⟩ := goB_all xs _ _ HGG.out _ (List.mem_of_getElem? hx)
                                    have hbd := badN_no hbad
                                    obtain ⟨b, rfl, hb3⟩ : ∃ b : Nat, b' = (b : Int) ∧ b < 3 := ⟨b'.toNat, by have := hbd.2.2.1; simp only at this; omega, by have := hbd.2.2; simp only at this; omega⟩
                                    have HX := hid hx
                                    have HHI : Hid (heightI st s = 0) := hhi
                                    have kl := Below.keeps HBz.out _ _ hcl
                                    have ka := Below.keeps HBz.out _ _ hca
                                    have kb := Below.keeps HBz.out _ _ hcb
                                    clear hcl hca hcb hs ha hb' hbad hhi hbd hx
                                    by_cases c0 : (f : Int) ≤ a ∧ a < (t : Int)
                                    case neg =>
                                      have HO1 := hid (hAll_out (st := st) HX.out c0)
                                      have HO2 := hid (r3_out (st := st) HX.out c0)
                                      --R62<
                                      by_cases c1 : a < (f : Int)
                                      · clear c0
                                        go_wp2_with fail
                                        go_roundw
                                        case rel => exact ⟨z + 1, by omega, by go_num, by rw [HO1.out], by rw [← HO2.out]; exact HR, HBz⟩
                                        case measure => simp [intOf]; omega
                                      · have c2 : (t : Int) ≤ a := by omega
                                        clear c0
                                        go_wp2_with fail
                                        go_roundw
                                        case rel => exact ⟨z + 1, by omega, by go_num, by rw [HO1.out], by rw [← HO2.out]; exact HR, HBz⟩
                                        case measure => simp [intOf]; omega
                                      --R62>
                                    case pos =>
                                      have c1 : ¬ a < (f : Int) := by omega
                                      have c2 : ¬ (t : Int) ≤ a := by omega
                                      have HC0 := hid c0
                                      have HSz := hid (HSY.out.below HBz.out)
                                      have HMz := hid (Below.keeps HBz.out _ _ HMY.out)
                                      obtain ⟨hsi, hhn⟩ := height_set HHI.out
                                      have hHb := heightN_bd HHI.out
                                      rw [hhn] at hHb
                                      have hall := fun y hy => (goB_all xs _ _ HGG.out y hy).2
                                      have hAb := hAll_bd (st := st) (f := f) (t := t) (xs := xs.take z) (fun y hy => hall y (List.mem_of_mem_take hy))
                                      have htl : (xs.take z).length ≤ 6 := by rw [List.length_take]; omega
                                      have HALL := hid hall
                                      have HSI := hid hsi
                                      have HHN := hid hhn
                                      have HN := hid (nSet_any st s m wr HMz.out)
                                      unfold St.cells at HN
                                      have w1 : IntKind.i64.wrap (((setR st s).length : Int) * st.nh) = ((setR st s).length : Int) * st.nh := IntWalk.i64_in _ (by omega)
                                      have w2 : IntKind.i64.wrap (((t : Int) - (f : Int)) * st.lh + hAll st f t (xs.take z) + ((setR st s).length : Int) * st.nh) = ((t : Int) - (f : Int)) * st.lh + hAll st f t (xs.take z) + ((setR st s).length : Int) * st.nh := IntWalk.i64_in _ (by omega)
                                      clear hall hsi hhn hAb htl c0
                                      go_wp2_with (first | (refine wpList_load_row rfl 25 _ rfl Bs rfl 25 _ (0, 0) _ HSz.out Tryd.underlying25 rfl (by kernel_rfl) ?_) | fail)
                                      refine HN.out.mono ?_
                                      rintro e w12 ⟨vs, rfl, hvs, hb12⟩
                                      obtain ⟨aS, cS, eS, _⟩ := hvs.open
                                      subst eS
                                      rw [HSI.out]
                                      have s2 := (HSz.out.below hb12).cell 2 (x := .int .i64 st.nh) rfl
                                      have kb2 := Below.keeps hb12 _ _ kb
                                      have HR12 := hid (HR.out.below hb12)
                                      have HB12 := hid (below_tr HBz.out hb12)
                                      clear HN HSz HMz hvs hb12 kl ka kb HR HBz c1 c2
                                      go_upto_region 56 with fail
                                      clear w1 w2
                                      have y2 : w12.cell? ⟨Ba, b, none⟩ = some (.bool (decide (0 < hIn st f t b (xs.take z)))) := HR12.out.cell b (r3_get st f t _ hb3)
                                      have HRd := hid (HR12.out.below (Below.refl w12.heap.size w12).drew)
                                      have HBd := hid (HB12.out.drew)
                                      have z0 : (0 : Int) ≤ (b : Int) := by omega
                                      have z3 : (b : Int) < 3 := by omega
                                      have yf := HRd.out.frozen b
                                      have yc := HRd.out.cell b (r3_get st f t (xs.take z) hb3)
                                      have w1 : IntKind.i64.wrap (((setR st s).length : Int) * st.nh) = ((setR st s).length : Int) * st.nh := IntWalk.i64_in _ (by omega)
                                      have HV : Hid (∀ v : Bool, v = (decide (0 < hIn st f t b (xs.take z)) || decide (0 < ((setR st s).length : Int) * st.nh)) → Row (w12.drew.setCell ⟨Ba, b, none⟩ (.bool v)) Ba (r3 st f t (xs.take (z + 1))) 48) := fun v hv => by
                                        have h := HRd.out.set b (.bool v)
                                        rw [r3_put HX.out rfl hb3 HC0.out HALL.out (by rw [hv]; simp only [HHN.out])] at h
                                        exact h
                                      have HBs : Hid (∀ v : Bool, Below W11.heap.size W11 (w12.drew.setCell ⟨Ba, b, none⟩ (.bool v))) := fun v => HBd.out.setCell (p := ⟨Ba, b, none⟩) HWA.out (.bool v)
                                      have HAI : Hid (((t : Int) - (f : Int)) * st.lh + hAll st f t (xs.take z) + ((setR st s).length : Int) * st.nh = ((t : Int) - (f : Int)) * st.lh + hAll st f t (xs.take (z + 1))) := by
                                        have h := hAll_in (st := st) HX.out HC0.out
                                        simp only [HHN.out] at h
                                        show _ = _
                                        omega
                                      clear HRd HBd HR12 HB12
                                      generalize decide (0 < hIn st f t b (xs.take z)) = c at *
                                      have kbd : w12.drew.cell? ⟨bB, oB + z, none⟩ = some (.int .i64 (b : Int)) := kb2
                                      have s2d : w12.drew.cell? ⟨Bs, 2, none⟩ = some (.int .i64 st.nh) := s2
                                      --R61<
                                      cases c with
                                      | true =>
                                        refine wp_region_quiet_tail 19 (by kernel_rfl) (by kernel_rfl) ?_
                                        simp only [List.take_succ_cons, List.take_zero, List.drop_succ_cons, List.drop_zero]
                                        repeat (go_big_quiet_step (fail))
                                        refine wpQuiet_nil ?_
                                        change wpList _ _ _ _ _ w12.drew
                                        generalize w12.drew = wd at *
                                        clear y2 kb2 s2 kbd s2d
                                        go_wp2_with fail
                                        go_roundw
                                        case rel => exact ⟨z + 1, by omega, by go_num, by rw [HAI.out], HV.out true rfl, HBs.out true⟩
                                        case measure => simp [intOf]; omega
                                      | false =>
                                        have HVV := hid (HV.out (decide (0 < ((setR st s).length : Int) * st.nh)) rfl)
                                        refine wp_region_quiet_tail 19 (by kernel_rfl) (by kernel_rfl) ?_
                                        simp only [List.take_succ_cons, List.take_zero, List.drop_succ_cons, List.drop_zero]
                                        repeat (go_big_quiet_step (fail))
                                        refine wpQuiet_nil ?_
                                        change wpList _ _ _ _ _ w12.drew
                                        generalize w12.drew = wd at *
                                        clear y2 kb2 s2 kbd s2d
                                        go_wp2_with fail
                                        go_roundw
                                        case rel => exact ⟨z + 1, by omega, by go_num, by rw [HAI.out], HVV.out, HBs.out _⟩
                                        case measure => simp [intOf]; omega
                                      --R61>
                                    --R6>
                                  case neg =>
                                    --R7<
                                    obtain rfl : z = l.length := by omega
                                    have hti : ¬ (l.length : Int) < (l.length : Int) := by omega
                                    have hxl : xs.length = l.length := by rw [HXS.out]; exact (nts_len (by rw [HLB.out.1, HLB.out.2]) HLB.out.1)
                                    have htk : xs.take l.length = xs := List.take_of_length_le (by omega)
                                    rw [htk] at HR ⊢
                                    have hall := fun y hy => (goB_all xs _ _ HGG.out y hy).2
                                    have hAb := hAll_bd (st := st) (f := f) (t := t) (xs := xs) hall
                                    have hfit := HFIT.out
                                    unfold needI at hfit
                                    rw [gapI_eq, gapI_eq, gapI_eq] at hfit
                                    have hr := HR.out
                                    unfold r3 at hr
                                    have hg0 := HOK.out.g0
                                    have hg1 := HOK.out.g1
                                    rw [HPX.out.2.1] at hg0 hg1
                                    have s3 := (HSY.out.below HBz.out).cell 3 (x := .int .i64 st.ph) rfl
                                    have s4 := (HSY.out.below HBz.out).cell 4 (x := .int .i64 st.gap) rfl
                                    generalize decide (0 < hIn st f t 0 xs) = c0 at *
                                    generalize decide (0 < hIn st f t 1 xs) = c1 at *
                                    generalize decide (0 < hIn st f t 2 xs) = c2 at *
                                    have hS0 : 0 ≤ ((t : Int) - (f : Int)) * st.lh + hAll st f t xs := by omega
                                    have hS1 : ((t : Int) - (f : Int)) * st.lh + hAll st f t xs ≤ 1073741824 * 14 := by omega
                                    generalize ((t : Int) - (f : Int)) * st.lh + hAll st f t xs = S at *
                                    have b0 := gB_bd (c := c0) hg0
                                    have b1 := gB_bd (c := c1) hg0
                                    have b2 := gB_bd (c := c2) hg0
                                    have HF : Hid (S + gB c0 st.gap + gB c1 st.gap + gB c2 st.gap ≤ st.ph) := hfit
                                    clear HR hall hAb hfit hxl htk m0 m1
                                    have hx0 := fun w' => idx3b_0 c0 c1 c2 w'
                                    have hx1 := fun w' => idx3b_1 c0 c1 c2 w'
                                    have hx2 := fun w' => idx3b_2 c0 c1 c2 w'
                                    go_wp2_with (first | (refine wpList_load_row rfl 48 _ rfl Ba rfl 48 _ (0, 0) _ hr Tryd.underlying48 rfl (by kernel_rfl) ?_) | fail)
                                    go_loop [34, 278] (fun nd i => (i = .int .i64 0 ∧ ∃ x : Int, nd = .int .i64 x ∧ x = S) ∨ (i = .int .i64 1 ∧ ∃ x : Int, nd = .int .i64 x ∧ x = S + gB c0 st.gap) ∨ (i = .int .i64 2 ∧ ∃ x : Int, nd = .int .i64 x ∧ x = S + gB c0 st.gap + gB c1 st.gap) ∨ (i = .int .i64 3 ∧ ∃ x : Int, nd = .int .i64 x ∧ x = S + gB c0 st.gap + gB c1 st.gap + gB c2 st.gap)) (fun _ i => 3 - (intOf i).toNat)
                                    case atStart => exact .inl ⟨rfl, _, rfl, rfl⟩
                                    case round =>
                                      rcases hrel with ⟨rfl, x, rfl, hx⟩ | ⟨rfl, x, rfl, hx⟩ | ⟨rfl, x, rfl, hx⟩ | ⟨rfl, x, rfl, hx⟩
                                      · have w1 : IntKind.i64.wrap (x + st.gap) = x + st.gap := IntWalk.i64_in _ (by omega)
                                        cases c0 with
                                        | true =>
                                          go_wp2_with fail
                                          go_round
                                          case rel => exact .inr (.inl ⟨by go_num, _, rfl, by first | rfl | (rw [hx]; rfl) | (show _ = _ + (0 : Int); omega)⟩)
                                          case measure => simp [intOf]
                                        | false =>
                                          go_wp2_with fail
                                          go_round
                                          case rel => exact .inr (.inl ⟨by go_num, _, rfl, by first | rfl | (rw [hx]; rfl) | (show _ = _ + (0 : Int); omega)⟩)
                                          case measure => simp [intOf]
                                      · have w1 : IntKind.i64.wrap (x + st.gap) = x + st.gap := IntWalk.i64_in _ (by omega)
                                        cases c1 with
                                        | true =>
                                          go_wp2_with fail
                                          go_round
                                          case rel => exact .inr (.inr (.inl ⟨by go_num, _, rfl, by first | rfl | (rw [hx]; rfl) | (show _ = _ + (0 : Int); omega)⟩))
                                          case measure => simp [intOf]
                                        | false =>
                                          go_wp2_with fail
                                          go_round
                                          case rel => exact .inr (.inr (.inl ⟨by go_num, _, rfl, by first | rfl | (rw [hx]; rfl) | (show _ = _ + (0 : Int); omega)⟩))
                                          case measure => simp [intOf]
                                      · have w1 : IntKind.i64.wrap (x + st.gap) = x + st.gap := IntWalk.i64_in _ (by omega)
                                        cases c2 with
                                        | true =>
                                          go_wp2_with fail
                                          go_round
                                          case rel => exact .inr (.inr (.inr ⟨by go_num, _, rfl, by first | rfl | (rw [hx]; rfl) | (show _ = _ + (0 : Int); omega)⟩))
                                          case measure => simp [intOf]
                                        | false =>
                                          go_wp2_with fail
                                          go_round
                                          case rel => exact .inr (.inr (.inr ⟨by go_num, _, rfl, by first | rfl | (rw [hx]; rfl) | (show _ = _ + (0 : Int); omega)⟩))
                                          case measure => simp [intOf]
                                      · have hnl : ¬ st.ph < x := by have := HF.out; omega
                                        clear hx
                                        go_wp2_with fail
                                        go_roundw
                                        case rel => exact ⟨q + 1, t, by omega, by go_num, rfl, HCH2, HCF2, HBz⟩
                                        case measure => simp [intOf]; omega
                                    --R7>
                                --R4>
                              case neg =>
                                --R5<
                                obtain rfl : q = E.length := by omega
                                have hti : ¬ (E.length : Int) < (E.length : Int) := by omega
                                have hf : f = j := by
                                  have h := HCH.out
                                  rw [List.drop_length] at h
                                  have h2 : f = p.n := h
                                  rw [h2, HPN.out]
                                subst hf
                                have HBZ := hid (below_tr HBY.out HB.out)
                                have HMZ := hid (Below.keeps HB.out _ _ HMY.out)
                                clear HCH HCF HB
                                go_wp2_with fail
                                (with_reducible refine (HAW.out m _ HMZ.out).mono ?_)
                                rintro e w12 ⟨rfl, hb12⟩
                                have HB12 := hid (below_tr HBZ.out hb12)
                                clear hb12
                                go_wp2_with fail
                                go_ret
                                exact ⟨rfl, HB12.out⟩
                                --R5>
            --SA>
          --RN>
end Go.Proofs.YtlneimjenjpbnaaDoor
