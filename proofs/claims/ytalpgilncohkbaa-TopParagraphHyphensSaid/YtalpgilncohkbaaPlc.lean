/-
  hyphenation.places and the function that it hands back.
-/
import Derived.Test.YtalpgilncohkbaaJ01
import Derived.Test.YtalpgilncohkbaaSl
import Derived.Test.YtalpgilncohkbaaHyd
namespace Go.Proofs.Ytalpgilncohkbaa
open Go.RowKit
attribute [local go_sem] Oper.semAt_some

theorem via_X {X G : Prop} (f : X → G) (t : X) : G := f t
def plM (pat l : List ByteArray) (i : Nat) : Bool := decide ((l.drop i).take pat.length = pat)
def plGo (pat l : List ByteArray) : Nat → Nat → List Nat
  | _, 0 => []
  | i, k + 1 => if plM pat l i = true then i :: plGo pat l (i + 1) k else plGo pat l (i + 1) k
/-- Where a pattern occurs. -/
def plcs (pat l : List ByteArray) : List Nat := plGo pat l 0 (l.length + 1 - pat.length)
theorem plGo_mem {pat l : List ByteArray} : ∀ {k i x : Nat}, x ∈ plGo pat l i k → i ≤ x ∧ x < i + k
  | 0, _, _, h => by cases h
  | k + 1, i, x, h => by
    rw [plGo] at h
    split at h
    · rcases List.mem_cons.1 h with rfl | h
      · omega
      · have := plGo_mem h; omega
    · have := plGo_mem h; omega
theorem plcs_mem {pat l : List ByteArray} {x : Nat} (h : x ∈ plcs pat l) : x + pat.length ≤ l.length := by
  have := plGo_mem h; omega
theorem plGo_len {pat l : List ByteArray} : ∀ (k i : Nat), (plGo pat l i k).length ≤ k
  | 0, _ => Nat.le_refl _
  | k + 1, i => by
    rw [plGo]
    have := plGo_len (pat := pat) (l := l) k (i + 1)
    split
    · rw [List.length_cons]; omega
    · omega
theorem rd_sub {α : Type} {enc : α → Value} {W : World} {b off n cap k m : Nat} {l : List α} (h : Rd enc W (.slice (some ⟨b, off, none⟩) n cap) l) (hk : k + m ≤ l.length) : Rd enc W (.slice (some ⟨b, off + k, none⟩) m (cap - k)) ((l.drop k).take m) := by
  obtain ⟨a', cap', h1, h2, h3, h4⟩ := h
  cases h1
  have hl : ((l.drop k).take m).length = m := by rw [List.length_take, List.length_drop]; omega
  refine ⟨_, cap - k, by rw [hl], by rw [hl]; omega, by omega, fun i x hx => ?_⟩
  have hi : i < m := by have := (List.getElem?_eq_some_iff.1 hx).1; omega
  rw [List.getElem?_take, if_pos hi, List.getElem?_drop] at hx
  obtain ⟨b', off', e, hc⟩ := h4 _ x hx
  cases e
  exact ⟨b, off + k, rfl, by rw [show off + k + i = off + (k + i) by omega]; exact hc⟩

set_option maxRecDepth 100000 in
set_option maxHeartbeats 8000000 in
theorem places1_in (n : Nat) (hn : 1 ≤ n) (pat l : List ByteArray) (ap : Option Addr) (cp bl ol cl Bp Bl N : Nat) (hp1 : 1 ≤ pat.length) (hpl : pat.length ≤ 1048576) (hll : l.length ≤ 1048576) (hcl : l.length ≤ cl) (_hcp : pat.length ≤ cp) (hcm : cl ≤ 9223372036854775807) (_hcm2 : cp ≤ 9223372036854775807) (hN : (plcs pat l).length ≤ N)
    (M : World → Prop) (hMP : ∀ A, M A → A.cell? ⟨Bp, 0, none⟩ = some (.slice ap pat.length cp) ∧ A.cell? ⟨Bl, 0, none⟩ = some (.slice (some ⟨bl, ol, none⟩) l.length cl) ∧ RdS A (.slice ap pat.length cp) pat ∧ RdS A (.slice (some ⟨bl, ol, none⟩) l.length cl) l) (hMB : ∀ A C, M A → Below A.heap.size A C → M C)
    (Kp : World → World → Prop) (hK1 : ∀ A C, Kp A C → M A → M C)
    (yl : Nat) (J Jx : List Nat → World → Prop)
    (hY : ∀ pre x W, x ∈ plcs pat l → J pre W → pre.length < N → YieldAt Fence.wide (n - 1) Try.prog yl #[.int .i64 (x : Int)] W fun e W' =>
      (e = .returned (.bool true) ∧ J (pre ++ [x]) W' ∧ Kp W W') ∨ (e = .returned (.bool false) ∧ Jx (pre ++ [x]) W'))
    (W : World) (hJA : AbidesFrom W.heap.size J) (hM : M W) (h0 : J [] W) :
    CallsIn Fence.wide n Try.prog 70 #[.func (.yield yl) #[] #[], .pointer (some ⟨Bp, 0, none⟩), .pointer (some ⟨Bl, 0, none⟩)] W fun e W' => (∃ v, e = .returned v) ∧
      (J (plcs pat l) W' ∨ (∃ pre : List Nat, (∃ r, pre ++ r = plcs pat l) ∧ Jx pre W')) := by
  have HK1 := hid hK1; clear hK1
  have HMP := hid hMP; clear hMP
  have HMB := hid hMB; clear hMB
  have HY := hid hY; clear hY
  have HJB : Hid (∀ pre W1 W2, J pre W1 → Below W1.heap.size W1 W2 → J pre W2) := fun pre W1 W2 hj hb => hJA _ _ _ none hj ⟨hb.os, hb.tape, hb.output, hb.size, fun k hk _ => hb.block k hk⟩ (fun r e => by cases e)
  clear hJA
  have HM0 := hid hM
  have HNL := hid hN
  clear hM hN
  obtain ⟨L, hL⟩ : ∃ L, L = plcs pat l := ⟨_, rfl⟩
  have HP0 : Hid (plGo pat l 0 (l.length + 1 - pat.length) = L) := hL.symm
  rw [← hL] at HNL HY
  rw [← hL]
  have HLL := hid hL
  clear hL
  refine callsIn_of_wp Try.func70 rfl trivial ?_ rfl
  simp only [Try.ntmps70, List.size_toArray, List.length_cons, List.length_nil, Nat.reduceAdd, Nat.reduceSub, Array.replicate_succ, Array.replicate_zero, List.push_toArray, List.append_toArray, List.nil_append, List.cons_append]
  gi_wp2
  gi_loopw [4] (fun i wr => ∃ (at' : Nat) (pre : List Nat), at' ≤ l.length + 1 ∧ i = .int .i64 at' ∧ Hid (pre ++ plGo pat l at' (l.length + 1 - pat.length - at') = L) ∧ J pre wr ∧ Hid (M wr)) (fun i _ => l.length + 1 - (intOf i).toNat)
  case atStart => exact ⟨0, [], by omega, by go_num, by rw [List.nil_append]; exact HP0.out, h0, HM0.out⟩
  case round =>
    rename_i wr
    obtain ⟨at', pre, ht, rfl, HP, hJ, HM⟩ := hrel
    have c1 := (HMP.out _ HM.out).1
    have c2 := (HMP.out _ HM.out).2.1
    have hw1 : IntKind.i64.wrap ((at' : Int) + (pat.length : Int)) = (at' : Int) + (pat.length : Int) := IntWalk.i64_in _ (by omega)
    by_cases hfit : at' + pat.length ≤ l.length
    · have hti : (at' : Int) + (pat.length : Int) ≤ (l.length : Int) := by omega
      obtain ⟨k, hk⟩ : ∃ k, l.length + 1 - pat.length - at' = k + 1 := ⟨l.length - pat.length - at', by omega⟩
      have hk2 : l.length + 1 - pat.length - (at' + 1) = k := by omega
      rw [hk, plGo] at HP
      have s1 : (0 : Int) ≤ (at' : Int) := by omega
      have s2 : (at' : Int) ≤ (at' : Int) + (pat.length : Int) := by omega
      have s3 : (at' : Int) + (pat.length : Int) ≤ (cl : Int) := by omega
      have s4 : ((at' : Int) + (pat.length : Int)).toNat = at' + pat.length := by omega
      have s5 : ¬ cl = at' := by omega
      have s6 : at' + pat.length - at' = pat.length := by omega
      have s7 : (0 : Int) ≤ (at' : Int) + (pat.length : Int) := by omega
      have HK2 := hid hk2
      clear hk hk2
      cases hm : plM pat l at' with
      | true =>
        rw [hm, if_pos rfl] at HP
        have hme : decide ((l.drop at').take pat.length = pat) = true := hm
        have HN2 : Hid ((pre ++ [at']) ++ plGo pat l (at' + 1) (l.length + 1 - pat.length - (at' + 1)) = L) := by show _ = _; rw [HK2.out, ← HP.out]; simp
        have HME : Hid (at' ∈ L) := by show _ ∈ _; rw [← HN2.out]; simp
        have HPL : Hid (pre.length < N) := by
          have h1 := HNL.out
          have h := congrArg List.length HN2.out
          simp only [List.length_append, List.length_singleton] at h
          show _ < _
          omega
        have HEM := hid hme
        clear HP hm hme
        gi_wp2_with fail
        have hJd := HJB.out _ _ _ hJ (Below.refl wr.heap.size wr).drew
        have HMd := hid (HMB.out _ _ HM.out (Below.refl wr.heap.size wr).drew)
        have HVPd : Hid (RdS wr.drew (.slice ap pat.length cp) pat) := (HMP.out _ HMd.out).2.2.1
        have HVLd : Hid (RdS wr.drew (.slice (some ⟨bl, ol + at', none⟩) pat.length (cl - at')) ((l.drop at').take pat.length)) := rd_sub (HMP.out _ HMd.out).2.2.2 hfit
        have d1 : wr.drew.cell? ⟨Bp, 0, none⟩ = some (.slice ap pat.length cp) := c1
        have d2 : wr.drew.cell? ⟨Bl, 0, none⟩ = some (.slice (some ⟨bl, ol, none⟩) l.length cl) := c2
        have HEQd := hid (equalS_any _ _ _ _ _ HVLd.out HVPd.out)
        clear c1 c2 hJ HM
        rw [HEM.out] at HEQd
        refine wpIn_region_any (by kernel_rfl) ?_
        change wpAnyIn _ _ _ _ _ _ _ _ _ (World.drew _)
        generalize wr.drew = wd at *
        refine wpAnyIn_take (i := 1) (v := ?v12) rfl rfl (by kernel_rfl) (by kernel_rfl) (by kernel_rfl) (fun _ _ _ h => h) ⟨Or.inl ⟨by rfl, ?hy12⟩, fun _ => rfl⟩ ?rest12
        case hy12 => (intro w; go_simp; try (with_reducible rfl))
        simp only [Act.put, List.getElem_toArray, List.getElem_cons_succ, List.getElem_cons_zero, List.setIfInBounds_toArray, List.set_cons_zero, List.set_cons_succ]
        refine wpAnyIn_take (i := 2) (v := ?v13) rfl rfl (by kernel_rfl) (by kernel_rfl) (by kernel_rfl) (fun _ _ _ h => h) ⟨Or.inl ⟨by rfl, ?hy13⟩, fun _ => rfl⟩ ?rest13
        case hy13 => (intro w; go_simp; try (with_reducible rfl))
        simp only [Act.put, List.getElem_toArray, List.getElem_cons_succ, List.getElem_cons_zero, List.setIfInBounds_toArray, List.set_cons_zero, List.set_cons_succ]
        apply via_X
        case f =>
          intro hT
          refine wpAnyIn_ready (rs := [0, 3, 7]) (by kernel_rfl) (by simp) (AllReadyIn.cons rfl (fun K hK => ?_) (AllReadyIn.cons rfl (fun K hK => ?_) (AllReadyIn.cons rfl (fun K hK => ?_) AllReadyIn.nil)))
          · go_simp
            refine hK _ _ ?_
            clear hK K
            refine wpAnyIn_ready (rs := [3, 7]) (by kernel_rfl) (by simp) (AllReadyIn.cons rfl (fun K hK => ?_) (AllReadyIn.cons rfl (fun K hK => ?_) AllReadyIn.nil))
            · go_simp
              refine hK _ _ ?_
              clear hK K
              refine wpAnyIn_take (i := 4) (v := ?v14) rfl rfl (by kernel_rfl) (by kernel_rfl) (by kernel_rfl) (fun _ _ _ h => h) ⟨Or.inl ⟨by rfl, ?hy14⟩, fun _ => rfl⟩ ?rest14
              case hy14 => (intro w; go_simp; try (with_reducible rfl))
              simp only [Act.put, List.getElem_toArray, List.getElem_cons_succ, List.getElem_cons_zero, List.setIfInBounds_toArray, List.set_cons_zero, List.set_cons_succ]
              refine wpAnyIn_take (i := 5) (v := ?v15) rfl rfl (by kernel_rfl) (by kernel_rfl) (by kernel_rfl) (fun _ _ _ h => h) ⟨Or.inl ⟨by rfl, ?hy15⟩, fun _ => rfl⟩ ?rest15
              case hy15 => (intro w; go_simp; try (with_reducible rfl))
              simp only [Act.put, List.getElem_toArray, List.getElem_cons_succ, List.getElem_cons_zero, List.setIfInBounds_toArray, List.set_cons_zero, List.set_cons_succ]
              refine wpAnyIn_take (i := 6) (v := ?v16) rfl rfl (by kernel_rfl) (by kernel_rfl) (by kernel_rfl) (fun _ _ _ h => h) ⟨Or.inl ⟨by rfl, ?hy16⟩, fun _ => rfl⟩ ?rest16
              case hy16 => (intro w; go_simp; try (with_reducible rfl))
              simp only [Act.put, List.getElem_toArray, List.getElem_cons_succ, List.getElem_cons_zero, List.setIfInBounds_toArray, List.set_cons_zero, List.set_cons_succ]
              refine wpAnyIn_ready (rs := [7]) (by kernel_rfl) (by simp) (AllReadyIn.cons rfl (fun K hK => ?_) AllReadyIn.nil)
              go_simp
              refine hK _ _ ?_
              clear hK K
              exact hT
            · go_simp
              refine hK _ _ ?_
              clear hK K
              refine wpAnyIn_ready (rs := [3]) (by kernel_rfl) (by simp) (AllReadyIn.cons rfl (fun K hK => ?_) AllReadyIn.nil)
              go_simp
              refine hK _ _ ?_
              clear hK K
              refine wpAnyIn_take (i := 4) (v := ?v17) rfl rfl (by kernel_rfl) (by kernel_rfl) (by kernel_rfl) (fun _ _ _ h => h) ⟨Or.inl ⟨by rfl, ?hy17⟩, fun _ => rfl⟩ ?rest17
              case hy17 => (intro w; go_simp; try (with_reducible rfl))
              simp only [Act.put, List.getElem_toArray, List.getElem_cons_succ, List.getElem_cons_zero, List.setIfInBounds_toArray, List.set_cons_zero, List.set_cons_succ]
              refine wpAnyIn_take (i := 5) (v := ?v18) rfl rfl (by kernel_rfl) (by kernel_rfl) (by kernel_rfl) (fun _ _ _ h => h) ⟨Or.inl ⟨by rfl, ?hy18⟩, fun _ => rfl⟩ ?rest18
              case hy18 => (intro w; go_simp; try (with_reducible rfl))
              simp only [Act.put, List.getElem_toArray, List.getElem_cons_succ, List.getElem_cons_zero, List.setIfInBounds_toArray, List.set_cons_zero, List.set_cons_succ]
              refine wpAnyIn_take (i := 6) (v := ?v19) rfl rfl (by kernel_rfl) (by kernel_rfl) (by kernel_rfl) (fun _ _ _ h => h) ⟨Or.inl ⟨by rfl, ?hy19⟩, fun _ => rfl⟩ ?rest19
              case hy19 => (intro w; go_simp; try (with_reducible rfl))
              simp only [Act.put, List.getElem_toArray, List.getElem_cons_succ, List.getElem_cons_zero, List.setIfInBounds_toArray, List.set_cons_zero, List.set_cons_succ]
              exact hT
          · go_simp
            refine hK _ _ ?_
            clear hK K
            refine wpAnyIn_take (i := 4) (v := ?v20) rfl rfl (by kernel_rfl) (by kernel_rfl) (by kernel_rfl) (fun _ _ _ h => h) ⟨Or.inl ⟨by rfl, ?hy20⟩, fun _ => rfl⟩ ?rest20
            case hy20 => (intro w; go_simp; try (with_reducible rfl))
            simp only [Act.put, List.getElem_toArray, List.getElem_cons_succ, List.getElem_cons_zero, List.setIfInBounds_toArray, List.set_cons_zero, List.set_cons_succ]
            refine wpAnyIn_take (i := 5) (v := ?v21) rfl rfl (by kernel_rfl) (by kernel_rfl) (by kernel_rfl) (fun _ _ _ h => h) ⟨Or.inl ⟨by rfl, ?hy21⟩, fun _ => rfl⟩ ?rest21
            case hy21 => (intro w; go_simp; try (with_reducible rfl))
            simp only [Act.put, List.getElem_toArray, List.getElem_cons_succ, List.getElem_cons_zero, List.setIfInBounds_toArray, List.set_cons_zero, List.set_cons_succ]
            refine wpAnyIn_ready (rs := [0, 7]) (by kernel_rfl) (by simp) (AllReadyIn.cons rfl (fun K hK => ?_) (AllReadyIn.cons rfl (fun K hK => ?_) AllReadyIn.nil))
            · go_simp
              refine hK _ _ ?_
              clear hK K
              refine wpAnyIn_take (i := 6) (v := ?v22) rfl rfl (by kernel_rfl) (by kernel_rfl) (by kernel_rfl) (fun _ _ _ h => h) ⟨Or.inl ⟨by rfl, ?hy22⟩, fun _ => rfl⟩ ?rest22
              case hy22 => (intro w; go_simp; try (with_reducible rfl))
              simp only [Act.put, List.getElem_toArray, List.getElem_cons_succ, List.getElem_cons_zero, List.setIfInBounds_toArray, List.set_cons_zero, List.set_cons_succ]
              refine wpAnyIn_ready (rs := [7]) (by kernel_rfl) (by simp) (AllReadyIn.cons rfl (fun K hK => ?_) AllReadyIn.nil)
              go_simp
              refine hK _ _ ?_
              clear hK K
              exact hT
            · go_simp
              refine hK _ _ ?_
              clear hK K
              refine wpAnyIn_ready (rs := [0]) (by kernel_rfl) (by simp) (AllReadyIn.cons rfl (fun K hK => ?_) AllReadyIn.nil)
              go_simp
              refine hK _ _ ?_
              clear hK K
              refine wpAnyIn_take (i := 6) (v := ?v23) rfl rfl (by kernel_rfl) (by kernel_rfl) (by kernel_rfl) (fun _ _ _ h => h) ⟨Or.inl ⟨by rfl, ?hy23⟩, fun _ => rfl⟩ ?rest23
              case hy23 => (intro w; go_simp; try (with_reducible rfl))
              simp only [Act.put, List.getElem_toArray, List.getElem_cons_succ, List.getElem_cons_zero, List.setIfInBounds_toArray, List.set_cons_zero, List.set_cons_succ]
              exact hT
          · go_simp
            refine hK _ _ ?_
            clear hK K
            refine wpAnyIn_ready (rs := [0, 3]) (by kernel_rfl) (by simp) (AllReadyIn.cons rfl (fun K hK => ?_) (AllReadyIn.cons rfl (fun K hK => ?_) AllReadyIn.nil))
            · go_simp
              refine hK _ _ ?_
              clear hK K
              refine wpAnyIn_ready (rs := [3]) (by kernel_rfl) (by simp) (AllReadyIn.cons rfl (fun K hK => ?_) AllReadyIn.nil)
              go_simp
              refine hK _ _ ?_
              clear hK K
              refine wpAnyIn_take (i := 4) (v := ?v24) rfl rfl (by kernel_rfl) (by kernel_rfl) (by kernel_rfl) (fun _ _ _ h => h) ⟨Or.inl ⟨by rfl, ?hy24⟩, fun _ => rfl⟩ ?rest24
              case hy24 => (intro w; go_simp; try (with_reducible rfl))
              simp only [Act.put, List.getElem_toArray, List.getElem_cons_succ, List.getElem_cons_zero, List.setIfInBounds_toArray, List.set_cons_zero, List.set_cons_succ]
              refine wpAnyIn_take (i := 5) (v := ?v25) rfl rfl (by kernel_rfl) (by kernel_rfl) (by kernel_rfl) (fun _ _ _ h => h) ⟨Or.inl ⟨by rfl, ?hy25⟩, fun _ => rfl⟩ ?rest25
              case hy25 => (intro w; go_simp; try (with_reducible rfl))
              simp only [Act.put, List.getElem_toArray, List.getElem_cons_succ, List.getElem_cons_zero, List.setIfInBounds_toArray, List.set_cons_zero, List.set_cons_succ]
              refine wpAnyIn_take (i := 6) (v := ?v26) rfl rfl (by kernel_rfl) (by kernel_rfl) (by kernel_rfl) (fun _ _ _ h => h) ⟨Or.inl ⟨by rfl, ?hy26⟩, fun _ => rfl⟩ ?rest26
              case hy26 => (intro w; go_simp; try (with_reducible rfl))
              simp only [Act.put, List.getElem_toArray, List.getElem_cons_succ, List.getElem_cons_zero, List.setIfInBounds_toArray, List.set_cons_zero, List.set_cons_succ]
              exact hT
            · go_simp
              refine hK _ _ ?_
              clear hK K
              refine wpAnyIn_take (i := 4) (v := ?v27) rfl rfl (by kernel_rfl) (by kernel_rfl) (by kernel_rfl) (fun _ _ _ h => h) ⟨Or.inl ⟨by rfl, ?hy27⟩, fun _ => rfl⟩ ?rest27
              case hy27 => (intro w; go_simp; try (with_reducible rfl))
              simp only [Act.put, List.getElem_toArray, List.getElem_cons_succ, List.getElem_cons_zero, List.setIfInBounds_toArray, List.set_cons_zero, List.set_cons_succ]
              refine wpAnyIn_take (i := 5) (v := ?v28) rfl rfl (by kernel_rfl) (by kernel_rfl) (by kernel_rfl) (fun _ _ _ h => h) ⟨Or.inl ⟨by rfl, ?hy28⟩, fun _ => rfl⟩ ?rest28
              case hy28 => (intro w; go_simp; try (with_reducible rfl))
              simp only [Act.put, List.getElem_toArray, List.getElem_cons_succ, List.getElem_cons_zero, List.setIfInBounds_toArray, List.set_cons_zero, List.set_cons_succ]
              refine wpAnyIn_ready (rs := [0]) (by kernel_rfl) (by simp) (AllReadyIn.cons rfl (fun K hK => ?_) AllReadyIn.nil)
              go_simp
              refine hK _ _ ?_
              clear hK K
              refine wpAnyIn_take (i := 6) (v := ?v29) rfl rfl (by kernel_rfl) (by kernel_rfl) (by kernel_rfl) (fun _ _ _ h => h) ⟨Or.inl ⟨by rfl, ?hy29⟩, fun _ => rfl⟩ ?rest29
              case hy29 => (intro w; go_simp; try (with_reducible rfl))
              simp only [Act.put, List.getElem_toArray, List.getElem_cons_succ, List.getElem_cons_zero, List.setIfInBounds_toArray, List.set_cons_zero, List.set_cons_succ]
              exact hT
        case t =>
          refine wpAnyIn_ready (rs := [8]) (by kernel_rfl) (by simp) (AllReadyIn.cons rfl (fun K hK => ?_) AllReadyIn.nil)
          go_simp
          first | refine ⟨trivial, ?_⟩ | skip
          refine (callsIn_wide.2 HEQd.out).mono ?_
          rintro e w3 ⟨rfl, hb3⟩
          have hJ3 := HJB.out _ _ _ hJd hb3
          have HM3 := hid (HMB.out _ _ HMd.out hb3)
          refine hK _ _ ?_
          clear hK K
          refine wpAnyIn_take (i := 9) (v := ?v30) rfl rfl (by kernel_rfl) (by kernel_rfl) (by kernel_rfl) (fun _ _ _ h => h) ⟨Or.inl ⟨by rfl, ?hy30⟩, fun _ => rfl⟩ ?rest30
          case hy30 => (intro w; go_simp; try (with_reducible rfl))
          simp only [Act.put, List.getElem_toArray, List.getElem_cons_succ, List.getElem_cons_zero, List.setIfInBounds_toArray, List.set_cons_zero, List.set_cons_succ]
          refine wpAnyIn_take (i := 10) (v := ?v6) rfl rfl (by kernel_rfl) (by kernel_rfl) (by kernel_rfl) (fun _ _ _ h => h) ⟨Or.inl ⟨by rfl, ?hy6⟩, fun _ => rfl⟩ ?rest6
          case hy6 => (intro w; go_simp; try (with_reducible rfl))
          simp only [Act.put, List.getElem_toArray, List.getElem_cons_succ, List.getElem_cons_zero, List.setIfInBounds_toArray, List.set_cons_zero, List.set_cons_succ]
          refine wpAnyIn_take (i := 11) (v := ?v7) rfl rfl (by kernel_rfl) (by kernel_rfl) (by kernel_rfl) (fun _ _ _ h => h) ⟨Or.inl ⟨by rfl, ?hy7⟩, fun _ => rfl⟩ ?rest7
          case hy7 => (intro w; go_simp; try (with_reducible rfl))
          simp only [Act.put, List.getElem_toArray, List.getElem_cons_succ, List.getElem_cons_zero, List.setIfInBounds_toArray, List.set_cons_zero, List.set_cons_succ]
          obtain ⟨fn, tmps, assign, body, hy, hR⟩ := (HY.out pre at' w3 HME.out hJ3 HPL.out)
          try dsimp only at hy
          refine wpAnyIn_ready (rs := [12]) (by kernel_rfl) (by simp) (AllReadyIn.cons rfl (fun K hK => ?_) AllReadyIn.nil)
          go_simp
          refine hR.mono ?_
          rintro e W4 (⟨rfl, hJ4, hk4⟩ | ⟨rfl, hJx4⟩)
          · have HM4 := hid (HK1.out _ _ hk4 HM3.out)
            refine hK _ _ ?_
            clear hK K
            refine wpAnyIn_take (i := 13) (v := ?v8) rfl rfl (by kernel_rfl) (by kernel_rfl) (by kernel_rfl) (fun _ _ _ h => h) ⟨Or.inl ⟨by rfl, ?hy8⟩, fun _ => rfl⟩ ?rest8
            case hy8 => (intro w; go_simp; try (with_reducible rfl))
            simp only [Act.put, List.getElem_toArray, List.getElem_cons_succ, List.getElem_cons_zero, List.setIfInBounds_toArray, List.set_cons_zero, List.set_cons_succ]
            refine wpAnyIn_take (i := 14) (v := ?v9) rfl rfl (by kernel_rfl) (by kernel_rfl) (by kernel_rfl) (fun _ _ _ h => h) ⟨Or.inl ⟨by rfl, ?hy9⟩, fun _ => rfl⟩ ?rest9
            case hy9 => (intro w; go_simp; try (with_reducible rfl))
            simp only [Act.put, List.getElem_toArray, List.getElem_cons_succ, List.getElem_cons_zero, List.setIfInBounds_toArray, List.set_cons_zero, List.set_cons_succ]
            refine wpAnyIn_done (by kernel_rfl) ?_ _
            clear hy hR
            gi_wp2
            go_roundw
            case rel => exact ⟨at' + 1, pre ++ [at'], by omega, by go_num, HN2.out, hJ4, HM4.out⟩
            case measure => simp [intOf]; omega
          · refine hK _ _ ?_
            clear hK K
            refine wpAnyIn_take (i := 13) (v := ?v10) rfl rfl (by kernel_rfl) (by kernel_rfl) (by kernel_rfl) (fun _ _ _ h => h) ⟨Or.inl ⟨by rfl, ?hy10⟩, fun _ => rfl⟩ ?rest10
            case hy10 => (intro w; go_simp; try (with_reducible rfl))
            simp only [Act.put, List.getElem_toArray, List.getElem_cons_succ, List.getElem_cons_zero, List.setIfInBounds_toArray, List.set_cons_zero, List.set_cons_succ]
            refine wpAnyIn_take (i := 14) (v := ?v11) rfl rfl (by kernel_rfl) (by kernel_rfl) (by kernel_rfl) (fun _ _ _ h => h) ⟨Or.inl ⟨by rfl, ?hy11⟩, fun _ => rfl⟩ ?rest11
            case hy11 => (intro w; go_simp; try (with_reducible rfl))
            simp only [Act.put, List.getElem_toArray, List.getElem_cons_succ, List.getElem_cons_zero, List.setIfInBounds_toArray, List.set_cons_zero, List.set_cons_succ]
            refine wpAnyIn_done (by kernel_rfl) ?_ _
            gi_wp2
            refine bodyPost_ret (results_none rfl _ _ _) rfl ?_
            exact ⟨⟨_, rfl⟩, .inr ⟨_, ⟨_, HN2.out⟩, hJx4⟩⟩
      | false =>
        rw [hm, if_neg Bool.false_ne_true] at HP
        have hme : decide ((l.drop at').take pat.length = pat) = false := hm
        have HN2 : Hid (pre ++ plGo pat l (at' + 1) (l.length + 1 - pat.length - (at' + 1)) = L) := by show _ = _; rw [HK2.out, ← HP.out]
        have HEM := hid hme
        clear HP hm hme
        gi_wp2_with fail
        have hJd := HJB.out _ _ _ hJ (Below.refl wr.heap.size wr).drew
        have HMd := hid (HMB.out _ _ HM.out (Below.refl wr.heap.size wr).drew)
        have HVPd : Hid (RdS wr.drew (.slice ap pat.length cp) pat) := (HMP.out _ HMd.out).2.2.1
        have HVLd : Hid (RdS wr.drew (.slice (some ⟨bl, ol + at', none⟩) pat.length (cl - at')) ((l.drop at').take pat.length)) := rd_sub (HMP.out _ HMd.out).2.2.2 hfit
        have d1 : wr.drew.cell? ⟨Bp, 0, none⟩ = some (.slice ap pat.length cp) := c1
        have d2 : wr.drew.cell? ⟨Bl, 0, none⟩ = some (.slice (some ⟨bl, ol, none⟩) l.length cl) := c2
        have HEQd := hid (equalS_any _ _ _ _ _ HVLd.out HVPd.out)
        clear c1 c2 hJ HM
        rw [HEM.out] at HEQd
        refine wpIn_region_any (by kernel_rfl) ?_
        change wpAnyIn _ _ _ _ _ _ _ _ _ (World.drew _)
        generalize wr.drew = wd at *
        refine wpAnyIn_take (i := 1) (v := ?v31) rfl rfl (by kernel_rfl) (by kernel_rfl) (by kernel_rfl) (fun _ _ _ h => h) ⟨Or.inl ⟨by rfl, ?hy31⟩, fun _ => rfl⟩ ?rest31
        case hy31 => (intro w; go_simp; try (with_reducible rfl))
        simp only [Act.put, List.getElem_toArray, List.getElem_cons_succ, List.getElem_cons_zero, List.setIfInBounds_toArray, List.set_cons_zero, List.set_cons_succ]
        refine wpAnyIn_take (i := 2) (v := ?v32) rfl rfl (by kernel_rfl) (by kernel_rfl) (by kernel_rfl) (fun _ _ _ h => h) ⟨Or.inl ⟨by rfl, ?hy32⟩, fun _ => rfl⟩ ?rest32
        case hy32 => (intro w; go_simp; try (with_reducible rfl))
        simp only [Act.put, List.getElem_toArray, List.getElem_cons_succ, List.getElem_cons_zero, List.setIfInBounds_toArray, List.set_cons_zero, List.set_cons_succ]
        apply via_X
        case f =>
          intro hT
          refine wpAnyIn_ready (rs := [0, 3, 7]) (by kernel_rfl) (by simp) (AllReadyIn.cons rfl (fun K hK => ?_) (AllReadyIn.cons rfl (fun K hK => ?_) (AllReadyIn.cons rfl (fun K hK => ?_) AllReadyIn.nil)))
          · go_simp
            refine hK _ _ ?_
            clear hK K
            refine wpAnyIn_ready (rs := [3, 7]) (by kernel_rfl) (by simp) (AllReadyIn.cons rfl (fun K hK => ?_) (AllReadyIn.cons rfl (fun K hK => ?_) AllReadyIn.nil))
            · go_simp
              refine hK _ _ ?_
              clear hK K
              refine wpAnyIn_take (i := 4) (v := ?v33) rfl rfl (by kernel_rfl) (by kernel_rfl) (by kernel_rfl) (fun _ _ _ h => h) ⟨Or.inl ⟨by rfl, ?hy33⟩, fun _ => rfl⟩ ?rest33
              case hy33 => (intro w; go_simp; try (with_reducible rfl))
              simp only [Act.put, List.getElem_toArray, List.getElem_cons_succ, List.getElem_cons_zero, List.setIfInBounds_toArray, List.set_cons_zero, List.set_cons_succ]
              refine wpAnyIn_take (i := 5) (v := ?v34) rfl rfl (by kernel_rfl) (by kernel_rfl) (by kernel_rfl) (fun _ _ _ h => h) ⟨Or.inl ⟨by rfl, ?hy34⟩, fun _ => rfl⟩ ?rest34
              case hy34 => (intro w; go_simp; try (with_reducible rfl))
              simp only [Act.put, List.getElem_toArray, List.getElem_cons_succ, List.getElem_cons_zero, List.setIfInBounds_toArray, List.set_cons_zero, List.set_cons_succ]
              refine wpAnyIn_take (i := 6) (v := ?v35) rfl rfl (by kernel_rfl) (by kernel_rfl) (by kernel_rfl) (fun _ _ _ h => h) ⟨Or.inl ⟨by rfl, ?hy35⟩, fun _ => rfl⟩ ?rest35
              case hy35 => (intro w; go_simp; try (with_reducible rfl))
              simp only [Act.put, List.getElem_toArray, List.getElem_cons_succ, List.getElem_cons_zero, List.setIfInBounds_toArray, List.set_cons_zero, List.set_cons_succ]
              refine wpAnyIn_ready (rs := [7]) (by kernel_rfl) (by simp) (AllReadyIn.cons rfl (fun K hK => ?_) AllReadyIn.nil)
              go_simp
              refine hK _ _ ?_
              clear hK K
              exact hT
            · go_simp
              refine hK _ _ ?_
              clear hK K
              refine wpAnyIn_ready (rs := [3]) (by kernel_rfl) (by simp) (AllReadyIn.cons rfl (fun K hK => ?_) AllReadyIn.nil)
              go_simp
              refine hK _ _ ?_
              clear hK K
              refine wpAnyIn_take (i := 4) (v := ?v36) rfl rfl (by kernel_rfl) (by kernel_rfl) (by kernel_rfl) (fun _ _ _ h => h) ⟨Or.inl ⟨by rfl, ?hy36⟩, fun _ => rfl⟩ ?rest36
              case hy36 => (intro w; go_simp; try (with_reducible rfl))
              simp only [Act.put, List.getElem_toArray, List.getElem_cons_succ, List.getElem_cons_zero, List.setIfInBounds_toArray, List.set_cons_zero, List.set_cons_succ]
              refine wpAnyIn_take (i := 5) (v := ?v37) rfl rfl (by kernel_rfl) (by kernel_rfl) (by kernel_rfl) (fun _ _ _ h => h) ⟨Or.inl ⟨by rfl, ?hy37⟩, fun _ => rfl⟩ ?rest37
              case hy37 => (intro w; go_simp; try (with_reducible rfl))
              simp only [Act.put, List.getElem_toArray, List.getElem_cons_succ, List.getElem_cons_zero, List.setIfInBounds_toArray, List.set_cons_zero, List.set_cons_succ]
              refine wpAnyIn_take (i := 6) (v := ?v38) rfl rfl (by kernel_rfl) (by kernel_rfl) (by kernel_rfl) (fun _ _ _ h => h) ⟨Or.inl ⟨by rfl, ?hy38⟩, fun _ => rfl⟩ ?rest38
              case hy38 => (intro w; go_simp; try (with_reducible rfl))
              simp only [Act.put, List.getElem_toArray, List.getElem_cons_succ, List.getElem_cons_zero, List.setIfInBounds_toArray, List.set_cons_zero, List.set_cons_succ]
              exact hT
          · go_simp
            refine hK _ _ ?_
            clear hK K
            refine wpAnyIn_take (i := 4) (v := ?v39) rfl rfl (by kernel_rfl) (by kernel_rfl) (by kernel_rfl) (fun _ _ _ h => h) ⟨Or.inl ⟨by rfl, ?hy39⟩, fun _ => rfl⟩ ?rest39
            case hy39 => (intro w; go_simp; try (with_reducible rfl))
            simp only [Act.put, List.getElem_toArray, List.getElem_cons_succ, List.getElem_cons_zero, List.setIfInBounds_toArray, List.set_cons_zero, List.set_cons_succ]
            refine wpAnyIn_take (i := 5) (v := ?v40) rfl rfl (by kernel_rfl) (by kernel_rfl) (by kernel_rfl) (fun _ _ _ h => h) ⟨Or.inl ⟨by rfl, ?hy40⟩, fun _ => rfl⟩ ?rest40
            case hy40 => (intro w; go_simp; try (with_reducible rfl))
            simp only [Act.put, List.getElem_toArray, List.getElem_cons_succ, List.getElem_cons_zero, List.setIfInBounds_toArray, List.set_cons_zero, List.set_cons_succ]
            refine wpAnyIn_ready (rs := [0, 7]) (by kernel_rfl) (by simp) (AllReadyIn.cons rfl (fun K hK => ?_) (AllReadyIn.cons rfl (fun K hK => ?_) AllReadyIn.nil))
            · go_simp
              refine hK _ _ ?_
              clear hK K
              refine wpAnyIn_take (i := 6) (v := ?v41) rfl rfl (by kernel_rfl) (by kernel_rfl) (by kernel_rfl) (fun _ _ _ h => h) ⟨Or.inl ⟨by rfl, ?hy41⟩, fun _ => rfl⟩ ?rest41
              case hy41 => (intro w; go_simp; try (with_reducible rfl))
              simp only [Act.put, List.getElem_toArray, List.getElem_cons_succ, List.getElem_cons_zero, List.setIfInBounds_toArray, List.set_cons_zero, List.set_cons_succ]
              refine wpAnyIn_ready (rs := [7]) (by kernel_rfl) (by simp) (AllReadyIn.cons rfl (fun K hK => ?_) AllReadyIn.nil)
              go_simp
              refine hK _ _ ?_
              clear hK K
              exact hT
            · go_simp
              refine hK _ _ ?_
              clear hK K
              refine wpAnyIn_ready (rs := [0]) (by kernel_rfl) (by simp) (AllReadyIn.cons rfl (fun K hK => ?_) AllReadyIn.nil)
              go_simp
              refine hK _ _ ?_
              clear hK K
              refine wpAnyIn_take (i := 6) (v := ?v42) rfl rfl (by kernel_rfl) (by kernel_rfl) (by kernel_rfl) (fun _ _ _ h => h) ⟨Or.inl ⟨by rfl, ?hy42⟩, fun _ => rfl⟩ ?rest42
              case hy42 => (intro w; go_simp; try (with_reducible rfl))
              simp only [Act.put, List.getElem_toArray, List.getElem_cons_succ, List.getElem_cons_zero, List.setIfInBounds_toArray, List.set_cons_zero, List.set_cons_succ]
              exact hT
          · go_simp
            refine hK _ _ ?_
            clear hK K
            refine wpAnyIn_ready (rs := [0, 3]) (by kernel_rfl) (by simp) (AllReadyIn.cons rfl (fun K hK => ?_) (AllReadyIn.cons rfl (fun K hK => ?_) AllReadyIn.nil))
            · go_simp
              refine hK _ _ ?_
              clear hK K
              refine wpAnyIn_ready (rs := [3]) (by kernel_rfl) (by simp) (AllReadyIn.cons rfl (fun K hK => ?_) AllReadyIn.nil)
              go_simp
              refine hK _ _ ?_
              clear hK K
              refine wpAnyIn_take (i := 4) (v := ?v43) rfl rfl (by kernel_rfl) (by kernel_rfl) (by kernel_rfl) (fun _ _ _ h => h) ⟨Or.inl ⟨by rfl, ?hy43⟩, fun _ => rfl⟩ ?rest43
              case hy43 => (intro w; go_simp; try (with_reducible rfl))
              simp only [Act.put, List.getElem_toArray, List.getElem_cons_succ, List.getElem_cons_zero, List.setIfInBounds_toArray, List.set_cons_zero, List.set_cons_succ]
              refine wpAnyIn_take (i := 5) (v := ?v44) rfl rfl (by kernel_rfl) (by kernel_rfl) (by kernel_rfl) (fun _ _ _ h => h) ⟨Or.inl ⟨by rfl, ?hy44⟩, fun _ => rfl⟩ ?rest44
              case hy44 => (intro w; go_simp; try (with_reducible rfl))
              simp only [Act.put, List.getElem_toArray, List.getElem_cons_succ, List.getElem_cons_zero, List.setIfInBounds_toArray, List.set_cons_zero, List.set_cons_succ]
              refine wpAnyIn_take (i := 6) (v := ?v45) rfl rfl (by kernel_rfl) (by kernel_rfl) (by kernel_rfl) (fun _ _ _ h => h) ⟨Or.inl ⟨by rfl, ?hy45⟩, fun _ => rfl⟩ ?rest45
              case hy45 => (intro w; go_simp; try (with_reducible rfl))
              simp only [Act.put, List.getElem_toArray, List.getElem_cons_succ, List.getElem_cons_zero, List.setIfInBounds_toArray, List.set_cons_zero, List.set_cons_succ]
              exact hT
            · go_simp
              refine hK _ _ ?_
              clear hK K
              refine wpAnyIn_take (i := 4) (v := ?v46) rfl rfl (by kernel_rfl) (by kernel_rfl) (by kernel_rfl) (fun _ _ _ h => h) ⟨Or.inl ⟨by rfl, ?hy46⟩, fun _ => rfl⟩ ?rest46
              case hy46 => (intro w; go_simp; try (with_reducible rfl))
              simp only [Act.put, List.getElem_toArray, List.getElem_cons_succ, List.getElem_cons_zero, List.setIfInBounds_toArray, List.set_cons_zero, List.set_cons_succ]
              refine wpAnyIn_take (i := 5) (v := ?v47) rfl rfl (by kernel_rfl) (by kernel_rfl) (by kernel_rfl) (fun _ _ _ h => h) ⟨Or.inl ⟨by rfl, ?hy47⟩, fun _ => rfl⟩ ?rest47
              case hy47 => (intro w; go_simp; try (with_reducible rfl))
              simp only [Act.put, List.getElem_toArray, List.getElem_cons_succ, List.getElem_cons_zero, List.setIfInBounds_toArray, List.set_cons_zero, List.set_cons_succ]
              refine wpAnyIn_ready (rs := [0]) (by kernel_rfl) (by simp) (AllReadyIn.cons rfl (fun K hK => ?_) AllReadyIn.nil)
              go_simp
              refine hK _ _ ?_
              clear hK K
              refine wpAnyIn_take (i := 6) (v := ?v48) rfl rfl (by kernel_rfl) (by kernel_rfl) (by kernel_rfl) (fun _ _ _ h => h) ⟨Or.inl ⟨by rfl, ?hy48⟩, fun _ => rfl⟩ ?rest48
              case hy48 => (intro w; go_simp; try (with_reducible rfl))
              simp only [Act.put, List.getElem_toArray, List.getElem_cons_succ, List.getElem_cons_zero, List.setIfInBounds_toArray, List.set_cons_zero, List.set_cons_succ]
              exact hT
        case t =>
          refine wpAnyIn_ready (rs := [8]) (by kernel_rfl) (by simp) (AllReadyIn.cons rfl (fun K hK => ?_) AllReadyIn.nil)
          go_simp
          first | refine ⟨trivial, ?_⟩ | skip
          refine (callsIn_wide.2 HEQd.out).mono ?_
          rintro e w3 ⟨rfl, hb3⟩
          have hJ3 := HJB.out _ _ _ hJd hb3
          have HM3 := hid (HMB.out _ _ HMd.out hb3)
          refine hK _ _ ?_
          clear hK K
          refine wpAnyIn_take (i := 9) (v := ?v49) rfl rfl (by kernel_rfl) (by kernel_rfl) (by kernel_rfl) (fun _ _ _ h => h) ⟨Or.inl ⟨by rfl, ?hy49⟩, fun _ => rfl⟩ ?rest49
          case hy49 => (intro w; go_simp; try (with_reducible rfl))
          simp only [Act.put, List.getElem_toArray, List.getElem_cons_succ, List.getElem_cons_zero, List.setIfInBounds_toArray, List.set_cons_zero, List.set_cons_succ]
          refine wpAnyIn_take (i := 10) (v := undef) rfl rfl (by kernel_rfl) (by kernel_rfl) (by kernel_rfl) (fun _ _ _ h => h) ⟨Or.inr ⟨by rfl, rfl⟩, fun _ => rfl⟩ ?rest1
          simp only [Act.put, List.getElem_toArray, List.getElem_cons_succ, List.getElem_cons_zero, List.setIfInBounds_toArray, List.set_cons_zero, List.set_cons_succ]
          refine wpAnyIn_take (i := 11) (v := undef) rfl rfl (by kernel_rfl) (by kernel_rfl) (by kernel_rfl) (fun _ _ _ h => h) ⟨Or.inr ⟨by rfl, rfl⟩, fun _ => rfl⟩ ?rest2
          simp only [Act.put, List.getElem_toArray, List.getElem_cons_succ, List.getElem_cons_zero, List.setIfInBounds_toArray, List.set_cons_zero, List.set_cons_succ]
          refine wpAnyIn_take (i := 12) (v := undef) rfl rfl (by kernel_rfl) (by kernel_rfl) (by kernel_rfl) (fun _ _ _ h => h) ⟨Or.inr ⟨by rfl, rfl⟩, fun _ => rfl⟩ ?rest3
          simp only [Act.put, List.getElem_toArray, List.getElem_cons_succ, List.getElem_cons_zero, List.setIfInBounds_toArray, List.set_cons_zero, List.set_cons_succ]
          refine wpAnyIn_take (i := 13) (v := undef) rfl rfl (by kernel_rfl) (by kernel_rfl) (by kernel_rfl) (fun _ _ _ h => h) ⟨Or.inr ⟨by rfl, rfl⟩, fun _ => rfl⟩ ?rest4
          simp only [Act.put, List.getElem_toArray, List.getElem_cons_succ, List.getElem_cons_zero, List.setIfInBounds_toArray, List.set_cons_zero, List.set_cons_succ]
          refine wpAnyIn_take (i := 14) (v := ?v5) rfl rfl (by kernel_rfl) (by kernel_rfl) (by kernel_rfl) (fun _ _ _ h => h) ⟨Or.inl ⟨by rfl, ?hy5⟩, fun _ => rfl⟩ ?rest5
          case hy5 => (intro w; go_simp; try (with_reducible rfl))
          simp only [Act.put, List.getElem_toArray, List.getElem_cons_succ, List.getElem_cons_zero, List.setIfInBounds_toArray, List.set_cons_zero, List.set_cons_succ]
          refine wpAnyIn_done (by kernel_rfl) ?_ _
          gi_wp2
          go_roundw
          case rel => exact ⟨at' + 1, pre, by omega, by go_num, HN2.out, hJ3, HM3.out⟩
          case measure => simp [intOf]; omega
    · have hti : ¬ (at' : Int) + (pat.length : Int) ≤ (l.length : Int) := by omega
      have HD : Hid (pre = L) := by
        have h := HP.out
        rw [show l.length + 1 - pat.length - at' = 0 by omega, plGo, List.append_nil] at h
        exact h
      clear HP
      gi_wp2
      go_end0
      exact ⟨⟨_, rfl⟩, .inl (by rw [← HD.out]; exact hJ)⟩
set_option maxHeartbeats 1000000 in
theorem places_any (ap au : Option Addr) (np cp nu cu : Nat) (w : World) :
    Calls Try.prog 54 #[.slice ap np cp, .slice au nu cu] w fun e w' => e = .returned (.func (.func 70) #[] #[.pointer (some ⟨w.heap.size, 0, none⟩), .pointer (some ⟨w.heap.size + 1, 0, none⟩)]) ∧ (w.alloc (.cells #[.slice ap np cp] 23)).alloc (.cells #[.slice au nu cu] 23) = w' := by
  go_enter Try.func54, Try.ntmps54
  go_wp2
  go_ret
  exact ⟨rfl, rfl⟩
end Go.Proofs.Ytalpgilncohkbaa
