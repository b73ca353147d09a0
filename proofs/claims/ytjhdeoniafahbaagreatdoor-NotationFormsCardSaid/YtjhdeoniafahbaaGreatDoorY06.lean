/-
  Joined, what is needed of: J04 Hd PlWd.
-/
import Derived.Lib.ItoaMem
import Derived.Maps.OwnSet
import Derived.Maps.StringElems
import Derived.IntWalk
import Derived.Test.YtjhdeoniafahbaaGreatDoorY01
import Derived.Test.YtjhdeoniafahbaaGreatDoorY04
import Derived.Test.YtjhdeoniafahbaaGreatDoorY05
namespace Go.Proofs.YtjhdeoniafahbaaGreatDoor
open Go.RowKit
def lemCk (f l : ByteArray) (n : Int) : Int := if (!wordB f || (decide (l.size ≠ 0) && !wordB l)) = true then 11 else if n < 0 ∨ 65536 < n then 2 else 0
set_option maxRecDepth 100000 in
set_option maxHeartbeats 1000000 in
theorem lck_any (f l : ByteArray) (n : Int) (w : World) (he : Env w) (hf : f.size ≤ 65536) (hl : l.size ≤ 65536) :
    Calls Tryz.prog 86 #[.agg #[.string f, .string l, .int .i64 n]] w fun e w' => e = .returned (.int .i64 (lemCk f l n)) ∧ Below w.heap.size w w' := by
  have hb0 := below_al w (.cells #[.string f, .string l, .int .i64 n] 28)
  have hr0 := row_nw w #[.string f, .string l, .int .i64 n] 28 rfl
  have HI : Hid (lemCk f l n = if (!wordB f || (decide (l.size ≠ 0) && !wordB l)) = true then 11 else if n < 0 ∨ 65536 < n then 2 else 0) := rfl
  have HWf := hid (word_any f (w.alloc (.cells #[.string f, .string l, .int .i64 n] 28)) (he.below hb0) hf)
  have HWl := fun w' (h : Below w.heap.size w w') => hid (word_any l w' (he.below h) hl)
  have hE := ba_isE l
  cases hwf : wordB f with
  | false =>
    rw [hwf] at HWf
    have HI2 : Hid (lemCk f l n = 11) := by unfold Hid; rw [HI.out, hwf]; rfl
    clear hwf HI
    go_enter Tryz.func86, Tryz.ntmps86
    go_wp2_with fail
    refine HWf.out.mono ?_
    rintro e w1 ⟨rfl, hB1⟩
    go_wp2
    go_ret
    exact ⟨ret_int HI2.out.symm, below_tr hb0 hB1⟩
  | true =>
    rw [hwf] at HWf HI
    clear hwf
    by_cases hl0 : l.size = 0
    · rw [decide_eq_true hl0] at hE
      have HI2 : Hid (lemCk f l n = if n < 0 ∨ 65536 < n then 2 else 0) := by unfold Hid; rw [HI.out, if_neg (by simp [hl0])]
      clear HI hl0
      go_enter Tryz.func86, Tryz.ntmps86
      go_wp2_with fail
      refine HWf.out.mono ?_
      rintro e w1 ⟨rfl, hB1⟩
      have hr1 := hr0.below hB1
      have c1 := hr1.cell 1 rfl
      have c2 := hr1.cell 2 rfl
      by_cases hn0 : n < 0
      · have HI3 : Hid (lemCk f l n = 2) := by unfold Hid; rw [HI2.out, if_pos (.inl hn0)]
        go_wp2
        go_ret
        exact ⟨ret_int HI3.out.symm, below_tr hb0 hB1⟩
      · by_cases hn1 : 65536 < n
        · have HI3 : Hid (lemCk f l n = 2) := by unfold Hid; rw [HI2.out, if_pos (.inr hn1)]
          go_wp2
          go_ret
          exact ⟨ret_int HI3.out.symm, below_tr hb0 hB1⟩
        · have HI3 : Hid (lemCk f l n = 0) := by unfold Hid; rw [HI2.out, if_neg (by omega)]
          go_wp2
          go_ret
          exact ⟨ret_int HI3.out.symm, below_tr hb0 hB1⟩
    · rw [decide_eq_false hl0] at hE
      cases hwl : wordB l with
      | false =>
        have HI2 : Hid (lemCk f l n = 11) := by unfold Hid; rw [HI.out, if_pos (by simp [hl0, hwl])]
        rw [hwl] at HWl
        clear HI hl0 hwl
        go_enter Tryz.func86, Tryz.ntmps86
        go_wp2_with fail
        refine HWf.out.mono ?_
        rintro e w1 ⟨rfl, hB1⟩
        have hr1 := hr0.below hB1
        have c1 := hr1.cell 1 rfl
        go_wp2_with fail
        refine (HWl _ (below_tr hb0 hB1)).out.mono ?_
        rintro e w2 ⟨rfl, hB2⟩
        go_wp2
        go_ret
        exact ⟨ret_int HI2.out.symm, below_tr (below_tr hb0 hB1) hB2⟩
      | true =>
        have HI2 : Hid (lemCk f l n = if n < 0 ∨ 65536 < n then 2 else 0) := by unfold Hid; rw [HI.out, if_neg (by simp [hwl])]
        rw [hwl] at HWl
        clear HI hl0 hwl
        go_enter Tryz.func86, Tryz.ntmps86
        go_wp2_with fail
        refine HWf.out.mono ?_
        rintro e w1 ⟨rfl, hB1⟩
        have hr1 := hr0.below hB1
        have c1 := hr1.cell 1 rfl
        go_wp2_with fail
        refine (HWl _ (below_tr hb0 hB1)).out.mono ?_
        rintro e w2 ⟨rfl, hB2⟩
        have hr2 := hr1.below hB2
        have c2 := hr2.cell 2 rfl
        by_cases hn0 : n < 0
        · have HI3 : Hid (lemCk f l n = 2) := by unfold Hid; rw [HI2.out, if_pos (.inl hn0)]
          go_wp2
          go_ret
          exact ⟨ret_int HI3.out.symm, below_tr (below_tr hb0 hB1) hB2⟩
        · by_cases hn1 : 65536 < n
          · have HI3 : Hid (lemCk f l n = 2) := by unfold Hid; rw [HI2.out, if_pos (.inr hn1)]
            go_wp2
            go_ret
            exact ⟨ret_int HI3.out.symm, below_tr (below_tr hb0 hB1) hB2⟩
          · have HI3 : Hid (lemCk f l n = 0) := by unfold Hid; rw [HI2.out, if_neg (by omega)]
            go_wp2
            go_ret
            exact ⟨ret_int HI3.out.symm, below_tr (below_tr hb0 hB1) hB2⟩
theorem any_snoc {α : Type} (p : α → Bool) (l : List α) (k : Nat) (x : α) (h : l[k]? = some x) : (l.take (k + 1)).any p = ((l.take k).any p || p x) := by
  rw [List.take_add_one, h, List.any_append]; simp
theorem any_take_true {α : Type} {p : α → Bool} {l : List α} {k : Nat} (h : (l.take k).any p = true) : l.any p = true := by
  obtain ⟨x, hx, hp⟩ := List.any_eq_true.1 h
  exact List.any_eq_true.2 ⟨x, List.mem_of_mem_take hx, hp⟩
end Go.Proofs.YtjhdeoniafahbaaGreatDoor
namespace Go.Proofs.YtjhdeoniafahbaaGreatDoor
open Go.RowKit
structure Vr where
  ws : List ByteArray
  sg : List ByteArray
/-- A note without its lists. -/
structure Nt where
  fr : Int
  to_ : Int
  pl : Int
  lf : ByteArray
  ll : ByteArray
  ln : Int
  pos : Bool
  sup : List ByteArray
  vs : List Vr
def Nt.cells (x : Nt) (u s : Value) : Array Value := #[.int .i64 x.fr, .int .i64 x.to_, .int .i64 x.pl, .string x.lf, .string x.ll, .int .i64 x.ln, .bool x.pos, u, s]
structure En where
  ly : Int
  fr : Int
  to_ : Int
  pos : Bool
  sup : List ByteArray
  vs : List Vr
def En.cells (x : En) (u s : Value) : Array Value := #[.int .i64 x.ly, .int .i64 x.fr, .int .i64 x.to_, .bool x.pos, u, s]
/-- The slice value v reads in W as the variants l: two cells an element, each a slice of strings. -/
def RdV (W : World) (v : Value) (l : List Vr) : Prop :=
  ∃ a cap, v = .slice a l.length cap ∧ l.length ≤ cap ∧ cap ≤ maxLen ∧ ∀ i x, l[i]? = some x → ∃ b off u s, a = some ⟨b, off, none⟩ ∧ W.cell? ⟨b, off + i * 2, none⟩ = some u ∧ W.cell? ⟨b, off + i * 2 + 1, none⟩ = some s ∧ RdS W u x.ws ∧ RdS W s x.sg
theorem RdV.below {W W' : World} {v : Value} {l : List Vr} (h : RdV W v l) (hb : Below W.heap.size W W') : RdV W' v l := by
  obtain ⟨a, cap, h1, h2, h3, h4⟩ := h
  refine ⟨a, cap, h1, h2, h3, fun i p hp => ?_⟩
  obtain ⟨b, off, u, s, e, c0, c1, hr, hs⟩ := h4 i p hp
  exact ⟨b, off, u, s, e, Below.keeps hb _ _ c0, Below.keeps hb _ _ c1, hr.below hb, hs.below hb⟩
theorem RdV.open {W : World} {v : Value} {l : List Vr} (h : RdV W v l) : ∃ a cap, v = .slice a l.length cap ∧ l.length ≤ cap ∧ cap ≤ 9223372036854775807 ∧ ∀ i, i < l.length → ∃ x b off u s, l[i]? = some x ∧ a = some ⟨b, off, none⟩ ∧ W.cell? ⟨b, off + i * 2, none⟩ = some u ∧ W.cell? ⟨b, off + i * 2 + 1, none⟩ = some s ∧ RdS W u x.ws ∧ RdS W s x.sg := by
  obtain ⟨a, cap, h1, h2, h3, h4⟩ := h
  refine ⟨a, cap, h1, h2, h3, fun i hi => ?_⟩
  obtain ⟨b, off, u, s, e, hc⟩ := h4 i l[i] (by simp [hi])
  exact ⟨l[i], b, off, u, s, by simp [hi], e, hc⟩
theorem RdV.nil (W : World) : RdV W (.slice none 0 0) [] := ⟨none, 0, rfl, Nat.le_refl _, by unfold maxLen; omega, fun i x h => by simp at h⟩
/-- A siglum: a name, or one of 15 letters at most with a star behind it. -/
theorem sigB_if (s : ByteArray) : sigB s = if (cutStar s).2 = true then decide (s.size ≤ 16) && isNameB (cutStar s).1 else isNameB s := by
  unfold sigB
  cases h : (cutStar s).2 with
  | true => simp [Bool.and_comm]
  | false =>
    have e : (cutStar s).1 = s := by
      unfold cutStar at h ⊢
      split
      · rename_i hc; rw [if_pos hc] at h; cases h
      · rfl
    simp [e]
def lem0 (x : Nt) : Bool := decide (x.lf.size = 0) && decide (x.ll.size = 0) && decide (x.ln = 0)
/-- The error of a note's head. -/
def headI (x : Nt) : Int :=
  if x.fr < 1 ∨ x.to_ < x.fr ∨ 4096 < x.to_ then 2 else if x.pl < 1 ∨ 4 < x.pl then 8
  else if x.pl = 4 ∧ lem0 x = false then 9
  else if x.pl ≠ 4 ∧ lemCk x.lf x.ll x.ln ≠ 0 then lemCk x.lf x.ll x.ln
  else if x.pl ≠ 4 ∧ x.pl ≠ 1 ∧ x.ll.size ≠ 0 then 9
  else if 0 < x.sup.length ∧ x.pos = false then 9 else if 4096 < x.sup.length then 4 else if (x.sup.any fun s => !sigB s) = true then 14
  else if x.vs.length = 0 then 5 else if 4096 < x.vs.length then 4 else 0
/-- The error of a variant. -/
def varI (pl : Int) (v : Vr) : Int :=
  if v.sg.length = 0 ∨ (v.ws.length = 0 ∧ pl ≠ 1) then 5 else if 4096 < v.ws.length ∨ 4096 < v.sg.length then 4 else if lcheckI v.ws ≠ 0 then 11 else if (v.sg.any fun s => !sigB s) = true then 14 else 0
def varsI (pl : Int) : List Vr → Int
  | [] => 0
  | v :: r => if varI pl v = 0 then varsI pl r else varI pl v
def nteI (x : Nt) : Int := if headI x = 0 then varsI x.pl x.vs else headI x
theorem varsI_hit (pl : Int) : ∀ (l : List Vr) (k : Nat) (x : Vr), (∀ y ∈ l.take k, varI pl y = 0) → l[k]? = some x → varI pl x ≠ 0 → varsI pl l = varI pl x
  | [], k, x, _, hx, _ => by simp at hx
  | b :: r, 0, x, _, hx, hn => by
    have : b = x := by simpa using hx
    subst this
    rw [varsI, if_neg hn]
  | b :: r, k + 1, x, h, hx, hn => by
    have hb := h b (by simp)
    rw [varsI, if_pos hb]
    exact varsI_hit pl r k x (fun y hy => h y (by rw [List.take_succ_cons]; exact List.mem_cons_of_mem _ hy)) (by simpa using hx) hn
theorem varsI_all (pl : Int) : ∀ (l : List Vr), (∀ y ∈ l, varI pl y = 0) → varsI pl l = 0
  | [], _ => rfl
  | b :: r, h => by rw [varsI, if_pos (h b (by simp))]; exact varsI_all pl r (fun y hy => h y (by simp [hy]))
end Go.Proofs.YtjhdeoniafahbaaGreatDoor
namespace Go.Proofs.YtjhdeoniafahbaaGreatDoor
open Go.RowKit
set_option maxHeartbeats 400000 in
theorem psig_any (s : ByteArray) (w : World) (hs : s.size ≤ 65536) :
    Calls Tryz.prog 94 #[.string s] w fun e w' => e = .returned (.bool (sigB s)) ∧ w = w' := by
  have HX := hid (cutStar_any s w (by unfold maxLen; omega))
  have HN0 := hid (isName_any s w (by unfold maxLen; omega))
  have HN1 := hid (isName_any (cutStar s).1 w (by have := cutStar_le s; unfold maxLen; omega))
  have HS := hid (sigB_if s)
  generalize sigB s = r at *
  generalize isNameB (cutStar s).1 = n1 at *
  generalize isNameB s = n0 at *
  generalize cutStar s = q at *
  obtain ⟨a, b⟩ := q
  simp only at HX HN1 HS
  cases b with
  | true =>
    by_cases h16 : s.size ≤ 16
    · have h16i : (s.size : Int) ≤ 16 := by omega
      have HR : Hid (r = n1) := by show _ = _; rw [HS.out, if_pos rfl, decide_eq_true h16]; rfl
      clear HS
      go_enter Tryz.func94, Tryz.ntmps94
      go_wp2_with fail
      (with_reducible refine HX.out.mono ?_)
      rintro e w1 ⟨rfl, rfl⟩
      go_wp2_with fail
      (with_reducible refine HN1.out.mono ?_)
      rintro e w1 ⟨rfl, rfl⟩
      go_wp2
      go_ret
      exact ⟨ret_bool HR.out.symm, rfl⟩
    · have h16i : ¬ (s.size : Int) ≤ 16 := by omega
      have HR : Hid (r = false) := by show _ = _; rw [HS.out, if_pos rfl, decide_eq_false h16]; rfl
      clear HS
      go_enter Tryz.func94, Tryz.ntmps94
      go_wp2_with fail
      (with_reducible refine HX.out.mono ?_)
      rintro e w1 ⟨rfl, rfl⟩
      go_wp2
      go_ret
      exact ⟨ret_bool HR.out.symm, rfl⟩
  | false =>
    have HR : Hid (r = n0) := by show _ = _; rw [HS.out, if_neg (by simp)]
    clear HS
    go_enter Tryz.func94, Tryz.ntmps94
    go_wp2_with fail
    (with_reducible refine HX.out.mono ?_)
    rintro e w1 ⟨rfl, rfl⟩
    go_wp2_with fail
    (with_reducible refine HN0.out.mono ?_)
    rintro e w1 ⟨rfl, rfl⟩
    go_wp2
    go_ret
    exact ⟨ret_bool HR.out.symm, rfl⟩
set_option maxHeartbeats 400000 in
theorem podd1_any (s : ByteArray) (w : World) (hs : s.size ≤ 65536) :
    Calls Tryz.prog 93 #[.string s] w fun e w' => e = .returned (.bool (!sigB s)) ∧ Below w.heap.size w w' := by
  have HC := hid (psig_any s w hs)
  generalize sigB s = r at *
  go_enter Tryz.func93, Tryz.ntmps93
  go_wp2_with fail
  (with_reducible refine HC.out.mono ?_)
  rintro e w1 ⟨rfl, rfl⟩
  go_wp2
  go_ret
  exact ⟨rfl, Below.refl _ _⟩
set_option maxHeartbeats 400000 in
theorem podd_any (v : Value) (l : List ByteArray) (w : World) (hr : RdS w v l) (hz : ∀ s ∈ l, s.size ≤ 65536) :
    Calls Tryz.prog 56 #[v] w fun e w' => e = .returned (.bool (l.any fun s => !sigB s)) ∧ Below w.heap.size w w' := by
  have HC := hid (containsFnS_any 93 (enters_of Tryz.func93 (by kernel_rfl) rfl) (fun s => !sigB s) v l w hr (fun x W' hx hB => podd1_any x W' (hz x hx)))
  generalize (l.any fun s => !sigB s) = r at *
  go_enter Tryz.func56, Tryz.ntmps56
  go_wp2_with fail
  (with_reducible refine HC.out.mono ?_)
  rintro e w1 ⟨rfl, hB⟩
  go_wp2
  go_ret
  exact ⟨rfl, hB⟩
set_option maxRecDepth 100000 in
set_option maxHeartbeats 1000000 in
theorem pwords1_any (s : ByteArray) (w : World) (he : Env w) (hs : s.size ≤ 65536) :
    Calls Tryz.prog 92 #[.string s] w fun e w' => e = .returned (.bool (!wordB s)) ∧ Below w.heap.size w w' := by
  have HC := hid (lck_any s ⟨#[]⟩ 0 w he hs (by show (0 : Nat) ≤ 65536; omega))
  have HX : Hid (lemCk s ⟨#[]⟩ 0 = if wordB s = true then 0 else 11) := by
    unfold Hid lemCk
    cases wordB s <;> rfl
  rw [HX.out] at HC
  cases hw : wordB s with
  | true =>
    rw [hw] at HC
    clear hw HX
    go_enter Tryz.func92, Tryz.ntmps92
    go_wp2_with fail
    (with_reducible refine HC.out.mono ?_)
    rintro e w1 ⟨rfl, hB⟩
    go_wp2
    go_ret
    exact ⟨rfl, hB⟩
  | false =>
    rw [hw] at HC
    clear hw HX
    go_enter Tryz.func92, Tryz.ntmps92
    go_wp2_with fail
    (with_reducible refine HC.out.mono ?_)
    rintro e w1 ⟨rfl, hB⟩
    go_wp2
    go_ret
    exact ⟨rfl, hB⟩
set_option maxHeartbeats 400000 in
theorem pwords_any (v : Value) (l : List ByteArray) (w : World) (he : Env w) (hr : RdS w v l) (hz : ∀ s ∈ l, s.size ≤ 65536) :
    Calls Tryz.prog 55 #[v] w fun e w' => e = .returned (.int .i64 (lcheckI l)) ∧ Below w.heap.size w w' := by
  have HC := hid (containsFnS_any 92 (enters_of Tryz.func92 (by kernel_rfl) rfl) (fun s => !wordB s) v l w hr (fun x W' hx hB => pwords1_any x W' (he.below hB) (hz x hx)))
  have HI : Hid (lcheckI l = if 4096 < l.length then 4 else if (l.any fun s => !wordB s) = true then 11 else 0) := rfl
  obtain ⟨a, cap, rfl, hlc, hcm, _⟩ := hr.open
  by_cases h1 : 4096 < l.length
  · have i1 : (4096 : Int) < (l.length : Int) := by omega
    have HI2 : Hid (lcheckI l = 4) := by show _ = _; rw [HI.out, if_pos h1]
    go_enter Tryz.func55, Tryz.ntmps55
    go_wp2
    go_ret
    exact ⟨ret_int HI2.out.symm, Below.refl _ _⟩
  · have i1 : ¬ (4096 : Int) < (l.length : Int) := by omega
    have HI2 : Hid (lcheckI l = if (l.any fun s => !wordB s) = true then 11 else 0) := by show _ = _; rw [HI.out, if_neg h1]
    clear HI
    generalize (l.any fun s => !wordB s) = r at *
    cases r with
    | true =>
      go_enter Tryz.func55, Tryz.ntmps55
      go_wp2_with fail
      (with_reducible refine HC.out.mono ?_)
      rintro e w1 ⟨rfl, hB⟩
      go_wp2
      go_ret
      exact ⟨ret_int HI2.out.symm, hB⟩
    | false =>
      go_enter Tryz.func55, Tryz.ntmps55
      go_wp2_with fail
      (with_reducible refine HC.out.mono ?_)
      rintro e w1 ⟨rfl, hB⟩
      go_wp2
      go_ret
      exact ⟨ret_int HI2.out.symm, hB⟩
end Go.Proofs.YtjhdeoniafahbaaGreatDoor
namespace Go.Proofs.YtjhdeoniafahbaaGreatDoor
open Go.RowKit
def printT (f l : ByteArray) (n : Int) : ByteArray :=
  let a := if l.size = 0 then f else f ++ (⟨#[32, 43, 32]⟩ ++ l)
  if n = 0 then a else a ++ (⟨#[35]⟩ ++ itoaB n)
theorem lck_bounds {f l : ByteArray} {n : Int} (h : lemCk f l n = 0) : 0 ≤ n ∧ n ≤ 65536 := by
  unfold lemCk at h
  split at h
  · cases h
  · split at h
    · cases h
    · omega
theorem nDigits_le : ∀ (u : Nat), Lib.nDigits u ≤ u + 1 := by
  intro u
  induction u using Nat.strongRecOn with
  | ind u ih =>
    unfold Lib.nDigits
    split
    · omega
    · have := ih (u / 10) (by omega)
      omega
theorem itoaB_size {n : Int} (h0 : 0 ≤ n) (h1 : n ≤ 65536) : (itoaB n).size ≤ 65537 := by
  have h := nDigits_le n.toNat
  have e : (itoaB n).size = Lib.nDigits n.toNat := by
    show (Lib.itoa n).toArray.size = _
    rw [List.size_toArray]
    unfold Lib.itoa
    rw [if_neg (by omega), Lib.decDigits_length]
  omega
set_option maxRecDepth 100000 in
set_option maxHeartbeats 1000000 in
theorem print_any (f l : ByteArray) (n : Int) (w : World) (he : Env w) (hf : f.size ≤ 65536) (hl : l.size ≤ 65536) (hck : lemCk f l n = 0) :
    Calls Tryz.prog 50 #[.agg #[.string f, .string l, .int .i64 n]] w fun e w' => e = .returned (.tuple #[.string (printT f l n), .int .i64 0]) ∧ Below w.heap.size w w' := by
  have hb0 := below_al w (.cells #[.string f, .string l, .int .i64 n] 28)
  have hr0 := row_nw w #[.string f, .string l, .int .i64 n] 28 rfl
  have HC := hid (lck_any f l n (w.alloc (.cells #[.string f, .string l, .int .i64 n] 28)) (he.below hb0) hf hl)
  rw [hck] at HC
  have hnb := lck_bounds hck
  have HIT := fun w' (h : Below w.heap.size w w') => hid (itoa_b n w' (he.below h) (by omega) (by omega))
  have hIS := itoaB_size hnb.1 hnb.2
  have hE := ba_isE l
  have HP : Hid (printT f l n = (if n = 0 then (if l.size = 0 then f else f ++ (⟨#[32, 43, 32]⟩ ++ l)) else (if l.size = 0 then f else f ++ (⟨#[32, 43, 32]⟩ ++ l)) ++ (⟨#[35]⟩ ++ itoaB n))) := rfl
  clear hck
  by_cases hl0 : l.size = 0
  all_goals by_cases hn0 : n = 0
  · rw [decide_eq_true hl0] at hE
    have HP2 : Hid (printT f l n = f) := by unfold Hid; rw [HP.out, if_pos hn0, if_pos hl0]
    clear HP hl0
    subst hn0
    go_enter Tryz.func50, Tryz.ntmps50
    go_wp2_with fail
    refine HC.out.mono ?_
    rintro e w1 ⟨rfl, hB1⟩
    have hr1 := hr0.below hB1
    have c0 := hr1.cell 0 rfl
    have c1 := hr1.cell 1 rfl
    have c2 := hr1.cell 2 rfl
    go_wp2
    go_ret2
    exact ⟨by rw [HP2.out]; rfl, below_tr hb0 hB1⟩
  · rw [decide_eq_true hl0] at hE
    have hn1 : (n == 0) = false := beq_eq_false_iff_ne.2 hn0
    have HP2 : Hid (printT f l n = f ++ (⟨#[35]⟩ ++ itoaB n)) := by unfold Hid; rw [HP.out, if_neg hn0, if_pos hl0]
    clear HP hl0
    go_enter Tryz.func50, Tryz.ntmps50
    go_wp2_with fail
    refine HC.out.mono ?_
    rintro e w1 ⟨rfl, hB1⟩
    have hr1 := hr0.below hB1
    have c0 := hr1.cell 0 rfl
    have c1 := hr1.cell 1 rfl
    have c2 := hr1.cell 2 rfl
    go_wp2_with fail
    refine (HIT _ (below_tr hb0 hB1)).out.mono ?_
    rintro e w2 ⟨rfl, hB2⟩
    go_wp2
    go_ret2
    exact ⟨by rw [HP2.out]; rfl, below_tr (below_tr hb0 hB1) hB2⟩
  · rw [decide_eq_false hl0] at hE
    have HP2 : Hid (printT f l n = f ++ (⟨#[32, 43, 32]⟩ ++ l)) := by unfold Hid; rw [HP.out, if_pos hn0, if_neg hl0]
    clear HP hl0
    subst hn0
    go_enter Tryz.func50, Tryz.ntmps50
    go_wp2_with fail
    refine HC.out.mono ?_
    rintro e w1 ⟨rfl, hB1⟩
    have hr1 := hr0.below hB1
    have c0 := hr1.cell 0 rfl
    have c1 := hr1.cell 1 rfl
    have c2 := hr1.cell 2 rfl
    go_wp2
    go_ret2
    exact ⟨by rw [HP2.out]; rfl, below_tr hb0 hB1⟩
  · rw [decide_eq_false hl0] at hE
    have hn1 : (n == 0) = false := beq_eq_false_iff_ne.2 hn0
    have HP2 : Hid (printT f l n = (f ++ (⟨#[32, 43, 32]⟩ ++ l)) ++ (⟨#[35]⟩ ++ itoaB n)) := by unfold Hid; rw [HP.out, if_neg hn0, if_neg hl0]
    clear HP hl0
    go_enter Tryz.func50, Tryz.ntmps50
    go_wp2_with fail
    refine HC.out.mono ?_
    rintro e w1 ⟨rfl, hB1⟩
    have hr1 := hr0.below hB1
    have c0 := hr1.cell 0 rfl
    have c1 := hr1.cell 1 rfl
    have c2 := hr1.cell 2 rfl
    go_wp2_with fail
    refine (HIT _ (below_tr hb0 hB1)).out.mono ?_
    rintro e w2 ⟨rfl, hB2⟩
    go_wp2
    go_ret2
    exact ⟨by rw [HP2.out]; rfl, below_tr (below_tr hb0 hB1) hB2⟩
theorem run_max_int4 {P : Program} {w : World} (ts : Array TypeId) (t : TypeId) (k : IntKind) (x : Int) : (Builtin.max_ ts t #[.int k x, .int k x, .int k x, .int k x]).run P w = .ok (.int k x) w := by
  simp [Builtin.max_, Builtin.max2, go_sem]
attribute [local go_sem] run_max_int4
end Go.Proofs.YtjhdeoniafahbaaGreatDoor
namespace Go.Proofs.YtjhdeoniafahbaaGreatDoor
open Go.RowKit
end Go.Proofs.YtjhdeoniafahbaaGreatDoor
namespace Go.Proofs.YtjhdeoniafahbaaGreatDoor
structure LmR where
  f : ByteArray
  l : ByteArray
  n : Int
  e : Int
def lm0 (e : Int) : LmR := ⟨⟨#[]⟩, ⟨#[]⟩, 0, e⟩
def hashI (s : ByteArray) : Int := Lib.index s.data.toList [35]
def hashB (s : ByteArray) : Bool := decide (0 ≤ hashI s)
def ownB (s : ByteArray) : ByteArray := if hashB s = true then s.extract 0 (hashI s).toNat else s
def numB (s : ByteArray) : ByteArray := if hashB s = true then s.extract ((hashI s).toNat + 1) s.size else ⟨#[]⟩
/-- The end of Parse, once the parts are known. -/
def lmEnd (f l : ByteArray) (n : Int) : LmR := if lemCk f l n = 0 then ⟨f, l, n, 0⟩ else lm0 (lemCk f l n)
def lmLast (ps : List ByteArray) : ByteArray := ps.getD (ps.length - 1) ⟨#[]⟩
def lmNum (s : ByteArray) : Int := if hashB s = true then decV (numB s) else 0
def parseLm (s : ByteArray) : LmR :=
  if 65536 < s.size then lm0 4
  else if ¬ ((splitS s).length = 1 ∨ ((splitS s).length = 3 ∧ (splitS s).getD 1 ⟨#[]⟩ = ⟨#[43]⟩)) then lm0 3
  else if (hashB (lmLast (splitS s)) && !decB (numB (lmLast (splitS s)))) = true then lm0 3
  else if (splitS s).length = 1 then lmEnd (ownB (lmLast (splitS s))) ⟨#[]⟩ (lmNum (lmLast (splitS s)))
  else if (ownB (lmLast (splitS s))).size = 0 then lm0 11
  else lmEnd ((splitS s).getD 0 ⟨#[]⟩) (ownB (lmLast (splitS s))) (lmNum (lmLast (splitS s)))
theorem index_app {c : UInt8} (r : List UInt8) : ∀ {a : List UInt8}, c ∉ a → Lib.index (a ++ c :: r) [c] = a.length
  | [], _ => by
    rw [List.nil_append]
    unfold Lib.index
    rw [if_pos (by simp)]; rfl
  | x :: a, h => by
    rw [List.mem_cons, not_or] at h
    have ih := index_app r h.2
    rw [List.cons_append]
    unfold Lib.index
    have e : ([c].isPrefixOf (x :: (a ++ c :: r))) = false := by
      simp [List.isPrefixOf, h.1]
    rw [e, ih, if_neg (by simp), if_neg (by simp)]
    simp
theorem index_no {c : UInt8} : ∀ {a : List UInt8}, c ∉ a → Lib.index a [c] = -1
  | [], _ => by unfold Lib.index; rfl
  | x :: a, h => by
    rw [List.mem_cons, not_or] at h
    have ih := index_no h.2
    unfold Lib.index
    have e : ([c].isPrefixOf (x :: a)) = false := by simp [List.isPrefixOf, h.1]
    rw [e, ih]
    rfl
theorem ba_len (s : ByteArray) : s.data.toList.length = s.size := by rw [Array.length_toList]; rfl
theorem extract_data (s : ByteArray) (i j : Nat) : (s.extract i j).data.toList = (s.data.toList.take j).drop i := by
  rw [ByteArray.data_extract, Array.toList_extract]
  simp [List.extract, List.drop_take]
/-- A part without a number. -/
theorem hash_no {s : ByteArray} (h : (35 : UInt8) ∉ s.data.toList) : hashB s = false ∧ ownB s = s ∧ lmNum s = 0 := by
  have e : hashB s = false := by
    unfold hashB hashI
    rw [index_no h]; rfl
  refine ⟨e, ?_, ?_⟩
  · unfold ownB; rw [e]; rfl
  · unfold lmNum; rw [e]; rfl
/-- .. with one. -/
theorem hash_yes {s a r : ByteArray} (h : (35 : UInt8) ∉ a.data.toList) (hs : s.data.toList = a.data.toList ++ 35 :: r.data.toList) : hashB s = true ∧ ownB s = a ∧ numB s = r ∧ lmNum s = decV r := by
  have e0 : hashI s = a.data.toList.length := by unfold hashI; rw [hs, index_app _ h]
  have e : hashB s = true := by unfold hashB; rw [e0]; simp
  have hl := ba_len s
  rw [hs] at hl
  have e1 : ownB s = a := by
    unfold ownB
    rw [if_pos e, e0]
    refine ba_ext ?_
    rw [extract_data, hs]
    simp
  have e2 : numB s = r := by
    unfold numB
    rw [if_pos e, e0]
    refine ba_ext ?_
    rw [extract_data, ← hl, hs, List.take_length]
    have hq : ∀ u v : List UInt8, List.drop (u.length + 1) (u ++ 35 :: v) = v := by intro u v; simp
    exact hq _ _
  refine ⟨e, e1, e2, ?_⟩
  unfold lmNum; rw [if_pos e, e2]
theorem hash_cut {s : ByteArray} (h : hashB s = true) : s.data.toList = (ownB s).data.toList ++ 35 :: (numB s).data.toList := by
  have h0 : 0 ≤ hashI s := by unfold hashB at h; exact of_decide_eq_true h
  obtain ⟨a, r, e1, e2, e3⟩ := index_at (l := s.data.toList) (c := 35) (i := (hashI s).toNat) (by unfold hashI at h0 ⊢; omega)
  have hl := ba_len s
  have e4 : (ownB s).data.toList = a := by
    unfold ownB
    rw [if_pos h, extract_data, e1, ← e2]; simp
  have e5 : (numB s).data.toList = r := by
    unfold numB
    rw [if_pos h, extract_data, ← hl, List.take_length, e1, ← e2]; simp
  rw [e4, e5, ← e1]
theorem printT_data (f l : ByteArray) (n : Int) : (printT f l n).data.toList = f.data.toList ++ ((if l.size = 0 then [] else [32, 43, 32] ++ l.data.toList) ++ (if n = 0 then [] else 35 :: (itoaB n).data.toList)) := by
  unfold printT
  by_cases h1 : l.size = 0
  all_goals by_cases h2 : n = 0
  all_goals simp [h1, h2]
theorem lck_parts {f l : ByteArray} {n : Int} (h : lemCk f l n = 0) : wordB f = true ∧ (l.size = 0 ∨ wordB l = true) ∧ 0 ≤ n ∧ n ≤ 65536 := by
  have hb := lck_bounds h
  unfold lemCk at h
  split at h
  · cases h
  · rename_i h1
    refine ⟨?_, ?_, hb⟩
    · cases hf : wordB f with
      | true => rfl
      | false => rw [hf] at h1; simp at h1
    · by_cases hl : l.size = 0
      · exact .inl hl
      · refine .inr ?_
        cases hw : wordB l with
        | true => rfl
        | false => rw [hw] at h1; simp [hl] at h1
theorem split_of {s : ByteArray} {l : List ByteArray} (h : cutL 32 s.data.toList = l.map (·.data.toList)) : splitS s = l := map_data_inj (by rw [splitS_data, h])
theorem tail_no {l : ByteArray} {n : Int} (hl : l.size = 0 ∨ wordB l = true) (h0 : 0 ≤ n) : (32 : UInt8) ∉ l.data.toList ++ (if n = 0 then [] else 35 :: (itoaB n).data.toList) := by
  rw [List.mem_append]
  rintro (h | h)
  · rcases hl with h1 | h1
    · have := ba_len l
      rw [h1] at this
      rw [List.eq_nil_of_length_eq_zero this] at h; cases h
    · exact (word_chars h1 _ h).1 rfl
  · split at h
    · cases h
    · rw [List.mem_cons] at h
      rcases h with h | h
      · exact absurd h (by decide)
      · rw [itoaB_data h0] at h
        have := (digits_ok _).2.2 _ h
        revert this; decide
/-- The last part of what is printed: a word, and perhaps a number behind it. -/
theorem last_part {a t : ByteArray} {n : Int} (ha : (35 : UInt8) ∉ a.data.toList) (h0 : 0 ≤ n) (h1 : n ≤ 65536) (ht : t.data.toList = a.data.toList ++ (if n = 0 then [] else 35 :: (itoaB n).data.toList)) :
    (hashB t && !decB (numB t)) = false ∧ ownB t = a ∧ lmNum t = n := by
  by_cases h : n = 0
  · rw [if_pos h, List.append_nil] at ht
    obtain rfl : t = a := ba_ext ht
    obtain ⟨e1, e2, e3⟩ := hash_no ha
    rw [e1, e2, e3, h]; exact ⟨rfl, rfl, rfl⟩
  · rw [if_neg h] at ht
    obtain ⟨e1, e2, e3, e4⟩ := hash_yes ha ht
    obtain ⟨d1, d2⟩ := dec_itoa (n := n) (by omega) (by omega)
    rw [e1, e2, e3, e4, d1, d2]; exact ⟨rfl, rfl, rfl⟩
/-- P43.4, the first half, plainly. -/
theorem parse_print43 {f l : ByteArray} {n : Int} (h : lemCk f l n = 0) (hs : (printT f l n).size ≤ 65536) : parseLm (printT f l n) = ⟨f, l, n, 0⟩ := by
  obtain ⟨hf, hl, h0, h1⟩ := lck_parts h
  have hd := printT_data f l n
  have hf32 : (32 : UInt8) ∉ f.data.toList := fun hm => (word_chars hf _ hm).1 rfl
  have hf35 : (35 : UInt8) ∉ f.data.toList := fun hm => (word_chars hf _ hm).2 rfl
  have hend : lmEnd f l n = ⟨f, l, n, 0⟩ := by unfold lmEnd; rw [if_pos h]
  by_cases hl0 : l.size = 0
  · rw [if_pos hl0, List.nil_append] at hd
    obtain rfl : l = ⟨#[]⟩ := ba_ext (List.eq_nil_of_length_eq_zero (by rw [ba_len]; exact hl0))
    have e : splitS (printT f ⟨#[]⟩ n) = [printT f ⟨#[]⟩ n] := by
      refine split_of ?_
      rw [cutL_none]
      · rfl
      · rw [hd]; exact tail_no (.inr hf) h0
    obtain ⟨q1, q2, q3⟩ := last_part hf35 h0 h1 hd
    unfold parseLm lmLast
    rw [if_neg (by omega), e]
    simp only [List.length_singleton, Nat.sub_self, List.getD_cons_zero, true_or, not_true, if_false, if_true]
    rw [q1, q2, q3]
    simp only [Bool.false_eq_true, if_false]
    exact hend
  · have hlw : wordB l = true := by
      rcases hl with h | h
      · exact absurd h hl0
      · exact h
    have hl35 : (35 : UInt8) ∉ l.data.toList := fun hm => (word_chars hlw _ hm).2 rfl
    rw [if_neg hl0] at hd
    obtain ⟨t, ht⟩ : ∃ t : ByteArray, t.data.toList = l.data.toList ++ (if n = 0 then [] else 35 :: (itoaB n).data.toList) := ⟨⟨(l.data.toList ++ (if n = 0 then [] else 35 :: (itoaB n).data.toList)).toArray⟩, by simp⟩
    have e : splitS (printT f l n) = [f, ⟨#[43]⟩, t] := by
      refine split_of ?_
      rw [hd]
      have e1 : f.data.toList ++ (([32, 43, 32] ++ l.data.toList) ++ (if n = 0 then [] else 35 :: (itoaB n).data.toList)) = f.data.toList ++ 32 :: ([43] ++ 32 :: t.data.toList) := by rw [ht]; simp
      rw [e1, cutL_app _ hf32, cutL_app _ (by decide), cutL_none]
      · rfl
      · rw [ht]; exact tail_no (.inr hlw) h0
    obtain ⟨q1, q2, q3⟩ := last_part hl35 h0 h1 ht
    unfold parseLm lmLast
    rw [if_neg (by omega), e]
    have z : [f, ⟨#[43]⟩, t].getD ([f, ⟨#[43]⟩, t].length - 1) (⟨#[]⟩ : ByteArray) = t := rfl
    have z1 : [f, ⟨#[43]⟩, t].getD 1 (⟨#[]⟩ : ByteArray) = ⟨#[43]⟩ := rfl
    have z0 : [f, ⟨#[43]⟩, t].getD 0 (⟨#[]⟩ : ByteArray) = f := rfl
    rw [z, z1, z0, q1, q2, q3, if_neg (fun h => h (.inr ⟨rfl, rfl⟩)), if_neg (by simp), if_neg (by simp), if_neg hl0]
    exact hend
/-- .. the second half. -/
theorem print_parse43 {s f l : ByteArray} {n : Int} (h : parseLm s = ⟨f, l, n, 0⟩) : lemCk f l n = 0 ∧ printT f l n = s := by
  have h0 : (parseLm s).e = 0 := by rw [h]
  have hj := splitS_join s
  have hend : ∀ f' l' n', lmEnd f' l' n' = ⟨f, l, n, 0⟩ → lemCk f l n = 0 ∧ f' = f ∧ l' = l ∧ n' = n := by
    intro f' l' n' he
    unfold lmEnd at he
    split at he
    · rename_i hc
      injection he with a b c
      subst a; subst b; subst c
      exact ⟨hc, rfl, rfl, rfl⟩
    · rename_i hc
      injection he with _ _ _ d
      exact absurd d hc
  have hn0 : ∀ e : Int, e ≠ 0 → lm0 e ≠ ⟨f, l, n, 0⟩ := by
    intro e he hq
    injection hq with _ _ _ d
    exact he d
  unfold parseLm at h
  split at h
  · exact absurd h (hn0 4 (by omega))
  split at h
  · exact absurd h (hn0 3 (by omega))
  rename_i hp
  split at h
  · exact absurd h (hn0 3 (by omega))
  rename_i hx
  have hlast : ∀ t, t = lmLast (splitS s) → (ownB t).data.toList ++ (if lmNum t = 0 then [] else 35 :: (itoaB (lmNum t)).data.toList) = t.data.toList := by
    rintro t rfl
    cases hb : hashB (lmLast (splitS s)) with
    | false =>
      unfold lmNum ownB
      rw [hb]; simp
    | true =>
      have hdb : decB (numB (lmLast (splitS s))) = true := by
        cases hq : decB (numB (lmLast (splitS s))) with
        | true => rfl
        | false => rw [hb, hq] at hx; simp at hx
      obtain ⟨d1, d2, _⟩ := dec_back hdb
      have hc := hash_cut hb
      have e : lmNum (lmLast (splitS s)) = decV (numB (lmLast (splitS s))) := by unfold lmNum; rw [if_pos hb]
      rw [e, if_neg (by omega), d1, ← hc]
  split at h
  · rename_i h1
    obtain ⟨q, rfl, rfl, rfl⟩ := hend _ _ _ h
    refine ⟨q, ba_ext ?_⟩
    rw [printT_data, if_pos (show (⟨#[]⟩ : ByteArray).size = 0 from rfl), List.nil_append, hlast _ rfl, ← hj]
    obtain ⟨x, hxx⟩ := List.length_eq_one_iff.1 h1
    unfold lmLast
    rw [hxx]
    simp [Lib.join]
  · split at h
    · exact absurd h (hn0 11 (by omega))
    · rename_i h1 h2
      obtain ⟨h3, h4⟩ : (splitS s).length = 3 ∧ (splitS s).getD 1 ⟨#[]⟩ = ⟨#[43]⟩ := by
        rcases Classical.not_not.1 hp with h | h
        · exact absurd h h1
        · exact h
      obtain ⟨q, rfl, rfl, rfl⟩ := hend _ _ _ h
      refine ⟨q, ba_ext ?_⟩
      rw [printT_data, if_neg h2, List.append_assoc, hlast _ rfl, ← hj]
      unfold lmLast
      match hss : splitS s, h3, h4 with
      | [a, b, c], _, h4 =>
        have hb : b = ⟨#[43]⟩ := h4
        rw [hb]
        show a.data.toList ++ ([32, 43, 32] ++ c.data.toList) = Lib.join [a.data.toList, [43], c.data.toList] [32]
        simp [Lib.join]
end Go.Proofs.YtjhdeoniafahbaaGreatDoor
namespace Go.Proofs.YtjhdeoniafahbaaGreatDoor
def plusB : ByteArray := ⟨#[91, 43, 93]⟩
def minB : ByteArray := ⟨#[91, 45, 93]⟩
def starB : ByteArray := ⟨#[91, 42, 93]⟩
def noneB : ByteArray := ⟨#[91, 93]⟩
def behB : ByteArray := ⟨#[93]⟩
def barB : ByteArray := ⟨#[124]⟩
def spanB (a b : Int) : ByteArray := if a = b then itoaB a else (itoaB a ++ ⟨#[45]⟩) ++ itoaB b
def signsB (p : Int) : List ByteArray := if p = 2 then [plusB] else if p = 3 then [minB] else if p = 4 then [starB] else []
def bracesB (l : List ByteArray) : ByteArray := (⟨#[123]⟩ ++ joinB l) ++ ⟨#[125]⟩
def quoteB (l : List ByteArray) : ByteArray := if l.length = 0 then noneB else joinB l
def oneV (v : Vr) : List ByteArray := [quoteB v.ws, bracesB v.sg]
def varsV (l : List Vr) : List ByteArray := match l with
  | [] => []
  | v :: r => oneV v ++ r.flatMap fun u => barB :: oneV u
def frontL (x : Nt) : List ByteArray := [spanB x.fr x.to_] ++ ((if x.pl = 4 then [] else [printT x.lf x.ll x.ln]) ++ (signsB x.pl ++ (if x.pos = true then [bracesB x.sup] else [])))
def partsN (x : Nt) : List ByteArray := frontL x ++ ([behB] ++ varsV x.vs)
def prN (x : Nt) : ByteArray := joinB (partsN x)
/-- What Print returns. -/
def prE (x : Nt) : Int := if nteI x = 0 then (if 65536 < (prN x).size then 4 else 0) else nteI x
def prS (x : Nt) : ByteArray := if prE x = 0 then prN x else ⟨#[]⟩
theorem varsV_snoc (l : List Vr) (v : Vr) : varsV (l ++ [v]) = (if l.length = 0 then varsV l else varsV l ++ [barB]) ++ oneV v := by
  cases l with
  | nil => simp [varsV]
  | cons a r => simp [varsV, List.append_assoc]
/-- Sizes of what is joined. -/
theorem joinTail_len (n : Nat) : ∀ (r : List (List UInt8)), (∀ x ∈ r, x.length ≤ n) → (Lib.joinTail [32] r).length ≤ r.length * (n + 1)
  | [], _ => by simp [Lib.joinTail]
  | x :: r, h => by
    have ih := joinTail_len n r fun y hy => h y (by simp [hy])
    have hx := h x (by simp)
    unfold Lib.joinTail at ih ⊢
    rw [List.map_cons, List.flatten_cons, List.length_append, List.length_append, show [(32 : UInt8)].length = 1 from rfl, List.length_cons, Nat.succ_mul]
    omega
theorem joinB_len {l : List ByteArray} {n : Nat} (h : ∀ x ∈ l, x.size ≤ n) : (joinB l).size ≤ l.length * (n + 1) := by
  have e : (joinB l).size = (Lib.join (l.map (·.data.toList)) [32]).length := rfl
  rw [e]
  cases l with
  | nil => simp [Lib.join]
  | cons x r =>
    rw [List.map_cons, Lib.join_cons, List.length_append]
    have hx := h x (by simp)
    have ht := joinTail_len n (r.map (·.data.toList)) fun y hy => by
      obtain ⟨z, hz, rfl⟩ := List.mem_map.1 hy
      exact h z (by simp [hz])
    rw [List.length_map] at ht
    have e2 : x.data.toList.length = x.size := rfl
    rw [List.length_cons, Nat.succ_mul]
    omega
/-- Splitting what is joined. -/
theorem cutL_app_any (c : UInt8) (r : List UInt8) : ∀ a : List UInt8, cutL c (a ++ c :: r) = cutL c a ++ cutL c r
  | [] => by simp [cutL]
  | b :: a => by
    have ih := cutL_app_any c r a
    rw [List.cons_append, cutL]
    by_cases h : b = c
    · rw [if_pos h, ih]
      conv => rhs; rw [cutL, if_pos h]
      rfl
    · rw [if_neg h, ih]
      conv => rhs; rw [cutL, if_neg h]
      have hne := cutL_ne c a
      revert hne
      cases cutL c a with
      | nil => intro hne; exact absurd rfl hne
      | cons y t => intro _; rfl
theorem cut_join_any (c : UInt8) : ∀ (x : List UInt8) (r : List (List UInt8)), cutL c (Lib.join (x :: r) [c]) = (x :: r).flatMap (cutL c)
  | x, [] => by rw [Lib.join_one]; simp
  | x, y :: r => by
    have ih := cut_join_any c y r
    rw [Lib.join_cons, Lib.joinTail] at ih
    rw [Lib.join_cons, Lib.joinTail, List.map_cons, List.flatten_cons, List.singleton_append, List.cons_append, cutL_app_any, ih]
    simp
theorem split_join_any {l : List ByteArray} (h : l ≠ []) : splitS (joinB l) = l.flatMap splitS := by
  refine map_data_inj ?_
  rw [splitS_data]
  obtain ⟨x, r, rfl⟩ := List.exists_cons_of_ne_nil h
  have e : (joinB (x :: r)).data.toList = Lib.join ((x :: r).map (·.data.toList)) [32] := by simp [joinB]
  rw [e, List.map_cons, cut_join_any, show x.data.toList :: r.map (·.data.toList) = (x :: r).map (·.data.toList) from rfl]
  rw [List.flatMap_map, List.map_flatMap]
  congr 1
  funext y
  exact (splitS_data y).symm
theorem split_word {s : ByteArray} (h : (32 : UInt8) ∉ s.data.toList) : splitS s = [s] := split_of (by rw [cutL_none h]; rfl)
theorem split_words {l : List ByteArray} (h : ∀ x ∈ l, (32 : UInt8) ∉ x.data.toList) : l.flatMap splitS = l := by
  induction l with
  | nil => rfl
  | cons x r ih => rw [List.flatMap_cons, split_word (h x (by simp)), ih fun y hy => h y (by simp [hy])]; rfl
end Go.Proofs.YtjhdeoniafahbaaGreatDoor
namespace Go.Proofs.YtjhdeoniafahbaaGreatDoor
def lbrB : ByteArray := ⟨#[123]⟩
def rbrB : ByteArray := ⟨#[125]⟩
def opensB (s : ByteArray) : Bool := cutPB s lbrB
def inrB (l : List ByteArray) : ByteArray := cutXS (cutPS (joinB l) lbrB) rbrB
/-- Sigla between braces, of which all parts consist. -/
def sigOk (l : List ByteArray) : Bool := cutPB (joinB l) lbrB && cutXB (cutPS (joinB l) lbrB) rbrB
def sigL (l : List ByteArray) : List ByteArray := if sigOk l = true then (if (inrB l).size = 0 then [] else splitS (inrB l)) else []
def unqI (s : ByteArray) : Int := if 65536 < s.size then 4 else if s = noneB then 0 else if lcheckI (splitS s) = 0 then 0 else 3
def unqL (s : ByteArray) : List ByteArray := if 65536 < s.size then [] else if s = noneB then [] else if lcheckI (splitS s) = 0 then splitS s else []
def openI (l : List ByteArray) : Int := fIdx opensB l
def vrB (l : List ByteArray) : Bool := decide (0 ≤ openI l) && (decide (unqI (joinB (l.take (openI l).toNat)) = 0) && sigOk (l.drop (openI l).toNat))
def vrP (l : List ByteArray) : Vr := if openI l < 0 then ⟨[], []⟩ else ⟨unqL (joinB (l.take (openI l).toNat)), sigL (l.drop (openI l).toNat)⟩
def barsP : List ByteArray → List (List ByteArray)
  | [] => [[]]
  | x :: r => if x = barB then [] :: barsP r else match barsP r with
    | [] => [[x]]
    | h :: t => (x :: h) :: t
/-- The first and the last line. -/
def dashB (s : ByteArray) : ByteArray × ByteArray × Bool := (⟨(Lib.cut s.data.toList [45]).1.toArray⟩, ⟨(Lib.cut s.data.toList [45]).2.1.toArray⟩, (Lib.cut s.data.toList [45]).2.2)
def lstB (s : ByteArray) : ByteArray := if (dashB s).2.2 = true then (dashB s).2.1 else (dashB s).1
def atoB (s : ByteArray) : Bool := match Lib.atoiAll s.data.toList with
  | .ok _ => true
  | _ => false
def lineB (s : ByteArray) : Bool := atoB (dashB s).1 && (atoB (lstB s) && decide (spanB (decV (dashB s).1) (decV (lstB s)) = s))
def restP (l : List ByteArray) : List ByteArray := l.drop 1
def ownP (l : List ByteArray) : List ByteArray := if openI (restP l) < 0 then restP l else (restP l).take (openI (restP l)).toNat
def supB (l : List ByteArray) : Bool := decide (0 ≤ openI (restP l))
def supL (l : List ByteArray) : List ByteArray := if openI (restP l) < 0 then [] else sigL ((restP l).drop (openI (restP l)).toNat)
def supOk (l : List ByteArray) : Bool := decide (openI (restP l) < 0) || sigOk ((restP l).drop (openI (restP l)).toNat)
def plcI (l : List ByteArray) : Int := if l.length = 0 then 1 else if l.getD (l.length - 1) ⟨#[]⟩ = plusB then 2 else if l.getD (l.length - 1) ⟨#[]⟩ = minB then 3 else if l.getD (l.length - 1) ⟨#[]⟩ = starB then 4 else 1
def lemP (l : List ByteArray) : List ByteArray := if plcI l = 1 then l else l.take (l.length - 1)
def hdLm (l : List ByteArray) : LmR := if plcI (ownP l) = 4 then lm0 0 else parseLm (joinB (lemP (ownP l)))
/-- What stands ahead of the ]. -/
def hdB (l : List ByteArray) : Bool := lineB (l.getD 0 ⟨#[]⟩) && (supOk l && (if plcI (ownP l) = 4 then decide ((lemP (ownP l)).length = 0) else decide ((hdLm l).e = 0)))
def hdP (l : List ByteArray) : Nt := ⟨decV (dashB (l.getD 0 ⟨#[]⟩)).1, decV (lstB (l.getD 0 ⟨#[]⟩)), plcI (ownP l), (hdLm l).f, (hdLm l).l, (hdLm l).n, supB l, supL l, []⟩
def endI (l : List ByteArray) : Int := fIdx (fun x => decide (x = behB)) l
def frP (s : ByteArray) : List ByteArray := (splitS s).take (endI (splitS s)).toNat
def grpsP (s : ByteArray) : List (List ByteArray) := barsP ((splitS s).drop ((endI (splitS s)).toNat + 1))
def noteP (s : ByteArray) : Nt := { hdP (frP s) with vs := (grpsP s).map vrP }
def okP (s : ByteArray) : Bool := decide (0 < endI (splitS s)) && (hdB (frP s) && ((grpsP s).all vrB && (decide (prE (noteP s) = 0) && decide (prN (noteP s) = s))))
def nt0 : Nt := ⟨0, 0, 0, ⟨#[]⟩, ⟨#[]⟩, 0, false, [], []⟩
def parN (s : ByteArray) : Nt := if okP s = true then noteP s else nt0
def parI (s : ByteArray) : Int := if okP s = true then 0 else if 65536 < s.size then 4 else 3
end Go.Proofs.YtjhdeoniafahbaaGreatDoor
namespace Go.Proofs.YtjhdeoniafahbaaGreatDoor
open Go.RowKit Go.Maps
theorem keyI : Keyed Tryz.prog 3 := int_keyed Tryz.underlying3
noncomputable abbrev sgR : Value → Option (DataW Unit × List MemPlace) := plainElem Tryz.prog 9
noncomputable def sgD : DataW Unit := (((DataW.map []).put (.int .i64 2) (.lit (.string plusB.data.toList))).put (.int .i64 3) (.lit (.string minB.data.toList))).put (.int .i64 4) (.lit (.string starB.data.toList))
def SgM (W : World) (r : Nat) : Prop := W.ownsMap Tryz.prog 3 sgR r 3 sgD
theorem sgD_eq : sgD = .map [(.int .i64 2, .lit (.string [91, 43, 93])), (.int .i64 3, .lit (.string [91, 45, 93])), (.int .i64 4, .lit (.string [91, 42, 93]))] := by rfl
theorem SgM.below {W W' : World} {r : Nat} (h : SgM W r) (hb : Below W.heap.size W W') : SgM W' r := h.kept (row := none) ⟨hb.os, hb.tape, hb.output, hb.size, fun k hk _ => hb.block k hk⟩ (by simp)
theorem sg_store (W : World) (r n : Nat) (D : DataW Unit) (h : W.ownsMap Tryz.prog 3 sgR r n D) (hn : n ≤ 3) (p : Int) (hw : (Lit.int .i64 p).wf = true) (s : ByteArray) (hs : s.size ≤ 9) :
    ∃ W', (Instr.mapUpdate 78 (.map (some r)) (.int .i64 p) (.string s)).run Tryz.prog W = .ok () W' ∧ W'.ownsMap Tryz.prog 3 sgR r (n + 1) (D.put (.int .i64 p) (.lit (.string s.data.toList))) ∧ W.grownBy W' (some r) := by
  obtain ⟨W', h1, h2, h3⟩ := h.store keyI Tryz.underlying78 (by unfold maxLen; omega) (keyOf_int_mk Tryz.underlying3 hw) (plainElem_string Tryz.underlying9 (s := s) (by unfold maxLen; omega))
  exact ⟨W', h1, h2, h3.grown⟩
set_option maxHeartbeats 1000000 in
theorem signs_any (w : World) : Calls Tryz.prog 51 #[] w fun e w' => ∃ r, e = .returned (.map (some r)) ∧ SgM w' r ∧ Below w.heap.size w w' ∧ w.heap.size ≤ r := by
  have hmm := @run_makeMap Tryz.prog
  have o0 := World.ownsMap_made w Tryz.prog 3 sgR
  have b0 := below_al w (.map #[] 0)
  obtain ⟨W1, r1, o1, g1⟩ := sg_store _ _ 0 _ o0 (by omega) 2 (by decide) plusB (by decide)
  obtain ⟨W2, r2, o2, g2⟩ := sg_store _ _ 1 _ o1 (by omega) 3 (by decide) minB (by decide)
  obtain ⟨W3, r3, o3, g3⟩ := sg_store _ _ 2 _ o2 (by omega) 4 (by decide) starB (by decide)
  have hb1 := b0.grown g1 (by simp) (fun k e => by cases e; exact Nat.le_refl _)
  have hb2 := hb1.grown g2 hb1.size (fun k e => by cases e; exact Nat.le_refl _)
  have HB3 := hid (hb2.grown g3 hb2.size (fun k e => by cases e; exact Nat.le_refl _))
  have HO := hid o3
  unfold plusB at r1
  unfold minB at r2
  unfold starB at r3
  clear o0 b0 o1 o2 o3 g1 g2 g3 hb1 hb2
  go_enter Tryz.func51, Tryz.ntmps51
  go_wp2
  go_ret
  exact ⟨_, rfl, HO.out, HB3.out, Nat.le_refl _⟩
def sgS (p : Int) : ByteArray := if p = 2 then plusB else if p = 3 then minB else if p = 4 then starB else ⟨#[]⟩
theorem ba_toL {s t : ByteArray} (h : s.data.toList = t.data.toList) : s = t := ba_ext h
set_option maxRecDepth 100000 in
theorem sg_look {W : World} {r : Nat} (h : SgM W r) (p : Int) (h1 : 1 ≤ p) (h4 : p ≤ 4) :
    (Instr.lookup 78 (.map (some r)) (.int .i64 p) true).run Tryz.prog W = .ok (.tuple #[.string (sgS p), .bool (decide (p ≠ 1))]) W := by
  have hp : p = 1 ∨ p = 2 ∨ p = 3 ∨ p = 4 := by omega
  have hw : (Lit.int .i64 p).wf = true := by rcases hp with rfl | rfl | rfl | rfl <;> decide
  obtain ⟨v, ps, hrun, hv⟩ := World.ownsMap.look_ok (z := .string ⟨#[]⟩) (zd := .lit (.string [])) (zp := []) h keyI Tryz.underlying78 (by kernel_rfl) (plainElem_string Tryz.underlying9 (s := ⟨#[]⟩) (by decide)) (keyOf_int_mk Tryz.underlying3 hw)
  obtain ⟨s, rfl, hz, _⟩ := plainElem_string_inv Tryz.underlying9 hv
  have hz2 : DataW.atKey sgD (.int .i64 p) (.lit (.string [])) = .lit (.string s.data.toList) := congrArg Prod.fst hz
  rw [hrun]
  rcases hp with rfl | rfl | rfl | rfl
  · have e1 : DataW.atKey sgD (.int .i64 1) (.lit (.string [])) = .lit (.string []) := by rw [sgD_eq]; rfl
    rw [e1] at hz2
    obtain rfl : s = ⟨#[]⟩ := ba_toL (Lit.string.inj (DataW.lit.inj hz2)).symm
    rw [show Maps.has sgD (.int .i64 1) = false by rw [sgD_eq]; rfl]; rfl
  · have e1 : DataW.atKey sgD (.int .i64 2) (.lit (.string [])) = .lit (.string plusB.data.toList) := by rw [sgD_eq]; rfl
    rw [e1] at hz2
    obtain rfl : s = plusB := ba_toL (Lit.string.inj (DataW.lit.inj hz2)).symm
    rw [show Maps.has sgD (.int .i64 2) = true by rw [sgD_eq]; rfl]; rfl
  · have e1 : DataW.atKey sgD (.int .i64 3) (.lit (.string [])) = .lit (.string minB.data.toList) := by rw [sgD_eq]; rfl
    rw [e1] at hz2
    obtain rfl : s = minB := ba_toL (Lit.string.inj (DataW.lit.inj hz2)).symm
    rw [show Maps.has sgD (.int .i64 3) = true by rw [sgD_eq]; rfl]; rfl
  · have e1 : DataW.atKey sgD (.int .i64 4) (.lit (.string [])) = .lit (.string starB.data.toList) := by rw [sgD_eq]; rfl
    rw [e1] at hz2
    obtain rfl : s = starB := ba_toL (Lit.string.inj (DataW.lit.inj hz2)).symm
    rw [show Maps.has sgD (.int .i64 4) = true by rw [sgD_eq]; rfl]; rfl
end Go.Proofs.YtjhdeoniafahbaaGreatDoor
namespace Go.Proofs.YtjhdeoniafahbaaGreatDoor
open Go.RowKit
attribute [local go_sem] Oper.semAt_some
/-- How long the slice in a box is. -/
def vLen (W : World) (B : Nat) : Nat := match W.cell? ⟨B, 0, none⟩ with | some (.slice _ n _) => n | _ => 0
theorem vLen_eq {W : World} {B : Nat} {a : Option Addr} {n c : Nat} (h : W.cell? ⟨B, 0, none⟩ = some (.slice a n c)) : vLen W B = n := by unfold vLen; rw [h]
set_option maxHeartbeats 400000 in
theorem idxS_any (v : Value) (l : List ByteArray) (s : ByteArray) (w : World) (hr : RdS w v l) :
    Calls Tryz.prog 102 #[v, .string s] w fun e w' => e = .returned (.int .i64 (fIdx (fun x => decide (x = s)) l)) ∧ w = w' := by
  obtain ⟨a, cap, rfl, hlc, hcm, hcell⟩ := hr.open
  have HCell := hid hcell; clear hcell hr
  go_enter Tryz.func102, Tryz.ntmps102
  go_wp2
  go_loopw [8] (fun i wr => ∃ k : Nat, k ≤ l.length ∧ i = .int .i64 k ∧ Hid (∀ y ∈ l.take k, decide (y = s) = false) ∧ w = wr) (fun i _ => l.length - (intOf i).toNat)
  case atStart => exact ⟨0, Nat.zero_le _, rfl, by simp [Hid], rfl⟩
  case round =>
    rename_i wr
    obtain ⟨k, hk, rfl, HK, rfl⟩ := hrel
    by_cases hlt : k < l.length
    · obtain ⟨x, b, off, hx, rfl, hc⟩ := HCell.out k hlt
      have HX := hid hx; clear hx
      have hb := ba_beq s x
      by_cases hp : x = s
      · have HP := hid hp
        rw [decide_eq_true hp.symm] at hb
        clear hp
        go_wp2
        go_ret
        exact ⟨ret_int (fIdx_hit _ l k x HK.out HX.out (decide_eq_true HP.out)).symm, rfl⟩
      · have HP := hid hp
        rw [decide_eq_false (fun e => hp e.symm)] at hb
        have hb2 : ¬ s.toList = x.toList := fun e => by rw [e] at hb; simp at hb
        clear hp
        go_wp2
        go_roundw
        case rel => exact ⟨k + 1, by omega, by go_num, take_none HK.out HX.out (decide_eq_false HP.out), trivial⟩
        case measure => simp [intOf]; omega
    · go_wp2
      go_ret
      refine ⟨ret_int ?_, rfl⟩
      have h := HK.out
      rw [List.take_of_length_le (by omega)] at h
      exact (fIdx_none _ l h).symm
/-- A group of parts: where it begins, how many it has, its slice. -/
structure Gp (ws : List ByteArray) (b off : Nat) where
  i : Nat
  n : Nat
  c : Nat
  a : Option Addr
  hin : i + n ≤ ws.length
  hnc : n ≤ c
  hcm : c ≤ maxLen
  ha : 0 < n → a = some ⟨b, off + i, none⟩
def Gp.v {ws : List ByteArray} {b off : Nat} (g : Gp ws b off) : Value := .slice g.a g.n g.c
def Gp.l {ws : List ByteArray} {b off : Nat} (g : Gp ws b off) : List ByteArray := (ws.drop g.i).take g.n
theorem Gp.rd {ws : List ByteArray} {b off : Nat} (g : Gp ws b off) {W : World} {A0 : Option Addr} {c0 : Nat} (h : RdS W (.slice A0 ws.length c0) ws) (hA : 0 < ws.length → A0 = some ⟨b, off, none⟩) : RdS W g.v g.l := by
  have hin := g.hin
  refine ⟨g.a, g.c, ?_, ?_, g.hcm, fun j x hx => ?_⟩
  · unfold Gp.v Gp.l; rw [List.length_take, List.length_drop, Nat.min_eq_left (by omega)]
  · unfold Gp.l; rw [List.length_take, List.length_drop]; have := g.hnc; omega
  · unfold Gp.l at hx
    have hj : j < g.n := by have := (List.getElem?_eq_some_iff.1 hx).1; rw [List.length_take] at this; omega
    rw [List.getElem?_take, if_pos hj, List.getElem?_drop] at hx
    obtain ⟨a', cap', e1, h2, h3, h4⟩ := h
    obtain ⟨b', off', e, hc⟩ := h4 _ x hx
    rw [hA (by omega)] at e1
    cases e1
    cases e
    exact ⟨b, off + g.i, g.ha (by omega), by rw [Nat.add_assoc]; exact hc⟩
theorem barsP_neg {l : List ByteArray} (h : fIdx (fun x => decide (x = barB)) l = -1) : barsP l = [l] := by
  have : ∀ t ∈ l, t ≠ barB := by
    intro t ht e
    have h2 := fIdx_pos (fun x => decide (x = barB)) l
    rw [h, List.any_eq_true.2 ⟨t, ht, decide_eq_true e⟩] at h2
    cases h2
  clear h
  induction l with
  | nil => rfl
  | cons x r ih => rw [barsP, if_neg (this x (by simp)), ih fun t ht => this t (by simp [ht])]
theorem barsP_pos : ∀ {l : List ByteArray} {k : Nat}, fIdx (fun x => decide (x = barB)) l = (k : Int) → barsP l = l.take k :: barsP (l.drop (k + 1))
  | [], k, h => by simp [fIdx] at h
  | x :: r, k, h => by
    by_cases hx : x = barB
    · have h0 : fIdx (fun x => decide (x = barB)) (x :: r) = 0 := fIdx_hit _ (x :: r) 0 x (by simp) (by simp) (decide_eq_true hx)
      obtain rfl : k = 0 := by omega
      rw [barsP, if_pos hx]; simp
    · have hd : decide (x = barB) = false := decide_eq_false hx
      have hf : fIdx (fun x => decide (x = barB)) (x :: r) = if fIdx (fun x => decide (x = barB)) r < 0 then -1 else fIdx (fun x => decide (x = barB)) r + 1 := by
        unfold fIdx
        rw [List.findIdx?_cons, hd]
        cases List.findIdx? (fun x => decide (x = barB)) r with
        | none => rfl
        | some i => simp; omega
      rw [hf] at h
      split at h
      · omega
      · obtain ⟨j, rfl⟩ : ∃ j, k = j + 1 := ⟨k - 1, by omega⟩
        have ih := barsP_pos (l := r) (k := j) (by omega)
        rw [barsP, if_neg hx, ih]; simp
set_option maxHeartbeats 400000 in
theorem variants_any (a : Option Addr) (n c : Nat) (w : World) :
    Calls Tryz.prog 61 #[.slice a n c] w fun e w' => e = .returned (.func (.func 101) #[] #[.pointer (some ⟨w.heap.size, 0, none⟩)]) ∧ w.alloc (.cells #[.slice a n c] 23) = w' := by
  go_enter Tryz.func61, Tryz.ntmps61
  go_wp2
  go_ret
  exact ⟨rfl, rfl⟩
set_option maxHeartbeats 4000000 in
set_option maxRecDepth 100000 in
theorem vgo_in (n : Nat) (hn : 1 ≤ n) (ws : List ByteArray) (A0 : Option Addr) (b off c0 B2 : Nat) (hA0 : 0 < ws.length → A0 = some ⟨b, off, none⟩) (hlc : ws.length ≤ c0) (hcm : c0 ≤ 9223372036854775807) (hwl : ws.length ≤ 1048576)
    (n₁ Bo : Nat) (h2n : B2 < n₁) (hbn : 0 < ws.length → b < n₁) (h2o : B2 ≠ Bo) (hbo : 0 < ws.length → b ≠ Bo) (hb2 : 0 < ws.length → b ≠ B2)
    (l : Nat) (J Jx : List (Gp ws b off) → World → Prop) (w : World) (hJA : AbidesFrom w.heap.size J) (hJS : ∀ pre W1 v, J pre W1 → J pre (W1.setCell ⟨B2, 0, none⟩ v))
    (hY : ∀ pre x W, J pre W → pre.length < ws.length + 1 → YieldAt Fence.wide (n - 1) Tryz.prog l #[x.v] W fun e W' => (e = .returned (.bool true) ∧ J (pre ++ [x]) W' ∧ KpX n₁ Bo Bo W W') ∨ (e = .returned (.bool false) ∧ Jx (pre ++ [x]) W'))
    (hbx2 : Boxed w B2 23 (.slice A0 ws.length c0)) (hrw : RdS w (.slice A0 ws.length c0) ws) (h0 : J [] w) :
    CallsIn Fence.wide n Tryz.prog 101 #[.func (.yield l) #[] #[], .pointer (some ⟨B2, 0, none⟩)] w fun e W' => (∃ v, e = .returned v) ∧
      ((∃ xs : List (Gp ws b off), xs.map Gp.l = barsP ws ∧ J xs W') ∨ (∃ pre : List (Gp ws b off), (∃ r, pre.map Gp.l ++ r = barsP ws) ∧ Jx pre W')) := by
  have HY := hid hY; clear hY
  have HJA := hid hJA; clear hJA
  have HJS := hid hJS; clear hJS
  have HA0 := hid hA0; clear hA0
  have HWL := hid hwl; clear hwl
  have HBN := hid hbn; clear hbn
  have HBO := hid hbo; clear hbo
  have HB2 := hid hb2; clear hb2
  refine callsIn_of_wp Tryz.func101 rfl trivial ?_ rfl
  simp only [Tryz.ntmps101, List.size_toArray, List.length_cons, List.length_nil, Nat.reduceAdd, Nat.reduceSub, Array.replicate_succ, Array.replicate_zero, List.push_toArray, List.append_toArray, List.nil_append, List.cons_append]
  gi_wp2
  gi_loopw [] (fun wr => ∃ (j m c : Nat) (pre : List (Gp ws b off)) (A : Option Addr), Hid (j + m = ws.length) ∧ m ≤ c ∧ c ≤ 9223372036854775807 ∧ Hid (pre.map Gp.l ++ barsP (ws.drop j) = barsP ws) ∧ Hid (pre.length ≤ j) ∧ J pre wr ∧ Boxed wr B2 23 (.slice A m c) ∧ Hid (0 < m → A = some ⟨b, off + j, none⟩) ∧ Hid (RdS wr (.slice A0 ws.length c0) ws) ∧ w.heap.size ≤ wr.heap.size)
    (fun wr => vLen wr B2)
  case atStart => exact ⟨0, ws.length, c0, [], _, Nat.zero_add _, hlc, hcm, by simp [Hid], Nat.le_refl 0, h0, hbx2, HA0.out, hrw, Nat.le_refl _⟩
  case round =>
    rename_i wr
    obtain ⟨j, m, c, pre, A, HM, hmc, hcm2, HP, HL, hJ, hbx, HA, HR, hsz⟩ := hrel
    have hcb := hbx.cell
    have hwm : m ≤ 1048576 := by have := HM.out; have := HWL.out; omega
    have hg0 : RdS wr (.slice A m c) (ws.drop j) := by
      have h := Gp.rd (ws := ws) (b := b) (off := off) ⟨j, m, c, A, by have := HM.out; omega, hmc, by unfold maxLen; omega, HA.out⟩ HR.out HA0.out
      unfold Gp.v Gp.l at h
      dsimp only at h
      rwa [List.take_of_length_le (by rw [List.length_drop]; have := HM.out; omega)] at h
    have HI := hid (idxS_any (.slice A m c) (ws.drop j) barB wr hg0)
    have hdl : (ws.drop j).length = m := by rw [List.length_drop]; have := HM.out; omega
    rcases fIdx_cases (fun x => decide (x = barB)) (ws.drop j) with hI | ⟨k, x, hI, hx, hk, hp⟩
    · have HB := hid (barsP_neg hI)
      rw [hI] at HI
      unfold barB at HI
      clear hI
      obtain ⟨g, hg⟩ : ∃ g : Gp ws b off, g = ⟨j, m, c, A, by have := HM.out; omega, hmc, by unfold maxLen; omega, HA.out⟩ := ⟨_, rfl⟩
      have hgv : g.v = .slice A m c := by rw [hg]; rfl
      have hgl : g.l = ws.drop j := by rw [hg]; unfold Gp.l; dsimp only; exact List.take_of_length_le (by omega)
      have HP2 : Hid ((pre ++ [g]).map Gp.l = barsP ws) := by
        show _ = _
        rw [List.map_append, List.map_singleton, hgl, ← HB.out]; exact HP.out
      have HYk := hid (HY.out pre g wr hJ (by have := HL.out; have := HM.out; omega))
      rw [hgv] at HYk
      clear hg hgl hgv HB HP
      obtain ⟨fn, tmps, assign, body, hy, hRr⟩ := HYk.out
      try dsimp only at hy
      gi_wp2_with (first | (refine ⟨trivial, ?_⟩; gi_at_call 102; refine (callsIn_wide.2 HI.out).mono ?_; rintro e w' ⟨rfl, rfl⟩) | fail)
      refine hRr.mono ?_
      rintro e W3 (⟨rfl, hJ3, hk3⟩ | ⟨rfl, hJ3⟩)
      · gi_wp2
        refine bodyPost_ret (results_none rfl _ _ _) rfl ?_
        exact ⟨⟨_, rfl⟩, .inl ⟨_, HP2.out, hJ3⟩⟩
      · gi_wp2
        refine bodyPost_ret (results_none rfl _ _ _) rfl ?_
        exact ⟨⟨_, rfl⟩, .inr ⟨_, ⟨[], by rw [List.append_nil]; exact HP2.out⟩, hJ3⟩⟩
    · have HB := hid (barsP_pos hI)
      rw [hI] at HI
      unfold barB at HI
      have hm0 : 0 < m := by omega
      obtain rfl := HA.out hm0
      have hkm : k < m := by omega
      obtain ⟨g, hg⟩ : ∃ g : Gp ws b off, g = ⟨j, k, c, some ⟨b, off + j, none⟩, by have := HM.out; omega, by omega, by unfold maxLen; omega, fun _ => rfl⟩ := ⟨_, rfl⟩
      have hgv : g.v = .slice (some ⟨b, off + j, none⟩) k c := by rw [hg]; rfl
      have hgl : g.l = (ws.drop j).take k := by rw [hg]; rfl
      have HP2 : Hid ((pre ++ [g]).map Gp.l ++ barsP (ws.drop (j + (k + 1))) = barsP ws) := by
        show _ = _
        rw [List.map_append, List.map_singleton, hgl, List.append_assoc, List.singleton_append, ← List.drop_drop, ← HB.out]; exact HP.out
      have HYk := hid (HY.out pre g wr hJ (by have := HL.out; have := HM.out; omega))
      rw [hgv] at HYk
      have hws0 : 0 < ws.length := by have := HM.out; omega
      clear hg hgl hgv HB HP hI hx hp hdl hg0
      obtain ⟨fn, tmps, assign, body, hy, hRr⟩ := HYk.out
      try dsimp only at hy
      have q0 : ¬ (k : Int) < 0 := by omega
      have q1 : (0 : Int) ≤ (k : Int) := by omega
      have q2 : (k : Int) ≤ (c : Int) := by omega
      have q3 : k ≤ c := by omega
      have q4 : (k : Int) ≤ (m : Int) := by omega
      have u0 : IntKind.i64.wrap ((k : Int) + 1) = ((k + 1 : Nat) : Int) := IntWalk.i64_in _ (by omega)
      have u1 : (0 : Int) ≤ ((k + 1 : Nat) : Int) := by omega
      have u2 : ((k + 1 : Nat) : Int) ≤ (m : Int) := by omega
      have u3 : ((k + 1 : Nat) : Int) ≤ (c : Int) := by omega
      have u4 : k + 1 ≤ m := by omega
      have u5 : k + 1 ≤ c := by omega
      gi_wp2_with (first | (refine ⟨trivial, ?_⟩; gi_at_call 102; refine (callsIn_wide.2 HI.out).mono ?_; rintro e w' ⟨rfl, rfl⟩) | fail)
      refine hRr.mono ?_
      rintro e W3 (⟨rfl, hJ3, hk3⟩ | ⟨rfl, hJ3⟩)
      · have hbx3 : Boxed W3 B2 23 (.slice (some ⟨b, off + j, none⟩) m c) := (hk3.2 B2 h2n h2o h2o).trans hbx
        have hrr3 : RdS W3 (.slice A0 ws.length c0) ws := HR.out.blk (fun k hk => by
          rw [HA0.out hws0] at hk
          cases hk
          exact hk3.2 b (HBN.out hws0) (HBO.out hws0) (HBO.out hws0))
        have hcb3 := hbx3.cell
        have hfb3 := hbx3.frozen
        have hsz3 : w.heap.size ≤ W3.heap.size := Nat.le_trans hsz hk3.1
        have hJ4 := fun v => HJS.out _ _ v hJ3
        have hrr4 := fun v => hrr3.blk (W' := W3.setCell ⟨B2, 0, none⟩ v) (fun k hk => by
          rw [HA0.out hws0] at hk
          cases hk
          exact Below.heap_setCell _ _ _ _ (by have := HB2.out hws0; simpa using this))
        have hsz4 : ∀ v, w.heap.size ≤ (W3.setCell ⟨B2, 0, none⟩ v).heap.size := fun v => by
          show w.heap.size ≤ (Array.modify _ _ _).size
          rw [Array.size_modify]; exact hsz3
        have HLn : Hid ((pre ++ [g]).length ≤ j + (k + 1)) := by show _ ≤ _; rw [List.length_append, List.length_singleton]; have := HL.out; omega
        have HMn : Hid (j + (k + 1) + (m - (k + 1)) = ws.length) := by show _ = _; have := HM.out; omega
        by_cases hc : c = k + 1
        · obtain rfl : m = k + 1 := by omega
          subst hc
          have hn4 := (hbx3.set (.slice (some ⟨b, off + j, none⟩) 0 0)).cell
          gi_wp2
          go_roundw
          case rel => exact ⟨j + (k + 1), 0, 0, pre ++ [g], _, by have := HMn.out; show _ = _; omega, Nat.le_refl _, Nat.zero_le _, HP2.out, HLn.out, hJ4 _, hbx3.set _, fun h => absurd h (by omega), hrr4 _, hsz4 _⟩
          case measure => rw [vLen_eq hn4, vLen_eq hcb]; omega
        · have hn4 := (hbx3.set (.slice (some ⟨b, off + j + (k + 1), none⟩) (m - (k + 1)) (c - (k + 1)))).cell
          gi_wp2
          go_roundw
          case rel => exact ⟨j + (k + 1), m - (k + 1), c - (k + 1), pre ++ [g], _, HMn.out, by omega, by omega, HP2.out, HLn.out, hJ4 _, hbx3.set _, fun _ => by rw [Nat.add_assoc], hrr4 _, hsz4 _⟩
          case measure => rw [vLen_eq hn4, vLen_eq hcb]; omega
      · gi_wp2
        refine bodyPost_ret (results_none rfl _ _ _) rfl ?_
        exact ⟨⟨_, rfl⟩, .inr ⟨_, ⟨_, HP2.out⟩, hJ3⟩⟩
end Go.Proofs.YtjhdeoniafahbaaGreatDoor
namespace Go.Proofs.YtjhdeoniafahbaaGreatDoor
open Go.RowKit
/-- Strings that are no longer than may be read. -/
def Sz16 (l : List ByteArray) : Prop := ∀ s ∈ l, s.size ≤ 65536
structure SzN (x : Nt) : Prop where
  lf : x.lf.size ≤ 65536
  ll : x.ll.size ≤ 65536
  sup : Sz16 x.sup
  vs : ∀ v ∈ x.vs, Sz16 v.ws ∧ Sz16 v.sg
/-- The cells of a note. -/
structure RdN (W : World) (u s : Value) (x : Nt) : Prop where
  rs : RdS W u x.sup
  rv : RdV W s x.vs
theorem RdN.below {W W' : World} {u s : Value} {x : Nt} (h : RdN W u s x) (hb : Below W.heap.size W W') : RdN W' u s x := ⟨h.rs.below hb, h.rv.below hb⟩
theorem ba_nil0 {s : ByteArray} (h : s.size = 0) : s = ⟨#[]⟩ := ba_ext (List.eq_nil_of_length_eq_zero (by rw [Array.length_toList]; exact h))
/-- A lemma that is not empty differs from the empty one. -/
theorem toL_ne {s : ByteArray} (h : ¬ s.size = 0) : ¬ s.toList = [] := fun e => by have := mt_ne h; rw [e] at this; cases this
theorem lem_ne {lf ll : ByteArray} {ln : Int} (h : (decide (lf.size = 0) && decide (ll.size = 0) && decide (ln = 0)) = false) : (¬ lf.toList = []) ∨ (lf.size = 0 ∧ ¬ ll.toList = []) ∨ (lf.size = 0 ∧ ll.size = 0 ∧ ¬ ln = 0) := by
  by_cases h1 : lf.size = 0
  · by_cases h2 : ll.size = 0
    · refine .inr (.inr ⟨h1, h2, fun h3 => ?_⟩)
      rw [h1, h2, h3] at h; simp at h
    · exact .inr (.inl ⟨h1, toL_ne h2⟩)
  · exact .inl (toL_ne h1)
set_option maxRecDepth 100000 in
set_option maxHeartbeats 4000000 in
theorem head_any (x : Nt) (u s : Value) (w : World) (he : Env w) (hr : RdN w u s x) (hz : SzN x) :
    Calls Tryz.prog 54 #[.agg (x.cells u s)] w fun e w' => e = .returned (.int .i64 (headI x)) ∧ Below w.heap.size w w' := by
  obtain ⟨fr, to_, pl, lf, ll, ln, pos, sup, vs⟩ := x
  obtain ⟨hu, hs⟩ := hr
  simp only at hu hs
  obtain ⟨au, cu, rfl, hlu, hmu, _⟩ := hu.open
  obtain ⟨av, cv, rfl, hlv, hmv, _⟩ := hs.open
  unfold Nt.cells
  simp only
  have HB0 := hid (below_al w (.cells #[.int .i64 fr, .int .i64 to_, .int .i64 pl, .string lf, .string ll, .int .i64 ln, .bool pos, .slice au sup.length cu, .slice av vs.length cv] 30))
  have HR0 := hid (row_nw w #[.int .i64 fr, .int .i64 to_, .int .i64 pl, .string lf, .string ll, .int .i64 ln, .bool pos, .slice au sup.length cu, .slice av vs.length cv] 30 rfl)
  have HO := fun w' (h : Below w.heap.size w w') => hid (podd_any (.slice au sup.length cu) sup w' (hu.below h) hz.sup)
  have HL := fun w' (h : Below w.heap.size w w') => hid (lck_any lf ll ln w' (he.below h) hz.lf hz.ll)
  have HD : Hid (headI ⟨fr, to_, pl, lf, ll, ln, pos, sup, vs⟩ = if fr < 1 ∨ to_ < fr ∨ 4096 < to_ then 2 else if pl < 1 ∨ 4 < pl then 8
    else if pl = 4 ∧ (decide (lf.size = 0) && decide (ll.size = 0) && decide (ln = 0)) = false then 9
    else if pl ≠ 4 ∧ lemCk lf ll ln ≠ 0 then lemCk lf ll ln
    else if pl ≠ 4 ∧ pl ≠ 1 ∧ ll.size ≠ 0 then 9
    else if 0 < sup.length ∧ pos = false then 9 else if 4096 < sup.length then 4 else if (sup.any fun s => !sigB s) = true then 14
    else if vs.length = 0 then 5 else if 4096 < vs.length then 4 else 0) := rfl
  clear hu hs hz he
  generalize headI ⟨fr, to_, pl, lf, ll, ln, pos, sup, vs⟩ = r at *
  generalize lemCk lf ll ln = lc at *
  generalize (sup.any fun s => !sigB s) = od at *

  by_cases k1 : fr < 1
  · have HV : Hid (r = 2) := by show _ = _; rw [HD.out, if_pos (.inl k1)]
    clear HD HO HL
    go_enter Tryz.func54, Tryz.ntmps54
    go_wp2
    go_ret
    exact ⟨ret_int HV.out.symm, HB0.out⟩
  by_cases k2 : to_ < fr
  · have HV : Hid (r = 2) := by show _ = _; rw [HD.out, if_pos (.inr (.inl k2))]
    clear HD HO HL
    go_enter Tryz.func54, Tryz.ntmps54
    go_wp2
    go_ret
    exact ⟨ret_int HV.out.symm, HB0.out⟩
  by_cases k3 : 4096 < to_
  · have HV : Hid (r = 2) := by show _ = _; rw [HD.out, if_pos (.inr (.inr k3))]
    clear HD HO HL
    go_enter Tryz.func54, Tryz.ntmps54
    go_wp2
    go_ret
    exact ⟨ret_int HV.out.symm, HB0.out⟩
  by_cases k4 : pl < 1
  · have HV : Hid (r = 8) := by show _ = _; rw [HD.out, if_neg (by omega), if_pos (.inl k4)]
    clear HD HO HL
    go_enter Tryz.func54, Tryz.ntmps54
    go_wp2
    go_ret
    exact ⟨ret_int HV.out.symm, HB0.out⟩
  by_cases k5 : 4 < pl
  · have HV : Hid (r = 8) := by show _ = _; rw [HD.out, if_neg (by omega), if_pos (.inr k5)]
    clear HD HO HL
    go_enter Tryz.func54, Tryz.ntmps54
    go_wp2
    go_ret
    exact ⟨ret_int HV.out.symm, HB0.out⟩
  replace HD := hid ((HD.out).trans (by rw [if_neg (show ¬ (fr < 1 ∨ to_ < fr ∨ 4096 < to_) by omega), if_neg (show ¬ (pl < 1 ∨ 4 < pl) by omega)]))

  by_cases k6 : pl = 4
  · subst k6
    have HT0 : Hid (r = if (decide (lf.size = 0) && decide (ll.size = 0) && decide (ln = 0)) = false then 9 else if 0 < sup.length ∧ pos = false then 9 else if 4096 < sup.length then 4 else if od = true then 14 else if vs.length = 0 then 5 else if 4096 < vs.length then 4 else 0) := by
      show _ = _
      rw [HD.out]
      simp
    clear HD HL
    cases hl0 : (decide (lf.size = 0) && decide (ll.size = 0) && decide (ln = 0)) with
    | false =>
      have HV : Hid (r = 9) := by show _ = _; rw [HT0.out, if_pos hl0]
      clear HT0 HO
      rcases lem_ne hl0 with hne | ⟨z1, hne⟩ | ⟨z1, z2, hne⟩
      · go_enter Tryz.func54, Tryz.ntmps54
        go_wp2
        go_ret
        exact ⟨ret_int HV.out.symm, HB0.out⟩
      · obtain rfl := ba_nil0 z1
        go_enter Tryz.func54, Tryz.ntmps54
        go_wp2
        go_ret
        exact ⟨ret_int HV.out.symm, HB0.out⟩
      · obtain rfl := ba_nil0 z1
        obtain rfl := ba_nil0 z2
        go_enter Tryz.func54, Tryz.ntmps54
        go_wp2
        go_ret
        exact ⟨ret_int HV.out.symm, HB0.out⟩
    | true =>
      have HT : Hid (r = if 0 < sup.length ∧ pos = false then 9 else if 4096 < sup.length then 4 else if od = true then 14 else if vs.length = 0 then 5 else if 4096 < vs.length then 4 else 0) := by show _ = _; rw [HT0.out, if_neg (by rw [hl0]; simp)]
      simp only [Bool.and_eq_true, decide_eq_true_eq] at hl0
      obtain ⟨⟨z1, z2⟩, rfl⟩ := hl0
      obtain rfl := ba_nil0 z1
      obtain rfl := ba_nil0 z2
      clear HT0 z1 z2

      by_cases s1 : 0 < sup.length ∧ pos = false
      · have HV : Hid (r = 9) := by show _ = _; rw [HT.out, if_pos s1]
        obtain ⟨s1a, rfl⟩ := s1
        have s1i : (0 : Int) < (sup.length : Int) := by omega
        clear HT HO
        go_enter Tryz.func54, Tryz.ntmps54
        go_wp2
        go_ret
        exact ⟨ret_int HV.out.symm, HB0.out⟩
      have HT2 : Hid (r = if 4096 < sup.length then 4 else if od = true then 14 else if vs.length = 0 then 5 else if 4096 < vs.length then 4 else 0) := by show _ = _; rw [HT.out, if_neg s1]
      clear HT
      have s1c : sup.length = 0 ∨ (0 < sup.length ∧ pos = true) := by
        rcases Nat.eq_zero_or_pos sup.length with h | h
        · exact .inl h
        · refine .inr ⟨h, ?_⟩
          cases hp : pos with
          | true => rfl
          | false => exact absurd ⟨h, hp⟩ s1
      clear s1
      by_cases s2 : 4096 < sup.length
      · have HV : Hid (r = 4) := by show _ = _; rw [HT2.out, if_pos s2]
        obtain ⟨s1a, rfl⟩ : 0 < sup.length ∧ pos = true := by
          rcases s1c with h | h
          · omega
          · exact h
        have s1i : (0 : Int) < (sup.length : Int) := by omega
        have s2i : (4096 : Int) < (sup.length : Int) := by omega
        clear HT2 HO s1c
        go_enter Tryz.func54, Tryz.ntmps54
        go_wp2
        go_ret
        exact ⟨ret_int HV.out.symm, HB0.out⟩
      have s2i : ¬ (4096 : Int) < (sup.length : Int) := by omega
      have HT3 : Hid (r = if od = true then 14 else if vs.length = 0 then 5 else if 4096 < vs.length then 4 else 0) := by show _ = _; rw [HT2.out, if_neg s2]
      clear HT2
      have HTv : (vs.length = 0 ∨ (0 < vs.length ∧ 4096 < vs.length) ∨ (0 < vs.length ∧ ¬ 4096 < vs.length)) := by omega
      rcases s1c with s1c | ⟨s1c, rfl⟩
      · have s1i : ¬ (0 : Int) < (sup.length : Int) := by omega
        clear s1c
        go_enter Tryz.func54, Tryz.ntmps54
        go_wp2_with fail
        (with_reducible refine (HO _ HB0.out).out.mono ?_)
        rintro e w5 ⟨rfl, hB5⟩
        have HB5 := hid (below_tr HB0.out hB5)
        have c8 := (HR0.out.below hB5).cell 8 rfl
        clear hB5 HO
        cases od with
        | true =>
          have HV : Hid (r = 14) := by show _ = _; rw [HT3.out, if_pos rfl]
          clear HT3 HTv
          go_wp2
          go_ret
          exact ⟨ret_int HV.out.symm, HB5.out⟩
        | false =>
          rcases HTv with v1 | ⟨v1, v2⟩ | ⟨v1, v2⟩
          · have HV : Hid (r = 5) := by show _ = _; rw [HT3.out, if_neg (by simp), if_pos v1]
            have v1i : ((vs.length : Int) == 0) = true := by rw [v1]; rfl
            clear HT3 v1
            go_wp2
            go_ret
            exact ⟨ret_int HV.out.symm, HB5.out⟩
          · have HV : Hid (r = 4) := by show _ = _; rw [HT3.out, if_neg (by simp), if_neg (by omega), if_pos v2]
            have v1i : ((vs.length : Int) == 0) = false := beq_eq_false_iff_ne.2 (by omega)
            have v2i : (4096 : Int) < (vs.length : Int) := by omega
            clear HT3 v1 v2
            go_wp2
            go_ret
            exact ⟨ret_int HV.out.symm, HB5.out⟩
          · have HV : Hid (r = 0) := by show _ = _; rw [HT3.out, if_neg (by simp), if_neg (by omega), if_neg v2]
            have v1i : ((vs.length : Int) == 0) = false := beq_eq_false_iff_ne.2 (by omega)
            have v2i : ¬ (4096 : Int) < (vs.length : Int) := by omega
            clear HT3 v1 v2
            go_wp2
            go_ret
            exact ⟨ret_int HV.out.symm, HB5.out⟩
      · have s1i : (0 : Int) < (sup.length : Int) := by omega
        clear s1c
        go_enter Tryz.func54, Tryz.ntmps54
        go_wp2_with fail
        (with_reducible refine (HO _ HB0.out).out.mono ?_)
        rintro e w5 ⟨rfl, hB5⟩
        have HB5 := hid (below_tr HB0.out hB5)
        have c8 := (HR0.out.below hB5).cell 8 rfl
        clear hB5 HO
        cases od with
        | true =>
          have HV : Hid (r = 14) := by show _ = _; rw [HT3.out, if_pos rfl]
          clear HT3 HTv
          go_wp2
          go_ret
          exact ⟨ret_int HV.out.symm, HB5.out⟩
        | false =>
          rcases HTv with v1 | ⟨v1, v2⟩ | ⟨v1, v2⟩
          · have HV : Hid (r = 5) := by show _ = _; rw [HT3.out, if_neg (by simp), if_pos v1]
            have v1i : ((vs.length : Int) == 0) = true := by rw [v1]; rfl
            clear HT3 v1
            go_wp2
            go_ret
            exact ⟨ret_int HV.out.symm, HB5.out⟩
          · have HV : Hid (r = 4) := by show _ = _; rw [HT3.out, if_neg (by simp), if_neg (by omega), if_pos v2]
            have v1i : ((vs.length : Int) == 0) = false := beq_eq_false_iff_ne.2 (by omega)
            have v2i : (4096 : Int) < (vs.length : Int) := by omega
            clear HT3 v1 v2
            go_wp2
            go_ret
            exact ⟨ret_int HV.out.symm, HB5.out⟩
          · have HV : Hid (r = 0) := by show _ = _; rw [HT3.out, if_neg (by simp), if_neg (by omega), if_neg v2]
            have v1i : ((vs.length : Int) == 0) = false := beq_eq_false_iff_ne.2 (by omega)
            have v2i : ¬ (4096 : Int) < (vs.length : Int) := by omega
            clear HT3 v1 v2
            go_wp2
            go_ret
            exact ⟨ret_int HV.out.symm, HB5.out⟩
  have k6b : (pl == 4) = false := beq_eq_false_iff_ne.2 k6
  by_cases k7 : lc = 0
  · subst k7
    by_cases k8 : pl = 1
    · subst k8
      have HT : Hid (r = if 0 < sup.length ∧ pos = false then 9 else if 4096 < sup.length then 4 else if od = true then 14 else if vs.length = 0 then 5 else if 4096 < vs.length then 4 else 0) := by show _ = _; rw [HD.out]; simp
      clear HD
      by_cases k9 : ll.size = 0
      · obtain rfl := ba_nil0 k9
        clear k9

        by_cases s1 : 0 < sup.length ∧ pos = false
        · have HV : Hid (r = 9) := by show _ = _; rw [HT.out, if_pos s1]
          obtain ⟨s1a, rfl⟩ := s1
          have s1i : (0 : Int) < (sup.length : Int) := by omega
          clear HT HO
          go_enter Tryz.func54, Tryz.ntmps54
          go_wp2_with fail
          (with_reducible refine (HL _ HB0.out).out.mono ?_)
          rintro e w4 ⟨rfl, hB4⟩
          have HR4 := hid (HR0.out.below hB4)
          have c2 := HR4.out.cell 2 rfl
          have c4 := HR4.out.cell 4 rfl
          have c6 := HR4.out.cell 6 rfl
          have c7 := HR4.out.cell 7 rfl
          have c8 := HR4.out.cell 8 rfl
          have HB4 := hid (below_tr HB0.out hB4)
          clear hB4 HL
          go_wp2
          go_ret
          exact ⟨ret_int HV.out.symm, HB4.out⟩
        have HT2 : Hid (r = if 4096 < sup.length then 4 else if od = true then 14 else if vs.length = 0 then 5 else if 4096 < vs.length then 4 else 0) := by show _ = _; rw [HT.out, if_neg s1]
        clear HT
        have s1c : sup.length = 0 ∨ (0 < sup.length ∧ pos = true) := by
          rcases Nat.eq_zero_or_pos sup.length with h | h
          · exact .inl h
          · refine .inr ⟨h, ?_⟩
            cases hp : pos with
            | true => rfl
            | false => exact absurd ⟨h, hp⟩ s1
        clear s1
        by_cases s2 : 4096 < sup.length
        · have HV : Hid (r = 4) := by show _ = _; rw [HT2.out, if_pos s2]
          obtain ⟨s1a, rfl⟩ : 0 < sup.length ∧ pos = true := by
            rcases s1c with h | h
            · omega
            · exact h
          have s1i : (0 : Int) < (sup.length : Int) := by omega
          have s2i : (4096 : Int) < (sup.length : Int) := by omega
          clear HT2 HO s1c
          go_enter Tryz.func54, Tryz.ntmps54
          go_wp2_with fail
          (with_reducible refine (HL _ HB0.out).out.mono ?_)
          rintro e w4 ⟨rfl, hB4⟩
          have HR4 := hid (HR0.out.below hB4)
          have c2 := HR4.out.cell 2 rfl
          have c4 := HR4.out.cell 4 rfl
          have c6 := HR4.out.cell 6 rfl
          have c7 := HR4.out.cell 7 rfl
          have c8 := HR4.out.cell 8 rfl
          have HB4 := hid (below_tr HB0.out hB4)
          clear hB4 HL
          go_wp2
          go_ret
          exact ⟨ret_int HV.out.symm, HB4.out⟩
        have s2i : ¬ (4096 : Int) < (sup.length : Int) := by omega
        have HT3 : Hid (r = if od = true then 14 else if vs.length = 0 then 5 else if 4096 < vs.length then 4 else 0) := by show _ = _; rw [HT2.out, if_neg s2]
        clear HT2
        have HTv : (vs.length = 0 ∨ (0 < vs.length ∧ 4096 < vs.length) ∨ (0 < vs.length ∧ ¬ 4096 < vs.length)) := by omega
        rcases s1c with s1c | ⟨s1c, rfl⟩
        · have s1i : ¬ (0 : Int) < (sup.length : Int) := by omega
          clear s1c
          go_enter Tryz.func54, Tryz.ntmps54
          go_wp2_with fail
          (with_reducible refine (HL _ HB0.out).out.mono ?_)
          rintro e w4 ⟨rfl, hB4⟩
          have HR4 := hid (HR0.out.below hB4)
          have c2 := HR4.out.cell 2 rfl
          have c4 := HR4.out.cell 4 rfl
          have c6 := HR4.out.cell 6 rfl
          have c7 := HR4.out.cell 7 rfl
          have c8 := HR4.out.cell 8 rfl
          have HB4 := hid (below_tr HB0.out hB4)
          clear hB4 HL
          go_wp2_with fail
          (with_reducible refine (HO _ HB4.out).out.mono ?_)
          rintro e w5 ⟨rfl, hB5⟩
          have HB5 := hid (below_tr HB4.out hB5)
          have c8 := (HR4.out.below hB5).cell 8 rfl
          clear hB5 HO
          cases od with
          | true =>
            have HV : Hid (r = 14) := by show _ = _; rw [HT3.out, if_pos rfl]
            clear HT3 HTv
            go_wp2
            go_ret
            exact ⟨ret_int HV.out.symm, HB5.out⟩
          | false =>
            rcases HTv with v1 | ⟨v1, v2⟩ | ⟨v1, v2⟩
            · have HV : Hid (r = 5) := by show _ = _; rw [HT3.out, if_neg (by simp), if_pos v1]
              have v1i : ((vs.length : Int) == 0) = true := by rw [v1]; rfl
              clear HT3 v1
              go_wp2
              go_ret
              exact ⟨ret_int HV.out.symm, HB5.out⟩
            · have HV : Hid (r = 4) := by show _ = _; rw [HT3.out, if_neg (by simp), if_neg (by omega), if_pos v2]
              have v1i : ((vs.length : Int) == 0) = false := beq_eq_false_iff_ne.2 (by omega)
              have v2i : (4096 : Int) < (vs.length : Int) := by omega
              clear HT3 v1 v2
              go_wp2
              go_ret
              exact ⟨ret_int HV.out.symm, HB5.out⟩
            · have HV : Hid (r = 0) := by show _ = _; rw [HT3.out, if_neg (by simp), if_neg (by omega), if_neg v2]
              have v1i : ((vs.length : Int) == 0) = false := beq_eq_false_iff_ne.2 (by omega)
              have v2i : ¬ (4096 : Int) < (vs.length : Int) := by omega
              clear HT3 v1 v2
              go_wp2
              go_ret
              exact ⟨ret_int HV.out.symm, HB5.out⟩
        · have s1i : (0 : Int) < (sup.length : Int) := by omega
          clear s1c
          go_enter Tryz.func54, Tryz.ntmps54
          go_wp2_with fail
          (with_reducible refine (HL _ HB0.out).out.mono ?_)
          rintro e w4 ⟨rfl, hB4⟩
          have HR4 := hid (HR0.out.below hB4)
          have c2 := HR4.out.cell 2 rfl
          have c4 := HR4.out.cell 4 rfl
          have c6 := HR4.out.cell 6 rfl
          have c7 := HR4.out.cell 7 rfl
          have c8 := HR4.out.cell 8 rfl
          have HB4 := hid (below_tr HB0.out hB4)
          clear hB4 HL
          go_wp2_with fail
          (with_reducible refine (HO _ HB4.out).out.mono ?_)
          rintro e w5 ⟨rfl, hB5⟩
          have HB5 := hid (below_tr HB4.out hB5)
          have c8 := (HR4.out.below hB5).cell 8 rfl
          clear hB5 HO
          cases od with
          | true =>
            have HV : Hid (r = 14) := by show _ = _; rw [HT3.out, if_pos rfl]
            clear HT3 HTv
            go_wp2
            go_ret
            exact ⟨ret_int HV.out.symm, HB5.out⟩
          | false =>
            rcases HTv with v1 | ⟨v1, v2⟩ | ⟨v1, v2⟩
            · have HV : Hid (r = 5) := by show _ = _; rw [HT3.out, if_neg (by simp), if_pos v1]
              have v1i : ((vs.length : Int) == 0) = true := by rw [v1]; rfl
              clear HT3 v1
              go_wp2
              go_ret
              exact ⟨ret_int HV.out.symm, HB5.out⟩
            · have HV : Hid (r = 4) := by show _ = _; rw [HT3.out, if_neg (by simp), if_neg (by omega), if_pos v2]
              have v1i : ((vs.length : Int) == 0) = false := beq_eq_false_iff_ne.2 (by omega)
              have v2i : (4096 : Int) < (vs.length : Int) := by omega
              clear HT3 v1 v2
              go_wp2
              go_ret
              exact ⟨ret_int HV.out.symm, HB5.out⟩
            · have HV : Hid (r = 0) := by show _ = _; rw [HT3.out, if_neg (by simp), if_neg (by omega), if_neg v2]
              have v1i : ((vs.length : Int) == 0) = false := beq_eq_false_iff_ne.2 (by omega)
              have v2i : ¬ (4096 : Int) < (vs.length : Int) := by omega
              clear HT3 v1 v2
              go_wp2
              go_ret
              exact ⟨ret_int HV.out.symm, HB5.out⟩
      · have k9b : ¬ ll.toList = [] := toL_ne k9
        clear k9

        by_cases s1 : 0 < sup.length ∧ pos = false
        · have HV : Hid (r = 9) := by show _ = _; rw [HT.out, if_pos s1]
          obtain ⟨s1a, rfl⟩ := s1
          have s1i : (0 : Int) < (sup.length : Int) := by omega
          clear HT HO
          go_enter Tryz.func54, Tryz.ntmps54
          go_wp2_with fail
          (with_reducible refine (HL _ HB0.out).out.mono ?_)
          rintro e w4 ⟨rfl, hB4⟩
          have HR4 := hid (HR0.out.below hB4)
          have c2 := HR4.out.cell 2 rfl
          have c4 := HR4.out.cell 4 rfl
          have c6 := HR4.out.cell 6 rfl
          have c7 := HR4.out.cell 7 rfl
          have c8 := HR4.out.cell 8 rfl
          have HB4 := hid (below_tr HB0.out hB4)
          clear hB4 HL
          go_wp2
          go_ret
          exact ⟨ret_int HV.out.symm, HB4.out⟩
        have HT2 : Hid (r = if 4096 < sup.length then 4 else if od = true then 14 else if vs.length = 0 then 5 else if 4096 < vs.length then 4 else 0) := by show _ = _; rw [HT.out, if_neg s1]
        clear HT
        have s1c : sup.length = 0 ∨ (0 < sup.length ∧ pos = true) := by
          rcases Nat.eq_zero_or_pos sup.length with h | h
          · exact .inl h
          · refine .inr ⟨h, ?_⟩
            cases hp : pos with
            | true => rfl
            | false => exact absurd ⟨h, hp⟩ s1
        clear s1
        by_cases s2 : 4096 < sup.length
        · have HV : Hid (r = 4) := by show _ = _; rw [HT2.out, if_pos s2]
          obtain ⟨s1a, rfl⟩ : 0 < sup.length ∧ pos = true := by
            rcases s1c with h | h
            · omega
            · exact h
          have s1i : (0 : Int) < (sup.length : Int) := by omega
          have s2i : (4096 : Int) < (sup.length : Int) := by omega
          clear HT2 HO s1c
          go_enter Tryz.func54, Tryz.ntmps54
          go_wp2_with fail
          (with_reducible refine (HL _ HB0.out).out.mono ?_)
          rintro e w4 ⟨rfl, hB4⟩
          have HR4 := hid (HR0.out.below hB4)
          have c2 := HR4.out.cell 2 rfl
          have c4 := HR4.out.cell 4 rfl
          have c6 := HR4.out.cell 6 rfl
          have c7 := HR4.out.cell 7 rfl
          have c8 := HR4.out.cell 8 rfl
          have HB4 := hid (below_tr HB0.out hB4)
          clear hB4 HL
          go_wp2
          go_ret
          exact ⟨ret_int HV.out.symm, HB4.out⟩
        have s2i : ¬ (4096 : Int) < (sup.length : Int) := by omega
        have HT3 : Hid (r = if od = true then 14 else if vs.length = 0 then 5 else if 4096 < vs.length then 4 else 0) := by show _ = _; rw [HT2.out, if_neg s2]
        clear HT2
        have HTv : (vs.length = 0 ∨ (0 < vs.length ∧ 4096 < vs.length) ∨ (0 < vs.length ∧ ¬ 4096 < vs.length)) := by omega
        rcases s1c with s1c | ⟨s1c, rfl⟩
        · have s1i : ¬ (0 : Int) < (sup.length : Int) := by omega
          clear s1c
          go_enter Tryz.func54, Tryz.ntmps54
          go_wp2_with fail
          (with_reducible refine (HL _ HB0.out).out.mono ?_)
          rintro e w4 ⟨rfl, hB4⟩
          have HR4 := hid (HR0.out.below hB4)
          have c2 := HR4.out.cell 2 rfl
          have c4 := HR4.out.cell 4 rfl
          have c6 := HR4.out.cell 6 rfl
          have c7 := HR4.out.cell 7 rfl
          have c8 := HR4.out.cell 8 rfl
          have HB4 := hid (below_tr HB0.out hB4)
          clear hB4 HL
          go_wp2_with fail
          (with_reducible refine (HO _ HB4.out).out.mono ?_)
          rintro e w5 ⟨rfl, hB5⟩
          have HB5 := hid (below_tr HB4.out hB5)
          have c8 := (HR4.out.below hB5).cell 8 rfl
          clear hB5 HO
          cases od with
          | true =>
            have HV : Hid (r = 14) := by show _ = _; rw [HT3.out, if_pos rfl]
            clear HT3 HTv
            go_wp2
            go_ret
            exact ⟨ret_int HV.out.symm, HB5.out⟩
          | false =>
            rcases HTv with v1 | ⟨v1, v2⟩ | ⟨v1, v2⟩
            · have HV : Hid (r = 5) := by show _ = _; rw [HT3.out, if_neg (by simp), if_pos v1]
              have v1i : ((vs.length : Int) == 0) = true := by rw [v1]; rfl
              clear HT3 v1
              go_wp2
              go_ret
              exact ⟨ret_int HV.out.symm, HB5.out⟩
            · have HV : Hid (r = 4) := by show _ = _; rw [HT3.out, if_neg (by simp), if_neg (by omega), if_pos v2]
              have v1i : ((vs.length : Int) == 0) = false := beq_eq_false_iff_ne.2 (by omega)
              have v2i : (4096 : Int) < (vs.length : Int) := by omega
              clear HT3 v1 v2
              go_wp2
              go_ret
              exact ⟨ret_int HV.out.symm, HB5.out⟩
            · have HV : Hid (r = 0) := by show _ = _; rw [HT3.out, if_neg (by simp), if_neg (by omega), if_neg v2]
              have v1i : ((vs.length : Int) == 0) = false := beq_eq_false_iff_ne.2 (by omega)
              have v2i : ¬ (4096 : Int) < (vs.length : Int) := by omega
              clear HT3 v1 v2
              go_wp2
              go_ret
              exact ⟨ret_int HV.out.symm, HB5.out⟩
        · have s1i : (0 : Int) < (sup.length : Int) := by omega
          clear s1c
          go_enter Tryz.func54, Tryz.ntmps54
          go_wp2_with fail
          (with_reducible refine (HL _ HB0.out).out.mono ?_)
          rintro e w4 ⟨rfl, hB4⟩
          have HR4 := hid (HR0.out.below hB4)
          have c2 := HR4.out.cell 2 rfl
          have c4 := HR4.out.cell 4 rfl
          have c6 := HR4.out.cell 6 rfl
          have c7 := HR4.out.cell 7 rfl
          have c8 := HR4.out.cell 8 rfl
          have HB4 := hid (below_tr HB0.out hB4)
          clear hB4 HL
          go_wp2_with fail
          (with_reducible refine (HO _ HB4.out).out.mono ?_)
          rintro e w5 ⟨rfl, hB5⟩
          have HB5 := hid (below_tr HB4.out hB5)
          have c8 := (HR4.out.below hB5).cell 8 rfl
          clear hB5 HO
          cases od with
          | true =>
            have HV : Hid (r = 14) := by show _ = _; rw [HT3.out, if_pos rfl]
            clear HT3 HTv
            go_wp2
            go_ret
            exact ⟨ret_int HV.out.symm, HB5.out⟩
          | false =>
            rcases HTv with v1 | ⟨v1, v2⟩ | ⟨v1, v2⟩
            · have HV : Hid (r = 5) := by show _ = _; rw [HT3.out, if_neg (by simp), if_pos v1]
              have v1i : ((vs.length : Int) == 0) = true := by rw [v1]; rfl
              clear HT3 v1
              go_wp2
              go_ret
              exact ⟨ret_int HV.out.symm, HB5.out⟩
            · have HV : Hid (r = 4) := by show _ = _; rw [HT3.out, if_neg (by simp), if_neg (by omega), if_pos v2]
              have v1i : ((vs.length : Int) == 0) = false := beq_eq_false_iff_ne.2 (by omega)
              have v2i : (4096 : Int) < (vs.length : Int) := by omega
              clear HT3 v1 v2
              go_wp2
              go_ret
              exact ⟨ret_int HV.out.symm, HB5.out⟩
            · have HV : Hid (r = 0) := by show _ = _; rw [HT3.out, if_neg (by simp), if_neg (by omega), if_neg v2]
              have v1i : ((vs.length : Int) == 0) = false := beq_eq_false_iff_ne.2 (by omega)
              have v2i : ¬ (4096 : Int) < (vs.length : Int) := by omega
              clear HT3 v1 v2
              go_wp2
              go_ret
              exact ⟨ret_int HV.out.symm, HB5.out⟩
    · have k8b : (pl == 1) = false := beq_eq_false_iff_ne.2 k8
      have k8c : (pl != 1) = true := bne_iff_ne.2 k8
      by_cases k9 : ll.size = 0
      · obtain rfl := ba_nil0 k9
        have HT : Hid (r = if 0 < sup.length ∧ pos = false then 9 else if 4096 < sup.length then 4 else if od = true then 14 else if vs.length = 0 then 5 else if 4096 < vs.length then 4 else 0) := by show _ = _; rw [HD.out, if_neg (fun h => k6 h.1), if_neg (fun h => h.2 rfl), if_neg (fun h => h.2.2 rfl)]
        clear HD k9

        by_cases s1 : 0 < sup.length ∧ pos = false
        · have HV : Hid (r = 9) := by show _ = _; rw [HT.out, if_pos s1]
          obtain ⟨s1a, rfl⟩ := s1
          have s1i : (0 : Int) < (sup.length : Int) := by omega
          clear HT HO
          go_enter Tryz.func54, Tryz.ntmps54
          go_wp2_with fail
          (with_reducible refine (HL _ HB0.out).out.mono ?_)
          rintro e w4 ⟨rfl, hB4⟩
          have HR4 := hid (HR0.out.below hB4)
          have c2 := HR4.out.cell 2 rfl
          have c4 := HR4.out.cell 4 rfl
          have c6 := HR4.out.cell 6 rfl
          have c7 := HR4.out.cell 7 rfl
          have c8 := HR4.out.cell 8 rfl
          have HB4 := hid (below_tr HB0.out hB4)
          clear hB4 HL
          go_wp2
          go_ret
          exact ⟨ret_int HV.out.symm, HB4.out⟩
        have HT2 : Hid (r = if 4096 < sup.length then 4 else if od = true then 14 else if vs.length = 0 then 5 else if 4096 < vs.length then 4 else 0) := by show _ = _; rw [HT.out, if_neg s1]
        clear HT
        have s1c : sup.length = 0 ∨ (0 < sup.length ∧ pos = true) := by
          rcases Nat.eq_zero_or_pos sup.length with h | h
          · exact .inl h
          · refine .inr ⟨h, ?_⟩
            cases hp : pos with
            | true => rfl
            | false => exact absurd ⟨h, hp⟩ s1
        clear s1
        by_cases s2 : 4096 < sup.length
        · have HV : Hid (r = 4) := by show _ = _; rw [HT2.out, if_pos s2]
          obtain ⟨s1a, rfl⟩ : 0 < sup.length ∧ pos = true := by
            rcases s1c with h | h
            · omega
            · exact h
          have s1i : (0 : Int) < (sup.length : Int) := by omega
          have s2i : (4096 : Int) < (sup.length : Int) := by omega
          clear HT2 HO s1c
          go_enter Tryz.func54, Tryz.ntmps54
          go_wp2_with fail
          (with_reducible refine (HL _ HB0.out).out.mono ?_)
          rintro e w4 ⟨rfl, hB4⟩
          have HR4 := hid (HR0.out.below hB4)
          have c2 := HR4.out.cell 2 rfl
          have c4 := HR4.out.cell 4 rfl
          have c6 := HR4.out.cell 6 rfl
          have c7 := HR4.out.cell 7 rfl
          have c8 := HR4.out.cell 8 rfl
          have HB4 := hid (below_tr HB0.out hB4)
          clear hB4 HL
          go_wp2
          go_ret
          exact ⟨ret_int HV.out.symm, HB4.out⟩
        have s2i : ¬ (4096 : Int) < (sup.length : Int) := by omega
        have HT3 : Hid (r = if od = true then 14 else if vs.length = 0 then 5 else if 4096 < vs.length then 4 else 0) := by show _ = _; rw [HT2.out, if_neg s2]
        clear HT2
        have HTv : (vs.length = 0 ∨ (0 < vs.length ∧ 4096 < vs.length) ∨ (0 < vs.length ∧ ¬ 4096 < vs.length)) := by omega
        rcases s1c with s1c | ⟨s1c, rfl⟩
        · have s1i : ¬ (0 : Int) < (sup.length : Int) := by omega
          clear s1c
          go_enter Tryz.func54, Tryz.ntmps54
          go_wp2_with fail
          (with_reducible refine (HL _ HB0.out).out.mono ?_)
          rintro e w4 ⟨rfl, hB4⟩
          have HR4 := hid (HR0.out.below hB4)
          have c2 := HR4.out.cell 2 rfl
          have c4 := HR4.out.cell 4 rfl
          have c6 := HR4.out.cell 6 rfl
          have c7 := HR4.out.cell 7 rfl
          have c8 := HR4.out.cell 8 rfl
          have HB4 := hid (below_tr HB0.out hB4)
          clear hB4 HL
          go_wp2_with fail
          (with_reducible refine (HO _ HB4.out).out.mono ?_)
          rintro e w5 ⟨rfl, hB5⟩
          have HB5 := hid (below_tr HB4.out hB5)
          have c8 := (HR4.out.below hB5).cell 8 rfl
          clear hB5 HO
          cases od with
          | true =>
            have HV : Hid (r = 14) := by show _ = _; rw [HT3.out, if_pos rfl]
            clear HT3 HTv
            go_wp2
            go_ret
            exact ⟨ret_int HV.out.symm, HB5.out⟩
          | false =>
            rcases HTv with v1 | ⟨v1, v2⟩ | ⟨v1, v2⟩
            · have HV : Hid (r = 5) := by show _ = _; rw [HT3.out, if_neg (by simp), if_pos v1]
              have v1i : ((vs.length : Int) == 0) = true := by rw [v1]; rfl
              clear HT3 v1
              go_wp2
              go_ret
              exact ⟨ret_int HV.out.symm, HB5.out⟩
            · have HV : Hid (r = 4) := by show _ = _; rw [HT3.out, if_neg (by simp), if_neg (by omega), if_pos v2]
              have v1i : ((vs.length : Int) == 0) = false := beq_eq_false_iff_ne.2 (by omega)
              have v2i : (4096 : Int) < (vs.length : Int) := by omega
              clear HT3 v1 v2
              go_wp2
              go_ret
              exact ⟨ret_int HV.out.symm, HB5.out⟩
            · have HV : Hid (r = 0) := by show _ = _; rw [HT3.out, if_neg (by simp), if_neg (by omega), if_neg v2]
              have v1i : ((vs.length : Int) == 0) = false := beq_eq_false_iff_ne.2 (by omega)
              have v2i : ¬ (4096 : Int) < (vs.length : Int) := by omega
              clear HT3 v1 v2
              go_wp2
              go_ret
              exact ⟨ret_int HV.out.symm, HB5.out⟩
        · have s1i : (0 : Int) < (sup.length : Int) := by omega
          clear s1c
          go_enter Tryz.func54, Tryz.ntmps54
          go_wp2_with fail
          (with_reducible refine (HL _ HB0.out).out.mono ?_)
          rintro e w4 ⟨rfl, hB4⟩
          have HR4 := hid (HR0.out.below hB4)
          have c2 := HR4.out.cell 2 rfl
          have c4 := HR4.out.cell 4 rfl
          have c6 := HR4.out.cell 6 rfl
          have c7 := HR4.out.cell 7 rfl
          have c8 := HR4.out.cell 8 rfl
          have HB4 := hid (below_tr HB0.out hB4)
          clear hB4 HL
          go_wp2_with fail
          (with_reducible refine (HO _ HB4.out).out.mono ?_)
          rintro e w5 ⟨rfl, hB5⟩
          have HB5 := hid (below_tr HB4.out hB5)
          have c8 := (HR4.out.below hB5).cell 8 rfl
          clear hB5 HO
          cases od with
          | true =>
            have HV : Hid (r = 14) := by show _ = _; rw [HT3.out, if_pos rfl]
            clear HT3 HTv
            go_wp2
            go_ret
            exact ⟨ret_int HV.out.symm, HB5.out⟩
          | false =>
            rcases HTv with v1 | ⟨v1, v2⟩ | ⟨v1, v2⟩
            · have HV : Hid (r = 5) := by show _ = _; rw [HT3.out, if_neg (by simp), if_pos v1]
              have v1i : ((vs.length : Int) == 0) = true := by rw [v1]; rfl
              clear HT3 v1
              go_wp2
              go_ret
              exact ⟨ret_int HV.out.symm, HB5.out⟩
            · have HV : Hid (r = 4) := by show _ = _; rw [HT3.out, if_neg (by simp), if_neg (by omega), if_pos v2]
              have v1i : ((vs.length : Int) == 0) = false := beq_eq_false_iff_ne.2 (by omega)
              have v2i : (4096 : Int) < (vs.length : Int) := by omega
              clear HT3 v1 v2
              go_wp2
              go_ret
              exact ⟨ret_int HV.out.symm, HB5.out⟩
            · have HV : Hid (r = 0) := by show _ = _; rw [HT3.out, if_neg (by simp), if_neg (by omega), if_neg v2]
              have v1i : ((vs.length : Int) == 0) = false := beq_eq_false_iff_ne.2 (by omega)
              have v2i : ¬ (4096 : Int) < (vs.length : Int) := by omega
              clear HT3 v1 v2
              go_wp2
              go_ret
              exact ⟨ret_int HV.out.symm, HB5.out⟩
      · have k9b : ¬ ll.toList = [] := toL_ne k9
        have k9c : ll.toList.isEmpty = false := mt_ne k9
        have HV : Hid (r = 9) := by show _ = _; rw [HD.out]; simp [k6, k8, k9]
        clear HD HO k9
        go_enter Tryz.func54, Tryz.ntmps54
        go_wp2_with fail
        (with_reducible refine (HL _ HB0.out).out.mono ?_)
        rintro e w4 ⟨rfl, hB4⟩
        have HR4 := hid (HR0.out.below hB4)
        have c2 := HR4.out.cell 2 rfl
        have c4 := HR4.out.cell 4 rfl
        have c6 := HR4.out.cell 6 rfl
        have c7 := HR4.out.cell 7 rfl
        have c8 := HR4.out.cell 8 rfl
        have HB4 := hid (below_tr HB0.out hB4)
        go_wp2
        go_ret
        exact ⟨ret_int HV.out.symm, HB4.out⟩
  · have k7b : (lc == 0) = false := beq_eq_false_iff_ne.2 k7
    have HV : Hid (r = lc) := by show _ = _; rw [HD.out, if_neg (by simp [k6]), if_pos ⟨k6, k7⟩]
    clear HD HO
    go_enter Tryz.func54, Tryz.ntmps54
    go_wp2_with fail
    (with_reducible refine (HL _ HB0.out).out.mono ?_)
    rintro e w4 ⟨rfl, hB4⟩
    have HR4 := hid (HR0.out.below hB4)
    have c2 := HR4.out.cell 2 rfl
    have c4 := HR4.out.cell 4 rfl
    have c6 := HR4.out.cell 6 rfl
    have c7 := HR4.out.cell 7 rfl
    have c8 := HR4.out.cell 8 rfl
    have HB4 := hid (below_tr HB0.out hB4)
    go_wp2
    go_ret
    exact ⟨ret_int HV.out.symm, HB4.out⟩
end Go.Proofs.YtjhdeoniafahbaaGreatDoor
namespace Go.Proofs.YtjhdeoniafahbaaGreatDoor
def badC (c : UInt8) (f : Bool) : Bool := decide (kindI c.toNat = 0) || (decide (kindI c.toNat = 2) && !f)
theorem chkGo_cons (st : Bool) (c : UInt8) (r : List UInt8) : chkGo st (c :: r) = if (mk c && st) = true then chkGo true r else okc c && chkGo (lk c) r := rfl
theorem chk_rgo : ∀ (l : List UInt8) (pk : Int) (pf : Bool), chkGo (decide (pk = 1) || pf) l = true ↔ ∀ (k : Nat) (c : UInt8) (f : Bool), l[k]? = some c → (rgo pk pf l)[k]? = some f → badC c f = false
  | [], pk, pf => by simp [chkGo]
  | c :: r, pk, pf => by
    have ih := chk_rgo r (kindI c.toNat) (decide (kindI c.toNat = 2) && (decide (pk = 1) || pf))
    have hall : (∀ (k : Nat) (d : UInt8) (f : Bool), (c :: r)[k]? = some d → (rgo pk pf (c :: r))[k]? = some f → badC d f = false) ↔
        (badC c (decide (kindI c.toNat = 2) && (decide (pk = 1) || pf)) = false ∧ ∀ (k : Nat) (d : UInt8) (f : Bool), r[k]? = some d → (rgo (kindI c.toNat) (decide (kindI c.toNat = 2) && (decide (pk = 1) || pf)) r)[k]? = some f → badC d f = false) := by
      constructor
      · intro h
        exact ⟨h 0 c _ rfl rfl, fun k d f h1 h2 => h (k + 1) d f h1 h2⟩
      · rintro ⟨h1, h2⟩ k d f h3 h4
        cases k with
        | zero =>
          have e1 : c = d := by simpa using h3
          have e2 : (decide (kindI c.toNat = 2) && (decide (pk = 1) || pf)) = f := by simpa [rgo] using h4
          rw [← e1, ← e2]; exact h1
        | succ k => exact h2 k d f h3 h4
    rw [hall, ← ih, chkGo_cons]
    cases hst : (decide (pk = 1) || pf) with
    | true =>
      by_cases h2 : kindI c.toNat = 2
      · have hm : mk c = true := by unfold mk; rw [h2]; rfl
        rw [hm, if_pos (by rfl)]
        have : (decide (kindI c.toNat = 1) || (decide (kindI c.toNat = 2) && true)) = true := by rw [h2]; rfl
        rw [this]
        constructor
        · intro h; exact ⟨by unfold badC; rw [h2]; rfl, h⟩
        · intro h; exact h.2
      · have hm : mk c = false := by unfold mk; exact decide_eq_false h2
        rw [hm, if_neg (by simp)]
        have : (decide (kindI c.toNat = 1) || (decide (kindI c.toNat = 2) && true)) = lk c := by rw [decide_eq_false h2]; simp [lk]
        rw [this]
        have hb : badC c (decide (kindI c.toNat = 2) && true) = !okc c := by
          unfold badC okc; rw [decide_eq_false h2]; simp
        rw [hb, Bool.and_eq_true]
        simp
    | false =>
      have hm : (mk c && false) = false := by simp
      rw [hm, if_neg (by simp)]
      have : (decide (kindI c.toNat = 1) || (decide (kindI c.toNat = 2) && false)) = lk c := by simp [lk]
      rw [this]
      have hb : badC c (decide (kindI c.toNat = 2) && false) = !okc c := by
        unfold badC okc; simp
      rw [hb, Bool.and_eq_true]
      simp
theorem chk_right (l : List UInt8) : chkGo false l = true ↔ ¬ ∃ k, k < l.length ∧ badAt l k = true := by
  have h := chk_rgo l 0 false
  rw [show (decide ((0 : Int) = 1) || false) = false by rfl] at h
  rw [h]
  have hl := rgo_len l 0 false
  constructor
  · rintro h2 ⟨k, hk, hb⟩
    unfold badAt rightL at hb
    rw [List.getElem?_eq_getElem hk, List.getElem?_eq_getElem (show k < (rgo 0 false l).length by omega)] at hb
    have := h2 k _ _ (List.getElem?_eq_getElem hk) (List.getElem?_eq_getElem (show k < (rgo 0 false l).length by omega))
    have hb2 : badC l[k] (rgo 0 false l)[k] = true := hb
    rw [this] at hb2; cases hb2
  · intro h2 k c f hc hf
    refine Classical.byContradiction fun hb => h2 ⟨k, (List.getElem?_eq_some_iff.1 hc).1, ?_⟩
    unfold badAt rightL
    rw [hc, hf]
    show badC c f = true
    simpa using hb
theorem kind_six (c : Int) : kindI c ≤ 6 := by
  unfold kindI
  repeat' split
  all_goals omega
theorem rword_is (s : ByteArray) : rwordB s.data.toList = isWordB s := by
  have hl : s.data.toList.length = s.size := by rw [Array.length_toList]; rfl
  unfold rwordB isWordB
  rw [hl]
  by_cases h0 : s.size = 0
  · have e1 : decide (1 ≤ s.size) = false := decide_eq_false (by omega)
    have e2 : decide (s.size ≠ 0) = false := decide_eq_false (by omega)
    rw [e1, e2]; rfl
  · have e1 : decide (1 ≤ s.size) = true := decide_eq_true (by omega)
    have e2 : decide (s.size ≠ 0) = true := decide_eq_true (by omega)
    rw [e1, e2]
    by_cases h64 : s.size ≤ 64
    · have e3 : decide (rcheckI s.data.toList = 0) = chkB s := by
        unfold rcheckI chkB
        rw [if_neg (by omega)]
        have h := chk_right s.data.toList
        cases hc : chkGo false s.data.toList with
        | true => rw [if_neg (h.1 hc)]; rfl
        | false =>
          have : ∃ k, k < s.data.toList.length ∧ badAt s.data.toList k = true := Classical.byContradiction fun hn => by
            rw [h.2 hn] at hc; cases hc
          rw [if_pos this]; rfl
      have e5 : highAt s.data.toList = (bytesL s).any sepB := by
        unfold highAt bytesL
        rw [List.any_map]
        refine congrArg (fun p => s.data.toList.any p) (funext fun c => ?_)
        have h6 := kind_six c.toNat
        show decide (4 < kindI c.toNat) = (decide (kindI c.toNat = 5) || decide (kindI c.toNat = 6))
        rw [Bool.eq_iff_iff]
        simp only [Bool.or_eq_true, decide_eq_true_eq]
        omega
      rw [e3, e5]
      refine congrArg (fun p => (true && decide (s.size ≤ 64) && chkB s && p) && !(bytesL s).any sepB) ?_
      unfold firstK
      cases s.data.toList with
      | nil => rfl
      | cons c r => unfold isLet; rfl
    · rw [decide_eq_false h64]; simp
end Go.Proofs.YtjhdeoniafahbaaGreatDoor
