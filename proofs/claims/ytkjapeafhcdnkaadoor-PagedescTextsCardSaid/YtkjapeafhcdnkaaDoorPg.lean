/-
  Pages and boxes: how they read in memory; the plain checks.
-/
import Derived.Test.YtkjapeafhcdnkaaDoorLib
import Derived.Test.YtkjapeafhcdnkaaDoorPl
import Derived.Test.YtkjapeafhcdnkaaDoorCharset
import Derived.Test.YtkjapeafhcdnkaaDoorSl
import Derived.WalkLawsBesides
import Derived.Deep.QuietTactic
import Derived.BigQuiet
namespace Go.Proofs.YtkjapeafhcdnkaaDoor
open Go.RowKit

structure Bx where
  kind : Int
  x : Int
  y : Int
  wd : Int
  blk : Int
  text : ByteArray
def Bx.cells (b : Bx) : Array Value := #[.int .i64 b.kind, .int .i64 b.x, .int .i64 b.y, .int .i64 b.wd, .int .i64 b.blk, .string b.text]
structure Pg where
  num : Int
  bx : List Bx

/-- The slice value v reads in W as the boxes l, six cells an element. -/
def RdB (W : World) (v : Value) (l : List Bx) : Prop :=
  ∃ a cap, v = .slice a l.length cap ∧ l.length ≤ cap ∧ cap ≤ maxLen ∧ ∀ i x, l[i]? = some x → ∃ b off, a = some ⟨b, off, none⟩ ∧ W.cell? ⟨b, off + i * 6, none⟩ = some (.int .i64 x.kind) ∧ W.cell? ⟨b, off + i * 6 + 1, none⟩ = some (.int .i64 x.x) ∧
    W.cell? ⟨b, off + i * 6 + 2, none⟩ = some (.int .i64 x.y) ∧ W.cell? ⟨b, off + i * 6 + 3, none⟩ = some (.int .i64 x.wd) ∧ W.cell? ⟨b, off + i * 6 + 4, none⟩ = some (.int .i64 x.blk) ∧ W.cell? ⟨b, off + i * 6 + 5, none⟩ = some (.string x.text)
/-- .. as the pages l: two cells an element, the second a slice of boxes. -/
def RdPg (W : World) (v : Value) (l : List Pg) : Prop :=
  ∃ a cap, v = .slice a l.length cap ∧ l.length ≤ cap ∧ cap ≤ maxLen ∧ ∀ i p, l[i]? = some p → ∃ b off u, a = some ⟨b, off, none⟩ ∧ W.cell? ⟨b, off + i * 2, none⟩ = some (.int .i64 p.num) ∧ W.cell? ⟨b, off + i * 2 + 1, none⟩ = some u ∧ RdB W u p.bx
theorem RdB.below {W W' : World} {v : Value} {l : List Bx} (h : RdB W v l) (hb : Below W.heap.size W W') : RdB W' v l := by
  obtain ⟨a, cap, h1, h2, h3, h4⟩ := h
  refine ⟨a, cap, h1, h2, h3, fun i x hx => ?_⟩
  obtain ⟨b, off, e, c0, c1, c2, c3, c4, c5⟩ := h4 i x hx
  exact ⟨b, off, e, Below.keeps hb _ _ c0, Below.keeps hb _ _ c1, Below.keeps hb _ _ c2, Below.keeps hb _ _ c3, Below.keeps hb _ _ c4, Below.keeps hb _ _ c5⟩
theorem RdPg.below {W W' : World} {v : Value} {l : List Pg} (h : RdPg W v l) (hb : Below W.heap.size W W') : RdPg W' v l := by
  obtain ⟨a, cap, h1, h2, h3, h4⟩ := h
  refine ⟨a, cap, h1, h2, h3, fun i p hp => ?_⟩
  obtain ⟨b, off, u, e, c0, c1, hr⟩ := h4 i p hp
  exact ⟨b, off, u, e, Below.keeps hb _ _ c0, Below.keeps hb _ _ c1, hr.below hb⟩
theorem RdB.open {W : World} {v : Value} {l : List Bx} (h : RdB W v l) : ∃ a cap, v = .slice a l.length cap ∧ l.length ≤ cap ∧ cap ≤ 9223372036854775807 ∧ ∀ i, i < l.length → ∃ x b off, l[i]? = some x ∧ a = some ⟨b, off, none⟩ ∧ W.cell? ⟨b, off + i * 6, none⟩ = some (.int .i64 x.kind) ∧ W.cell? ⟨b, off + i * 6 + 1, none⟩ = some (.int .i64 x.x) ∧
    W.cell? ⟨b, off + i * 6 + 2, none⟩ = some (.int .i64 x.y) ∧ W.cell? ⟨b, off + i * 6 + 3, none⟩ = some (.int .i64 x.wd) ∧ W.cell? ⟨b, off + i * 6 + 4, none⟩ = some (.int .i64 x.blk) ∧ W.cell? ⟨b, off + i * 6 + 5, none⟩ = some (.string x.text) := by
  obtain ⟨a, cap, h1, h2, h3, h4⟩ := h
  refine ⟨a, cap, h1, h2, h3, fun i hi => ?_⟩
  obtain ⟨b, off, e, hc⟩ := h4 i l[i] (by simp [hi])
  exact ⟨l[i], b, off, by simp [hi], e, hc⟩
theorem RdPg.open {W : World} {v : Value} {l : List Pg} (h : RdPg W v l) : ∃ a cap, v = .slice a l.length cap ∧ l.length ≤ cap ∧ cap ≤ 9223372036854775807 ∧ ∀ i, i < l.length → ∃ p b off u, l[i]? = some p ∧ a = some ⟨b, off, none⟩ ∧ W.cell? ⟨b, off + i * 2, none⟩ = some (.int .i64 p.num) ∧ W.cell? ⟨b, off + i * 2 + 1, none⟩ = some u ∧ RdB W u p.bx := by
  obtain ⟨a, cap, h1, h2, h3, h4⟩ := h
  refine ⟨a, cap, h1, h2, h3, fun i hi => ?_⟩
  obtain ⟨b, off, u, e, hc⟩ := h4 i l[i] (by simp [hi])
  exact ⟨l[i], b, off, u, by simp [hi], e, hc⟩
theorem RdB.nil (W : World) : RdB W (.slice none 0 0) [] := ⟨none, 0, rfl, Nat.le_refl _, by unfold maxLen; omega, fun i x h => by simp at h⟩
theorem RdPg.nil (W : World) : RdPg W (.slice none 0 0) [] := ⟨none, 0, rfl, Nat.le_refl _, by unfold maxLen; omega, fun i x h => by simp at h⟩

def lenB (n : Int) : Bool := decide (0 ≤ n) && decide (n ≤ 1073741824)
def badC (c : Int) : Bool := decide (c < 32) || decide (126 < c)
def bytesL (s : ByteArray) : List Int := s.data.toList.map fun c => (c.toNat : Int)
def boxI (b : Bx) : Int :=
  if b.kind < 1 ∨ 6 < b.kind then 8 else if (!lenB b.x || !lenB b.y || !lenB b.wd || decide (b.blk < 0) || decide (63 < b.blk)) = true then 2
  else if decide (b.kind = 3) ≠ decide (0 < b.blk) then 9 else if 65536 < b.text.size then 4 else if (bytesL b.text).any badC = true then 11 else 0
def firstE : List Bx → Int
  | [] => 0
  | b :: r => if boxI b = 0 then firstE r else boxI b
def pgI (p : Pg) : Int := if p.num < 1 ∨ 1024 < p.num then 2 else if 4096 < p.bx.length then 4 else firstE p.bx
theorem firstE_hit : ∀ (l : List Bx) (k : Nat) (x : Bx), (∀ y ∈ l.take k, boxI y = 0) → l[k]? = some x → boxI x ≠ 0 → firstE l = boxI x
  | [], k, x, _, hx, _ => by simp at hx
  | b :: r, 0, x, _, hx, hn => by
    have : b = x := by simpa using hx
    subst this
    rw [firstE, if_neg hn]
  | b :: r, k + 1, x, h, hx, hn => by
    have hb := h b (by simp)
    rw [firstE, if_pos hb]
    exact firstE_hit r k x (fun y hy => h y (by simp [hy])) (by simpa using hx) hn
theorem firstE_none : ∀ (l : List Bx), (∀ y ∈ l, boxI y = 0) → firstE l = 0
  | [], _ => rfl
  | b :: r, h => by rw [firstE, if_pos (h b (by simp))]; exact firstE_none r (fun y hy => h y (by simp [hy]))
theorem firstE_all : ∀ (l : List Bx), firstE l = 0 → ∀ y ∈ l, boxI y = 0
  | [], _, y, hy => by cases hy
  | b :: r, h, y, hy => by
    rw [firstE] at h
    by_cases hb : boxI b = 0
    · rw [if_pos hb] at h
      rcases List.mem_cons.1 hy with rfl | hy
      · exact hb
      · exact firstE_all r h y hy
    · rw [if_neg hb] at h; exact absurd h hb
def SzB (l : List Bx) : Prop := ∀ b ∈ l, b.text.size ≤ maxLen
def SzPg (l : List Pg) : Prop := ∀ p ∈ l, SzB p.bx

theorem length_any (n : Int) (w : World) : Calls Tryd.prog 62 #[.int .i64 n] w fun e w' => e = .returned (.bool (lenB n)) ∧ w = w' := by
  unfold lenB
  by_cases h0 : 0 ≤ n
  · by_cases h1 : n ≤ 1073741824
    · go_enter Tryd.func62, Tryd.ntmps62
      go_wp2
      go_ret
      exact ⟨ret_bool (by simp [h0, h1]), rfl⟩
    · go_enter Tryd.func62, Tryd.ntmps62
      go_wp2
      go_ret
      exact ⟨ret_bool (by simp [h1]), rfl⟩
  · go_enter Tryd.func62, Tryd.ntmps62
    go_wp2
    go_ret
    exact ⟨ret_bool (by simp; omega), rfl⟩

abbrev RdY (W : World) (v : Value) (l : List Int) : Prop := Rd (Value.int .u8) W v l
set_option maxHeartbeats 400000 in
theorem indexFnB_any (K : Nat) (eK : ∀ args w, (callFunc K args).run Tryd.prog w = .ok (.enter K args) w) (p : Int → Bool) (v : Value) (l : List Int) (w : World) (hr : RdY w v l)
    (hC : ∀ (x : Int) (W' : World), x ∈ l → Below w.heap.size w W' → Calls Tryd.prog K #[.int .u8 x] W' fun e W'' => e = .returned (.bool (p x)) ∧ Below W'.heap.size W' W'') :
    Calls Tryd.prog 87 #[v, .func (.func K) #[] #[]] w fun e w' => e = .returned (.int .i64 (fIdx p l)) ∧ Below w.heap.size w w' := by
  obtain ⟨a, cap, rfl, hlc, hcm, hcell⟩ := hr.open
  have HCell := hid hcell; clear hcell
  have HC := hid hC; clear hC
  go_enter Tryd.func87, Tryd.ntmps87
  go_wp2
  go_loopw [8] (fun i wr => ∃ k : Nat, k ≤ l.length ∧ i = .int .i64 k ∧ Hid (∀ y ∈ l.take k, p y = false) ∧ Below w.heap.size w wr) (fun i _ => l.length - (intOf i).toNat)
  case atStart => exact ⟨0, Nat.zero_le _, rfl, by simp [Hid], Below.refl _ _⟩
  case round =>
    rename_i wr
    obtain ⟨k, hk, rfl, HK, hB⟩ := hrel
    by_cases hlt : k < l.length
    · obtain ⟨x, b, off, hx, rfl, hc0⟩ := HCell.out k hlt
      have hc := Below.keeps hB _ _ hc0
      clear hc0
      have HX := hid hx; clear hx
      have HM := hid (List.mem_of_getElem? HX.out)
      have HCx := hid (HC.out x wr HM.out hB)
      by_cases hp : p x = true
      · have HP := hid hp
        rw [hp] at HCx
        clear hp
        go_wp2_with fail
        refine HCx.out.mono ?_
        rintro e w' ⟨rfl, hB2⟩
        go_wp2
        go_ret
        exact ⟨ret_int (fIdx_hit _ l k x HK.out HX.out HP.out).symm, below_tr hB hB2⟩
      · have hp' : p x = false := by simpa using hp
        have HP := hid hp'
        rw [hp'] at HCx
        clear hp hp'
        go_wp2_with fail
        refine HCx.out.mono ?_
        rintro e w' ⟨rfl, hB2⟩
        go_wp2
        go_roundw
        case rel => exact ⟨k + 1, by omega, by go_num, take_none HK.out HX.out HP.out, below_tr hB hB2⟩
        case measure => simp [intOf]; omega
    · go_wp2
      go_ret
      refine ⟨ret_int ?_, hB⟩
      have h := HK.out
      rw [List.take_of_length_le (by omega)] at h
      exact (fIdx_none _ l h).symm

theorem containsFnB_any (K : Nat) (eK : ∀ args w, (callFunc K args).run Tryd.prog w = .ok (.enter K args) w) (p : Int → Bool) (v : Value) (l : List Int) (w : World) (hr : RdY w v l)
    (hC : ∀ (x : Int) (W' : World), x ∈ l → Below w.heap.size w W' → Calls Tryd.prog K #[.int .u8 x] W' fun e W'' => e = .returned (.bool (p x)) ∧ Below W'.heap.size W' W'') :
    Calls Tryd.prog 76 #[v, .func (.func K) #[] #[]] w fun e w' => e = .returned (.bool (l.any p)) ∧ Below w.heap.size w w' := by
  have HI := indexFnB_any K eK p v l w hr hC
  have HF := hid (fIdx_pos p l)
  generalize fIdx p l = r at *
  have H2 := hid HI; clear HI hC
  go_enter Tryd.func76, Tryd.ntmps76
  go_wp2_with (go_at_call 87; refine H2.out.mono ?_; rintro e w' ⟨rfl, hB⟩)
  go_ret
  exact ⟨ret_bool HF.out, hB⟩

theorem badC_any (x : Int) (w : World) : Calls Tryd.prog 77 #[.int .u8 x] w fun e w' => e = .returned (.bool (badC x)) ∧ Below w.heap.size w w' := by
  unfold badC
  by_cases h0 : x < 32
  · go_enter Tryd.func77, Tryd.ntmps77
    go_wp2
    go_ret
    exact ⟨ret_bool (by simp [h0]), Below.refl _ _⟩
  · by_cases h1 : 126 < x
    · go_enter Tryd.func77, Tryd.ntmps77
      go_wp2
      go_ret
      exact ⟨ret_bool (by simp), Below.refl _ _⟩
    · go_enter Tryd.func77, Tryd.ntmps77
      go_wp2
      go_ret
      exact ⟨ret_bool (by simp [h0, h1]), Below.refl _ _⟩
end Go.Proofs.YtkjapeafhcdnkaaDoor
