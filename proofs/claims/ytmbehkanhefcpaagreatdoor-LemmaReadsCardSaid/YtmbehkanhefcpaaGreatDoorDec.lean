/-
  lemma.decimal, strings.CutPrefix, strings.CutSuffix; what the walks ask of the world.
-/
import Derived.Test.YtmbehkanhefcpaaGreatDoorConv
import Derived.Test.YtmbehkanhefcpaaGreatDoorSl
import Derived.Lib.SmallJoins
import Derived.Lib.AppendIntMem
import Derived.Lib.AtoiErrMem
import Derived.Lib.AtoiAllCases
import Derived.Lib.Bytes2
import Derived.Lib.Strings
namespace Go.Proofs.YtmbehkanhefcpaaGreatDoor
open Go.RowKit

/-- What the world must hold: the two errors of strconv, and its table of powers. -/
structure Env (w : World) : Prop where
  e1 : ∃ t p, w.cell? ⟨2, 0, none⟩ = some (.iface t p)
  e2 : ∃ t p, w.cell? ⟨3, 0, none⟩ = some (.iface t p)
  tab : Lib.TabIs Tryz.prog w "internal/strconv.uint64pow10" .u64 Lib.pow10Tab
theorem Env.below {w w' : World} (h : Env w) (hb : Below w.heap.size w w') : Env w' := by
  obtain ⟨⟨t1, p1, h1⟩, ⟨t2, p2, h2⟩, h3⟩ := h
  exact ⟨⟨t1, p1, Below.keeps hb _ _ h1⟩, ⟨t2, p2, Below.keeps hb _ _ h2⟩, Go.Joins.tab_stays (g := 1) (by kernel_rfl) h3 hb (Nat.le_refl _)⟩

def itoaB (v : Int) : ByteArray := ⟨(Lib.itoa v).toArray⟩
def decV (s : ByteArray) : Int := match Lib.atoiAll s.data.toList with
  | .ok v => v
  | .range => Lib.atoiSat s.data.toList
  | _ => 0
def decB (s : ByteArray) : Bool := match Lib.atoiAll s.data.toList with
  | .ok v => decide (1 ≤ v) && decide (s.size ≤ 9) && decide (itoaB v = s)
  | _ => false

theorem itoa_b (v : Int) (w : World) (he : Env w) (h0 : -9223372036854775808 ≤ v) (h1 : v ≤ 9223372036854775807) :
    Calls Tryz.prog 17 #[.int .i64 v] w fun e w' => e = .returned (.string (itoaB v)) ∧ Below w.heap.size w w' :=
  (Tryz.strconv_Itoa v h0 h1 w he.tab).mono fun e w' ⟨h, k, os, hw⟩ => ⟨h, by rw [hw]; exact Lib.below_grow _ w (Nat.le_refl _) k os⟩

set_option maxHeartbeats 1000000 in
theorem decimal_any (s : ByteArray) (w : World) (he : Env w) (hs : s.size ≤ 1048576) :
    Calls Tryz.prog 20 #[.string s] w fun e w' => e = .returned (.tuple #[.int .i64 (decV s), .bool (decB s)]) ∧ Below w.heap.size w w' := by
  cases hA : Lib.atoiAll s.data.toList with
  | ok v =>
    have hv := Lib.atoiAll_bounds hA
    have HV : Hid (decV s = v) := by unfold Hid decV; rw [hA]
    have HB : Hid (decB s = (decide (1 ≤ v) && decide (s.size ≤ 9) && decide (itoaB v = s))) := by unfold Hid decB; rw [hA]
    have HA := hid (Tryz.strconv_Atoi_ok s (by omega) v hA w)
    have HI := fun w' (h : Below w.heap.size w w') => hid (itoa_b v w' (he.below h) (by omega) (by omega))
    have hb := ba_beq (itoaB v) s
    have h0 : ∀ w', (w' = w ∨ ∃ t, w' = Lib.bytesWorld w 5 t) → Below w.heap.size w w' := by
      rintro w' (rfl | ⟨t, rfl⟩)
      · exact Below.refl _ _
      · exact Lib.bytesWorld_below _ _ _
    clear hA
    generalize itoaB v = iv at *
    by_cases h1 : 1 ≤ v
    · by_cases h9 : s.size ≤ 9
      · go_enter Tryz.func20, Tryz.ntmps20
        go_wp2_with fail
        refine HA.out.mono ?_
        rintro e w1 ⟨rfl, hw1⟩
        have HB1 := hid (h0 _ hw1)
        clear hw1
        have h9' : (s.size : Int) ≤ 9 := by omega
        go_wp2_with fail
        refine (HI _ HB1.out).out.mono ?_
        rintro e w2 ⟨rfl, hB2⟩
        go_wp2
        go_ret2
        exact ⟨by rw [HV.out, HB.out, decide_eq_true h1, decide_eq_true h9]; simp, below_tr HB1.out hB2⟩
      · go_enter Tryz.func20, Tryz.ntmps20
        go_wp2_with fail
        refine HA.out.mono ?_
        rintro e w1 ⟨rfl, hw1⟩
        have HB1 := hid (h0 _ hw1)
        clear hw1
        have h9' : ¬ (s.size : Int) ≤ 9 := by omega
        go_wp2
        go_ret2
        exact ⟨by rw [HV.out, HB.out, decide_eq_false h9]; simp, HB1.out⟩
    · go_enter Tryz.func20, Tryz.ntmps20
      go_wp2_with fail
      refine HA.out.mono ?_
      rintro e w1 ⟨rfl, hw1⟩
      have HB1 := hid (h0 _ hw1)
      clear hw1
      go_wp2
      go_ret2
      exact ⟨by rw [HV.out, HB.out, decide_eq_false (by omega)]; simp, HB1.out⟩
  | range =>
    have HV : Hid (decV s = Lib.atoiSat s.data.toList) := by unfold Hid decV; rw [hA]
    have HB : Hid (decB s = false) := by unfold Hid decB; rw [hA]
    obtain ⟨t, p, h1⟩ := he.e2
    have HA := hid (Tryz.strconv_Atoi_range s (by omega) hA (.iface t p) w h1 (.inr ⟨_, _, rfl⟩))
    clear hA h1
    generalize Lib.atoiSat s.data.toList = sv at *
    go_enter Tryz.func20, Tryz.ntmps20
    go_wp2_with fail
    refine HA.out.mono ?_
    rintro e w1 ⟨N, rfl, _, _, hB⟩
    go_wp2
    go_ret2
    exact ⟨by rw [HV.out, HB.out]; rfl, hB⟩
  | _ =>
    have HV : Hid (decV s = 0) := by unfold Hid decV; rw [hA]
    have HB : Hid (decB s = false) := by unfold Hid decB; rw [hA]
    obtain ⟨t, p, h1⟩ := he.e1
    have HA := hid (Tryz.strconv_Atoi_bad s (by omega) (by rw [hA]; intro v h; cases h) (by rw [hA]; intro h; cases h) (.iface t p) w h1 (.inr ⟨_, _, rfl⟩))
    clear hA h1
    go_enter Tryz.func20, Tryz.ntmps20
    go_wp2_with fail
    refine HA.out.mono ?_
    rintro e w1 ⟨N, rfl, _, _, hB⟩
    go_wp2
    go_ret2
    exact ⟨by rw [HV.out, HB.out]; rfl, hB⟩

def cutPB (s p : ByteArray) : Bool := Lib.hasPrefix s.data.toList p.data.toList
def cutPS (s p : ByteArray) : ByteArray := if cutPB s p = true then s.extract p.size s.size else s
set_option maxHeartbeats 1000000 in
theorem cutP_in (s p : ByteArray) (w : World) (_ : s.size ≤ 1048576) :
    Calls Tryz.prog 59 #[.string s, .string p] w fun e w' => e = .returned (.tuple #[.string (cutPS s p), .bool (cutPB s p)]) ∧ w = w' := by
  have HP := fun w' => hid (Tryz.stringslite_HasPrefix s p w')
  cases hp : Lib.hasPrefix s.data.toList p.data.toList with
  | true =>
    have hle : p.size ≤ s.size := by
      have := Lib.hasPrefix_le hp
      simpa using this
    have HS : Hid (cutPS s p = s.extract p.size s.size) := by unfold Hid cutPS cutPB; rw [hp]; rfl
    have HB : Hid (cutPB s p = true) := hp
    rw [hp] at HP
    clear hp
    go_enter Tryz.func59, Tryz.ntmps59
    go_wp2_with (go_at_call 81; refine (HP _).out.mono ?_; rintro e w' ⟨rfl, rfl⟩)
    go_ret2
    exact ⟨by rw [HS.out, HB.out]; rfl, rfl⟩
  | false =>
    have HS : Hid (cutPS s p = s) := by unfold Hid cutPS cutPB; rw [hp]; rfl
    have HB : Hid (cutPB s p = false) := hp
    rw [hp] at HP
    clear hp
    go_enter Tryz.func59, Tryz.ntmps59
    go_wp2_with (go_at_call 81; refine (HP _).out.mono ?_; rintro e w' ⟨rfl, rfl⟩)
    go_ret2
    exact ⟨by rw [HS.out, HB.out]; rfl, rfl⟩
set_option maxHeartbeats 1000000 in
theorem cutP_any (s p : ByteArray) (w : World) (hs : s.size ≤ 1048576) :
    Calls Tryz.prog 39 #[.string s, .string p] w fun e w' => e = .returned (.tuple #[.string (cutPS s p), .bool (cutPB s p)]) ∧ w = w' := by
  have H := hid (cutP_in s p w hs)
  generalize cutPS s p = a at *
  generalize cutPB s p = b at *
  go_enter Tryz.func39, Tryz.ntmps39
  go_wp2_with (go_at_call 59; refine H.out.mono ?_; rintro e w' ⟨rfl, rfl⟩)
  go_ret2
  exact ⟨rfl, rfl⟩

def cutXB (s p : ByteArray) : Bool := Lib.hasSuffix s.data.toList p.data.toList
def cutXS (s p : ByteArray) : ByteArray := if cutXB s p = true then s.extract 0 (s.size - p.size) else s
set_option maxHeartbeats 1000000 in
theorem cutX_in (s p : ByteArray) (w : World) (hs : s.size ≤ 1048576) :
    Calls Tryz.prog 60 #[.string s, .string p] w fun e w' => e = .returned (.tuple #[.string (cutXS s p), .bool (cutXB s p)]) ∧ w = w' := by
  have HP := fun w' => hid (Tryz.stringslite_HasSuffix s p w' (by omega))
  cases hp : Lib.hasSuffix s.data.toList p.data.toList with
  | true =>
    have hle : p.size ≤ s.size := by
      have := Lib.hasSuffix_le hp
      simpa using this
    have HS : Hid (cutXS s p = s.extract 0 (s.size - p.size)) := by unfold Hid cutXS cutXB; rw [hp]; rfl
    have HB : Hid (cutXB s p = true) := hp
    rw [hp] at HP
    clear hp
    go_enter Tryz.func60, Tryz.ntmps60
    go_wp2_with (go_at_call 82; refine (HP _).out.mono ?_; rintro e w' ⟨rfl, rfl⟩)
    go_ret2
    exact ⟨by rw [HS.out, HB.out]; rfl, rfl⟩
  | false =>
    have HS : Hid (cutXS s p = s) := by unfold Hid cutXS cutXB; rw [hp]; rfl
    have HB : Hid (cutXB s p = false) := hp
    rw [hp] at HP
    clear hp
    go_enter Tryz.func60, Tryz.ntmps60
    go_wp2_with (go_at_call 82; refine (HP _).out.mono ?_; rintro e w' ⟨rfl, rfl⟩)
    go_ret2
    exact ⟨by rw [HS.out, HB.out]; rfl, rfl⟩
set_option maxHeartbeats 1000000 in
theorem cutX_any (s p : ByteArray) (w : World) (hs : s.size ≤ 1048576) :
    Calls Tryz.prog 40 #[.string s, .string p] w fun e w' => e = .returned (.tuple #[.string (cutXS s p), .bool (cutXB s p)]) ∧ w = w' := by
  have H := hid (cutX_in s p w hs)
  generalize cutXS s p = a at *
  generalize cutXB s p = b at *
  go_enter Tryz.func40, Tryz.ntmps40
  go_wp2_with (go_at_call 60; refine H.out.mono ?_; rintro e w' ⟨rfl, rfl⟩)
  go_ret2
  exact ⟨rfl, rfl⟩
end Go.Proofs.YtmbehkanhefcpaaGreatDoor
