/-
  lemma.decimal, strings.CutPrefix, strings.CutSuffix; what the walks ask of the world.
-/
import Derived.Test.YtkjapeafhcdnkaaDoorConv
import Derived.Test.YtkjapeafhcdnkaaDoorSl
import Derived.Lib.SmallJoins
import Derived.Lib.AppendIntMem
import Derived.Lib.AtoiErrMem
import Derived.Lib.AtoiAllCases
import Derived.Lib.Bytes2
import Derived.Lib.Strings
namespace Go.Proofs.YtkjapeafhcdnkaaDoor
open Go.RowKit

/-- What the world must hold: the two errors of strconv, and its table of powers. -/
structure Env (w : World) : Prop where
  e1 : ∃ t p, w.cell? ⟨2, 0, none⟩ = some (.iface t p)
  e2 : ∃ t p, w.cell? ⟨3, 0, none⟩ = some (.iface t p)
  tab : Lib.TabIs Tryd.prog w "internal/strconv.uint64pow10" .u64 Lib.pow10Tab
theorem Env.below {w w' : World} (h : Env w) (hb : Below w.heap.size w w') : Env w' := by
  obtain ⟨⟨t1, p1, h1⟩, ⟨t2, p2, h2⟩, h3⟩ := h
  exact ⟨⟨t1, p1, Below.keeps hb _ _ h1⟩, ⟨t2, p2, Below.keeps hb _ _ h2⟩, Go.Joins.tab_stays (g := 1) (by kernel_rfl) h3 hb (Nat.le_refl _)⟩

def itoaB (v : Int) : ByteArray := ⟨(Lib.itoa v).toArray⟩
def decV (s : ByteArray) : Int := match Lib.atoiAll s.data.toList with
  | .ok v => v
  | .range => Lib.atoiSat s.data.toList
  | _ => 0
def decB (s : ByteArray) : Bool := match Lib.atoiAll s.data.toList with
  | .ok v => decide (1 ≤ v) && decide (s.size ≤ 9) && decide (itoaB v = s)
  | _ => false

theorem itoa_b (v : Int) (w : World) (he : Env w) (h0 : -9223372036854775808 ≤ v) (h1 : v ≤ 9223372036854775807) :
    Calls Tryd.prog 44 #[.int .i64 v] w fun e w' => e = .returned (.string (itoaB v)) ∧ Below w.heap.size w w' :=
  (Tryd.strconv_Itoa v h0 h1 w he.tab).mono fun e w' ⟨h, k, os, hw⟩ => ⟨h, by rw [hw]; exact Lib.below_grow _ w (Nat.le_refl _) k os⟩

def cutPB (s p : ByteArray) : Bool := Lib.hasPrefix s.data.toList p.data.toList
def cutPS (s p : ByteArray) : ByteArray := if cutPB s p = true then s.extract p.size s.size else s
def cutXB (s p : ByteArray) : Bool := Lib.hasSuffix s.data.toList p.data.toList
def cutXS (s p : ByteArray) : ByteArray := if cutXB s p = true then s.extract 0 (s.size - p.size) else s
end Go.Proofs.YtkjapeafhcdnkaaDoor
