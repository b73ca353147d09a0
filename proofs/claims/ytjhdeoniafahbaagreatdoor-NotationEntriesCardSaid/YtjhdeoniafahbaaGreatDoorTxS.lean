/-
  DERIVED: THE SHELF's CONTRACTS AT THIS DUMP, IN PLAIN WORDS (tools/lay-plain.mjs out of 'TryzShelf.lean', which tools/lay-shelf.mjs wrote): THE SAME DECLARATIONS UNDER THE SAME NAMES: 'import', 'namespace', 'open', 'def', 'theorem' AND NOTHING ELSE: no command of the shelf's: FOR A HAND-IN. Each laying: the table of numbers ('.._ren') and one theorem, a field a fact of the dump's own or the kernel's comparison; each contract: ONE APPLICATION.
-/
import Derived.Shelf.LaysM
import Derived.Shelf.Strings.Shaped
import Derived.Shelf.Strings.SplitShaped
import Derived.Test.YtjhdeoniafahbaaGreatDoorProg
namespace Go.Proofs
open Go.Shelf
def Tryz.laysM219_ren : Go.Shelf.Ren := ⟨fun | 219 => 103 | 217 => 124 | 225 => 125 | 224 => 126 | 267 => 127 | 266 => 147 | 314 => 148 | n => n, fun | 9 => 9 | 3 => 3 | 4 => 4 | 5 => 5 | 46 => 140 | 146 => 162 | 51 => 161 | n => n, fun | 1 => 0 | n => n⟩
theorem Tryz.laysM219 : Go.Proofs.LaysM.n219 Tryz.prog Tryz.laysM219_ren := {
  mixed := by kernel_rfl
  f217 := Tryz.func124.trans (congrArg some (by kernel_rfl))
  f219 := Tryz.func103.trans (congrArg some (by kernel_rfl))
  f224 := Tryz.func126.trans (congrArg some (by kernel_rfl))
  f225 := Tryz.func125.trans (congrArg some (by kernel_rfl))
  f266 := Tryz.func147.trans (congrArg some (by kernel_rfl))
  f267 := Tryz.func127.trans (congrArg some (by kernel_rfl))
  f314 := Tryz.func148.trans (congrArg some (by kernel_rfl))
  t3 := Tryz.underlying3
  a3 := Tryz.isAgg3
  z3 := Tryz.sizeOf3
  v3 := Tryz.zeroValue3
  t4 := Tryz.underlying4
  a4 := Tryz.isAgg4
  z4 := Tryz.sizeOf4
  v4 := Tryz.zeroValue4
  t5 := Tryz.underlying5
  a5 := Tryz.isAgg5
  z5 := Tryz.sizeOf5
  v5 := Tryz.zeroValue5
  t9 := Tryz.underlying9
  a9 := Tryz.isAgg9
  z9 := Tryz.sizeOf9
  v9 := Tryz.zeroValue9
  t46 := Tryz.underlying140
  a46 := Tryz.isAgg140
  z46 := Tryz.sizeOf140
  v46 := Tryz.zeroValue140
  t51 := Tryz.underlying161
  a51 := Tryz.isAgg161
  z51 := Tryz.sizeOf161
  v51 := Tryz.zeroValue161
  t146 := Tryz.underlying162
  a146 := Tryz.isAgg162
  z146 := Tryz.sizeOf162
  v146 := Tryz.zeroValue162
  g1 := by kernel_rfl
  i3 := by kernel_rfl
  i4 := by kernel_rfl
  i5 := by kernel_rfl
  i9 := by kernel_rfl
  i46 := by kernel_rfl
  i51 := by kernel_rfl
  i146 := by kernel_rfl
  m1 := by kernel_rfl
  s1_3 := fun w h => Go.Proofs.cell_of_shapedOpen_int (zero := #[.int .i64 0]) (t := 3) h (of_decide_eq_true (by kernel_rfl)) (by kernel_rfl) rfl (by kernel_rfl) (by kernel_rfl) Tryz.underlying3 }
open Go.RowKit Go.Lib in
theorem Tryz.stringslite_Index_shaped (s sub : ByteArray) (w : World) (h : w.ShapedOpen Tryz.prog) (hs : s.size < 4294967281) :
    Calls Tryz.prog 103 #[.string s, .string sub] w fun e w' => e = .returned (.int .i64 (Lib.index s.data.toList sub.data.toList)) ∧ w' = w := Any.stringslite_Index_shaped Tryz.laysM219 s sub w h hs
def Tryz.laysM143_ren : Go.Shelf.Ren := ⟨fun | 143 => 69 | 219 => 103 | 217 => 124 | 225 => 125 | 224 => 126 | 267 => 127 | 266 => 147 | 314 => 148 | n => n, fun | 9 => 9 | 3 => 3 | 4 => 4 | 5 => 5 | 46 => 140 | 146 => 162 | 51 => 161 | n => n, fun | 1 => 0 | n => n⟩
theorem Tryz.laysM143 : Go.Proofs.LaysM.n143 Tryz.prog Tryz.laysM143_ren := {
  mixed := by kernel_rfl
  f143 := Tryz.func69.trans (congrArg some (by kernel_rfl))
  f217 := Tryz.func124.trans (congrArg some (by kernel_rfl))
  f219 := Tryz.func103.trans (congrArg some (by kernel_rfl))
  f224 := Tryz.func126.trans (congrArg some (by kernel_rfl))
  f225 := Tryz.func125.trans (congrArg some (by kernel_rfl))
  f266 := Tryz.func147.trans (congrArg some (by kernel_rfl))
  f267 := Tryz.func127.trans (congrArg some (by kernel_rfl))
  f314 := Tryz.func148.trans (congrArg some (by kernel_rfl))
  t3 := Tryz.underlying3
  a3 := Tryz.isAgg3
  z3 := Tryz.sizeOf3
  v3 := Tryz.zeroValue3
  t4 := Tryz.underlying4
  a4 := Tryz.isAgg4
  z4 := Tryz.sizeOf4
  v4 := Tryz.zeroValue4
  t5 := Tryz.underlying5
  a5 := Tryz.isAgg5
  z5 := Tryz.sizeOf5
  v5 := Tryz.zeroValue5
  t9 := Tryz.underlying9
  a9 := Tryz.isAgg9
  z9 := Tryz.sizeOf9
  v9 := Tryz.zeroValue9
  t46 := Tryz.underlying140
  a46 := Tryz.isAgg140
  z46 := Tryz.sizeOf140
  v46 := Tryz.zeroValue140
  t51 := Tryz.underlying161
  a51 := Tryz.isAgg161
  z51 := Tryz.sizeOf161
  v51 := Tryz.zeroValue161
  t146 := Tryz.underlying162
  a146 := Tryz.isAgg162
  z146 := Tryz.sizeOf162
  v146 := Tryz.zeroValue162
  g1 := by kernel_rfl
  i3 := by kernel_rfl
  i4 := by kernel_rfl
  i5 := by kernel_rfl
  i9 := by kernel_rfl
  i46 := by kernel_rfl
  i51 := by kernel_rfl
  i146 := by kernel_rfl
  m1 := by kernel_rfl
  s1_3 := fun w h => Go.Proofs.cell_of_shapedOpen_int (zero := #[.int .i64 0]) (t := 3) h (of_decide_eq_true (by kernel_rfl)) (by kernel_rfl) rfl (by kernel_rfl) (by kernel_rfl) Tryz.underlying3 }
open Go.RowKit Go.Lib in
theorem Tryz.strings_Index_shaped (s sub : ByteArray) (w : World) (h : w.ShapedOpen Tryz.prog) (hs : s.size < 4294967281) :
    Calls Tryz.prog 69 #[.string s, .string sub] w fun e w' => e = .returned (.int .i64 (Lib.index s.data.toList sub.data.toList)) ∧ w' = w := Any.strings_Index_shaped Tryz.laysM143 s sub w h hs
def Tryz.laysM220_ren : Go.Shelf.Ren := ⟨fun | 220 => 63 | 219 => 103 | 217 => 124 | 225 => 125 | 224 => 126 | 267 => 127 | 266 => 147 | 314 => 148 | n => n, fun | 9 => 9 | 4 => 4 | 3 => 3 | 5 => 5 | 46 => 140 | 146 => 162 | 51 => 161 | n => n, fun | 1 => 0 | n => n⟩
theorem Tryz.laysM220 : Go.Proofs.LaysM.n220 Tryz.prog Tryz.laysM220_ren := {
  mixed := by kernel_rfl
  f217 := Tryz.func124.trans (congrArg some (by kernel_rfl))
  f219 := Tryz.func103.trans (congrArg some (by kernel_rfl))
  f220 := Tryz.func63.trans (congrArg some (by kernel_rfl))
  f224 := Tryz.func126.trans (congrArg some (by kernel_rfl))
  f225 := Tryz.func125.trans (congrArg some (by kernel_rfl))
  f266 := Tryz.func147.trans (congrArg some (by kernel_rfl))
  f267 := Tryz.func127.trans (congrArg some (by kernel_rfl))
  f314 := Tryz.func148.trans (congrArg some (by kernel_rfl))
  t3 := Tryz.underlying3
  a3 := Tryz.isAgg3
  z3 := Tryz.sizeOf3
  v3 := Tryz.zeroValue3
  t4 := Tryz.underlying4
  a4 := Tryz.isAgg4
  z4 := Tryz.sizeOf4
  v4 := Tryz.zeroValue4
  t5 := Tryz.underlying5
  a5 := Tryz.isAgg5
  z5 := Tryz.sizeOf5
  v5 := Tryz.zeroValue5
  t9 := Tryz.underlying9
  a9 := Tryz.isAgg9
  z9 := Tryz.sizeOf9
  v9 := Tryz.zeroValue9
  t46 := Tryz.underlying140
  a46 := Tryz.isAgg140
  z46 := Tryz.sizeOf140
  v46 := Tryz.zeroValue140
  t51 := Tryz.underlying161
  a51 := Tryz.isAgg161
  z51 := Tryz.sizeOf161
  v51 := Tryz.zeroValue161
  t146 := Tryz.underlying162
  a146 := Tryz.isAgg162
  z146 := Tryz.sizeOf162
  v146 := Tryz.zeroValue162
  g1 := by kernel_rfl
  i3 := by kernel_rfl
  i4 := by kernel_rfl
  i5 := by kernel_rfl
  i9 := by kernel_rfl
  i46 := by kernel_rfl
  i51 := by kernel_rfl
  i146 := by kernel_rfl
  m1 := by kernel_rfl
  s1_3 := fun w h => Go.Proofs.cell_of_shapedOpen_int (zero := #[.int .i64 0]) (t := 3) h (of_decide_eq_true (by kernel_rfl)) (by kernel_rfl) rfl (by kernel_rfl) (by kernel_rfl) Tryz.underlying3 }
open Go.RowKit Go.Lib in
theorem Tryz.stringslite_Cut_shaped (s sep : ByteArray) (w : World) (h : w.ShapedOpen Tryz.prog) (hs : s.size < 4294967281) :
    Calls Tryz.prog 63 #[.string s, .string sep] w fun e w' => e = .returned (.tuple #[.string ⟨(Lib.cut s.data.toList sep.data.toList).1.toArray⟩, .string ⟨(Lib.cut s.data.toList sep.data.toList).2.1.toArray⟩, .bool (Lib.cut s.data.toList sep.data.toList).2.2]) ∧ ∃ n, w' = w.drewN n := Any.stringslite_Cut_shaped Tryz.laysM220 s sep w h hs
def Tryz.laysM145_ren : Go.Shelf.Ren := ⟨fun | 145 => 25 | 220 => 63 | 219 => 103 | 217 => 124 | 225 => 125 | 224 => 126 | 267 => 127 | 266 => 147 | 314 => 148 | n => n, fun | 9 => 9 | 4 => 4 | 59 => 51 | 3 => 3 | 5 => 5 | 46 => 140 | 146 => 162 | 51 => 161 | n => n, fun | 1 => 0 | n => n⟩
theorem Tryz.laysM145 : Go.Proofs.LaysM.n145 Tryz.prog Tryz.laysM145_ren := {
  mixed := by kernel_rfl
  f145 := Tryz.func25.trans (congrArg some (by kernel_rfl))
  f217 := Tryz.func124.trans (congrArg some (by kernel_rfl))
  f219 := Tryz.func103.trans (congrArg some (by kernel_rfl))
  f220 := Tryz.func63.trans (congrArg some (by kernel_rfl))
  f224 := Tryz.func126.trans (congrArg some (by kernel_rfl))
  f225 := Tryz.func125.trans (congrArg some (by kernel_rfl))
  f266 := Tryz.func147.trans (congrArg some (by kernel_rfl))
  f267 := Tryz.func127.trans (congrArg some (by kernel_rfl))
  f314 := Tryz.func148.trans (congrArg some (by kernel_rfl))
  t3 := Tryz.underlying3
  a3 := Tryz.isAgg3
  z3 := Tryz.sizeOf3
  v3 := Tryz.zeroValue3
  t4 := Tryz.underlying4
  a4 := Tryz.isAgg4
  z4 := Tryz.sizeOf4
  v4 := Tryz.zeroValue4
  t5 := Tryz.underlying5
  a5 := Tryz.isAgg5
  z5 := Tryz.sizeOf5
  v5 := Tryz.zeroValue5
  t9 := Tryz.underlying9
  a9 := Tryz.isAgg9
  z9 := Tryz.sizeOf9
  v9 := Tryz.zeroValue9
  t46 := Tryz.underlying140
  a46 := Tryz.isAgg140
  z46 := Tryz.sizeOf140
  v46 := Tryz.zeroValue140
  t51 := Tryz.underlying161
  a51 := Tryz.isAgg161
  z51 := Tryz.sizeOf161
  v51 := Tryz.zeroValue161
  t59 := Tryz.underlying51
  a59 := Tryz.isAgg51
  z59 := Tryz.sizeOf51
  v59 := Tryz.zeroValue51
  t146 := Tryz.underlying162
  a146 := Tryz.isAgg162
  z146 := Tryz.sizeOf162
  v146 := Tryz.zeroValue162
  g1 := by kernel_rfl
  i3 := by kernel_rfl
  i4 := by kernel_rfl
  i5 := by kernel_rfl
  i9 := by kernel_rfl
  i46 := by kernel_rfl
  i51 := by kernel_rfl
  i59 := by kernel_rfl
  i146 := by kernel_rfl
  m1 := by kernel_rfl
  s1_3 := fun w h => Go.Proofs.cell_of_shapedOpen_int (zero := #[.int .i64 0]) (t := 3) h (of_decide_eq_true (by kernel_rfl)) (by kernel_rfl) rfl (by kernel_rfl) (by kernel_rfl) Tryz.underlying3 }
open Go.RowKit Go.Lib in
theorem Tryz.strings_Cut_shaped (s sep : ByteArray) (w : World) (h : w.ShapedOpen Tryz.prog) (hs : s.size < 4294967281) :
    Calls Tryz.prog 25 #[.string s, .string sep] w fun e w' => e = .returned (.tuple #[.string ⟨(Lib.cut s.data.toList sep.data.toList).1.toArray⟩, .string ⟨(Lib.cut s.data.toList sep.data.toList).2.1.toArray⟩, .bool (Lib.cut s.data.toList sep.data.toList).2.2]) ∧ ∃ n, w' = w.drewN n := Any.strings_Cut_shaped Tryz.laysM145 s sep w h hs
def Tryz.laysM138_ren : Go.Shelf.Ren := ⟨fun | 138 => 27 | 195 => 67 | 218 => 68 | 143 => 69 | 219 => 103 | 217 => 124 | 225 => 125 | 224 => 126 | 267 => 127 | 266 => 147 | 314 => 148 | n => n, fun | 9 => 9 | 3 => 3 | 4 => 4 | 5 => 5 | 0 => 0 | 46 => 140 | 146 => 162 | 51 => 161 | n => n, fun | 1 => 0 | n => n⟩
theorem Tryz.laysM138 : Go.Proofs.LaysM.n138 Tryz.prog Tryz.laysM138_ren := {
  mixed := by kernel_rfl
  f138 := Tryz.func27.trans (congrArg some (by kernel_rfl))
  f143 := Tryz.func69.trans (congrArg some (by kernel_rfl))
  f195 := Tryz.func67.trans (congrArg some (by kernel_rfl))
  f217 := Tryz.func124.trans (congrArg some (by kernel_rfl))
  f218 := Tryz.func68.trans (congrArg some (by kernel_rfl))
  f219 := Tryz.func103.trans (congrArg some (by kernel_rfl))
  f224 := Tryz.func126.trans (congrArg some (by kernel_rfl))
  f225 := Tryz.func125.trans (congrArg some (by kernel_rfl))
  f266 := Tryz.func147.trans (congrArg some (by kernel_rfl))
  f267 := Tryz.func127.trans (congrArg some (by kernel_rfl))
  f314 := Tryz.func148.trans (congrArg some (by kernel_rfl))
  t0 := Tryz.underlying0
  a0 := Tryz.isAgg0
  z0 := Tryz.sizeOf0
  v0 := Tryz.zeroValue0
  t3 := Tryz.underlying3
  a3 := Tryz.isAgg3
  z3 := Tryz.sizeOf3
  v3 := Tryz.zeroValue3
  t4 := Tryz.underlying4
  a4 := Tryz.isAgg4
  z4 := Tryz.sizeOf4
  v4 := Tryz.zeroValue4
  t5 := Tryz.underlying5
  a5 := Tryz.isAgg5
  z5 := Tryz.sizeOf5
  v5 := Tryz.zeroValue5
  t9 := Tryz.underlying9
  a9 := Tryz.isAgg9
  z9 := Tryz.sizeOf9
  v9 := Tryz.zeroValue9
  t46 := Tryz.underlying140
  a46 := Tryz.isAgg140
  z46 := Tryz.sizeOf140
  v46 := Tryz.zeroValue140
  t51 := Tryz.underlying161
  a51 := Tryz.isAgg161
  z51 := Tryz.sizeOf161
  v51 := Tryz.zeroValue161
  t146 := Tryz.underlying162
  a146 := Tryz.isAgg162
  z146 := Tryz.sizeOf162
  v146 := Tryz.zeroValue162
  g1 := by kernel_rfl
  i0 := by kernel_rfl
  i3 := by kernel_rfl
  i4 := by kernel_rfl
  i5 := by kernel_rfl
  i9 := by kernel_rfl
  i46 := by kernel_rfl
  i51 := by kernel_rfl
  i146 := by kernel_rfl
  m1 := by kernel_rfl
  s1_3 := fun w h => Go.Proofs.cell_of_shapedOpen_int (zero := #[.int .i64 0]) (t := 3) h (of_decide_eq_true (by kernel_rfl)) (by kernel_rfl) rfl (by kernel_rfl) (by kernel_rfl) Tryz.underlying3 }
open Go.RowKit Go.Lib in
theorem Tryz.strings_Count_shaped (s sub : ByteArray) (w : World) (h : w.ShapedOpen Tryz.prog) (hs : s.size < 4294967281) (h2 : 2 ≤ sub.size) :
    Calls Tryz.prog 27 #[.string s, .string sub] w fun e w' => e = .returned (.int .i64 (Lib.countB s sub)) ∧ w' = w := Any.strings_Count_shaped Tryz.laysM138 s sub w h hs h2
def Tryz.laysM146_ren : Go.Shelf.Ren := ⟨fun | 146 => 57 | 221 => 95 | 268 => 118 | 138 => 27 | 143 => 69 | 195 => 67 | 197 => 139 | 218 => 68 | 219 => 103 | 260 => 165 | 217 => 124 | 225 => 125 | 224 => 126 | 267 => 127 | 266 => 147 | 314 => 148 | n => n, fun | 9 => 9 | 31 => 23 | 3 => 3 | 4 => 4 | 0 => 0 | 105 => 153 | 21 => 21 | 5 => 5 | 46 => 140 | 119 => 190 | 139 => 193 | 138 => 192 | 146 => 162 | 51 => 161 | n => n, fun | 1 => 0 | 3 => 4 | 4 => 5 | n => n⟩
theorem Tryz.laysM146 : Go.Proofs.LaysM.n146 Tryz.prog Tryz.laysM146_ren := {
  mixed := by kernel_rfl
  f138 := Tryz.func27.trans (congrArg some (by kernel_rfl))
  f143 := Tryz.func69.trans (congrArg some (by kernel_rfl))
  f146 := Tryz.func57.trans (congrArg some (by kernel_rfl))
  f195 := Tryz.func67.trans (congrArg some (by kernel_rfl))
  f197 := Tryz.func139.trans (congrArg some (by kernel_rfl))
  f217 := Tryz.func124.trans (congrArg some (by kernel_rfl))
  f218 := Tryz.func68.trans (congrArg some (by kernel_rfl))
  f219 := Tryz.func103.trans (congrArg some (by kernel_rfl))
  f221 := Tryz.func95.trans (congrArg some (by kernel_rfl))
  f224 := Tryz.func126.trans (congrArg some (by kernel_rfl))
  f225 := Tryz.func125.trans (congrArg some (by kernel_rfl))
  f260 := Tryz.func165.trans (congrArg some (by kernel_rfl))
  f266 := Tryz.func147.trans (congrArg some (by kernel_rfl))
  f267 := Tryz.func127.trans (congrArg some (by kernel_rfl))
  f268 := Tryz.func118.trans (congrArg some (by kernel_rfl))
  f314 := Tryz.func148.trans (congrArg some (by kernel_rfl))
  t0 := Tryz.underlying0
  a0 := Tryz.isAgg0
  z0 := Tryz.sizeOf0
  v0 := Tryz.zeroValue0
  t3 := Tryz.underlying3
  a3 := Tryz.isAgg3
  z3 := Tryz.sizeOf3
  v3 := Tryz.zeroValue3
  t4 := Tryz.underlying4
  a4 := Tryz.isAgg4
  z4 := Tryz.sizeOf4
  v4 := Tryz.zeroValue4
  t5 := Tryz.underlying5
  a5 := Tryz.isAgg5
  z5 := Tryz.sizeOf5
  v5 := Tryz.zeroValue5
  t9 := Tryz.underlying9
  a9 := Tryz.isAgg9
  z9 := Tryz.sizeOf9
  v9 := Tryz.zeroValue9
  t21 := Tryz.underlying21
  a21 := Tryz.isAgg21
  z21 := Tryz.sizeOf21
  v21 := Tryz.zeroValue21
  t31 := Tryz.underlying23
  a31 := Tryz.isAgg23
  z31 := Tryz.sizeOf23
  v31 := Tryz.zeroValue23
  t46 := Tryz.underlying140
  a46 := Tryz.isAgg140
  z46 := Tryz.sizeOf140
  v46 := Tryz.zeroValue140
  t51 := Tryz.underlying161
  a51 := Tryz.isAgg161
  z51 := Tryz.sizeOf161
  v51 := Tryz.zeroValue161
  t105 := Tryz.underlying153
  a105 := Tryz.isAgg153
  z105 := Tryz.sizeOf153
  v105 := Tryz.zeroValue153
  t119 := Tryz.underlying190
  a119 := Tryz.isAgg190
  z119 := Tryz.sizeOf190
  t138 := Tryz.underlying192
  a138 := Tryz.isAgg192
  z138 := Tryz.sizeOf192
  v138 := Tryz.zeroValue192
  t139 := Tryz.underlying193
  a139 := Tryz.isAgg193
  z139 := Tryz.sizeOf193
  v139 := Tryz.zeroValue193
  t146 := Tryz.underlying162
  a146 := Tryz.isAgg162
  z146 := Tryz.sizeOf162
  v146 := Tryz.zeroValue162
  g1 := by kernel_rfl
  g3 := by kernel_rfl
  g4 := by kernel_rfl
  i0 := by kernel_rfl
  i3 := by kernel_rfl
  i4 := by kernel_rfl
  i5 := by kernel_rfl
  i9 := by kernel_rfl
  i21 := by kernel_rfl
  i31 := by kernel_rfl
  i46 := by kernel_rfl
  i51 := by kernel_rfl
  i105 := by kernel_rfl
  i138 := by kernel_rfl
  i139 := by kernel_rfl
  i146 := by kernel_rfl
  m1 := by kernel_rfl
  s1_3 := fun w h => Go.Proofs.cell_of_shapedOpen_int (zero := #[.int .i64 0]) (t := 3) h (of_decide_eq_true (by kernel_rfl)) (by kernel_rfl) rfl (by kernel_rfl) (by kernel_rfl) Tryz.underlying3
  m3 := by kernel_rfl
  m4 := by kernel_rfl }
open Go.RowKit Go.Lib in
/-- strings.Split, sep not empty. (LAID: no walk: one application.) -/
theorem Tryz.strings_Split_shaped (s sep : ByteArray) (w : World) (h : w.ShapedOpen Tryz.prog) (hs : s.size < 4294967281) (h1 : 1 ≤ sep.size) :
    Calls Tryz.prog 57 #[.string s, .string sep] w fun e w' =>
      e = .returned (.slice (some ⟨w.heap.size, 0, none⟩) (Lib.countB s sep + 1) (Lib.countB s sep + 1)) ∧ w' = w.alloc (.cells ((Lib.splitB sep 0 (Lib.countB s sep) s).map Value.string).toArray 9) := Any.strings_Split_shaped Tryz.laysM146 s sep w h hs h1
end Go.Proofs
