/-
  DERIVED: THE SHELF's CONTRACTS AT THIS DUMP, IN PLAIN WORDS (tools/lay-plain.mjs out of 'TryzShelf.lean', which tools/lay-shelf.mjs wrote): THE SAME DECLARATIONS UNDER THE SAME NAMES: 'import', 'namespace', 'open', 'def', 'theorem' AND NOTHING ELSE: no command of the shelf's: FOR A HAND-IN. Each laying: the table of numbers ('.._ren') and one theorem, a field a fact of the dump's own or the kernel's comparison; each contract: ONE APPLICATION.
-/
import Derived.Shelf.LaysM
import Derived.Shelf.Strings.Shaped
import Derived.Shelf.Strings.SplitShaped
import Derived.Test.YtmbehkanhefcpaaGreatDoorProg
namespace Go.Proofs
open Go.Shelf
def Tryz.laysM219_ren : Go.Shelf.Ren := ⟨fun | 219 => 45 | 217 => 68 | 225 => 69 | 224 => 70 | 267 => 71 | 266 => 89 | 314 => 90 | n => n, fun | 9 => 9 | 3 => 3 | 4 => 4 | 5 => 5 | 46 => 91 | 146 => 111 | 51 => 107 | n => n, fun | 1 => 0 | n => n⟩
theorem Tryz.laysM219 : Go.Proofs.LaysM.n219 Tryz.prog Tryz.laysM219_ren := {
  mixed := by kernel_rfl
  f217 := Tryz.func68.trans (congrArg some (by kernel_rfl))
  f219 := Tryz.func45.trans (congrArg some (by kernel_rfl))
  f224 := Tryz.func70.trans (congrArg some (by kernel_rfl))
  f225 := Tryz.func69.trans (congrArg some (by kernel_rfl))
  f266 := Tryz.func89.trans (congrArg some (by kernel_rfl))
  f267 := Tryz.func71.trans (congrArg some (by kernel_rfl))
  f314 := Tryz.func90.trans (congrArg some (by kernel_rfl))
  t3 := Tryz.underlying3
  a3 := Tryz.isAgg3
  z3 := Tryz.sizeOf3
  v3 := Tryz.zeroValue3
  t4 := Tryz.underlying4
  a4 := Tryz.isAgg4
  z4 := Tryz.sizeOf4
  v4 := Tryz.zeroValue4
  t5 := Tryz.underlying5
  a5 := Tryz.isAgg5
  z5 := Tryz.sizeOf5
  v5 := Tryz.zeroValue5
  t9 := Tryz.underlying9
  a9 := Tryz.isAgg9
  z9 := Tryz.sizeOf9
  v9 := Tryz.zeroValue9
  t46 := Tryz.underlying91
  a46 := Tryz.isAgg91
  z46 := Tryz.sizeOf91
  v46 := Tryz.zeroValue91
  t51 := Tryz.underlying107
  a51 := Tryz.isAgg107
  z51 := Tryz.sizeOf107
  v51 := Tryz.zeroValue107
  t146 := Tryz.underlying111
  a146 := Tryz.isAgg111
  z146 := Tryz.sizeOf111
  v146 := Tryz.zeroValue111
  g1 := by kernel_rfl
  i3 := by kernel_rfl
  i4 := by kernel_rfl
  i5 := by kernel_rfl
  i9 := by kernel_rfl
  i46 := by kernel_rfl
  i51 := by kernel_rfl
  i146 := by kernel_rfl
  m1 := by kernel_rfl
  s1_3 := fun w h => Go.Proofs.cell_of_shapedOpen_int (zero := #[.int .i64 0]) (t := 3) h (of_decide_eq_true (by kernel_rfl)) (by kernel_rfl) rfl (by kernel_rfl) (by kernel_rfl) Tryz.underlying3 }
open Go.RowKit Go.Lib in
theorem Tryz.stringslite_Index_shaped (s sub : ByteArray) (w : World) (h : w.ShapedOpen Tryz.prog) (hs : s.size < 4294967281) :
    Calls Tryz.prog 45 #[.string s, .string sub] w fun e w' => e = .returned (.int .i64 (Lib.index s.data.toList sub.data.toList)) ∧ w' = w := Any.stringslite_Index_shaped Tryz.laysM219 s sub w h hs
def Tryz.laysM143_ren : Go.Shelf.Ren := ⟨fun | 143 => 44 | 219 => 45 | 217 => 68 | 225 => 69 | 224 => 70 | 267 => 71 | 266 => 89 | 314 => 90 | n => n, fun | 9 => 9 | 3 => 3 | 4 => 4 | 5 => 5 | 46 => 91 | 146 => 111 | 51 => 107 | n => n, fun | 1 => 0 | n => n⟩
theorem Tryz.laysM143 : Go.Proofs.LaysM.n143 Tryz.prog Tryz.laysM143_ren := {
  mixed := by kernel_rfl
  f143 := Tryz.func44.trans (congrArg some (by kernel_rfl))
  f217 := Tryz.func68.trans (congrArg some (by kernel_rfl))
  f219 := Tryz.func45.trans (congrArg some (by kernel_rfl))
  f224 := Tryz.func70.trans (congrArg some (by kernel_rfl))
  f225 := Tryz.func69.trans (congrArg some (by kernel_rfl))
  f266 := Tryz.func89.trans (congrArg some (by kernel_rfl))
  f267 := Tryz.func71.trans (congrArg some (by kernel_rfl))
  f314 := Tryz.func90.trans (congrArg some (by kernel_rfl))
  t3 := Tryz.underlying3
  a3 := Tryz.isAgg3
  z3 := Tryz.sizeOf3
  v3 := Tryz.zeroValue3
  t4 := Tryz.underlying4
  a4 := Tryz.isAgg4
  z4 := Tryz.sizeOf4
  v4 := Tryz.zeroValue4
  t5 := Tryz.underlying5
  a5 := Tryz.isAgg5
  z5 := Tryz.sizeOf5
  v5 := Tryz.zeroValue5
  t9 := Tryz.underlying9
  a9 := Tryz.isAgg9
  z9 := Tryz.sizeOf9
  v9 := Tryz.zeroValue9
  t46 := Tryz.underlying91
  a46 := Tryz.isAgg91
  z46 := Tryz.sizeOf91
  v46 := Tryz.zeroValue91
  t51 := Tryz.underlying107
  a51 := Tryz.isAgg107
  z51 := Tryz.sizeOf107
  v51 := Tryz.zeroValue107
  t146 := Tryz.underlying111
  a146 := Tryz.isAgg111
  z146 := Tryz.sizeOf111
  v146 := Tryz.zeroValue111
  g1 := by kernel_rfl
  i3 := by kernel_rfl
  i4 := by kernel_rfl
  i5 := by kernel_rfl
  i9 := by kernel_rfl
  i46 := by kernel_rfl
  i51 := by kernel_rfl
  i146 := by kernel_rfl
  m1 := by kernel_rfl
  s1_3 := fun w h => Go.Proofs.cell_of_shapedOpen_int (zero := #[.int .i64 0]) (t := 3) h (of_decide_eq_true (by kernel_rfl)) (by kernel_rfl) rfl (by kernel_rfl) (by kernel_rfl) Tryz.underlying3 }
open Go.RowKit Go.Lib in
theorem Tryz.strings_Index_shaped (s sub : ByteArray) (w : World) (h : w.ShapedOpen Tryz.prog) (hs : s.size < 4294967281) :
    Calls Tryz.prog 44 #[.string s, .string sub] w fun e w' => e = .returned (.int .i64 (Lib.index s.data.toList sub.data.toList)) ∧ w' = w := Any.strings_Index_shaped Tryz.laysM143 s sub w h hs
def Tryz.laysM220_ren : Go.Shelf.Ren := ⟨fun | 220 => 30 | 219 => 45 | 217 => 68 | 225 => 69 | 224 => 70 | 267 => 71 | 266 => 89 | 314 => 90 | n => n, fun | 9 => 9 | 4 => 4 | 3 => 3 | 5 => 5 | 46 => 91 | 146 => 111 | 51 => 107 | n => n, fun | 1 => 0 | n => n⟩
theorem Tryz.laysM220 : Go.Proofs.LaysM.n220 Tryz.prog Tryz.laysM220_ren := {
  mixed := by kernel_rfl
  f217 := Tryz.func68.trans (congrArg some (by kernel_rfl))
  f219 := Tryz.func45.trans (congrArg some (by kernel_rfl))
  f220 := Tryz.func30.trans (congrArg some (by kernel_rfl))
  f224 := Tryz.func70.trans (congrArg some (by kernel_rfl))
  f225 := Tryz.func69.trans (congrArg some (by kernel_rfl))
  f266 := Tryz.func89.trans (congrArg some (by kernel_rfl))
  f267 := Tryz.func71.trans (congrArg some (by kernel_rfl))
  f314 := Tryz.func90.trans (congrArg some (by kernel_rfl))
  t3 := Tryz.underlying3
  a3 := Tryz.isAgg3
  z3 := Tryz.sizeOf3
  v3 := Tryz.zeroValue3
  t4 := Tryz.underlying4
  a4 := Tryz.isAgg4
  z4 := Tryz.sizeOf4
  v4 := Tryz.zeroValue4
  t5 := Tryz.underlying5
  a5 := Tryz.isAgg5
  z5 := Tryz.sizeOf5
  v5 := Tryz.zeroValue5
  t9 := Tryz.underlying9
  a9 := Tryz.isAgg9
  z9 := Tryz.sizeOf9
  v9 := Tryz.zeroValue9
  t46 := Tryz.underlying91
  a46 := Tryz.isAgg91
  z46 := Tryz.sizeOf91
  v46 := Tryz.zeroValue91
  t51 := Tryz.underlying107
  a51 := Tryz.isAgg107
  z51 := Tryz.sizeOf107
  v51 := Tryz.zeroValue107
  t146 := Tryz.underlying111
  a146 := Tryz.isAgg111
  z146 := Tryz.sizeOf111
  v146 := Tryz.zeroValue111
  g1 := by kernel_rfl
  i3 := by kernel_rfl
  i4 := by kernel_rfl
  i5 := by kernel_rfl
  i9 := by kernel_rfl
  i46 := by kernel_rfl
  i51 := by kernel_rfl
  i146 := by kernel_rfl
  m1 := by kernel_rfl
  s1_3 := fun w h => Go.Proofs.cell_of_shapedOpen_int (zero := #[.int .i64 0]) (t := 3) h (of_decide_eq_true (by kernel_rfl)) (by kernel_rfl) rfl (by kernel_rfl) (by kernel_rfl) Tryz.underlying3 }
open Go.RowKit Go.Lib in
theorem Tryz.stringslite_Cut_shaped (s sep : ByteArray) (w : World) (h : w.ShapedOpen Tryz.prog) (hs : s.size < 4294967281) :
    Calls Tryz.prog 30 #[.string s, .string sep] w fun e w' => e = .returned (.tuple #[.string ⟨(Lib.cut s.data.toList sep.data.toList).1.toArray⟩, .string ⟨(Lib.cut s.data.toList sep.data.toList).2.1.toArray⟩, .bool (Lib.cut s.data.toList sep.data.toList).2.2]) ∧ ∃ n, w' = w.drewN n := Any.stringslite_Cut_shaped Tryz.laysM220 s sep w h hs
def Tryz.laysM145_ren : Go.Shelf.Ren := ⟨fun | 145 => 19 | 220 => 30 | 219 => 45 | 217 => 68 | 225 => 69 | 224 => 70 | 267 => 71 | 266 => 89 | 314 => 90 | n => n, fun | 9 => 9 | 4 => 4 | 59 => 43 | 3 => 3 | 5 => 5 | 46 => 91 | 146 => 111 | 51 => 107 | n => n, fun | 1 => 0 | n => n⟩
theorem Tryz.laysM145 : Go.Proofs.LaysM.n145 Tryz.prog Tryz.laysM145_ren := {
  mixed := by kernel_rfl
  f145 := Tryz.func19.trans (congrArg some (by kernel_rfl))
  f217 := Tryz.func68.trans (congrArg some (by kernel_rfl))
  f219 := Tryz.func45.trans (congrArg some (by kernel_rfl))
  f220 := Tryz.func30.trans (congrArg some (by kernel_rfl))
  f224 := Tryz.func70.trans (congrArg some (by kernel_rfl))
  f225 := Tryz.func69.trans (congrArg some (by kernel_rfl))
  f266 := Tryz.func89.trans (congrArg some (by kernel_rfl))
  f267 := Tryz.func71.trans (congrArg some (by kernel_rfl))
  f314 := Tryz.func90.trans (congrArg some (by kernel_rfl))
  t3 := Tryz.underlying3
  a3 := Tryz.isAgg3
  z3 := Tryz.sizeOf3
  v3 := Tryz.zeroValue3
  t4 := Tryz.underlying4
  a4 := Tryz.isAgg4
  z4 := Tryz.sizeOf4
  v4 := Tryz.zeroValue4
  t5 := Tryz.underlying5
  a5 := Tryz.isAgg5
  z5 := Tryz.sizeOf5
  v5 := Tryz.zeroValue5
  t9 := Tryz.underlying9
  a9 := Tryz.isAgg9
  z9 := Tryz.sizeOf9
  v9 := Tryz.zeroValue9
  t46 := Tryz.underlying91
  a46 := Tryz.isAgg91
  z46 := Tryz.sizeOf91
  v46 := Tryz.zeroValue91
  t51 := Tryz.underlying107
  a51 := Tryz.isAgg107
  z51 := Tryz.sizeOf107
  v51 := Tryz.zeroValue107
  t59 := Tryz.underlying43
  a59 := Tryz.isAgg43
  z59 := Tryz.sizeOf43
  v59 := Tryz.zeroValue43
  t146 := Tryz.underlying111
  a146 := Tryz.isAgg111
  z146 := Tryz.sizeOf111
  v146 := Tryz.zeroValue111
  g1 := by kernel_rfl
  i3 := by kernel_rfl
  i4 := by kernel_rfl
  i5 := by kernel_rfl
  i9 := by kernel_rfl
  i46 := by kernel_rfl
  i51 := by kernel_rfl
  i59 := by kernel_rfl
  i146 := by kernel_rfl
  m1 := by kernel_rfl
  s1_3 := fun w h => Go.Proofs.cell_of_shapedOpen_int (zero := #[.int .i64 0]) (t := 3) h (of_decide_eq_true (by kernel_rfl)) (by kernel_rfl) rfl (by kernel_rfl) (by kernel_rfl) Tryz.underlying3 }
open Go.RowKit Go.Lib in
theorem Tryz.strings_Cut_shaped (s sep : ByteArray) (w : World) (h : w.ShapedOpen Tryz.prog) (hs : s.size < 4294967281) :
    Calls Tryz.prog 19 #[.string s, .string sep] w fun e w' => e = .returned (.tuple #[.string ⟨(Lib.cut s.data.toList sep.data.toList).1.toArray⟩, .string ⟨(Lib.cut s.data.toList sep.data.toList).2.1.toArray⟩, .bool (Lib.cut s.data.toList sep.data.toList).2.2]) ∧ ∃ n, w' = w.drewN n := Any.strings_Cut_shaped Tryz.laysM145 s sep w h hs
def Tryz.laysM138_ren : Go.Shelf.Ren := ⟨fun | 138 => 43 | 195 => 65 | 218 => 67 | 143 => 44 | 219 => 45 | 217 => 68 | 225 => 69 | 224 => 70 | 267 => 71 | 266 => 89 | 314 => 90 | n => n, fun | 9 => 9 | 3 => 3 | 4 => 4 | 5 => 5 | 0 => 0 | 46 => 91 | 146 => 111 | 51 => 107 | n => n, fun | 1 => 0 | n => n⟩
theorem Tryz.laysM138 : Go.Proofs.LaysM.n138 Tryz.prog Tryz.laysM138_ren := {
  mixed := by kernel_rfl
  f138 := Tryz.func43.trans (congrArg some (by kernel_rfl))
  f143 := Tryz.func44.trans (congrArg some (by kernel_rfl))
  f195 := Tryz.func65.trans (congrArg some (by kernel_rfl))
  f217 := Tryz.func68.trans (congrArg some (by kernel_rfl))
  f218 := Tryz.func67.trans (congrArg some (by kernel_rfl))
  f219 := Tryz.func45.trans (congrArg some (by kernel_rfl))
  f224 := Tryz.func70.trans (congrArg some (by kernel_rfl))
  f225 := Tryz.func69.trans (congrArg some (by kernel_rfl))
  f266 := Tryz.func89.trans (congrArg some (by kernel_rfl))
  f267 := Tryz.func71.trans (congrArg some (by kernel_rfl))
  f314 := Tryz.func90.trans (congrArg some (by kernel_rfl))
  t0 := Tryz.underlying0
  a0 := Tryz.isAgg0
  z0 := Tryz.sizeOf0
  v0 := Tryz.zeroValue0
  t3 := Tryz.underlying3
  a3 := Tryz.isAgg3
  z3 := Tryz.sizeOf3
  v3 := Tryz.zeroValue3
  t4 := Tryz.underlying4
  a4 := Tryz.isAgg4
  z4 := Tryz.sizeOf4
  v4 := Tryz.zeroValue4
  t5 := Tryz.underlying5
  a5 := Tryz.isAgg5
  z5 := Tryz.sizeOf5
  v5 := Tryz.zeroValue5
  t9 := Tryz.underlying9
  a9 := Tryz.isAgg9
  z9 := Tryz.sizeOf9
  v9 := Tryz.zeroValue9
  t46 := Tryz.underlying91
  a46 := Tryz.isAgg91
  z46 := Tryz.sizeOf91
  v46 := Tryz.zeroValue91
  t51 := Tryz.underlying107
  a51 := Tryz.isAgg107
  z51 := Tryz.sizeOf107
  v51 := Tryz.zeroValue107
  t146 := Tryz.underlying111
  a146 := Tryz.isAgg111
  z146 := Tryz.sizeOf111
  v146 := Tryz.zeroValue111
  g1 := by kernel_rfl
  i0 := by kernel_rfl
  i3 := by kernel_rfl
  i4 := by kernel_rfl
  i5 := by kernel_rfl
  i9 := by kernel_rfl
  i46 := by kernel_rfl
  i51 := by kernel_rfl
  i146 := by kernel_rfl
  m1 := by kernel_rfl
  s1_3 := fun w h => Go.Proofs.cell_of_shapedOpen_int (zero := #[.int .i64 0]) (t := 3) h (of_decide_eq_true (by kernel_rfl)) (by kernel_rfl) rfl (by kernel_rfl) (by kernel_rfl) Tryz.underlying3 }
open Go.RowKit Go.Lib in
theorem Tryz.strings_Count_shaped (s sub : ByteArray) (w : World) (h : w.ShapedOpen Tryz.prog) (hs : s.size < 4294967281) (h2 : 2 ≤ sub.size) :
    Calls Tryz.prog 43 #[.string s, .string sub] w fun e w' => e = .returned (.int .i64 (Lib.countB s sub)) ∧ w' = w := Any.strings_Count_shaped Tryz.laysM138 s sub w h hs h2
def Tryz.laysM146_ren : Go.Shelf.Ren := ⟨fun | 146 => 18 | 221 => 29 | 268 => 42 | 138 => 43 | 143 => 44 | 195 => 65 | 197 => 66 | 218 => 67 | 219 => 45 | 260 => 88 | 217 => 68 | 225 => 69 | 224 => 70 | 267 => 71 | 266 => 89 | 314 => 90 | n => n, fun | 9 => 9 | 31 => 24 | 3 => 3 | 4 => 4 | 0 => 0 | 105 => 88 | 21 => 21 | 5 => 5 | 46 => 91 | 119 => 122 | 139 => 125 | 138 => 124 | 146 => 111 | 51 => 107 | n => n, fun | 1 => 0 | 3 => 4 | 4 => 5 | n => n⟩
theorem Tryz.laysM146 : Go.Proofs.LaysM.n146 Tryz.prog Tryz.laysM146_ren := {
  mixed := by kernel_rfl
  f138 := Tryz.func43.trans (congrArg some (by kernel_rfl))
  f143 := Tryz.func44.trans (congrArg some (by kernel_rfl))
  f146 := Tryz.func18.trans (congrArg some (by kernel_rfl))
  f195 := Tryz.func65.trans (congrArg some (by kernel_rfl))
  f197 := Tryz.func66.trans (congrArg some (by kernel_rfl))
  f217 := Tryz.func68.trans (congrArg some (by kernel_rfl))
  f218 := Tryz.func67.trans (congrArg some (by kernel_rfl))
  f219 := Tryz.func45.trans (congrArg some (by kernel_rfl))
  f221 := Tryz.func29.trans (congrArg some (by kernel_rfl))
  f224 := Tryz.func70.trans (congrArg some (by kernel_rfl))
  f225 := Tryz.func69.trans (congrArg some (by kernel_rfl))
  f260 := Tryz.func88.trans (congrArg some (by kernel_rfl))
  f266 := Tryz.func89.trans (congrArg some (by kernel_rfl))
  f267 := Tryz.func71.trans (congrArg some (by kernel_rfl))
  f268 := Tryz.func42.trans (congrArg some (by kernel_rfl))
  f314 := Tryz.func90.trans (congrArg some (by kernel_rfl))
  t0 := Tryz.underlying0
  a0 := Tryz.isAgg0
  z0 := Tryz.sizeOf0
  v0 := Tryz.zeroValue0
  t3 := Tryz.underlying3
  a3 := Tryz.isAgg3
  z3 := Tryz.sizeOf3
  v3 := Tryz.zeroValue3
  t4 := Tryz.underlying4
  a4 := Tryz.isAgg4
  z4 := Tryz.sizeOf4
  v4 := Tryz.zeroValue4
  t5 := Tryz.underlying5
  a5 := Tryz.isAgg5
  z5 := Tryz.sizeOf5
  v5 := Tryz.zeroValue5
  t9 := Tryz.underlying9
  a9 := Tryz.isAgg9
  z9 := Tryz.sizeOf9
  v9 := Tryz.zeroValue9
  t21 := Tryz.underlying21
  a21 := Tryz.isAgg21
  z21 := Tryz.sizeOf21
  v21 := Tryz.zeroValue21
  t31 := Tryz.underlying24
  a31 := Tryz.isAgg24
  z31 := Tryz.sizeOf24
  v31 := Tryz.zeroValue24
  t46 := Tryz.underlying91
  a46 := Tryz.isAgg91
  z46 := Tryz.sizeOf91
  v46 := Tryz.zeroValue91
  t51 := Tryz.underlying107
  a51 := Tryz.isAgg107
  z51 := Tryz.sizeOf107
  v51 := Tryz.zeroValue107
  t105 := Tryz.underlying88
  a105 := Tryz.isAgg88
  z105 := Tryz.sizeOf88
  v105 := Tryz.zeroValue88
  t119 := Tryz.underlying122
  a119 := Tryz.isAgg122
  z119 := Tryz.sizeOf122
  t138 := Tryz.underlying124
  a138 := Tryz.isAgg124
  z138 := Tryz.sizeOf124
  v138 := Tryz.zeroValue124
  t139 := Tryz.underlying125
  a139 := Tryz.isAgg125
  z139 := Tryz.sizeOf125
  v139 := Tryz.zeroValue125
  t146 := Tryz.underlying111
  a146 := Tryz.isAgg111
  z146 := Tryz.sizeOf111
  v146 := Tryz.zeroValue111
  g1 := by kernel_rfl
  g3 := by kernel_rfl
  g4 := by kernel_rfl
  i0 := by kernel_rfl
  i3 := by kernel_rfl
  i4 := by kernel_rfl
  i5 := by kernel_rfl
  i9 := by kernel_rfl
  i21 := by kernel_rfl
  i31 := by kernel_rfl
  i46 := by kernel_rfl
  i51 := by kernel_rfl
  i105 := by kernel_rfl
  i138 := by kernel_rfl
  i139 := by kernel_rfl
  i146 := by kernel_rfl
  m1 := by kernel_rfl
  s1_3 := fun w h => Go.Proofs.cell_of_shapedOpen_int (zero := #[.int .i64 0]) (t := 3) h (of_decide_eq_true (by kernel_rfl)) (by kernel_rfl) rfl (by kernel_rfl) (by kernel_rfl) Tryz.underlying3
  m3 := by kernel_rfl
  m4 := by kernel_rfl }
open Go.RowKit Go.Lib in
/-- strings.Split, sep not empty. (LAID: no walk: one application.) -/
theorem Tryz.strings_Split_shaped (s sep : ByteArray) (w : World) (h : w.ShapedOpen Tryz.prog) (hs : s.size < 4294967281) (h1 : 1 ≤ sep.size) :
    Calls Tryz.prog 18 #[.string s, .string sep] w fun e w' =>
      e = .returned (.slice (some ⟨w.heap.size, 0, none⟩) (Lib.countB s sep + 1) (Lib.countB s sep + 1)) ∧ w' = w.alloc (.cells ((Lib.splitB sep 0 (Lib.countB s sep) s).map Value.string).toArray 9) := Any.strings_Split_shaped Tryz.laysM146 s sep w h hs h1
end Go.Proofs
