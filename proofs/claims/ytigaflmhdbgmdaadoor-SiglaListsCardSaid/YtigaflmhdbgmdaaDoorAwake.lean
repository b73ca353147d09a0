/-
  awake: the examples of the chapter.
-/
import Derived.Test.YtigaflmhdbgmdaaDoorShort
import Derived.Test.YtigaflmhdbgmdaaDoorPrint
import Derived.Test.YtigaflmhdbgmdaaDoorFine
namespace Go.Proofs.YtigaflmhdbgmdaaDoor
open Go.RowKit

/-- A slice that was just built of constants. -/
theorem Rd.lit {α : Type} {enc : α → Value} (W : World) (l : List α) (cs : Array Value) (t : TypeId) (n : Nat) (hc : cs = (l.map enc).toArray) (hn : n = l.length) (hm : n ≤ maxLen) :
    Rd enc (W.alloc (.cells cs t)) (.slice (some ⟨W.heap.size, 0, none⟩) n n) l := by
  subst hn
  refine ⟨some ⟨W.heap.size, 0, none⟩, l.length, rfl, Nat.le_refl _, hm, fun i x hx => ⟨W.heap.size, 0, rfl, ?_⟩⟩
  rw [Nat.zero_add]
  exact cell_nw W cs t i (by subst hc; simp [hx])

def bA : ByteArray := ⟨#[65]⟩
def bB : ByteArray := ⟨#[66]⟩
def bC : ByteArray := ⟨#[67]⟩
def bD : ByteArray := ⟨#[68]⟩
def bg : ByteArray := ⟨#[103]⟩
def bh : ByteArray := ⟨#[104]⟩
def bAs : ByteArray := ⟨#[65, 42]⟩
def aNames : List ByteArray := [bA, bB, bC, bD]
def aGrps : List Grp := [⟨bg, [0, 1]⟩, ⟨bh, [1, 2]⟩]

theorem aw1 : startI aNames (aGrps.take 1) [0, 1, 3] = 0 := by decide +kernel
theorem aw2 : shortL aNames (aGrps.take 1) [0, 1, 3] = [bg, bD] := by decide +kernel
theorem aw3 : startI aNames aGrps [0, 1, 2] = 0 := by decide +kernel
theorem aw4 : shortL aNames aGrps [0, 1, 2] = [bg, bh] := by decide +kernel
theorem aw5 : expandI aNames aGrps [bh, bD] = 0 := by decide +kernel
theorem aw6 : expandL aNames aGrps [bh, bD] = [1, 2, 3] := by decide +kernel
theorem aw7 : printI [bg, bAs] = 0 := by decide +kernel
theorem aw8 : printS [bg, bAs] = ⟨#[103, 32, 65, 42]⟩ := by decide +kernel

theorem szs_names : Szs aNames := by intro s h; simp only [aNames, List.mem_cons, List.not_mem_nil, or_false] at h; rcases h with rfl | rfl | rfl | rfl <;> decide
theorem szg_grps : SzG aGrps := by intro s h; simp only [aGrps, List.mem_cons, List.not_mem_nil, or_false] at h; rcases h with rfl | rfl <;> decide
theorem szg_grps1 : SzG (aGrps.take 1) := fun g h => szg_grps g (List.mem_of_mem_take h)
theorem szs_print : Szs [bg, bAs] := by intro s h; simp only [List.mem_cons, List.not_mem_nil, or_false] at h; rcases h with rfl | rfl <;> decide

/-- What the literals of the example read as. -/
theorem aw_grps (w : World) (v1 v2 : Value) (h1 : RdI w v1 [0, 1]) (h2 : RdI w v2 [1, 2]) (t : TypeId) :
    RdG (w.alloc (.cells #[.string ⟨#[103]⟩, v1, .string ⟨#[104]⟩, v2] t)) (.slice (some ⟨w.heap.size, 0, none⟩) 2 2) aGrps := by
  have hb := below_al w (.cells #[.string ⟨#[103]⟩, v1, .string ⟨#[104]⟩, v2] t)
  refine ⟨some ⟨w.heap.size, 0, none⟩, 2, rfl, by decide, by decide, fun i x hx => ?_⟩
  have hi : i < 2 := (List.getElem?_eq_some_iff.1 hx).1
  rcases (show i = 0 ∨ i = 1 by omega) with rfl | rfl
  · cases hx
    exact ⟨w.heap.size, 0, v1, rfl, cell_nw w _ t 0 rfl, cell_nw w _ t 1 rfl, h1.below hb⟩
  · cases hx
    exact ⟨w.heap.size, 0, v2, rfl, cell_nw w _ t 2 rfl, cell_nw w _ t 3 rfl, h2.below hb⟩

theorem run_max_int4 {P : Program} {w : World} (ts : Array TypeId) (t : TypeId) (k : IntKind) (x : Int) : (Builtin.max_ ts t #[.int k x, .int k x, .int k x, .int k x]).run P w = .ok (.int k x) w := by
  simp [Builtin.max_, Builtin.max2, go_sem]
attribute [local go_sem] run_max_int4

set_option maxHeartbeats 2000000 in
set_option maxRecDepth 100000 in
theorem awake_any (w : World) : Calls Tryd.prog 5 #[] w fun e w' => e = .returned (.bool true) ∧ Below w.heap.size w w' := by
  have b1 := below_al w (.cells #[.string ⟨#[65]⟩, .string ⟨#[66]⟩, .string ⟨#[67]⟩, .string ⟨#[68]⟩] 9)
  have hA : RdS (w.alloc (.cells #[.string ⟨#[65]⟩, .string ⟨#[66]⟩, .string ⟨#[67]⟩, .string ⟨#[68]⟩] 9)) (.slice (some ⟨w.heap.size, 0, none⟩) 4 4) aNames := Rd.lit w aNames _ _ 4 rfl rfl (by decide)
  have e1 : (w.alloc (.cells #[.string ⟨#[65]⟩, .string ⟨#[66]⟩, .string ⟨#[67]⟩, .string ⟨#[68]⟩] 9)).heap.size = w.heap.size + 1 := by simp
  obtain ⟨w1, hw1⟩ : ∃ w1, w1 = w.alloc (.cells #[.string ⟨#[65]⟩, .string ⟨#[66]⟩, .string ⟨#[67]⟩, .string ⟨#[68]⟩] 9) := ⟨_, rfl⟩
  rw [← hw1] at b1 hA e1
  have b2 := below_al w1 (.cells #[.int .i64 0, .int .i64 1] 3)
  have hI1 : RdI (w1.alloc (.cells #[.int .i64 0, .int .i64 1] 3)) (.slice (some ⟨w1.heap.size, 0, none⟩) 2 2) [0, 1] := Rd.lit w1 [0, 1] _ _ 2 rfl rfl (by decide)
  have e2 : (w1.alloc (.cells #[.int .i64 0, .int .i64 1] 3)).heap.size = w.heap.size + 1 + 1 := by simp [e1]
  obtain ⟨w2, hw2⟩ : ∃ w2, w2 = w1.alloc (.cells #[.int .i64 0, .int .i64 1] 3) := ⟨_, rfl⟩
  rw [← hw2] at b2 hI1 e2
  have b3 := below_al w2 (.cells #[.int .i64 1, .int .i64 2] 3)
  have hI2 : RdI (w2.alloc (.cells #[.int .i64 1, .int .i64 2] 3)) (.slice (some ⟨w2.heap.size, 0, none⟩) 2 2) [1, 2] := Rd.lit w2 [1, 2] _ _ 2 rfl rfl (by decide)
  have e3 : (w2.alloc (.cells #[.int .i64 1, .int .i64 2] 3)).heap.size = w.heap.size + 1 + 1 + 1 := by simp [e2]
  obtain ⟨w3, hw3⟩ : ∃ w3, w3 = w2.alloc (.cells #[.int .i64 1, .int .i64 2] 3) := ⟨_, rfl⟩
  rw [← hw3] at b3 hI2 e3
  have b4 := below_al w3 (.cells #[.string ⟨#[103]⟩, .slice (some ⟨w1.heap.size, 0, none⟩) 2 2, .string ⟨#[104]⟩, .slice (some ⟨w2.heap.size, 0, none⟩) 2 2] 45)
  have hG := aw_grps w3 _ _ (hI1.below b3) hI2 45
  have e4 : (w3.alloc (.cells #[.string ⟨#[103]⟩, .slice (some ⟨w1.heap.size, 0, none⟩) 2 2, .string ⟨#[104]⟩, .slice (some ⟨w2.heap.size, 0, none⟩) 2 2] 45)).heap.size = w.heap.size + 1 + 1 + 1 + 1 := by simp [e3]
  obtain ⟨w4, hw4⟩ : ∃ w4, w4 = w3.alloc (.cells #[.string ⟨#[103]⟩, .slice (some ⟨w1.heap.size, 0, none⟩) 2 2, .string ⟨#[104]⟩, .slice (some ⟨w2.heap.size, 0, none⟩) 2 2] 45) := ⟨_, rfl⟩
  rw [← hw4] at b4 hG e4
  have b5 := below_al w4 (.cells #[.int .i64 0, .int .i64 1, .int .i64 3] 3)
  have hI3 : RdI (w4.alloc (.cells #[.int .i64 0, .int .i64 1, .int .i64 3] 3)) (.slice (some ⟨w4.heap.size, 0, none⟩) 3 3) [0, 1, 3] := Rd.lit w4 [0, 1, 3] _ _ 3 rfl rfl (by decide)
  have hA4 := ((hA.below b2).below b3).below b4
  have B4 := below_tr (below_tr (below_tr b1 b2) b3) b4
  have HS := hid (short_any _ _ _ aNames (aGrps.take 1) [0, 1, 3] _ (hA4.below b5) ((hG.below b5).take 1 (by decide)) hI3 szs_names szg_grps1 (fun _ => by decide))
  rw [aw1, aw2] at HS
  have HB5 := hid (below_tr B4 b5)
  have HA5 := hid (hA4.below b5)
  have HG5 := hid (hG.below b5)
  clear b1 b2 b3 b4 b5 B4 hA4 hI3 hI2 hI1 hA
  rw [e3] at HG5 HS hG
  rw [e4] at HS
  rw [hw4] at HS HB5 HA5 HG5
  rw [e1, e2] at HS HB5 HA5 HG5
  rw [hw3, hw2, hw1] at HS HB5 HA5 HG5
  clear hG hw4 hw3 hw2 hw1 e1 e2 e3 e4 w4 w3 w2 w1
  go_enter Tryd.func5, Tryd.ntmps5
  go_wp2_with fail
  refine HS.out.mono ?_
  rintro e w6 ⟨r1, rfl, hr1, hB6⟩
  have HA6 := hid (HA5.out.below hB6)
  have HG6 := hid (HG5.out.below hB6)
  have HB6 := hid (below_tr HB5.out hB6)
  clear HS HA5 HG5 HB5 hB6
  have hb7 := below_al w6 (.cells #[.int .i64 0, .int .i64 1, .int .i64 2] 3)
  have HS2 := hid (short_any _ _ _ aNames aGrps [0, 1, 2] _ (HA6.out.below hb7) (HG6.out.below hb7) (Rd.lit w6 [0, 1, 2] #[.int .i64 0, .int .i64 1, .int .i64 2] 3 3 rfl rfl (by decide)) szs_names szg_grps (fun _ => by decide))
  rw [aw3, aw4] at HS2
  go_wp2_with fail
  refine HS2.out.mono ?_
  rintro e w7 ⟨r2, rfl, hr2, hB7⟩
  have HA7 := hid ((HA6.out.below hb7).below hB7)
  have HG7 := hid ((HG6.out.below hb7).below hB7)
  have HR1 := hid ((hr1.below hb7).below hB7)
  have HB7 := hid (below_tr (below_tr HB6.out hb7) hB7)
  clear HS2 HA6 HG6 HB6 hB7 hr1 hb7
  have hb8 := below_al w7 (.cells #[.string ⟨#[104]⟩, .string ⟨#[68]⟩] 9)
  have HX := hid (expand_any _ _ _ aNames aGrps [bh, bD] _ (HA7.out.below hb8) (HG7.out.below hb8) (Rd.lit w7 [bh, bD] #[.string ⟨#[104]⟩, .string ⟨#[68]⟩] 9 2 rfl rfl (by decide)) szs_names szg_grps)
  rw [aw5, aw6] at HX
  go_wp2_with fail
  refine HX.out.mono ?_
  rintro e w8 ⟨r3, rfl, hr3, hB8⟩
  have HR1' := hid ((HR1.out.below hb8).below hB8)
  have HR2 := hid ((hr2.below hb8).below hB8)
  have HB8 := hid (below_tr (below_tr HB7.out hb8) hB8)
  clear HX HA7 HG7 HR1 HB7 hB8 hr2 hb8
  have hb9 := below_al w8 (.cells #[.string ⟨#[103]⟩, .string ⟨#[65, 42]⟩] 9)
  have HP := hid (print_any _ [bg, bAs] _ (Rd.lit w8 [bg, bAs] #[.string ⟨#[103]⟩, .string ⟨#[65, 42]⟩] 9 2 rfl rfl (by decide)) szs_print (by decide +kernel))
  rw [aw7, aw8] at HP
  go_wp2_with fail
  refine HP.out.mono ?_
  rintro e w9 ⟨rfl, hB9⟩
  have hr1 := (HR1'.out.below hb9).below hB9
  have hr2 := (HR2.out.below hb9).below hB9
  have hr3' := (hr3.below hb9).below hB9
  have HB9 := hid (below_tr (below_tr HB8.out hb9) hB9)
  clear HP HR1' HR2 HB8 hB9 hr3 hb9
  have hb10 := below_al w9 (.cells #[.string ⟨#[103]⟩, .string ⟨#[68]⟩] 9)
  have HE1 := hid (equalS_any _ _ _ [bg, bD] _ (hr1.below hb10) (Rd.lit w9 [bg, bD] #[.string ⟨#[103]⟩, .string ⟨#[68]⟩] 9 2 rfl rfl (by decide)))
  rw [decide_eq_true (rfl : [bg, bD] = [bg, bD])] at HE1
  go_wp2_with fail
  refine HE1.out.mono ?_
  rintro e w10 ⟨rfl, hB10⟩
  have hr2' := (hr2.below hb10).below hB10
  have hr3'' := (hr3'.below hb10).below hB10
  have HB10 := hid (below_tr (below_tr HB9.out hb10) hB10)
  clear HE1 HB9 hB10 hb10 hr1 hr2 hr3'
  have hb11 := below_al w10 (.cells #[.string ⟨#[103]⟩, .string ⟨#[104]⟩] 9)
  have HE1 := hid (equalS_any _ _ _ [bg, bh] _ (hr2'.below hb11) (Rd.lit w10 [bg, bh] #[.string ⟨#[103]⟩, .string ⟨#[104]⟩] 9 2 rfl rfl (by decide)))
  rw [decide_eq_true (rfl : [bg, bh] = [bg, bh])] at HE1
  go_wp2_with fail
  refine HE1.out.mono ?_
  rintro e w11 ⟨rfl, hB11⟩
  have hr3 := (hr3''.below hb11).below hB11
  have HB11 := hid (below_tr (below_tr HB10.out hb11) hB11)
  clear HE1 HB10 hB11 hb11 hr2' hr3''
  have hb12 := below_al w11 (.cells #[.int .i64 1, .int .i64 2, .int .i64 3] 3)
  have HE1 := hid (equalI_any _ _ _ [1, 2, 3] _ (hr3.below hb12) (Rd.lit w11 [1, 2, 3] #[.int .i64 1, .int .i64 2, .int .i64 3] 3 3 rfl rfl (by decide)))
  rw [decide_eq_true (rfl : [1, 2, 3] = [(1 : Int), 2, 3])] at HE1
  go_wp2_with fail
  refine HE1.out.mono ?_
  rintro e w12 ⟨rfl, hB12⟩
  have HB12 := hid (below_tr (below_tr HB11.out hb12) hB12)
  clear HE1 HB11 hB12 hb12 hr3
  go_wp2
  go_ret
  exact ⟨rfl, HB12.out⟩
end Go.Proofs.YtigaflmhdbgmdaaDoor
