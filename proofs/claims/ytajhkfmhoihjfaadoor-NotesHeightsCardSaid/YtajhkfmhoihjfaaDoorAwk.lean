/-
  awake: the examples of chapter 50.
-/
import Derived.Test.YtajhkfmhoihjfaaDoorNoteE
import Derived.Test.YtajhkfmhoihjfaaDoorOrd
import Derived.Test.YtajhkfmhoihjfaaDoorLit
namespace Go.Proofs.YtajhkfmhoihjfaaDoor
open Go.RowKit Go.Shelf

def awSt : St := { width := 11, lh := 0, nh := 10, ph := 0, gap := 0, sp := 1, stretch := 0, shrink := 0, letter := 2, hyphen := 0, every := 0, pos := (none, 0, 0), lay := (none, 0, 0) }
def awS : ByteArray := ⟨#[51, 32, 100, 101, 117, 115, 32, 93, 32, 100, 111, 109, 105, 110, 117, 115, 32, 123, 65, 125]⟩
def awL : List ByteArray := [⟨#[51, 32, 100, 101, 117, 115]⟩, ⟨#[93]⟩, ⟨#[100, 111, 109, 105, 110, 117, 115]⟩, ⟨#[123, 65, 125]⟩]
def awJ : ByteArray := ⟨#[51, 32, 100, 101, 117, 115, 32, 93]⟩
theorem awk1 : setI awSt awS = 0 := by decide +kernel
theorem awk2 : setR awSt awS = awL := by decide +kernel
theorem awk3 : heightI awSt awS = 0 := by decide +kernel
theorem awk4 : heightN awSt awS = 40 := by decide +kernel
theorem awk5 : joinI (awL.take 2) = 0 := by decide +kernel
theorem awk6 : joinT (awL.take 2) = awJ := by decide +kernel
theorem awk7 : ordI [1, 0, 1] [1, 1, 0] = 0 := by decide +kernel
theorem awk8 : natI (ordL [1, 0, 1] [1, 1, 0]) = [2, 1, 0] := by decide +kernel

theorem run_max_int4' {P : Program} {w : World} (ts : Array TypeId) (t : TypeId) (k : IntKind) (x : Int) : (Builtin.max_ ts t #[.int k x, .int k x, .int k x, .int k x]).run P w = .ok (.int k x) w := by
  simp [Builtin.max_, Builtin.max2, go_sem]
attribute [local go_sem] run_max_int4'

set_option maxHeartbeats 2000000 in
set_option maxRecDepth 100000 in
theorem awake_any (m : Int) (w : World) (hm : w.cell? ⟨0, 0, none⟩ = some (.int .i64 m)) : Calls Tryd.prog 12 #[] w fun e w' => e = .returned (.bool true) ∧ Below w.heap.size w w' := by
  have HS := fun w' h => hid (nSet_any awSt awS m w' h)
  have HH := fun w' h => hid (nheight_any awSt awS m w' h)
  have HJ := fun v w' h k => hid (njoin_any v (awL.take 2) m w' h (by decide) k)
  have HO := fun v1 v2 w' h k => hid (order_any v1 v2 [1, 0, 1] [1, 1, 0] w' h k (by decide) (by decide))
  simp only [awk1, awk2, awk3, awk4, awk5, awk6, awk7, awk8] at HS HH HJ HO
  unfold awS awSt St.cells at HS HH
  dsimp only at HS HH
  obtain ⟨w0, hw0⟩ : ∃ w0, w.alloc (.cells #[.int .i64 11, .int .i64 0, .int .i64 10, .int .i64 0, .int .i64 0, .int .i64 1, .int .i64 0, .int .i64 0, .int .i64 2, .int .i64 0, .int .i64 0, .slice none 0 0, .slice none 0 0] 25) = w0 := ⟨_, rfl⟩
  have hb0 : Below w.heap.size w w0 := by rw [← hw0]; exact below_al _ _
  have hm0 : w0.cell? ⟨0, 0, none⟩ = some (.int .i64 m) := Below.keeps hb0 _ _ hm
  have hst : w0.heap[w.heap.size]? = some (.cells #[.int .i64 11, .int .i64 0, .int .i64 10, .int .i64 0, .int .i64 0, .int .i64 1, .int .i64 0, .int .i64 0, .int .i64 2, .int .i64 0, .int .i64 0, .slice none 0 0, .slice none 0 0] 25 (0, 0)) := by rw [← hw0]; exact World.alloc_heap_new w _
  have hlt : w.heap.size < w0.heap.size := by rw [← hw0]; simp
  have HCELL := hid (fun (w' : World) (h : w'.heap[w.heap.size]? = some (.cells #[.int .i64 11, .int .i64 0, .int .i64 10, .int .i64 0, .int .i64 0, .int .i64 1, .int .i64 0, .int .i64 0, .int .i64 2, .int .i64 0, .int .i64 0, .slice none 0 0, .slice none 0 0] 25 (0, 0))) (i : Nat) => show w'.cell? ⟨w.heap.size, i, none⟩ = _ from cell_of_row w' w.heap.size i _ _ _ h)
  have HBL : Hid (∀ w', Below w0.heap.size w0 w' → w'.heap[w.heap.size]? = some (.cells #[.int .i64 11, .int .i64 0, .int .i64 10, .int .i64 0, .int .i64 0, .int .i64 1, .int .i64 0, .int .i64 0, .int .i64 2, .int .i64 0, .int .i64 0, .slice none 0 0, .slice none 0 0] 25 (0, 0))) := fun w' h => (h.block _ hlt).trans hst
  have HB0 := hid hb0
  have HM0 := hid hm0
  have HW0 := hid hw0
  clear hm hb0 hm0 hst hlt
  have HS0 := HS _ HM0.out
  rw [← HW0.out] at HS0
  clear hw0
  go_enter Tryd.func12, Tryd.ntmps12
  go_wp2_with fail
  refine HS0.out.mono ?_
  rw [HW0.out]
  rintro e w1 ⟨v1, rfl, hr1, hB1⟩
  obtain ⟨a1, cap1, rfl, hl1, hm1, _⟩ := hr1.open
  have hm1' := Below.keeps hB1 _ _ HM0.out
  have hbl1 := HBL.out w1 hB1
  have cf0 : w1.cell? ⟨w.heap.size, 0, none⟩ = some (.int .i64 11) := HCELL.out w1 hbl1 0
  have cf1 : w1.cell? ⟨w.heap.size, 1, none⟩ = some (.int .i64 0) := HCELL.out w1 hbl1 1
  have cf2 : w1.cell? ⟨w.heap.size, 2, none⟩ = some (.int .i64 10) := HCELL.out w1 hbl1 2
  have cf3 : w1.cell? ⟨w.heap.size, 3, none⟩ = some (.int .i64 0) := HCELL.out w1 hbl1 3
  have cf4 : w1.cell? ⟨w.heap.size, 4, none⟩ = some (.int .i64 0) := HCELL.out w1 hbl1 4
  have cf5 : w1.cell? ⟨w.heap.size, 5, none⟩ = some (.int .i64 1) := HCELL.out w1 hbl1 5
  have cf6 : w1.cell? ⟨w.heap.size, 6, none⟩ = some (.int .i64 0) := HCELL.out w1 hbl1 6
  have cf7 : w1.cell? ⟨w.heap.size, 7, none⟩ = some (.int .i64 0) := HCELL.out w1 hbl1 7
  have cf8 : w1.cell? ⟨w.heap.size, 8, none⟩ = some (.int .i64 2) := HCELL.out w1 hbl1 8
  have cf9 : w1.cell? ⟨w.heap.size, 9, none⟩ = some (.int .i64 0) := HCELL.out w1 hbl1 9
  have cf10 : w1.cell? ⟨w.heap.size, 10, none⟩ = some (.int .i64 0) := HCELL.out w1 hbl1 10
  have cf11 : w1.cell? ⟨w.heap.size, 11, none⟩ = some (.slice none 0 0) := HCELL.out w1 hbl1 11
  have cf12 : w1.cell? ⟨w.heap.size, 12, none⟩ = some (.slice none 0 0) := HCELL.out w1 hbl1 12
  have HR1 := hid hr1
  have HB1 := hid (below_tr HB0.out hB1)
  have HM1 := hid hm1'
  clear hr1 hB1 hbl1 HS0 HS HM0 HB0 HW0
  go_wp2_with fail
  refine (HH _ hm1').out.mono ?_
  rintro e w2 ⟨rfl, hB2⟩
  have HR2 := hid (HR1.out.below hB2)
  have HM2 := hid (Below.keeps hB2 _ _ HM1.out)
  have HB2 := hid (below_tr HB1.out hB2)
  clear hB2 HR1 HM1 HB1 HH hm1' cf0 cf1 cf2 cf3 cf4 cf5 cf6 cf7 cf8 cf9 cf10 cf11 cf12
  have HJ2 := HJ _ (w2.alloc (.cells #[.string ⟨#[51, 32, 100, 101, 117, 115]⟩, .string ⟨#[93]⟩] 9)) (Rd.lit w2 (awL.take 2) _ 9 2 rfl rfl (by decide)) (cell_al HM2.out _)
  have hb2 := below_al w2 (.cells #[.string ⟨#[51, 32, 100, 101, 117, 115]⟩, .string ⟨#[93]⟩] 9)
  go_wp2_with fail
  refine HJ2.out.mono ?_
  rintro e w3 ⟨rfl, hB3⟩
  have HR3 := hid ((HR2.out.below hb2).below hB3)
  have HB3 := hid (below_tr (below_tr HB2.out hb2) hB3)
  clear hB3 hb2 HR2 HM2 HB2 HJ HJ2
  have b1 := below_al w3 (.cells #[.int .i64 1, .int .i64 0, .int .i64 1] 3)
  have hI1 : RdI (w3.alloc (.cells #[.int .i64 1, .int .i64 0, .int .i64 1] 3)) (.slice (some ⟨w3.heap.size, 0, none⟩) 3 3) [1, 0, 1] := Rd.lit w3 [1, 0, 1] _ _ 3 rfl rfl (by decide)
  have e1 : (w3.alloc (.cells #[.int .i64 1, .int .i64 0, .int .i64 1] 3)).heap.size = w3.heap.size + 1 := by simp
  have b2 := below_al (w3.alloc (.cells #[.int .i64 1, .int .i64 0, .int .i64 1] 3)) (.cells #[.int .i64 1, .int .i64 1, .int .i64 0] 3)
  have hI2 : RdI ((w3.alloc (.cells #[.int .i64 1, .int .i64 0, .int .i64 1] 3)).alloc (.cells #[.int .i64 1, .int .i64 1, .int .i64 0] 3)) (.slice (some ⟨(w3.alloc (.cells #[.int .i64 1, .int .i64 0, .int .i64 1] 3)).heap.size, 0, none⟩) 3 3) [1, 1, 0] := Rd.lit _ [1, 1, 0] _ _ 3 rfl rfl (by decide)
  rw [e1] at hI2
  have HO2 := HO _ _ _ (hI1.below b2) hI2
  have HR4 := hid ((HR3.out.below b1).below b2)
  have HB4 := hid (below_tr (below_tr HB3.out b1) b2)
  clear b1 b2 hI1 hI2 e1 HO HR3 HB3
  go_wp2_with fail
  refine HO2.out.mono ?_
  rintro e w4 ⟨v4, rfl, hr4, hB4⟩
  obtain ⟨a4, cap4, rfl, hl4, hm4, _⟩ := hr4.open
  have HR5 := hid (HR4.out.below hB4)
  have HO5 := hid hr4
  have HB5 := hid (below_tr HB4.out hB4)
  clear hB4 hr4 HO2 HR4 HB4
  have hb5 := below_al w4 (.cells #[.string ⟨#[51, 32, 100, 101, 117, 115]⟩, .string ⟨#[93]⟩, .string ⟨#[100, 111, 109, 105, 110, 117, 115]⟩, .string ⟨#[123, 65, 125]⟩] 9)
  have HE1 := hid (equalS_any _ _ _ awL _ (HR5.out.below hb5) (Rd.lit w4 awL #[.string ⟨#[51, 32, 100, 101, 117, 115]⟩, .string ⟨#[93]⟩, .string ⟨#[100, 111, 109, 105, 110, 117, 115]⟩, .string ⟨#[123, 65, 125]⟩] 9 4 rfl rfl (by decide)))
  rw [decide_eq_true (rfl : awL = awL)] at HE1
  have HJE : Hid ((awJ.toList == [51, 32, 100, 101, 117, 115, 32, 93]) = true) := by rw [ByteArray.toList_eq]; rfl
  go_wp2_with fail
  refine HE1.out.mono ?_
  rintro e w5 ⟨rfl, hB5⟩
  have HO6 := hid ((HO5.out.below hb5).below hB5)
  have HB6 := hid (below_tr (below_tr HB5.out hb5) hB5)
  clear hb5 HE1 HR5 HO5 HB5 hB5
  have hb6 := below_al w5 (.cells #[.int .i64 2, .int .i64 1, .int .i64 0] 3)
  have HE1 := hid (equalI_any _ _ _ [2, 1, 0] _ (HO6.out.below hb6) (Rd.lit w5 [2, 1, 0] #[.int .i64 2, .int .i64 1, .int .i64 0] 3 3 rfl rfl (by decide)))
  rw [decide_eq_true (rfl : [2, 1, 0] = [(2 : Int), 1, 0])] at HE1
  unfold awJ
  go_wp2_with fail
  refine HE1.out.mono ?_
  rintro e w6 ⟨rfl, hB6⟩
  have HBE := hid (below_tr (below_tr HB6.out hb6) hB6)
  clear HE1 HB6 hB6 hb6
  go_wp2
  go_ret
  exact ⟨rfl, HBE.out⟩
end Go.Proofs.YtajhkfmhoihjfaaDoor
