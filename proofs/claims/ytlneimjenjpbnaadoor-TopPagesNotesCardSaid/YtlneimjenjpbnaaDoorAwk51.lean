/-
  The example of pages with notes.
-/
import Derived.Test.YtlneimjenjpbnaaDoorBlk
import Derived.Test.YtlneimjenjpbnaaDoorPbk
import Derived.Test.YtlneimjenjpbnaaDoorJ02
namespace Go.Proofs.YtlneimjenjpbnaaDoor
open Go.RowKit

theorem rd_row51 {α : Type} {enc : α → Value} {W : World} {B : Nat} {l : List α} {cs : Array Value} {t : TypeId} (h : Row W B cs t) (hc : cs = (l.map enc).toArray) (hl : l.length ≤ 1000000) : Rd enc W (.slice (some ⟨B, 0, none⟩) l.length l.length) l := by
  refine ⟨some ⟨B, 0, none⟩, l.length, rfl, Nat.le_refl _, by unfold maxLen; omega, fun i x hx => ⟨B, 0, rfl, ?_⟩⟩
  rw [Nat.zero_add]
  exact h.cell i (by rw [hc]; simp [hx])
def st51 : St := ⟨10, 0, 8, 0, 0, 1, 0, 0, 1, 0, 0, (none, 0, 0), (none, 0, 0)⟩
def l51 : List ByteArray := [⟨#[49, 32, 97]⟩, ⟨#[50, 32, 98]⟩]
def p51 : PP := ⟨[10, 10], [[8], [8]], [0, 0], 20, 0⟩
theorem s51_i : blocksI st51 2 1 [0, 1] [0, 0] l51 = 0 := by decide +kernel
theorem s51_m : blocksM st51 2 1 [0, 1] [0, 0] l51 = [[8], [8]] := by decide +kernel
theorem p51_i : ppI p51 = 0 := by decide +kernel
theorem p51_p : pot p51 0 = 0 := by decide +kernel
theorem p51_b : (brk p51).map Int.ofNat = [1, 2] := by decide +kernel
theorem rows5 (w : World) (c1 c2 c3 c4 : Array Value) (t1 t2 t3 t4 : TypeId) :
    Row ((((w.alloc (.cells c1 t1)).alloc (.cells c2 t2)).alloc (.cells c3 t3)).alloc (.cells c4 t4)) (w.heap.size + 1) c2 t2 ∧
    Row ((((w.alloc (.cells c1 t1)).alloc (.cells c2 t2)).alloc (.cells c3 t3)).alloc (.cells c4 t4)) (w.heap.size + 1 + 1) c3 t3 ∧
    Row ((((w.alloc (.cells c1 t1)).alloc (.cells c2 t2)).alloc (.cells c3 t3)).alloc (.cells c4 t4)) (w.heap.size + 1 + 1 + 1) c4 t4 ∧
    Below w.heap.size w ((((w.alloc (.cells c1 t1)).alloc (.cells c2 t2)).alloc (.cells c3 t3)).alloc (.cells c4 t4)) :=
  ⟨((row_nw (w.alloc (.cells c1 t1)) c2 t2 (by simp)).al _).al _, (row_nw ((w.alloc (.cells c1 t1)).alloc (.cells c2 t2)) c3 t3 (by simp)).al _, row_nw _ c4 t4 (by simp),
    below_tr (below_tr (below_tr (below_al _ _) (below_al _ _)) (below_al _ _)) (below_al _ _)⟩
theorem rows2 (w : World) (c1 c2 : Array Value) (t1 t2 : TypeId) :
    Row ((w.alloc (.cells c1 t1)).alloc (.cells c2 t2)) w.heap.size c1 t1 ∧ Row ((w.alloc (.cells c1 t1)).alloc (.cells c2 t2)) (w.heap.size + 1) c2 t2 ∧ Below w.heap.size w ((w.alloc (.cells c1 t1)).alloc (.cells c2 t2)) :=
  ⟨(row_nw w c1 t1 rfl).al _, row_nw _ c2 t2 (by simp), below_tr (below_al _ _) (below_al _ _)⟩
set_option maxRecDepth 100000 in
set_option maxHeartbeats 4000000 in
theorem awake51_any (m : Int) (w : World) (hm : w.cell? ⟨0, 0, none⟩ = some (.int .i64 m)) : Calls Tryd.prog 7 #[] w fun e w' => e = .returned (.bool true) ∧ Below w.heap.size w w' := by
  have HN := hid (fun v1 v2 v3 w' h1 h2 h3 h4 => nblocks_any st51 2 1 v1 v2 v3 [0, 1] [0, 0] l51 m w' h1 h2 h3 (by decide) h4)
  have HK := hid (fun vl vn vp w' h => pbk_any p51 vl vn vp w' h p51_i (by rw [p51_p]; exact Int.le_refl _))
  rw [s51_i, s51_m] at HN
  rw [p51_p, p51_b] at HK
  have HE := hid (fun v u w' h1 h2 => equalI_any v u [1, 2] [1, 2] w' h1 h2)
  have h5 := rows5 w #[.int .i64 10, .int .i64 0, .int .i64 8, .int .i64 0, .int .i64 0, .int .i64 1, .int .i64 0, .int .i64 0, .int .i64 1, .int .i64 0, .int .i64 0, .slice none 0 0, .slice none 0 0] #[.int .i64 0, .int .i64 1] #[.int .i64 0, .int .i64 0] #[.string ⟨#[49, 32, 97]⟩, .string ⟨#[50, 32, 98]⟩] 25 3 3 9
  have H5 := hid h5
  have HM := hid hm
  clear h5 hm
  go_enter Tryd.func7, Tryd.ntmps7
  go_wp2_with fail
  generalize (((w.alloc (.cells #[.int .i64 10, .int .i64 0, .int .i64 8, .int .i64 0, .int .i64 0, .int .i64 1, .int .i64 0, .int .i64 0, .int .i64 1, .int .i64 0, .int .i64 0, .slice none 0 0, .slice none 0 0] 25)).alloc (.cells #[.int .i64 0, .int .i64 1] 3)).alloc (.cells #[.int .i64 0, .int .i64 0] 3)).alloc (.cells #[.string ⟨#[49, 32, 97]⟩, .string ⟨#[50, 32, 98]⟩] 9) = W5 at *
  obtain ⟨r2, r3, r4, hb5⟩ := H5.out
  have HC := hid (HN.out _ _ _ W5 (rd_row51 (enc := Value.int .i64) (l := [0, 1]) r2 rfl (by decide)) (rd_row51 (enc := Value.int .i64) (l := [0, 0]) r3 rfl (by decide)) (rd_row51 (enc := Value.string) (l := l51) r4 rfl (by decide)) (Below.keeps hb5 _ _ HM.out))
  have HB5 := hid hb5
  clear r2 r3 r4 hb5 HN H5
  refine HC.out.mono ?_
  rintro e w6 ⟨v, rfl, hv, hb6⟩
  obtain ⟨av, cv, rfl, _⟩ := hv.open
  have HV := hid hv
  have HB6 := hid (below_tr HB5.out hb6)
  have h7 := rows2 w6 #[.int .i64 10, .int .i64 10] #[.int .i64 0, .int .i64 0] 3 3
  have H7 := hid h7
  clear hv hb6 HB5 HC h7
  go_wp2_with fail
  generalize (w6.alloc (.cells #[.int .i64 10, .int .i64 10] 3)).alloc (.cells #[.int .i64 0, .int .i64 0] 3) = W7 at *
  obtain ⟨r1, r2, hb7⟩ := H7.out
  have HC := hid (HK.out _ _ _ W7 ⟨rd_row51 (enc := Value.int .i64) (l := [10, 10]) r1 rfl (by decide), HV.out.below hb7, rd_row51 (enc := Value.int .i64) (l := [0, 0]) r2 rfl (by decide)⟩)
  have HB7 := hid (below_tr HB6.out hb7)
  clear r1 r2 hb7 HK H7 HV HB6
  refine HC.out.mono ?_
  rintro e w8 ⟨v8, rfl, hv8, hb8⟩
  have HB8 := hid (below_tr HB7.out hb8)
  have hr9 := row_nw w8 #[.int .i64 1, .int .i64 2] 3 rfl
  have HB9 := hid (below_tr HB8.out (below_al w8 (.cells #[.int .i64 1, .int .i64 2] 3)))
  have HC9 := hid (HE.out v8 _ _ (hv8.below (below_al w8 (.cells #[.int .i64 1, .int .i64 2] 3))) (rd_row51 (enc := Value.int .i64) (l := [1, 2]) hr9 rfl (by decide)))
  clear hr9 hv8 hb8 HE HC HB7
  go_wp2_with fail
  refine HC9.out.mono ?_
  rintro e w10 ⟨rfl, hb10⟩
  have HB10 := hid (below_tr HB9.out hb10)
  clear hb10
  go_wp2_with fail
  go_ret
  exact ⟨rfl, HB10.out⟩
end Go.Proofs.YtlneimjenjpbnaaDoor
