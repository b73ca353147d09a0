/-
  lemma.Of and lemma.Find, also where they refuse.
-/
import Derived.Test.YtmbehkanhefcpaaGreatDoorLFound
namespace Go.Proofs.YtmbehkanhefcpaaGreatDoor
open Go.RowKit

/-- What Of answers. -/
def ofRes (ws : List ByteArray) (x y : Int) : ByteArray × ByteArray × Int × Int :=
  if lcheckI ws ≠ 0 then (⟨#[]⟩, ⟨#[]⟩, 0, lcheckI ws) else if x < 0 ∨ y ≤ x ∨ (ws.length : Int) < y then (⟨#[]⟩, ⟨#[]⟩, 0, 2)
  else (ws.getD x.toNat ⟨#[]⟩, lastW ws x.toNat y.toNat, ofNum (occ ws (ws.getD x.toNat ⟨#[]⟩) (lastW ws x.toNat y.toNat)) (x.toNat, y.toNat - 1), 0)
def ofVal (r : ByteArray × ByteArray × Int × Int) : Value := .tuple #[.agg #[.string r.1, .string r.2.1, .int .i64 r.2.2.1], .int .i64 r.2.2.2]
/-- What Find answers. -/
def findRes (ws : List ByteArray) (f l : ByteArray) (n : Int) : Int × Int × Int :=
  if lcheckI ws ≠ 0 then (0, 0, lcheckI ws) else if lemCk f l n ≠ 0 then (0, 0, lemCk f l n) else (findF (occ ws f l) n.toNat, findT (occ ws f l) n.toNat, findE (occ ws f l) n.toNat)
def findVal (r : Int × Int × Int) : Value := .tuple #[.int .i64 r.1, .int .i64 r.2.1, .int .i64 r.2.2]
theorem lcheck_words {ws : List ByteArray} (h : lcheckI ws = 0) : ∀ s ∈ ws, wordB s = true := by
  unfold lcheckI at h
  split at h
  · cases h
  · split at h
    · cases h
    · rename_i h2
      intro s hs
      cases hw : wordB s with
      | true => rfl
      | false => exact absurd (List.any_eq_true.2 ⟨s, hs, by rw [hw]; rfl⟩) h2

set_option maxRecDepth 100000 in
set_option maxHeartbeats 2000000 in
theorem ofAll_any (ws : List ByteArray) (x y : Int) (v : Value) (w : World) (he : Env w) (hr : RdS w v ws) (hz : ∀ s ∈ ws, s.size ≤ 65536) (hlen : lcheckI ws = 0 → ws.length ≤ 13) (_hlen2 : ws.length ≤ 65536) :
    Calls Tryz.prog 15 #[v, .int .i64 x, .int .i64 y] w fun e w' => e = .returned (ofVal (ofRes ws x y)) ∧ Below w.heap.size w w' := by
  have HD : Hid (ofRes ws x y = if lcheckI ws ≠ 0 then (⟨#[]⟩, ⟨#[]⟩, 0, lcheckI ws) else if x < 0 ∨ y ≤ x ∨ (ws.length : Int) < y then (⟨#[]⟩, ⟨#[]⟩, 0, 2)
    else (ws.getD x.toNat ⟨#[]⟩, lastW ws x.toNat y.toNat, ((ofNum (occ ws (ws.getD x.toNat ⟨#[]⟩) (lastW ws x.toNat y.toNat)) (x.toNat, y.toNat - 1) : Nat) : Int), 0)) := rfl
  by_cases hck : lcheckI ws = 0
  · by_cases hb : x < 0 ∨ y ≤ x ∨ (ws.length : Int) < y
    · have HR : Hid (ofRes ws x y = (⟨#[]⟩, ⟨#[]⟩, 0, 2)) := by unfold Hid; rw [HD.out, if_neg (by omega), if_pos hb]
      have hb0 := below_tr (below_al w (.cells #[.int .i64 x] 3)) (below_tr (below_al _ (.cells #[.int .i64 y] 3)) (below_al _ (.cells #[.string ⟨#[]⟩, .string ⟨#[]⟩, .int .i64 0] 23)))
      have HCK := fun w' (h : Below w.heap.size w w') => hid (lcheck_any v ws w' (he.below h) (hr.below h) hz)
      obtain ⟨ad, cap, rfl, hlc, hcm, _⟩ := hr.open
      have hra : Row (((w.alloc (.cells #[.int .i64 x] 3)).alloc (.cells #[.int .i64 y] 3)).alloc (.cells #[.string ⟨#[]⟩, .string ⟨#[]⟩, .int .i64 0] 23)) w.heap.size #[.int .i64 x] 3 := ((row_nw w _ _ rfl).al _).al _
      have hrb : Row (((w.alloc (.cells #[.int .i64 x] 3)).alloc (.cells #[.int .i64 y] 3)).alloc (.cells #[.string ⟨#[]⟩, .string ⟨#[]⟩, .int .i64 0] 23)) (w.heap.size + 1) #[.int .i64 y] 3 := (row_nw _ _ _ (by simp)).al _
      have hrr : Row (((w.alloc (.cells #[.int .i64 x] 3)).alloc (.cells #[.int .i64 y] 3)).alloc (.cells #[.string ⟨#[]⟩, .string ⟨#[]⟩, .int .i64 0] 23)) (w.heap.size + 1 + 1) #[.string ⟨#[]⟩, .string ⟨#[]⟩, .int .i64 0] 23 := row_nw _ _ _ (by simp)
      clear hr hz he hlen
      rw [hck] at HCK
      clear HD hck
      by_cases q1 : x < 0
      · clear hb
        refine (callsIn_wide (n := 9)).1 ?_
        refine callsIn_of_wp_marks Tryz.func15 rfl trivial ?_ rfl
        simp only [Tryz.ntmps15, List.size_toArray, List.length_cons, List.length_nil, Nat.reduceAdd, Nat.reduceSub, Array.replicate_succ, Array.replicate_zero, List.push_toArray, List.append_toArray, List.nil_append, List.cons_append]
        refine wpIn_wide.2 ?_
        go_wp2_with fail
        generalize ((w.alloc (.cells #[.int .i64 x] 3)).alloc (.cells #[.int .i64 y] 3)).alloc (.cells #[.string ⟨#[]⟩, .string ⟨#[]⟩, .int .i64 0] 23) = W1 at *
        refine (HCK _ hb0).out.mono ?_
        rintro e w2 ⟨rfl, hB1⟩
        have HB2 := hid (below_tr hb0 hB1)
        have hrr2 := hrr.below hB1
        have xa : w2.cell? ⟨w.heap.size, 0, none⟩ = some (.int .i64 x) := (hra.below hB1).cell 0 rfl
        have xb : w2.cell? ⟨w.heap.size + 1, 0, none⟩ = some (.int .i64 y) := (hrb.below hB1).cell 0 rfl
        have r0 : w2.cell? ⟨w.heap.size + 1 + 1, 0, none⟩ = some (.string ⟨#[]⟩) := hrr2.cell 0 rfl
        have r1 : w2.cell? ⟨w.heap.size + 1 + 1, 1, none⟩ = some (.string ⟨#[]⟩) := hrr2.cell 1 rfl
        have r2 : w2.cell? ⟨w.heap.size + 1 + 1, 2, none⟩ = some (.int .i64 0) := hrr2.cell 2 rfl
        have r3 := hrr2.frozen 0
        have r4 := hrr2.frozen 1
        have r5 := hrr2.frozen 2
        have hR := ((hrr2.set 0 (.string ⟨#[]⟩)).set 1 (.string ⟨#[]⟩)).set 2 (.int .i64 0)
        have z0 := hR.cell 0 rfl
        have z1 := hR.cell 1 rfl
        have z2 := hR.cell 2 rfl
        have HBE := hid (((HB2.out.setCell (p := ⟨w.heap.size + 1 + 1, 0, none⟩) (by simp; omega) (.string ⟨#[]⟩)).setCell (p := ⟨w.heap.size + 1 + 1, 1, none⟩) (by simp; omega) (.string ⟨#[]⟩)).setCell (p := ⟨w.heap.size + 1 + 1, 2, none⟩) (by simp; omega) (.int .i64 0))
        clear hR hrr hrr2 hra hrb hb0 hB1 HCK HB2
        go_wp2_with fail
        refine ⟨.tuple #[.agg #[.string ⟨#[]⟩, .string ⟨#[]⟩, .int .i64 0], .int .i64 2], ?_, by rw [HR.out]; rfl, HBE.out⟩
        simp [results, Tryz.f15, go_sem, z0, z1, z2]
      · by_cases q2 : y ≤ x
        · clear hb
          refine (callsIn_wide (n := 9)).1 ?_
          refine callsIn_of_wp_marks Tryz.func15 rfl trivial ?_ rfl
          simp only [Tryz.ntmps15, List.size_toArray, List.length_cons, List.length_nil, Nat.reduceAdd, Nat.reduceSub, Array.replicate_succ, Array.replicate_zero, List.push_toArray, List.append_toArray, List.nil_append, List.cons_append]
          refine wpIn_wide.2 ?_
          go_wp2_with fail
          generalize ((w.alloc (.cells #[.int .i64 x] 3)).alloc (.cells #[.int .i64 y] 3)).alloc (.cells #[.string ⟨#[]⟩, .string ⟨#[]⟩, .int .i64 0] 23) = W1 at *
          refine (HCK _ hb0).out.mono ?_
          rintro e w2 ⟨rfl, hB1⟩
          have HB2 := hid (below_tr hb0 hB1)
          have hrr2 := hrr.below hB1
          have xa : w2.cell? ⟨w.heap.size, 0, none⟩ = some (.int .i64 x) := (hra.below hB1).cell 0 rfl
          have xb : w2.cell? ⟨w.heap.size + 1, 0, none⟩ = some (.int .i64 y) := (hrb.below hB1).cell 0 rfl
          have r0 : w2.cell? ⟨w.heap.size + 1 + 1, 0, none⟩ = some (.string ⟨#[]⟩) := hrr2.cell 0 rfl
          have r1 : w2.cell? ⟨w.heap.size + 1 + 1, 1, none⟩ = some (.string ⟨#[]⟩) := hrr2.cell 1 rfl
          have r2 : w2.cell? ⟨w.heap.size + 1 + 1, 2, none⟩ = some (.int .i64 0) := hrr2.cell 2 rfl
          have r3 := hrr2.frozen 0
          have r4 := hrr2.frozen 1
          have r5 := hrr2.frozen 2
          have hR := ((hrr2.set 0 (.string ⟨#[]⟩)).set 1 (.string ⟨#[]⟩)).set 2 (.int .i64 0)
          have z0 := hR.cell 0 rfl
          have z1 := hR.cell 1 rfl
          have z2 := hR.cell 2 rfl
          have HBE := hid (((HB2.out.setCell (p := ⟨w.heap.size + 1 + 1, 0, none⟩) (by simp; omega) (.string ⟨#[]⟩)).setCell (p := ⟨w.heap.size + 1 + 1, 1, none⟩) (by simp; omega) (.string ⟨#[]⟩)).setCell (p := ⟨w.heap.size + 1 + 1, 2, none⟩) (by simp; omega) (.int .i64 0))
          clear hR hrr hrr2 hra hrb hb0 hB1 HCK HB2
          go_wp2_with fail
          refine ⟨.tuple #[.agg #[.string ⟨#[]⟩, .string ⟨#[]⟩, .int .i64 0], .int .i64 2], ?_, by rw [HR.out]; rfl, HBE.out⟩
          simp [results, Tryz.f15, go_sem, z0, z1, z2]
        · have q3 : (ws.length : Int) < y := by omega
          clear hb
          refine (callsIn_wide (n := 9)).1 ?_
          refine callsIn_of_wp_marks Tryz.func15 rfl trivial ?_ rfl
          simp only [Tryz.ntmps15, List.size_toArray, List.length_cons, List.length_nil, Nat.reduceAdd, Nat.reduceSub, Array.replicate_succ, Array.replicate_zero, List.push_toArray, List.append_toArray, List.nil_append, List.cons_append]
          refine wpIn_wide.2 ?_
          go_wp2_with fail
          generalize ((w.alloc (.cells #[.int .i64 x] 3)).alloc (.cells #[.int .i64 y] 3)).alloc (.cells #[.string ⟨#[]⟩, .string ⟨#[]⟩, .int .i64 0] 23) = W1 at *
          refine (HCK _ hb0).out.mono ?_
          rintro e w2 ⟨rfl, hB1⟩
          have HB2 := hid (below_tr hb0 hB1)
          have hrr2 := hrr.below hB1
          have xa : w2.cell? ⟨w.heap.size, 0, none⟩ = some (.int .i64 x) := (hra.below hB1).cell 0 rfl
          have xb : w2.cell? ⟨w.heap.size + 1, 0, none⟩ = some (.int .i64 y) := (hrb.below hB1).cell 0 rfl
          have r0 : w2.cell? ⟨w.heap.size + 1 + 1, 0, none⟩ = some (.string ⟨#[]⟩) := hrr2.cell 0 rfl
          have r1 : w2.cell? ⟨w.heap.size + 1 + 1, 1, none⟩ = some (.string ⟨#[]⟩) := hrr2.cell 1 rfl
          have r2 : w2.cell? ⟨w.heap.size + 1 + 1, 2, none⟩ = some (.int .i64 0) := hrr2.cell 2 rfl
          have r3 := hrr2.frozen 0
          have r4 := hrr2.frozen 1
          have r5 := hrr2.frozen 2
          have hR := ((hrr2.set 0 (.string ⟨#[]⟩)).set 1 (.string ⟨#[]⟩)).set 2 (.int .i64 0)
          have z0 := hR.cell 0 rfl
          have z1 := hR.cell 1 rfl
          have z2 := hR.cell 2 rfl
          have HBE := hid (((HB2.out.setCell (p := ⟨w.heap.size + 1 + 1, 0, none⟩) (by simp; omega) (.string ⟨#[]⟩)).setCell (p := ⟨w.heap.size + 1 + 1, 1, none⟩) (by simp; omega) (.string ⟨#[]⟩)).setCell (p := ⟨w.heap.size + 1 + 1, 2, none⟩) (by simp; omega) (.int .i64 0))
          clear hR hrr hrr2 hra hrb hb0 hB1 HCK HB2
          go_wp2_with fail
          refine ⟨.tuple #[.agg #[.string ⟨#[]⟩, .string ⟨#[]⟩, .int .i64 0], .int .i64 2], ?_, by rw [HR.out]; rfl, HBE.out⟩
          simp [results, Tryz.f15, go_sem, z0, z1, z2]
    · obtain ⟨a, rfl⟩ := Int.eq_ofNat_of_zero_le (show 0 ≤ x by omega)
      obtain ⟨b, rfl⟩ := Int.eq_ofNat_of_zero_le (show 0 ≤ y by omega)
      have HR : ofRes ws (a : Int) (b : Int) = (ws.getD a ⟨#[]⟩, lastW ws a b, ((ofNum (occ ws (ws.getD a ⟨#[]⟩) (lastW ws a b)) (a, b - 1) : Nat) : Int), 0) := by rw [HD.out, if_neg (by omega), if_neg hb]; rfl
      rw [HR]
      exact of_any ws a b v w he hr hz (hlen hck) hck (by omega) (by omega) (fun s hs => wordB_ne (lcheck_words hck s hs))
  · have HR : Hid (ofRes ws x y = (⟨#[]⟩, ⟨#[]⟩, 0, lcheckI ws)) := by unfold Hid; rw [HD.out, if_pos hck]
    have hcb : (lcheckI ws == 0) = false := beq_eq_false_iff_ne.2 hck
    have hb0 := below_tr (below_al w (.cells #[.int .i64 x] 3)) (below_tr (below_al _ (.cells #[.int .i64 y] 3)) (below_al _ (.cells #[.string ⟨#[]⟩, .string ⟨#[]⟩, .int .i64 0] 23)))
    have HCK := fun w' (h : Below w.heap.size w w') => hid (lcheck_any v ws w' (he.below h) (hr.below h) hz)
    obtain ⟨ad, cap, rfl, hlc, hcm, _⟩ := hr.open
    have hra : Row (((w.alloc (.cells #[.int .i64 x] 3)).alloc (.cells #[.int .i64 y] 3)).alloc (.cells #[.string ⟨#[]⟩, .string ⟨#[]⟩, .int .i64 0] 23)) w.heap.size #[.int .i64 x] 3 := ((row_nw w _ _ rfl).al _).al _
    have hrb : Row (((w.alloc (.cells #[.int .i64 x] 3)).alloc (.cells #[.int .i64 y] 3)).alloc (.cells #[.string ⟨#[]⟩, .string ⟨#[]⟩, .int .i64 0] 23)) (w.heap.size + 1) #[.int .i64 y] 3 := (row_nw _ _ _ (by simp)).al _
    have hrr : Row (((w.alloc (.cells #[.int .i64 x] 3)).alloc (.cells #[.int .i64 y] 3)).alloc (.cells #[.string ⟨#[]⟩, .string ⟨#[]⟩, .int .i64 0] 23)) (w.heap.size + 1 + 1) #[.string ⟨#[]⟩, .string ⟨#[]⟩, .int .i64 0] 23 := row_nw _ _ _ (by simp)
    clear hr hz he hlen HD
    generalize lcheckI ws = ck at *
    refine (callsIn_wide (n := 9)).1 ?_
    refine callsIn_of_wp_marks Tryz.func15 rfl trivial ?_ rfl
    simp only [Tryz.ntmps15, List.size_toArray, List.length_cons, List.length_nil, Nat.reduceAdd, Nat.reduceSub, Array.replicate_succ, Array.replicate_zero, List.push_toArray, List.append_toArray, List.nil_append, List.cons_append]
    refine wpIn_wide.2 ?_
    go_wp2_with fail
    generalize ((w.alloc (.cells #[.int .i64 x] 3)).alloc (.cells #[.int .i64 y] 3)).alloc (.cells #[.string ⟨#[]⟩, .string ⟨#[]⟩, .int .i64 0] 23) = W1 at *
    refine (HCK _ hb0).out.mono ?_
    rintro e w2 ⟨rfl, hB1⟩
    have HB2 := hid (below_tr hb0 hB1)
    have hrr2 := hrr.below hB1
    have xa : w2.cell? ⟨w.heap.size, 0, none⟩ = some (.int .i64 x) := (hra.below hB1).cell 0 rfl
    have xb : w2.cell? ⟨w.heap.size + 1, 0, none⟩ = some (.int .i64 y) := (hrb.below hB1).cell 0 rfl
    have r0 : w2.cell? ⟨w.heap.size + 1 + 1, 0, none⟩ = some (.string ⟨#[]⟩) := hrr2.cell 0 rfl
    have r1 : w2.cell? ⟨w.heap.size + 1 + 1, 1, none⟩ = some (.string ⟨#[]⟩) := hrr2.cell 1 rfl
    have r2 : w2.cell? ⟨w.heap.size + 1 + 1, 2, none⟩ = some (.int .i64 0) := hrr2.cell 2 rfl
    have r3 := hrr2.frozen 0
    have r4 := hrr2.frozen 1
    have r5 := hrr2.frozen 2
    have hR := ((hrr2.set 0 (.string ⟨#[]⟩)).set 1 (.string ⟨#[]⟩)).set 2 (.int .i64 0)
    have z0 := hR.cell 0 rfl
    have z1 := hR.cell 1 rfl
    have z2 := hR.cell 2 rfl
    have HBE := hid (((HB2.out.setCell (p := ⟨w.heap.size + 1 + 1, 0, none⟩) (by simp; omega) (.string ⟨#[]⟩)).setCell (p := ⟨w.heap.size + 1 + 1, 1, none⟩) (by simp; omega) (.string ⟨#[]⟩)).setCell (p := ⟨w.heap.size + 1 + 1, 2, none⟩) (by simp; omega) (.int .i64 0))
    clear hR hrr hrr2 hra hrb hb0 hB1 HCK HB2
    go_wp2_with fail
    refine ⟨.tuple #[.agg #[.string ⟨#[]⟩, .string ⟨#[]⟩, .int .i64 0], .int .i64 ck], ?_, by rw [HR.out]; rfl, HBE.out⟩
    simp [results, Tryz.f15, go_sem, z0, z1, z2]
end Go.Proofs.YtmbehkanhefcpaaGreatDoor
