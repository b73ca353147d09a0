/-
  apographtop.top48Awake.
-/
import Derived.Test.YtalpgilncohkbaaTpi
import Derived.Test.YtalpgilncohkbaaHbk
import Derived.Test.YtalpgilncohkbaaSl
namespace Go.Proofs.Ytalpgilncohkbaa
open Go.RowKit
attribute [local go_sem] Oper.semAt_some

def abcS : ByteArray := ⟨#[97, 98, 99]⟩
def abcW : Wd := ⟨abcS, 0, 0, 0, false, false, ⟨#[]⟩⟩
def awSt : St := ⟨0, 0, 0, 0, 0, 10, 5, 3, 10, 0, 0, (none, 0, 0), (none, 0, 0)⟩
def awL : List It := [⟨1, 30, 0, 0, 0, abcS⟩, ⟨2, 10, 5, 3, 0, ⟨#[]⟩⟩, ⟨1, 30, 0, 0, 0, abcS⟩, ⟨2, 10, 5, 3, 0, ⟨#[]⟩⟩, ⟨1, 30, 0, 0, 0, abcS⟩]
theorem aw_it : itmF awSt [] [abcW, abcW, abcW] = awL := by kernel_rfl
theorem aw_e : itE awSt [] [abcW, abcW, abcW] = 0 := by kernel_rfl
theorem aw_pot : potL awL 72 0 = 6 := by kernel_rfl
theorem aw_brk : brkL awL 72 = [3, 5] := by kernel_rfl
theorem aw_rd (w : World) (A : World) (h : Row A (w.heap.size + 1) #[.string abcS, .int .i64 0, .int .i64 0, .int .i64 0, .bool false, .bool false, .string ⟨#[]⟩, .string abcS, .int .i64 0, .int .i64 0, .int .i64 0, .bool false, .bool false, .string ⟨#[]⟩, .string abcS, .int .i64 0, .int .i64 0, .int .i64 0, .bool false, .bool false, .string ⟨#[]⟩] 35) : RdWd A (.slice (some ⟨w.heap.size + 1, 0, none⟩) 3 3) [abcW, abcW, abcW] := by
  refine ⟨_, 3, rfl, Nat.le_refl _, by decide, fun i x hx => ⟨_, _, rfl, fun j u hu => ?_⟩⟩
  have key : x = abcW ∧ i < 3 := by
    rcases i with _ | _ | _ | i
    · exact ⟨(Option.some.inj hx).symm, by omega⟩
    · exact ⟨(Option.some.inj hx).symm, by omega⟩
    · exact ⟨(Option.some.inj hx).symm, by omega⟩
    · cases hx
  obtain ⟨rfl, hi⟩ := key
  refine h.cell _ ?_
  rcases i with _ | _ | _ | i
  · rcases j with _ | _ | _ | _ | _ | _ | _ | j
    all_goals first | exact hu | cases hu
  · rcases j with _ | _ | _ | _ | _ | _ | _ | j
    all_goals first | exact hu | cases hu
  · rcases j with _ | _ | _ | _ | _ | _ | _ | j
    all_goals first | exact hu | cases hu
  · omega
theorem rdI_two (A : World) (B : Nat) (x y : Int) (h : Row A B #[.int .i64 x, .int .i64 y] 3) : RdI A (.slice (some ⟨B, 0, none⟩) 2 2) [x, y] := by
  refine ⟨_, 2, rfl, Nat.le_refl _, by decide, fun i z hz => ⟨_, _, rfl, ?_⟩⟩
  refine h.cell _ ?_
  rcases i with _ | _ | i
  · cases Option.some.inj hz; rfl
  · cases Option.some.inj hz; rfl
  · cases hz
set_option maxRecDepth 100000 in
set_option maxHeartbeats 4000000 in
theorem awake48_any (w : World) : Calls Try.prog 7 #[] w fun e w' => e = .returned (.bool true) ∧ Below w.heap.size w w' := by
  have HB2 := hid (below_tr (below_al w (.cells #[.string abcS, .int .i64 0, .int .i64 0, .int .i64 0, .bool false, .bool false, .string ⟨#[]⟩] 35)) (below_al _ (.cells #[.string abcS, .int .i64 0, .int .i64 0, .int .i64 0, .bool false, .bool false, .string ⟨#[]⟩, .string abcS, .int .i64 0, .int .i64 0, .int .i64 0, .bool false, .bool false, .string ⟨#[]⟩, .string abcS, .int .i64 0, .int .i64 0, .int .i64 0, .bool false, .bool false, .string ⟨#[]⟩] 35)))
  have HR2 := hid (row_nw (w.alloc (.cells #[.string abcS, .int .i64 0, .int .i64 0, .int .i64 0, .bool false, .bool false, .string ⟨#[]⟩] 35)) #[.string abcS, .int .i64 0, .int .i64 0, .int .i64 0, .bool false, .bool false, .string ⟨#[]⟩, .string abcS, .int .i64 0, .int .i64 0, .int .i64 0, .bool false, .bool false, .string ⟨#[]⟩, .string abcS, .int .i64 0, .int .i64 0, .int .i64 0, .bool false, .bool false, .string ⟨#[]⟩] 35 rfl)
  have e1 : (w.alloc (.cells #[.string abcS, .int .i64 0, .int .i64 0, .int .i64 0, .bool false, .bool false, .string ⟨#[]⟩] 35)).heap.size = w.heap.size + 1 := by simp
  rw [e1] at HR2
  clear e1
  have HRW := hid (aw_rd w _ HR2.out)
  have HRP := hid (show RdG ((w.alloc (.cells #[.string abcS, .int .i64 0, .int .i64 0, .int .i64 0, .bool false, .bool false, .string ⟨#[]⟩] 35)).alloc (.cells #[.string abcS, .int .i64 0, .int .i64 0, .int .i64 0, .bool false, .bool false, .string ⟨#[]⟩, .string abcS, .int .i64 0, .int .i64 0, .int .i64 0, .bool false, .bool false, .string ⟨#[]⟩, .string abcS, .int .i64 0, .int .i64 0, .int .i64 0, .bool false, .bool false, .string ⟨#[]⟩] 35)) (.slice none 0 0) [] from ⟨none, 0, rfl, Nat.le_refl _, by decide, fun i x hx => by cases hx⟩)
  unfold abcS at HB2 HR2 HRW HRP
  go_enter Try.func7, Try.ntmps7
  go_wp2_with fail
  refine (items_any awSt _ _ [] [abcW, abcW, abcW] _ HRP.out (fun x hx => by cases hx) HRW.out (by decide) (fun x hx => by
    have : x = abcW := by simpa using hx
    rw [this]; decide)).mono ?_
  generalize (w.alloc (.cells #[.string ⟨#[97, 98, 99]⟩, .int .i64 0, .int .i64 0, .int .i64 0, .bool false, .bool false, .string ⟨#[]⟩] 35)).alloc _ = W2 at *
  rintro e w3 ⟨v1, rfl, hrd, hb3⟩
  rw [aw_e, aw_it] at hrd
  have HRD := hid (hrd rfl)
  rw [aw_e]
  have HB3 := hid (below_tr HB2.out hb3)
  clear hrd hb3 HB2 HR2 HRW HRP
  obtain ⟨av, cv, rfl, _, _, _⟩ := HRD.out.open
  have HS : Hid (∀ x ∈ awL, ItS x) := by
    show ∀ x ∈ awL, ItS x
    have h := itmN_s (st := awSt) (P := []) (ws := [abcW, abcW, abcW]) (itE_ok aw_e).1 (fun x hx => by
      have : x = abcW := by simpa using hx
      rw [this]; decide) 3
    exact fun x hx => h x (by show x ∈ itmF awSt [] [abcW, abcW, abcW]; rw [aw_it]; exact hx)
  have HC : Hid (ckIts awL = 0) := by
    show _ = _
    have h := (itE_ok aw_e).2.2.2
    rw [aw_it] at h
    exact h
  go_wp2_with fail
  refine (hbk_any _ awL 72 w3 HRD.out HS.out HC.out (by decide) (by decide) (by rw [aw_pot]; decide)).mono ?_
  rintro e w4 ⟨vb, rfl, hrb, hb4⟩
  rw [aw_brk] at hrb
  rw [aw_pot]
  have HRB := hid (show RdI w4 vb [3, 5] from hrb)
  have HB4 := hid (below_tr HB3.out hb4)
  clear hrb hb4 HRD HB3
  have hlen : (awL.length : Int) = 5 := rfl
  obtain ⟨n5, hn5⟩ : ∃ n5, n5 = awL.length := ⟨_, rfl⟩
  rw [← hn5] at hlen ⊢
  clear hn5
  have i1 : ((n5 : Int) == 5) = true := by rw [hlen]; rfl
  have HRB5 := hid (HRB.out.below (below_al w4 (.cells #[.int .i64 3, .int .i64 5] 3)))
  have HR5 := hid (rdI_two _ _ 3 5 (row_nw w4 #[.int .i64 3, .int .i64 5] 3 rfl))
  have HB5 := hid (below_tr HB4.out (below_al w4 (.cells #[.int .i64 3, .int .i64 5] 3)))
  clear hlen
  go_wp2_with fail
  refine (equalI_any _ _ [3, 5] [3, 5] _ HRB5.out HR5.out).mono ?_
  rintro e w6 ⟨rfl, hb6⟩
  have HB6 := hid (below_tr HB5.out hb6)
  rw [show decide (([3, 5] : List Int) = [3, 5]) = true from rfl]
  clear hb6
  go_wp2_with fail
  go_ret
  exact ⟨rfl, HB6.out⟩
end Go.Proofs.Ytalpgilncohkbaa
