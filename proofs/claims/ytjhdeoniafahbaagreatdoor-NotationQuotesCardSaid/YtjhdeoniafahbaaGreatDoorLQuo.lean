/-
  P45.4: NotationQuotes.
-/
import Derived.Test.YtjhdeoniafahbaaGreatDoorJ09
import Derived.Test.YtjhdeoniafahbaaGreatDoorJ08
import Derived.Test.YtjhdeoniafahbaaGreatDoorJ01
namespace Go.Proofs.YtjhdeoniafahbaaGreatDoor
open Go.RowKit

set_option maxRecDepth 100000 in
set_option maxHeartbeats 4000000 in
theorem lquo_any (v : Value) (ws : List ByteArray) (s : ByteArray) (m : Int) (w : World) (he : Env w) (hm : w.cell? ⟨0, 0, none⟩ = some (.int .i64 m)) (hr : RdS w v ws) (hz : Szs ws) (hs : s.size ≤ maxLen) :
    Calls Tryz.prog 10 #[v, .string s] w fun e w' => e = .returned (.bool true) ∧ Below w.heap.size w w' := by
  have HE := fun w' (h : Below w.heap.size w w') => hid (he.below h)
  have HM := fun w' (h : Below w.heap.size w w') => hid (Below.keeps h _ _ hm)
  have HR := fun w' (h : Below w.heap.size w w') => hid (hr.below h)
  have HAW := fun w' (h : Below w.heap.size w w') => hid (awake45_any m w' (HE w' h).out (HM w' h).out)
  have HG := hid (greatw_any v ws 10 w hr hz)
  have hsm : s.size ≤ 9223372036854775807 := hs
  obtain ⟨av, cv, rfl, _, _, _⟩ := hr.open
  clear he hm hr hz hs
  cases hg : gwB ws 10 with
  | true =>
    rw [hg] at HG
    clear hg
    go_enter Tryz.func10, Tryz.ntmps10
    go_wp2_with fail
    (with_reducible refine HG.out.mono ?_)
    rintro e w1 ⟨rfl, rfl⟩
    go_wp2_with fail
    (with_reducible refine (HAW _ (Below.refl _ _)).out.mono ?_)
    rintro e w2 ⟨rfl, hB2⟩
    go_wp2
    go_ret
    exact ⟨rfl, hB2⟩
  | false =>
    have hgw := gw_ok hg
    have HQ := hid (quotes_one hg)
    rw [hg] at HG
    clear hg
    by_cases hb : 200 < s.size
    · have hb1 : (200 : Int) < (s.size : Int) := by omega
      go_enter Tryz.func10, Tryz.ntmps10
      go_wp2_with fail
      (with_reducible refine HG.out.mono ?_)
      rintro e w1 ⟨rfl, rfl⟩
      go_wp2_with fail
      (with_reducible refine (HAW _ (Below.refl _ _)).out.mono ?_)
      rintro e w2 ⟨rfl, hB2⟩
      go_wp2
      go_ret
      exact ⟨rfl, hB2⟩
    · have hb1 : ¬ (200 : Int) < (s.size : Int) := by omega
      have HT := hid (quotes_two (s := s) (by omega))
      have HPQ := hid (pquote_any (.slice av ws.length cv) ws w (HE _ (Below.refl _ _)).out (HR _ (Below.refl _ _)).out (fun x hx => by have := hgw.2 x hx; omega) (by omega))
      have hqz : (quotS ws).size ≤ 1048576 := by
        have := quote_len (l := ws) (n := 10) (by omega) hgw.2
        unfold quotS
        split
        · omega
        · exact Nat.zero_le _
      have HUQ := fun w' (h : Below w.heap.size w w') => hid (punq_any (quotS ws) m w' (HE w' h).out hqz (HM w' h).out)
      have HUS := fun w' (h : Below w.heap.size w w') => hid (punq_any s m w' (HE w' h).out (by omega) (HM w' h).out)
      have HUZ := hid (unqL_sz (s := s) (by omega))
      have HUL : Hid ((unqL s).length ≤ 65536) := by
        show _ ≤ _
        have := splitS_len s
        unfold unqL
        split
        · exact Nat.zero_le _
        · split
          · exact Nat.zero_le _
          · split
            · omega
            · exact Nat.zero_le _
      clear hb hqz hgw
      go_enter Tryz.func10, Tryz.ntmps10
      go_wp2_with fail
      (with_reducible refine HG.out.mono ?_)
      rintro e w1 ⟨rfl, rfl⟩
      go_wp2_with fail
      (with_reducible refine HPQ.out.mono ?_)
      rintro e w2 ⟨rfl, hB2⟩
      have HB2 := hid hB2
      clear HG HPQ hB2
      generalize quotS ws = qs at *
      generalize quotI ws = qi at *
      go_upto_if 27 with fail
      go_cut [] from 26 to 47 (fun wx => Hid (Below w.heap.size w wx))
      case first =>
        rcases HQ.out with ⟨h1, h2, h3⟩ | ⟨h1, h2⟩
        · have HU2 := HUQ w2 HB2.out
          rw [h2, h3] at HU2
          have hq0 : (qi == 0) = true := by rw [h1]; rfl
          have hE := fun v w' h1 h2 => hid (equalS_any v (.slice av ws.length cv) ws ws w' h1 h2)
          clear HUS HUZ HUL HT HQ h1 h2 h3 HUQ
          go_wp2_with fail
          (with_reducible refine HU2.out.mono ?_)
          rintro e w3 ⟨v3, rfl, hr3, hB3⟩
          have HB3 := hid (below_tr HB2.out hB3)
          have hE3 := hE v3 w3 hr3.rd (HR _ HB3.out).out
          simp only [decide_true] at hE3
          clear hE hB3 hr3 HU2
          go_wp2_with fail
          (with_reducible refine hE3.out.mono ?_)
          rintro e w4 ⟨rfl, hB4⟩
          have HB4 := hid (below_tr HB3.out hB4)
          go_wp2_with fail
          go_meet
          exact HB4
        · have hq0 : (qi == 0) = false := by rw [h1]; rfl
          have hq1 : (qi != 11) = false := by rw [h1]; rfl
          have hq2 : qs.toList = [] := by rw [h2]; decide +kernel
          clear HUS HUZ HUL HT HQ HUQ h1 h2
          go_wp2_with fail
          go_meet
          exact HB2
      case rest =>
        have HB3 := hid hcut.out
        have HU := HUS wc HB3.out
        clear HUQ HQ HB2 HUS
        rcases HT.out with ⟨h1, h2, h3⟩ | ⟨h1, h2⟩
        · rw [h1] at HU
          have HPQ := fun v w' (h : Below w.heap.size w w') hr => hid (pquote_any v (unqL s) w' (HE w' h).out hr HUZ.out HUL.out)
          rw [h2, h3] at HPQ
          clear HT h1 h2 h3
          go_wp2_with fail
          (with_reducible refine HU.out.mono ?_)
          rintro e w4 ⟨v4, rfl, hr4, hB4⟩
          have HB4 := hid (below_tr HB3.out hB4)
          have HP4 := HPQ v4 w4 HB4.out hr4.rd
          clear HU HPQ hB4 hr4
          go_wp2_with fail
          (with_reducible refine HP4.out.mono ?_)
          rintro e w5 ⟨rfl, hB5⟩
          have HB5 := hid (below_tr HB4.out hB5)
          clear HP4 hB5
          go_wp2_with fail
          (with_reducible refine (HAW _ HB5.out).out.mono ?_)
          rintro e w6 ⟨rfl, hB6⟩
          go_wp2
          go_ret
          exact ⟨rfl, below_tr HB5.out hB6⟩
        · rw [h1, h2] at HU
          clear HT h1 h2
          go_wp2_with fail
          (with_reducible refine HU.out.mono ?_)
          rintro e w4 ⟨v4, rfl, hr4, hB4⟩
          have HB4 := hid (below_tr HB3.out hB4)
          obtain ⟨a4, c4, rfl, _, _, _⟩ := hr4.rd.open
          simp only [List.length_nil]
          clear HU hB4 hr4
          go_wp2_with fail
          (with_reducible refine (HAW _ HB4.out).out.mono ?_)
          rintro e w6 ⟨rfl, hB6⟩
          go_wp2
          go_ret
          exact ⟨rfl, below_tr HB4.out hB6⟩
end Go.Proofs.YtjhdeoniafahbaaGreatDoor
