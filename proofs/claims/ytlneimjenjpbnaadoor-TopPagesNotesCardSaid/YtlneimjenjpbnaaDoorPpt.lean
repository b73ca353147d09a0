/-
  pagebreak.Potentials.
-/
import Derived.Test.YtlneimjenjpbnaaDoorPot
import Derived.Test.YtlneimjenjpbnaaDoorNsw
import Derived.Test.YtlneimjenjpbnaaDoorPc
namespace Go.Proofs.YtlneimjenjpbnaaDoor
open Go.RowKit

set_option maxRecDepth 100000 in
set_option maxHeartbeats 2000000 in
theorem ppt_any (p : PP) (vl vn vp : Value) (w : World) (hr : RdP5 w vl vn vp p) (hz : ppI p = 0) :
    Calls Tryd.prog 12 #[.agg (ppC p vl vn vp)] w fun e w' => ∃ v, e = .returned (.tuple #[v, .int .i64 0]) ∧ RdI w' v (tabP p p.n) ∧ Below w.heap.size w w' := by
  have HOK := hid (pp_ok hz)
  have HZ := hid hz
  have HB0 := hid (below_al w (.cells (ppC p vl vn vp) 38))
  have HR0 := hid (row_nw w (ppC p vl vn vp) 38 rfl)
  have HRD := hid hr
  obtain ⟨a1, c1, rfl, _, _, _⟩ := hr.l.open
  obtain ⟨a2, c2, rfl, hl2, hm2, _⟩ := hr.n.open
  obtain ⟨a3, c3, rfl, _, _, _⟩ := hr.s.open
  clear hr hz
  have HC := fun w' h => hid (ppchk_any p (.slice a1 p.lines.length c1) (.slice a2 p.notes.length c2) (.slice a3 p.pens.length c3) w' h)
  have HS := fun w' h => hid (nsums_any p (.slice a1 p.lines.length c1) (.slice a2 p.notes.length c2) (.slice a3 p.pens.length c3) w' h HOK.out)
  have HPO := hid (fun B w' h => pot_any p B w' h HOK.out)
  unfold ppC at HR0 HB0 HC HS ⊢
  go_enter Tryd.func12, Tryd.ntmps12
  go_wp2_with fail
  (with_reducible refine (HC _ (HRD.out.below HB0.out)).out.mono ?_)
  rintro e w2 ⟨rfl, hb2⟩
  rw [HZ.out]
  have HRD2 := hid ((HRD.out.below HB0.out).below hb2)
  have HB2 := hid (below_tr HB0.out hb2)
  have HR2 := hid (HR0.out.below hb2)
  clear HR0 HB0 hb2 HRD HC
  have cl := HR2.out.cell 0 (x := .slice a1 p.lines.length c1) rfl
  have cn := HR2.out.cell 1 (x := .slice a2 p.notes.length c2) rfl
  have cp := HR2.out.cell 2 (x := .slice a3 p.pens.length c3) rfl
  have ch := HR2.out.cell 3 (x := .int .i64 p.h) rfl
  have cg := HR2.out.cell 4 (x := .int .i64 p.gap) rfl
  go_wp2_with fail
  (with_reducible refine (HS _ HRD2.out).out.mono ?_)
  rintro e w3 ⟨B, rfl, _, hs3, hb3⟩
  have HS3 := hid hs3
  have HB3 := hid (below_tr HB2.out hb3)
  clear hs3 hb3 cl cn cp ch cg HR2 HRD2 HS
  go_wp2_with fail
  (with_reducible refine (HPO.out B _ HS3.out).mono ?_)
  rintro e w4 ⟨vt, rfl, hrt, hb4⟩
  have HRT := hid hrt
  have HB4 := hid (below_tr HB3.out hb4)
  clear hrt hb4
  go_wp2_with fail
  exact bodyPost_ret (results_tmp2 rfl _ _ _) rfl ⟨vt, rfl, HRT.out, HB4.out⟩
end Go.Proofs.YtlneimjenjpbnaaDoor
