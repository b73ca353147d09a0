/-
  A step of a region that draws its order: an append to an own row (step_ap of XStp, without Clo).
-/
import Derived.Test.YtalpgilncohkbaaJ01
import Derived.Deep.RegionLaw
namespace Go.Proofs.Ytalpgilncohkbaa
open Go.RowKit

theorem step_ap {P : Program} {ops : Array Oper} {o : Oper} {a : Act} {W : World} {K : Act → World → Prop} {Q : Exit → Act → World → Prop} {E : Prop}
    (hgd : o.guard = none) (s x : Operand) (t : TypeId) (ho : o.op = .call { callee := .builtin .append, args := #[s, x], argTypes := #[t, t] })
    (base : Nat) (e : TypeId) {z : Value} {size bytes : Nat} (ht : P.underlying t = some (.slice e)) (hi : (P.info? e).map (fun i => (i.zero, i.size, i.bytes)) = some (some z, size, bytes))
    (hzs : z.cells.size = size) (hsz : 0 < size) (hby : bytes ≤ 64)
    (v : Value) (n : Nat) (xs : List Value) (hs : a.eval s = v) (hown : W.ownsRow base e size v n xs) (m : Nat) (hm : 0 < m) (news : List Value) (hl : news.length = m * size) (h1 : ∀ u ∈ news, u.oneCell' = true)
    (N : Nat) (hx : a.eval x = .slice (some ⟨N, 0, none⟩) m m) (hc : ∀ j u, news[j]? = some u → W.cell? ⟨N, j, none⟩ = some u) (hn : n + m ≤ 4294967296) (hbase : base ≤ W.heap.size)
    (h : ∀ g cap w', w'.ownsRow base e size (.slice (some ⟨g, 0, none⟩) (n + m) cap) (n + m) (xs ++ news) → Below base W w' → W.grownBy w' v.ownBlock → (v.ownBlock = some g ∨ W.heap.size ≤ g) →
      K (a.put o.dst (.slice (some ⟨g, 0, none⟩) (n + m) cap)) w') :
    if Region.wanted o (yielded ops a.tmps) = true then Oper.wp P o a W K Q else E := by
  have hw : Region.wanted o (yielded ops a.tmps) = true := by simp [Region.wanted, hgd]
  rw [if_pos hw]
  obtain ⟨i, hi1, hi2, hi3, hi4⟩ := info_parts hi
  have hbb : (n + m) * bytes ≤ 140737488355328 := by
    have : (n + m) * bytes ≤ 4294967296 * 64 := Nat.mul_le_mul hn hby
    omega
  obtain ⟨g, cap, w', hr, ho', hg', hat, hlt⟩ := run_append_lies (P := P) W t o.type base e i z size bytes ht hi1 hi2 hi3 hi4 hzs hsz v n xs hown ⟨N, 0, none⟩ m m news hl
    (by
      intro j u hj
      have hadd : (⟨N, 0, none⟩ : Addr).add j = ⟨N, j, none⟩ := by unfold Addr.add; split <;> simp_all
      rw [hadd]; exact hc j u hj) h1 hm (by unfold maxLen; omega) hbb hbase W.heap.size rfl
  unfold Oper.wp execOp
  simp only [ho, resolve, invoke, builtin, Sem.run_bind, Sem.run_pure, Result.andThen_ok, List.map_toArray, List.map_cons, List.map_nil, hs, hx, hr]
  exact h g cap w' ho' ((Below.refl _ _).grown hg' hbase (fun k hk => (hown.lt k hk).1)) hg' (hat.imp id (fun h => by omega))
/-- A call with two arguments. -/
theorem step_call2 {P : Program} {ops : Array Oper} {o : Oper} {a : Act} {w : World} {K : Act → World → Prop} {Q : Exit → Act → World → Prop} {E : Prop}
    (hg : o.guard = none) (f : Nat) (ef : ∀ args w, (callFunc f args).run P w = .ok (.enter f args) w) (x y : Operand) (ts : Array TypeId) (hop : o.op = Op.call { callee := Callee.value (Operand.func f), args := #[x, y], argTypes := ts }) (v u : Value) (hx : a.eval x = v) (hy : a.eval y = u) (r : Value)
    (hc : Calls P f #[v, u] w fun e w' => e = .returned r ∧ Below w.heap.size w w') (hK : ∀ w', Below w.heap.size w w' → K (a.put o.dst r) w') :
    if Region.wanted o (yielded ops a.tmps) = true then Oper.wp P o a w K Q else E := by
  have hw : Region.wanted o (yielded ops a.tmps) = true := by simp [Region.wanted, hg]
  rw [if_pos hw]
  have hrun : (execOp a.eval o).run P w = .ok (.enter f #[v, u]) w := by
    simp [execOp, hop, resolve, invoke, go_sem, ef]
    rw [← hx, ← hy]
    cases x <;> cases y <;> first | rfl | simp [go_sem]
  unfold Oper.wp
  rw [hrun, Oper.upon_enter]
  refine hc.mono ?_
  rintro e w' ⟨rfl, hb⟩
  exact hK w' hb
end Go.Proofs.Ytalpgilncohkbaa
