/-
  An append of nothing, at a step of a region that draws its order.
-/
import Derived.Test.YthddanjmnifloaaDoorKept2
import Derived.Deep.AppendLies
set_option maxHeartbeats 1000000
set_option maxRecDepth 10000
namespace Go.Proofs.YthddanjmnifloaaDoor
open Go Go.RowKit Pl

theorem step_append_zero {ops : Array Oper} {o : Oper} {a : Act} {w : World} {K : Act → World → Prop} {Q : Exit → Act → World → Prop} {E : Prop} (hgd : o.guard = Option.none) (s x : Operand)
    (ho : o.op = .call { callee := .builtin .append, args := #[s, x], argTypes := #[23, 23] }) (g n c : Nat) (A : Option Addr) (hn : n = 0)
    (hs : a.eval s = .slice (some ⟨g, 0, Option.none⟩) 0 0) (hx : a.eval x = .slice A n c)
    (h : K (a.put o.dst (.slice (some ⟨g, 0, Option.none⟩) 0 0)) w) :
    if Region.wanted o (yielded ops a.tmps) = true then Oper.wp Tryd.prog o a w K Q else E := by
  subst hn
  have hw : Region.wanted o (yielded ops a.tmps) = true := by simp [Region.wanted, hgd]
  rw [if_pos hw]
  unfold Oper.wp execOp
  simp only [ho, resolve, invoke, builtin, Sem.run_bind, Sem.run_pure, Result.andThen_ok, List.map_toArray, List.map_cons, List.map_nil, hs, hx]
  cases A with
  | none =>
    simp [go_sem]
    exact h
  | some b =>
    simp [go_sem]
    exact h
end Go.Proofs.YthddanjmnifloaaDoor
