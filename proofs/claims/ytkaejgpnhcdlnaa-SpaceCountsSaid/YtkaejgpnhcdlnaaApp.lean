/- append as one step of a region that draws its order: a rule that fires ahead of the walk's own unfolding, where the append is known to end (AppOk). -/
import Derived.Test.YtkaejgpnhcdlnaaKit
import Derived.Shelf.RegionOpen
import Derived.RangeFuncNested
import Derived.Deep.DrawnRows
namespace Go.Proofs.Ytkaejgpnhcdlnaa
open Go.RowKit
theorem exec_app {P : Program} {dst : Option Tmp} {s x : Operand} {t ty : TypeId} {pos : String} {after : Array Edge} {a : Act} {w : World}
    (h : AppOk P #[t, t] ty #[a.eval s, a.eval x] w) :
    (execOp a.eval { dst := dst, op := .call { callee := .builtin .append, args := #[s, x], argTypes := #[t, t] }, type := ty, pos := pos, after := after, guard := none }).run P w =
      .ok (.value (appV P #[t, t] ty #[a.eval s, a.eval x] w)) (appW P #[t, t] ty #[a.eval s, a.eval x] w) := by
  have hr := app_rule h
  unfold execOp
  simp only [resolve, invoke, builtin, Sem.run_bind, Sem.run_pure, Result.andThen_ok, List.map_toArray, List.map_cons, List.map_nil, hr]
theorem wpIn_app {F : Fence} {n : Nat} {P : Program} {dst : Option Tmp} {s x : Operand} {t ty : TypeId} {pos : String} {after : Array Edge} {a : Act} {w : World} {K : Act → World → Prop} {Q : Exit → Act → World → Prop}
    (h : AppOk P #[t, t] ty #[a.eval s, a.eval x] w) :
    Oper.wpIn F n P { dst := dst, op := .call { callee := .builtin .append, args := #[s, x], argTypes := #[t, t] }, type := ty, pos := pos, after := after, guard := none } a w K Q =
      K (a.put dst (appV P #[t, t] ty #[a.eval s, a.eval x] w)) (appW P #[t, t] ty #[a.eval s, a.eval x] w) := by
  have hab : ∀ ρ f, Oper.about P w ρ { dst := dst, op := .call { callee := .builtin .append, args := #[s, x], argTypes := #[t, t] }, type := ty, pos := pos, after := after, guard := none } = some f → F.fn f := by
    intro ρ f hf
    simp [Oper.about, resolve, Sem.run_pure, Target.leads] at hf
  unfold Oper.wpIn
  rw [Oper.semAt_eq _ _ _ (by intro c; simp), exec_app h]
  exact propext ⟨fun hh => hh.2, fun hh => ⟨hab _, hh⟩⟩
theorem wp_app {P : Program} {dst : Option Tmp} {s x : Operand} {t ty : TypeId} {pos : String} {after : Array Edge} {a : Act} {w : World} {K : Act → World → Prop} {Q : Exit → Act → World → Prop}
    (h : AppOk P #[t, t] ty #[a.eval s, a.eval x] w) :
    Oper.wp P { dst := dst, op := .call { callee := .builtin .append, args := #[s, x], argTypes := #[t, t] }, type := ty, pos := pos, after := after, guard := none } a w K Q =
      K (a.put dst (appV P #[t, t] ty #[a.eval s, a.eval x] w)) (appW P #[t, t] ty #[a.eval s, a.eval x] w) := by
  unfold Oper.wp
  rw [exec_app h]
  rfl
theorem wpIn_at_zero {F : Fence} {n : Nat} {P : Program} {o : Oper} {l : List Oper} {h : 0 < (o :: l).toArray.size} {a : Act} {w : World} {K : Act → World → Prop} {Q : Exit → Act → World → Prop} : Oper.wpIn F n P ((o :: l).toArray[0]'h) a w K Q = Oper.wpIn F n P o a w K Q := rfl
theorem wpIn_at_succ {F : Fence} {n : Nat} {P : Program} {o : Oper} {l : List Oper} {m : Nat} {h : m + 1 < (o :: l).toArray.size} {a : Act} {w : World} {K : Act → World → Prop} {Q : Exit → Act → World → Prop} : Oper.wpIn F n P ((o :: l).toArray[m + 1]'h) a w K Q = Oper.wpIn F n P (l.toArray[m]'(by simpa using h)) a w K Q := rfl
end Go.Proofs.Ytkaejgpnhcdlnaa
