/- Part X: appends behind a guard, in a region that draws. No program's text. -/
import Derived.Test.YtpjfakmalhenjaaDoorSubR
set_option linter.unusedVariables false
namespace Go.Sub
open Go.ChangeMaps (setBlock)
section
variable {α : Type} {enc : α → List Value} {k : Nat}
variable {P : Program} {w : World} {ops : Array Oper} {rest : List Oper} {o : Oper} {a : Act} {Q : Exit → Act → World → Prop}
/-- the same as one step of a region that draws its order, behind a guard that holds -/
theorem step_append_readsG {K : Act → World → Prop} {E : Prop} (bytes : Nat) (hw : Region.wanted o (yielded ops a.tmps) = true) (s x : Operand) (t : TypeId)
    (ho : o.op = .call { callee := .builtin .append, args := #[s, x], argTypes := #[t, t] })
    (e : TypeId) (i : TypeInfo) (z : Value) (ht : P.underlying t = some (.slice e)) (hi : P.info? e = some i) (hz : i.zero = some z)
    (hsize : i.size = k) (hby : i.bytes = bytes) (hzs : z.cells.size = k) (hsz : 0 < k)
    (v vx : Value) (L M : List α) (F : Fp) (hs : a.eval s = v) (hrow : (row e k enc v L).on w F) (hv : a.eval x = vx) (hx : Reads w k enc vx M) (hl : ∀ y, (enc y).length = k) (h1 : ∀ y, ∀ u ∈ enc y, u.oneCell' = true)
    (h63 : L.length + M.length ≤ maxLen) (hbytes : (L.length + M.length) * bytes ≤ 140737488355328)
    (h : ∀ v' w' F', (row e k enc v' (L ++ M)).on w' F' → Upd F F' w w' → K (a.put o.dst v') w') :
    if Region.wanted o (yielded ops a.tmps) = true then Oper.wp P o a w K Q else E := by
  rw [if_pos hw]
  obtain ⟨v', w', F', hr, h2, h3⟩ := run_append_reads (w := w) o.type bytes t e i z ht hi hz hsize hby hzs hsz v vx L M F hrow hx hl h1 h63 hbytes
  unfold Oper.wp execOp
  simp only [ho, resolve, invoke, builtin, Sem.run_bind, Sem.run_pure, Result.andThen_ok, List.map_toArray, List.map_cons, List.map_nil, hs, hv, hr]
  exact h _ _ _ h2 h3
end
end Go.Sub
