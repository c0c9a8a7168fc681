/- Part P: local structs: a whole struct stored into a block of the call's own. No program's text. -/
import Derived.Test.YtpjfakmalhenjaaDoorSubL
import Derived.Laws.Tables
set_option linter.unusedVariables false
namespace Go.Sub
open Go.ChangeMaps (setBlock)
section
variable {P : Program} {ops : Array Oper} {rest : List Oper} {o : Oper} {a : Act} {Q : Exit → Act → World → Prop}
theorem setRow_upd {w w' : World} {F F' : Fp} {g : Nat} {c : Array Value} (h : Upd F F' w w') (hg : F g ∨ w.heap.size ≤ g) : Upd F F' w (w'.setRow g c) :=
  ⟨h.os, h.tape, h.output, by rw [setRow_size]; exact h.size, fun k hk hn => by
    have : k ≠ g := fun e => by subst e; exact hg.elim hn (fun h => by omega)
    exact (setRow_other w' g k c this).trans (h.same k hk hn), h.fp⟩
/-- the store goes into a block of the list -/
theorem store_at {w : World} {l : List Asrt} {F : Fp} (hS : (Asrt.stars l).on w F) (i : Nat) {z : Nat} {old : Array Value} {t : TypeId} (hl : l[i]? = some (.blk z (.cells old t (0, 0))))
    (hgd : o.guard = none) (ty : TypeId) (x y : Operand) (ho : o.op = .store ty x y) (new : Array Value) (hx : a.eval x = .pointer (some ⟨z, 0, none⟩)) (hy : a.eval y = .agg new)
    (hi : (P.info? ty).map (·.size) = some new.size) (hold : old.size = new.size) (h1 : new.all (·.oneCell') = true)
    (h : ∀ w' F', (Asrt.stars (l.set i (.blk z (.cells new t (0, 0))))).on w' F' → Upd F F' w w' → (∀ j, w'.cell? ⟨z, j, none⟩ = new[j]?) → wpList P ops Q rest (a.put o.dst undef) w') : wpList P ops Q (o :: rest) a w := by
  obtain ⟨Fi, hb, hsub, hgo⟩ := Asrt.stars_upd l i _ hl hS
  have hb' : (Asrt.blk z (.cells new t (0, 0))).on (w.setRow z new) Fi := ⟨setRow_heap w z old new t (0, 0) hb.1, hb.2⟩
  obtain ⟨F', S', U'⟩ := hgo _ _ _ hb' (setRow_upd (Upd.refl Fi w) (.inl (by rw [hb.2])))
  exact wpList_store_row hgd ty x y ho z new hx hy t old hb.1 hi hold h1 (h _ F' S' U' (blk_facts hb'.1).1)
/-- the store goes into a block that is new -/
theorem store_new {w : World} {A : Asrt} {l : List Asrt} {F : Fp} (hS : (Asrt.stars (A :: l)).on w F) {old : Array Value} {t : TypeId}
    (hgd : o.guard = none) (ty : TypeId) (x y : Operand) (ho : o.op = .store ty x y) (new : Array Value) (hx : a.eval x = .pointer (some ⟨w.heap.size, 0, none⟩)) (hy : a.eval y = .agg new)
    (hi : (P.info? ty).map (·.size) = some new.size) (hold : old.size = new.size) (h1 : new.all (·.oneCell') = true)
    (h : ∀ w' F', (Asrt.stars (A :: .blk w.heap.size (.cells new t (0, 0)) :: l)).on w' F' → Upd F F' w w' → (∀ j, w'.cell? ⟨w.heap.size, j, none⟩ = new[j]?) → wpList P ops Q rest (a.put o.dst undef) w') :
    wpList P ops Q (o :: rest) a (w.alloc (.cells old t (0, 0))) := by
  obtain ⟨F1, S1, U1⟩ := Asrt.stars_box1 hS (.cells old t (0, 0))
  refine store_at S1 1 rfl hgd ty x y ho new hx hy hi hold h1 fun w' F' S' U' k => ?_
  exact h w' F' S' (U1.trans U') k
end
end Go.Sub
