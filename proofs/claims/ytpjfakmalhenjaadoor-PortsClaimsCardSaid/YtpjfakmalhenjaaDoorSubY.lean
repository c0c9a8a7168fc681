/- Part Y: a whole struct stored into a block of one's own, in a region that draws. No program's text. -/
import Derived.Test.YtpjfakmalhenjaaDoorSubP
set_option linter.unusedVariables false
namespace Go.Sub
open Go.ChangeMaps (setBlock)
section
variable {P : Program} {ops : Array Oper} {o : Oper} {a : Act} {Q : Exit → Act → World → Prop}
/-- the operation is a store: a cheap test ahead of a law that is dear to try -/
theorem is_step_store {K : Act → World → Prop} {E : Prop} {ty : TypeId} {x y : Operand} {d : Option Tmp} {t : TypeId} {pos : String} {af : Array Edge} {gd : Option (Tmp × Bool)} {w : World}
    (h : if Region.wanted { dst := d, op := .store ty x y, type := t, pos := pos, after := af, guard := gd } (yielded ops a.tmps) = true then Oper.wp P { dst := d, op := .store ty x y, type := t, pos := pos, after := af, guard := gd } a w K Q else E) :
    if Region.wanted { dst := d, op := .store ty x y, type := t, pos := pos, after := af, guard := gd } (yielded ops a.tmps) = true then Oper.wp P { dst := d, op := .store ty x y, type := t, pos := pos, after := af, guard := gd } a w K Q else E := h
theorem step_store_at {K : Act → World → Prop} {E : Prop} {w : World} {l : List Asrt} {F : Fp} (hS : (Asrt.stars l).on w F) (i : Nat) {z : Nat} {old : Array Value} {t : TypeId} (hl : l[i]? = some (.blk z (.cells old t (0, 0))))
    (hw : Region.wanted o (yielded ops a.tmps) = true) (ty : TypeId) (x y : Operand) (ho : o.op = .store ty x y) (new : Array Value) (hx : a.eval x = .pointer (some ⟨z, 0, none⟩)) (hy : a.eval y = .agg new)
    (hi : (P.info? ty).map (·.size) = some new.size) (hold : old.size = new.size) (h1 : new.all (·.oneCell') = true)
    (h : ∀ w' F', (Asrt.stars (l.set i (.blk z (.cells new t (0, 0))))).on w' F' → Upd F F' w w' → (∀ j, w'.cell? ⟨z, j, none⟩ = new[j]?) → K (a.put o.dst undef) w') :
    if Region.wanted o (yielded ops a.tmps) = true then Oper.wp P o a w K Q else E := by
  rw [if_pos hw]
  obtain ⟨Fi, hb, hsub, hgo⟩ := Asrt.stars_upd l i _ hl hS
  have hb' : (Asrt.blk z (.cells new t (0, 0))).on (w.setRow z new) Fi := ⟨setRow_heap w z old new t (0, 0) hb.1, hb.2⟩
  obtain ⟨F', S', U'⟩ := hgo _ _ _ hb' (setRow_upd (Upd.refl Fi w) (.inl (by rw [hb.2])))
  exact wp_store_row ty x y ho z new hx hy t old hb.1 hi hold h1 (h _ F' S' U' (blk_facts hb'.1).1)
end
end Go.Sub
