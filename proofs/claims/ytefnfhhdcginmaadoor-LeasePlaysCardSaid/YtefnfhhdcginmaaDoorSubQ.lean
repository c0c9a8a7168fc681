/- Part Q: one cell stored into a block of a list; calls of the list's first part. No program's text. -/
import Derived.Test.YtefnfhhdcginmaaDoorSubP
import Derived.Test.YtefnfhhdcginmaaDoorSubK
import Derived.Laws.IdiomCopy
set_option linter.unusedVariables false
namespace Go.Sub
open Go.ChangeMaps (setBlock)
section
variable {P : Program} {ops : Array Oper} {rest : List Oper} {o : Oper} {a : Act} {Q : Exit → Act → World → Prop}
/-- the operation is a store: a cheap test ahead of a law that is dear to try -/
theorem is_store {ty : TypeId} {x y : Operand} {d : Option Tmp} {t : TypeId} {pos : String} {af : Array Edge} {w : World}
    (h : wpList P ops Q ({ dst := d, op := .store ty x y, type := t, pos := pos, after := af, guard := none } :: rest) a w) :
    wpList P ops Q ({ dst := d, op := .store ty x y, type := t, pos := pos, after := af, guard := none } :: rest) a w := h
theorem run_store_cell {w : World} {b j : Nat} {ty : TypeId} {u x : Value} (hc : w.cell? ⟨b, j, none⟩ = some x) (hf : w.frozen? ⟨b, j, none⟩ = false) (hi : (P.info? ty).map (·.size) = some 1) (h1 : u.oneCell' = true) :
    (storeVar ty ⟨b, j, none⟩ u).run P w = .ok () (w.setCell ⟨b, j, none⟩ u) := by
  have := run_storeCells_cells (P := P) b j [u] 0 w (fun k hk => by simp at hk; subst hk; simp [hc]) (fun k hk => by simp at hk; subst hk; simpa using hf) (fun v hv => by simp at hv; subst hv; exact h1)
  have hv : u.cells = #[u] := by cases u <;> first | rfl | cases h1
  cases hq : P.info? ty with
  | none => simp [hq] at hi
  | some i =>
    have hs : i.size = 1 := by simpa [hq] using hi
    simp only [Nat.add_zero, World.setCells] at this
    simp [storeVar, sizeOf, typeInfo, hq, hv, hs, this]
/-- the store goes into one cell of a block of the list -/
theorem store_cell {w : World} {l : List Asrt} {F : Fp} (hS : (Asrt.stars l).on w F) (i : Nat) {z : Nat} {old : Array Value} {t : TypeId} (hl : l[i]? = some (.blk z (.cells old t (0, 0))))
    (hgd : o.guard = none) (ty : TypeId) (x y : Operand) (ho : o.op = .store ty x y) (j : Nat) (u : Value) (hx : a.eval x = .pointer (some ⟨z, j, none⟩)) (hy : a.eval y = u)
    (hj : j < old.size) (hi : (P.info? ty).map (·.size) = some 1) (h1 : u.oneCell' = true) (new : Array Value) (hnew : old.setIfInBounds j u = new)
    (h : ∀ w' F', (Asrt.stars (l.set i (.blk z (.cells new t (0, 0))))).on w' F' → Upd F F' w w' → (∀ k, w'.cell? ⟨z, k, none⟩ = new[k]?) → wpList P ops Q rest (a.put o.dst undef) w') : wpList P ops Q (o :: rest) a w := by
  subst hnew
  obtain ⟨Fi, hb, hsub, hgo⟩ := Asrt.stars_upd l i _ hl hS
  obtain ⟨hc, hf, _⟩ := blk_facts hb.1
  have hb' : (Asrt.blk z (.cells (old.setIfInBounds j u) t (0, 0))).on (w.setCell ⟨z, j, none⟩ u) Fi := ⟨obj_setCell_at hb.1 _ _, hb.2⟩
  obtain ⟨F', S', U'⟩ := hgo _ _ _ hb' ((Upd.refl Fi w).setCell (a := ⟨z, j, none⟩) (.inl (by rw [hb.2])) u)
  refine wpList_plain hgd fun _ hK => ?_
  unfold Oper.wp execOp
  simp only [ho, hx, hy, Instr.storeAt, Instr.sureAddr, Sem.run_bind, Sem.run_pure, Result.andThen_ok, run_store_cell ((hc j).trans (Array.getElem?_eq_getElem hj)) (hf j) hi h1]
  exact hK _ _ (h _ F' S' U' (blk_facts hb'.1).1)
end
theorem on_first_same {P : Program} {f : Nat} {args : Array Value} {v : Value} {A : Asrt} {l : List Asrt} {w : World} {F : Fp} (hS : (Asrt.stars (A :: l)).on w F)
    (C : ∀ Fi, A.on w Fi → Calls P f args w (Ret v fun w' => Quiet w w')) :
    Calls P f args w (Ret v fun w' => ∃ F', (Asrt.stars (A :: l)).on w' F' ∧ Upd F F' w w') := by
  obtain ⟨Fi, m, hs, go⟩ := Asrt.stars_head hS
  refine (C Fi m).mono ?_
  rintro e w' ⟨rfl, hq⟩
  exact ⟨rfl, F, (Asrt.stars (A :: l)).frame hS hq (fun _ _ h => h), (Upd.refl F w).thenQ hq⟩
theorem first_end {A : Asrt} {l : List Asrt} {w w0 : World} {F F' : Fp} (hS : (Asrt.stars (A :: l)).on w F') (u : Upd F F' w0 w) : ∃ F'', A.on w F'' ∧ Upd F F'' w0 w := by
  obtain ⟨F1, F2, h1, h2, _, rfl⟩ := hS
  exact ⟨F1, h1, u.re fun k hk => u.fp k (.inl hk)⟩
end Go.Sub
