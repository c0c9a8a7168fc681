/- Part H: a region that draws its order, whose operations read and whose calls keep the world in a class. No program's text. -/
import Derived.Test.YtpjfakmalhenjaaDoorSubE
import Derived.Deep.QuietTactic
import Derived.BigQuiet
namespace Go.Sub
/-- A world of a class. -/
structure In (I : World → Prop) where
  w : World
  is : I w
theorem wp_region_class {P : Program} {I : World → Prop} {id : Nat} {Q : Exit → Act → World → Prop} {a : Act} {w : World} {l : List Oper} (hm : P.follows .mixedOrders = true) (hB : Region.lexB .any l.toArray = true)
    (hC : I w.drew) (h : wpQuiet P l.toArray (fun w' => ∃ s : In I, w' = s.w) (fun a' => ∀ w', (∃ s : In I, w' = s.w) → Q .normal a' w') l a) : (Code.region id l.toArray true).wp P Q a w :=
  wp_region_quiet (C := fun w' => ∃ s : In I, w' = s.w) hm hB ⟨⟨_, hC⟩, rfl⟩ (by simpa using h)
theorem class_call {P : Program} {I : World → Prop} {f : FuncId} {args : Array Value} {v : Value} (h : ∀ w, I w → Calls P f args w (Ret v fun w' => I w')) (s : In I) :
    Calls P f args s.w fun e w'' => e = .returned v ∧ ∃ s' : In I, w'' = s'.w :=
  (h s.w s.is).mono fun _ w' ⟨he, hi⟩ => ⟨he, ⟨w', hi⟩, rfl⟩
/-- what is read in every world of the class 'nothing has turned but what is new' -/
theorem in_cell {w : World} {a : Addr} {v : Value} (h : w.cell? a = some v) (hl : a.block < w.heap.size) : ∀ s : In (Quiet w), s.w.cell? a = some v := fun s => (s.is.cell hl id).trans h
theorem new_blk {l : List Asrt} {w : World} {F : Fp} (h : (Asrt.stars l).on w F) (o : Obj) : ∃ F', (Asrt.stars (.blk w.heap.size o :: l)).on (w.alloc o) F' ∧ Upd F F' w (w.alloc o) :=
  Asrt.stars_new h (A := .blk w.heap.size o) (Fn := fun k => k = w.heap.size) ⟨obj_alloc_at rfl, rfl⟩ (((Upd.refl none' w).alloc _).re fun k hk => .inr (by rw [hk]; exact Nat.le_refl _))
theorem size_alloc' (w : World) (o : Obj) : (w.alloc o).heap.size = w.heap.size + 1 := Array.size_push ..
theorem blk_set {b : Nat} {c : Array Value} {t : TypeId} {w : World} {F : Fp} (h : (Asrt.blk b (.cells c t (0, 0))).on w F) (i : Nat) (v : Value) :
    (Asrt.blk b (.cells (c.setIfInBounds i v) t (0, 0))).on (w.setCell ⟨b, i, none⟩ v) F ∧ Upd F F w (w.setCell ⟨b, i, none⟩ v) :=
  ⟨⟨obj_setCell_at h.1 _ _, h.2⟩, (Upd.refl F w).setCell (a := ⟨b, i, none⟩) (.inl (by rw [h.2])) v⟩
theorem Asrt.blk_of {l : List Asrt} {w : World} {F : Fp} (hS : (Asrt.stars l).on w F) (i : Nat) {b : Nat} {c : Array Value} {t : TypeId} (h : l[i]? = some (.blk b (.cells c t (0, 0)))) :
    (∀ j, w.cell? ⟨b, j, none⟩ = c[j]?) ∧ (∀ j, w.frozen? ⟨b, j, none⟩ = false) ∧ b < w.heap.size := by
  obtain ⟨_, h1, _⟩ := Asrt.stars_get hS i h
  exact blk_facts h1.1
end Go.Sub
