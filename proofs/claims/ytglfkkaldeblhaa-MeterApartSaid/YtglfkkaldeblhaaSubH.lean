/- Part H: a region that draws its order, whose operations read and whose calls keep the world in a class. No program's text. -/
import Derived.Test.YtglfkkaldeblhaaSubE
import Derived.Deep.QuietTactic
import Derived.BigQuiet
namespace Go.Sub
/-- A world of a class. -/
structure In (I : World → Prop) where
  w : World
  is : I w
theorem wp_region_class {P : Program} {I : World → Prop} {id : Nat} {Q : Exit → Act → World → Prop} {a : Act} {w : World} {l : List Oper} (hm : P.follows .mixedOrders = true) (hB : Region.lexB .any l.toArray = true)
    (hC : I w.drew) (h : wpQuiet P l.toArray (fun w' => ∃ s : In I, w' = s.w) (fun a' => ∀ w', (∃ s : In I, w' = s.w) → Q .normal a' w') l a) : (Code.region id l.toArray true).wp P Q a w :=
  wp_region_quiet (C := fun w' => ∃ s : In I, w' = s.w) hm hB ⟨⟨_, hC⟩, rfl⟩ (by simpa using h)
theorem class_call {P : Program} {I : World → Prop} {f : FuncId} {args : Array Value} {v : Value} (h : ∀ w, I w → Calls P f args w (Ret v fun w' => I w')) (s : In I) :
    Calls P f args s.w fun e w'' => e = .returned v ∧ ∃ s' : In I, w'' = s'.w :=
  (h s.w s.is).mono fun _ w' ⟨he, hi⟩ => ⟨he, ⟨w', hi⟩, rfl⟩
/-- what is read in every world of the class 'nothing has turned but what is new' -/
theorem in_cell {w : World} {a : Addr} {v : Value} (h : w.cell? a = some v) (hl : a.block < w.heap.size) : ∀ s : In (Quiet w), s.w.cell? a = some v := fun s => (s.is.cell hl id).trans h
end Go.Sub
