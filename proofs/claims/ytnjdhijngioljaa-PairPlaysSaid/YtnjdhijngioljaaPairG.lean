/- The operations that a statement on pairs is given. -/
import Derived.Test.YtnjdhijngioljaaSubF
import Derived.Test.YtnjdhijngioljaaRows
namespace Go.Proofs.Ytnjdhijngioljaa
open Go.ChangeShapes Go.WideShapes Go.ChangeAt Go.RowKit Go.Sub
abbrev encOp (o : Int × Int × Int) : List Value := [.int .i64 o.1, .int .i64 o.2.1, .int .i64 o.2.2]
theorem decOp {H : Type} {enc : TypeId × Value → H} {w : World} {base : Nat} {spare : Nat → Bool} {held : Bool} : ∀ n cs y, DataW.trod enc Try.prog w base spare held n 29 cs = some y → ∃ a : Int × Int × Int, cs = encOp a ∧ True := by
  intro n cs y h
  obtain ⟨hl, hf⟩ := field_cell Try.underlying29 h
  have hl' : cs.length = 3 := by rw [hl]; kernel_rfl
  obtain ⟨m0, v0, y0, c0, t0⟩ := hf 0 _ rfl rfl (by kernel_rfl) (by omega)
  obtain ⟨m1, v1, y1, c1, t1⟩ := hf 1 _ rfl rfl (by kernel_rfl) (by omega)
  obtain ⟨m2, v2, y2, c2, t2⟩ := hf 2 _ rfl rfl (by kernel_rfl) (by omega)
  obtain ⟨n0, e0, _⟩ := DataW.trod_int Try.underlying3 t0
  obtain ⟨n1, e1, _⟩ := DataW.trod_int Try.underlying3 t1
  obtain ⟨n2, e2, _⟩ := DataW.trod_int Try.underlying3 t2
  simp only [List.cons.injEq, and_true] at e0 e1 e2
  subst e0 e1 e2
  refine ⟨(n0, n1, n2), ?_, trivial⟩
  match cs, hl' with
  | [a, b, c], _ => simp at c0 c1 c2; simp [c0, c1, c2]
end Go.Proofs.Ytnjdhijngioljaa
