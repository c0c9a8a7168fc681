/- The book of leases: Leave. -/
import Derived.Test.YtpjfakmalhenjaaDoorLpH
set_option linter.unusedVariables false
namespace Go.Proofs.YtpjfakmalhenjaaDoor
open Go.RowKit Go.Sub Go.ChangeMaps
theorem book_cells {b : Nat} {g m e : Int} {M : LT} {w : World} {F : Fp} (hM : (bookT b g m e M).on w F) : w.cell? ⟨b, 0, none⟩ = some (.int .i64 g) ∧ w.cell? ⟨b, 1, none⟩ = some (.int .i64 m) ∧ b < w.heap.size ∧ F b := by
  obtain ⟨mb, h0, h1, _, _, hb, _, _, hF, _⟩ := book_open hM ⟨#[]⟩
  exact ⟨h0, h1, hb, hF⟩
theorem old_cell {A : Asrt} {W w w' : World} {F Fk : Fp} (hA : A.on W F) {a : Addr} {v : Value} (h : w.cell? a = some v) (hw : W.heap.size ≤ a.block) (hl : a.block < w.heap.size) (hu : Upd F Fk w w') : w'.cell? a = some v :=
  (hu.cell hl fun hF => absurd (A.lt hA _ hF) (by omega)).trans h
/-- Leave, on what the book has -/
def leaveS (g : Int) (M : LT) (conn now : Int) : LT × List Lz := if clockB now = true then (foldL (soLeave conn now) (fun x => keptL x (now + g)) (keysOf (M.map (·.1))) M, outL (soLeave conn now) M (keysOf (M.map (·.1)))) else (M, [])
end Go.Proofs.YtpjfakmalhenjaaDoor
