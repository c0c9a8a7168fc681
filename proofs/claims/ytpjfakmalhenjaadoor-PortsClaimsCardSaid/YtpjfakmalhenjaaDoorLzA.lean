/- Leases, as they lie in memory. -/
import Derived.Test.YtpjfakmalhenjaaDoorRows
import Derived.Test.YtpjfakmalhenjaaDoorSubF
import Derived.Test.YtpjfakmalhenjaaDoorSubN
import Derived.Handy
import Derived.Lib.MinMax
import Derived.Laws.Rows
import Derived.Laws.Tables
import Derived.Laws.ResultCell
set_option linter.unusedVariables false
namespace Go.Proofs.YtpjfakmalhenjaaDoor
open Go.RowKit Go.Sub Go.ChangeMaps
structure Lz where
  name : ByteArray
  tenant : ByteArray
  conn : Int
  epoch : Int
  til : Int
  held : Bool
abbrev encL (x : Lz) : List Value := [.string x.name, .string x.tenant, .int .i64 x.conn, .int .i64 x.epoch, .int .i64 x.til, .bool x.held]
abbrev aggL (x : Lz) : Value := .agg #[.string x.name, .string x.tenant, .int .i64 x.conn, .int .i64 x.epoch, .int .i64 x.til, .bool x.held]
abbrev boxL (x : Lz) : Obj := .cells #[.string x.name, .string x.tenant, .int .i64 x.conn, .int .i64 x.epoch, .int .i64 x.til, .bool x.held] 34
abbrev blkL (x : Lz) : Obj := .cells #[.string x.name, .string x.tenant, .int .i64 x.conn, .int .i64 x.epoch, .int .i64 x.til, .bool x.held] 34 (0, 0)
abbrev zeroL : Lz := ⟨⟨#[]⟩, ⟨#[]⟩, 0, 0, 0, false⟩
theorem infoL : (Tryd.prog.info? 34).map (fun i => (i.zero, i.size, i.bytes)) = some (some (.agg #[.string ⟨#[]⟩, .string ⟨#[]⟩, .int .i64 0, .int .i64 0, .int .i64 0, .bool false]), 6, 64) := by kernel_rfl
theorem hone_L (x : Lz) : ∀ u ∈ encL x, u.oneCell' = true := by
  intro u hu
  simp only [encL, List.mem_cons, List.not_mem_nil, or_false] at hu
  rcases hu with rfl | rfl | rfl | rfl | rfl | rfl <;> rfl
theorem sizeL (x : Lz) : (Tryd.prog.info? 34).map (·.size) = some (#[Value.string x.name, .string x.tenant, .int .i64 x.conn, .int .i64 x.epoch, .int .i64 x.til, .bool x.held] : Array Value).size := by kernel_rfl
abbrev cellsL (x : Lz) : Array Value := #[.string x.name, .string x.tenant, .int .i64 x.conn, .int .i64 x.epoch, .int .i64 x.til, .bool x.held]
theorem oneL (x : Lz) : (cellsL x).all (·.oneCell') = true := by
  rw [Array.all_eq_true_iff_forall_mem]
  intro u hu
  exact hone_L x u (by simpa [encL] using hu)
/-- what a named result of a lease, beside another one, ends with -/
theorem struct_ret {fn : Func} {p u : Tmp} (h : fn.results = #[.cell p 34, .tmp u]) {tmps : Array Value} {w : World} {g : Nat} {x : Lz} {b : Value} (hp : tmps.getD p undef = .pointer (some ⟨g, 0, none⟩)) (hu : tmps.getD u undef = b) (hg : w.obj g = some (blkL x)) :
    (results fn tmps).run Tryd.prog w = .ok (.tuple #[aggL x, b]) w := by
  obtain ⟨hc, _, _⟩ := blk_facts hg
  have k0 := hc 0
  have k1 := hc 1
  have k2 := hc 2
  have k3 := hc 3
  have k4 := hc 4
  have k5 := hc 5
  rw [results_cell_tmp h, hp, hu]
  clear hg hc
  go_simp
/-- a whole lease is stored over one -/
theorem set_lease {w : World} {g : Nat} {x y : Lz} (h : w.obj g = some (blkL x)) : (w.setRow g (cellsL y)).obj g = some (blkL y) := setRow_heap w g (cellsL x) (cellsL y) 34 (0, 0) h
theorem set_upd {w w' : World} {F F' : Fp} {g : Nat} {y : Lz} (h : Upd F F' w w') (hg : F g ∨ w.heap.size ≤ g) : Upd F F' w (w'.setRow g (cellsL y)) :=
  ⟨h.os, h.tape, h.output, by rw [setRow_size]; exact h.size, fun k hk hn => by
    have : k ≠ g := fun e => by subst e; exact hg.elim hn (fun h => by omega)
    exact (setRow_other w' g k (cellsL y) this).trans (h.same k hk hn), h.fp⟩
end Go.Proofs.YtpjfakmalhenjaaDoor
