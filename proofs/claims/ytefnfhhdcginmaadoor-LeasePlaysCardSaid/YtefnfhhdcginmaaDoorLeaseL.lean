/- The book of leases: Renew. -/
import Derived.Test.YtefnfhhdcginmaaDoorLeaseK
set_option linter.unusedVariables false
namespace Go.Proofs.YtefnfhhdcginmaaDoor
open Go.RowKit Go.Sub Go.ChangeMaps
/-- held on -/
abbrev renL (x : Lz) (til : Int) : Lz := { x with til := til }
set_option maxHeartbeats 2000000 in
set_option maxRecDepth 100000 in
theorem renew1_c {cb bb bn bt bo b : Nat} {x z0 : Lz} {w : World} {Fi : Fp} (h : (Asrt.blk cb (blkL x)).on w Fi) {m now ttl : Int} (kn : w.cell? ⟨bn, 0, none⟩ = some (.int .i64 now)) (kt : w.cell? ⟨bt, 0, none⟩ = some (.int .i64 ttl)) (kb : w.cell? ⟨bb, 0, none⟩ = some (.pointer (some ⟨b, 0, none⟩))) (kg : w.cell? ⟨b, 1, none⟩ = some (.int .i64 m))
    (hz : w.obj bo = some (blkL z0)) (hbo : bo ≠ cb) (m0 : 1 ≤ m) (m1 : m ≤ 1073741824) (t0 : 1 ≤ ttl) (t1 : ttl ≤ 1073741824) (n0 : 0 ≤ now) (n1 : now ≤ 1099511627776) :
    Calls Tryd.prog 42 #[.pointer (some ⟨cb, 0, none⟩), .pointer (some ⟨bn, 0, none⟩), .pointer (some ⟨bt, 0, none⟩), .pointer (some ⟨bb, 0, none⟩), .pointer (some ⟨bo, 0, none⟩)] w (Ret (.tuple #[]) fun w' => ∃ w1, (Asrt.blk cb (blkL (renL x (now + min ttl m)))).on w1 Fi ∧ Upd Fi Fi w w1 ∧ w1.obj bo = some (blkL z0) ∧ w' = w1.setRow bo (cellsL (renL x (now + min ttl m)))) := by
  obtain ⟨B0, v0⟩ := blk_set h 4 (.int .i64 (now + min ttl m))
  have B1 := (Asrt.blk cb _).frame B0 (Upd.drew (Upd.refl none' _)) fun _ _ h => h
  have v1 := Upd.drew v0
  have es : IntKind.i64.wrap (now + min ttl m) = now + min ttl m := by rw [IntKind.wrap_i64]; omega
  obtain ⟨hc0, hf0, hl⟩ := blk_facts h.1
  have hf4 := hf0 4
  have k4 := hc0 4
  obtain ⟨hc, hf, _⟩ := blk_facts B0.1
  have k0 := hc 0
  have k1 := hc 1
  have k2 := hc 2
  have k3 := hc 3
  have k5 := hc 5
  have k6 := hc 4
  have hzn : (w.setCell ⟨cb, 4, none⟩ (.int .i64 (now + min ttl m))).drew.obj bo = some (blkL z0) := by
    show (w.setCell ⟨cb, 4, none⟩ (.int .i64 (now + min ttl m))).obj bo = _
    rw [obj_setCell_ne hbo]; exact hz
  have HB := Keep.mk (And.intro (show (Asrt.blk cb (blkL (renL x (now + min ttl m)))).on _ Fi from B1) (And.intro v1 hzn))
  clear B1 v1 h hc hf hc0 hf0 hz B0 v0
  obtain ⟨x0, x1, x2, x3, x4, x5⟩ := x
  go_enter Tryd.func42, Tryd.ntmps42
  go_wp2_with fail
  go_still_tail 11, (by kernel_rfl)
  go_wp2_with (refine wpList_store_row rfl 26 _ _ rfl bo (cellsL (renL ⟨x0, x1, x2, x3, x4, x5⟩ (now + min ttl m))) rfl rfl 26 _ hzn (sizeL _) rfl (oneL _) ?_)
  trace_state
  go_returns
  exact ⟨rfl, _, HB.out.1, HB.out.2.1, HB.out.2.2, rfl⟩
end Go.Proofs.YtefnfhhdcginmaaDoor
