/- The ring of bytes: New, Take, Look. -/
import Derived.Test.YtimkbpcdbbdjlaaRingB
namespace Go.Proofs.Ytimkbpcdbbdjlaa
open Go.RowKit Go.Sub Go.ChangeMaps
set_option maxHeartbeats 1000000 in
theorem look_c {r N : Nat} {B : List UInt8} {w : World} {F : Fp} (hR : (ringT r N B).on w F) :
    Calls Try.prog 44 #[.pointer (some ⟨r, 0, none⟩)] w fun e w' => ∃ v, Ret v (fun w' => ∃ Fv, (bytesT v B).on w' Fv ∧ Upd none' Fv w w') e w' := by
  have FC := first_c hR B.length (Nat.le_refl _)
  rw [List.take_length] at FC
  obtain ⟨⟨row, at', R⟩, ⟨hok, hN⟩, hS⟩ := hR
  obtain ⟨hc, hfz, hlr⟩ := Asrt.blk_of hS 0 rfl
  have hc2 := hc 2
  simp only [List.getElem?_toArray, List.getElem?_cons_zero, List.getElem?_cons_succ] at hc2
  have FC := Keep.mk FC
  clear hc
  go_enter Try.func44, Try.ntmps44
  go_wp2_with fail
  refine FC.out.mono ?_
  rintro e w1 ⟨v, rfl, h⟩
  go_wp2_with fail
  go_returns
  exact ⟨v, rfl, h⟩
set_option maxHeartbeats 1000000 in
set_option maxRecDepth 100000 in
theorem ringnew_c (w : World) (N : Nat) (h0 : 0 < N) (hN : N ≤ 65536) :
    Calls Try.prog 39 #[.int .i64 N] w fun e w' => ∃ r, Ret (.pointer (some ⟨r, 0, none⟩)) (fun w' => ∃ F, (ringT r N []).on w' F ∧ Upd none' F w w') e w' := by
  have hmk := run_make_bytes (P := Try.prog) Try.underlying22 infoB N (by omega)
  have e1 : min (max (N : Int) 0) 65536 = (N : Int) := by omega
  have e2 : min (N : Int) 65536 = (N : Int) := by omega
  have e3 : max (N : Int) 0 = (N : Int) := by omega
  go_enter Try.func39, Try.ntmps39
  go_wp2_with fail
  go_returns
  obtain ⟨F1, h1, u1⟩ := new_blk (l := []) (w := w) (F := none') rfl (.cells ((zeros N).map bv).toArray 5 (0, 0))
  obtain ⟨F2, h2, u2⟩ := new_blk h1 (.cells #[.slice (some ⟨w.heap.size, 0, none⟩) N N, .int .i64 0, .int .i64 0] 97 (0, 0))
  rw [size_alloc'] at h2
  exact ⟨_, rfl, F2, ⟨(w.heap.size, 0, zeros N), ⟨ring_new h0, hN⟩, h2⟩, u1.trans u2⟩
end Go.Proofs.Ytimkbpcdbbdjlaa
