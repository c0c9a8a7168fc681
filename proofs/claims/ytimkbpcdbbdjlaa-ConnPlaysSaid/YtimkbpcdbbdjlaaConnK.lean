/- The table of connections: All; what stays true of a table. -/
import Derived.Test.YtimkbpcdbbdjlaaConnJ
namespace Go.Proofs.Ytimkbpcdbbdjlaa
open Go.RowKit Go.Sub Go.ChangeMaps
set_option maxHeartbeats 1000000 in
theorem all_c {b : Nat} {last : Int} {M : List (Int × Con)} {w : World} {F : Fp} (hM : (tabT b last M).on w F) (hnd : (M.map (·.1)).Nodup) (hs : ∀ p ∈ M, (Lit.int .i64 p.1).wf = true) (hl : M.length ≤ 1000000) :
    Calls Try.prog 21 #[.pointer (some ⟨b, 0, none⟩)] w fun e w' => ∃ v, Ret v (fun w' => ∃ F', (row 3 1 encIL v (keysOf (M.map (·.1)))).on w' F' ∧ Upd none' F' w w') e w' := by
  obtain ⟨⟨mb, L⟩, hLM, hS⟩ := hM
  simp only at hLM hS
  obtain ⟨hc, hf, hlt⟩ := Asrt.blk_of hS 0 rfl
  have hc0 : w.cell? ⟨b, 0, none⟩ = some (.map (some mb)) := hc 0
  obtain ⟨_, ⟨o, ho, hm, _⟩, _⟩ := Asrt.stars_get hS 1 rfl
  have hk : (L.map CE.key).map (·.1) = M.map (·.1) := by rw [← hLM]; simp [Function.comp_def]
  have SC := sorted_c ho (by rw [hk]; exact hnd) (fun p hp => by
    obtain ⟨x, hx, rfl⟩ := List.mem_map.1 hp
    exact hs (x.id, x.c) (by rw [← hLM]; exact List.mem_map_of_mem (f := CE.val) hx)) (by rw [← hLM] at hl; simpa using hl) hm
  rw [hk] at SC
  have SC := Keep.mk SC
  clear hc hk hS ho hm
  go_enter Try.func21, Try.ntmps21
  go_wp2_with fail
  refine (keys_c mb w).mono ?_
  rintro e w1 ⟨rfl, rfl⟩
  go_wp2_with fail
  refine SC.out.mono ?_
  rintro e w2 ⟨v, rfl, h⟩
  go_wp2_with fail
  go_returns
  exact ⟨v, rfl, h⟩
end Go.Proofs.Ytimkbpcdbbdjlaa
