/- Ports: each port's name may be a name. -/
import Derived.Test.YtpjfakmalhenjaaDoorPortsJ
import Derived.Test.YtpjfakmalhenjaaDoorSynC
set_option linter.unusedVariables false
namespace Go.Proofs.YtpjfakmalhenjaaDoor
open Go.RowKit Go.Sub Go.Shelf Go.Sort Go.ChangeMaps Go.Lib
theorem dec_port {a b : Nat} (ha : a < 10) (hb : b < 10) : decDigits (20000 + 10 * a + b) = [50, 48, 48, digB a, digB b] := by
  have h1 := decDigits_cut (20000 + 10 * a + b) (by omega) []
  have h2 := decDigits_cut (2000 + a) (by omega) []
  rw [show (20000 + 10 * a + b) / 10 = 2000 + a by omega, show (20000 + 10 * a + b) % 10 = b by omega, if_neg (by omega)] at h1
  rw [show (2000 + a) / 10 = 200 by omega, show (2000 + a) % 10 = a by omega, if_neg (by omega)] at h2
  rw [List.append_nil] at h1 h2
  rw [h1, h2, show decDigits 200 = [50, 48, 48] from by simp [decDigits]]
  rfl
theorem port_names : ∀ a b : Fin 10, nameB (tcp ++ [50, 48, 48, digB a.1, digB b.1]) = true := by decide
theorem name_port {p : Int} (h0 : 20000 ≤ p) (h1 : p ≤ 20063) : nameB (nameS p) = true := by
  obtain ⟨n, rfl⟩ : ∃ n : Nat, p = (n : Int) := ⟨p.toNat, by omega⟩
  unfold nameS
  rw [if_neg (by omega)]
  have e : n = 20000 + 10 * ((n - 20000) / 10) + (n - 20000) % 10 := by omega
  have : itoa (n : Int) = decDigits n := by simp [itoa]
  rw [this, e, dec_port (by omega) (by omega)]
  exact port_names ⟨(n - 20000) / 10, by omega⟩ ⟨(n - 20000) % 10, by omega⟩
theorem port_name {p : Int} (h0 : 20000 ≤ p) (h1 : p ≤ 20063) : portS (nameS p) = some p := portS_iff.2 ⟨h0, h1, rfl⟩
theorem name_none {p : Int} (h : p < 20000 ∨ 20063 < p) : nameS p = [] := by unfold nameS; rw [if_pos h]
theorem port_nil : portS [] = none := by
  rcases h : portS [] with _ | p
  · rfl
  · obtain ⟨h0, h1, h2⟩ := portS_iff.1 h
    unfold nameS at h2
    rw [if_neg (by omega)] at h2
    simp at h2
namespace portsBack
end portsBack
end Go.Proofs.YtpjfakmalhenjaaDoor
