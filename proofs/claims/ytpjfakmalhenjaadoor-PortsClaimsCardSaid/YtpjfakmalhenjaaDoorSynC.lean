/- May a text be a name? In plain words. -/
import Derived.Test.YtpjfakmalhenjaaDoorSynA
set_option linter.unusedVariables false
namespace Go.Proofs.YtpjfakmalhenjaaDoor
open Go.RowKit Go.Sub Go.Shelf
/-- is that byte fine, there? -/
def okc (len k : Nat) (c : UInt8) : Bool := (c == 45 && (decide (0 < k) && decide (k + 1 < len))) || (decide (97 ≤ c.toNat) && decide (c.toNat ≤ 122)) || (decide (48 ≤ c.toNat) && decide (c.toNat ≤ 57))
theorem letters_iff (c : UInt8) : letters.contains c = true ↔ c = 45 ∨ (97 ≤ c.toNat ∧ c.toNat ≤ 122) ∨ (48 ≤ c.toNat ∧ c.toNat ≤ 57) := by
  have h : ∀ n, n < 256 → (letters.contains (UInt8.ofNat n) = true ↔ UInt8.ofNat n = 45 ∨ (97 ≤ n ∧ n ≤ 122) ∨ (48 ≤ n ∧ n ≤ 57)) := by decide +kernel
  have h1 := h c.toNat c.toNat_lt
  rwa [UInt8.ofNat_toNat] at h1
theorem nameB_iff (s : List UInt8) : nameB s = true ↔ (1 ≤ s.length ∧ s.length ≤ 20) ∧ ∀ (k : Nat) (hk : k < s.length), okc s.length k s[k] = true := by
  unfold nameB
  simp only [Bool.and_eq_true, decide_eq_true_eq, Bool.not_eq_true', beq_eq_false_iff_ne, List.all_eq_true]
  constructor
  · rintro ⟨h1, h2, h3, h4, h5⟩
    refine ⟨⟨h1, h2⟩, fun k hk => ?_⟩
    have hm := (letters_iff _).1 (h3 s[k] (List.getElem_mem hk))
    unfold okc
    simp only [Bool.or_eq_true, Bool.and_eq_true, decide_eq_true_eq, beq_iff_eq]
    rcases hm with h | h | h
    · refine .inl (.inl ⟨h, ?_, ?_⟩)
      · rcases Nat.eq_zero_or_pos k with e | e
        · subst e
          exact absurd (by rw [List.getD_eq_getElem?_getD, List.getElem?_eq_getElem hk]; simpa using h) h4
        · exact e
      · rcases Nat.lt_or_ge (k + 1) s.length with e | e
        · exact e
        · have ek : k = s.length - 1 := by omega
          subst ek
          exact absurd (by rw [List.getD_eq_getElem?_getD, List.getElem?_eq_getElem hk]; simpa using h) h5
    · exact .inl (.inr h)
    · exact .inr h
  · rintro ⟨⟨h1, h2⟩, h⟩
    have H : ∀ (k : Nat) (hk : k < s.length), (s[k] = 45 ∧ 0 < k ∧ k + 1 < s.length) ∨ (97 ≤ s[k].toNat ∧ s[k].toNat ≤ 122) ∨ (48 ≤ s[k].toNat ∧ s[k].toNat ≤ 57) := fun k hk => by
      have := h k hk
      unfold okc at this
      simp only [Bool.or_eq_true, Bool.and_eq_true, decide_eq_true_eq, beq_iff_eq] at this
      rcases this with (h | h) | h
      · exact .inl h
      · exact .inr (.inl h)
      · exact .inr (.inr h)
    have h45 : (45 : UInt8).toNat = 45 := rfl
    refine ⟨h1, h2, fun c hc => ?_, ?_, ?_⟩
    · obtain ⟨k, hk, rfl⟩ := List.mem_iff_getElem.1 hc
      rw [letters_iff]
      exact (H k hk).imp (fun h => h.1) id
    · rw [List.getD_eq_getElem?_getD, List.getElem?_eq_getElem (show 0 < s.length by omega)]
      intro e
      have e : s[0] = 45 := by simpa using e
      have := H 0 (by omega)
      rw [e, h45] at this
      omega
    · rw [List.getD_eq_getElem?_getD, List.getElem?_eq_getElem (show s.length - 1 < s.length by omega)]
      intro e
      have e : s[s.length - 1] = 45 := by simpa using e
      have := H (s.length - 1) (by omega)
      rw [e, h45] at this
      omega
end Go.Proofs.YtpjfakmalhenjaaDoor
