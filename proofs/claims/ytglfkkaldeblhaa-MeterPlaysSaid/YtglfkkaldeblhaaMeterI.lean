/- The meter: what a call turns of a tenant's count. Plain. -/
import Derived.Test.YtglfkkaldeblhaaMeterG
namespace Go.Proofs.Ytglfkkaldeblhaa
open Go.RowKit Go.Sub
theorem find_cupd {M : List Cnt} {t : ByteArray} {f : Cnt → Cnt} (hf : ∀ c, (f c).t = c.t) (t' : ByteArray) :
    (cupd M t f).find? (fun c => c.t = t') = if t' = t then (M.find? fun c => c.t = t).map f else M.find? fun c => c.t = t' := by
  induction M with
  | nil => simp [cupd]
  | cons c M ih =>
    simp only [cupd]
    by_cases e : c.t = t
    · rw [if_pos e]
      by_cases e' : t' = t
      · subst e'; simp [hf, e]
      · have : ¬ c.t = t' := fun h => e' (h.symm.trans e)
        simp only [List.find?_cons, hf, this, e', decide_false, if_false]
    · rw [if_neg e]
      by_cases e' : c.t = t'
      · have : ¬ t' = t := fun h => e (e'.trans h)
        simp [e', this]
      · simp only [List.find?_cons, e, e', decide_false, ih]
theorem find_app {M : List Cnt} {c : Cnt} (t : ByteArray) (h : (M.find? fun x => x.t = c.t).isSome = false) : (M ++ [c]).find? (fun x => x.t = t) = if t = c.t then some c else M.find? fun x => x.t = t := by
  rw [List.find?_append]
  by_cases e : t = c.t
  · subst e
    rw [Option.isSome_eq_false_iff, Option.isNone_iff_eq_none] at h
    simp [h]
  · have : ¬ c.t = t := fun q => e q.symm
    simp [e, this]
structure CStep (M : List Cnt) (t : ByteArray) (j : Nat) (n : Int) (S : List Cnt × Int) : Prop where
  bad : S.2 ≠ 0 → S.1 = M
  why : S.2 ≠ 0 → n < 0 ∨ M.length = 64
  pos : S.2 = 0 → 0 ≤ n
  here : S.2 = 0 → cof S.1 t = bump j n (cof M t)
  other : ∀ t', t' ≠ t → (S.1.find? fun c => c.t = t') = M.find? fun c => c.t = t'
  room : M.length < 64 → S.2 = if n < 0 then 1 else 0
  found : M.length < 64 → (S.1.find? fun c => c.t = t) = if n < 0 then M.find? fun c => c.t = t else some (bump j n (cof M t))
  len : S.1.length ≤ M.length + 1
theorem cstep_is {M : List Cnt} (t : ByteArray) (j : Nat) (n : Int) : CStep M t j n (cstep M t j n) := by
  unfold cstep
  by_cases hn : n < 0
  · rw [if_pos hn]
    exact ⟨fun _ => rfl, fun _ => .inl hn, fun h => by simp at h, fun h => by simp at h, fun _ _ => rfl, fun _ => by rw [if_pos hn], fun _ => by rw [if_pos hn], by simp⟩
  · rw [if_neg hn]
    by_cases hf : (M.find? fun c => c.t = t).isSome = true
    · rw [if_pos hf]
      obtain ⟨c, hc⟩ := Option.isSome_iff_exists.1 hf
      have hF := find_cupd (M := M) (t := t) (f := bump j n) (fun c => bump_t j n c)
      refine ⟨fun h => absurd rfl h, fun h => absurd rfl h, fun _ => by omega, fun _ => ?_, fun t' h => ?_, fun _ => by rw [if_neg hn], fun _ => ?_, by rw [cupd_len]; omega⟩
      · rw [cof, cof, hF, if_pos rfl, hc]; rfl
      · rw [hF, if_neg h]
      · rw [hF, if_pos rfl, if_neg hn, cof, hc]; rfl
    · rw [if_neg hf]
      have hf' := Bool.eq_false_iff.2 hf
      by_cases h64 : M.length = 64
      · rw [if_pos h64]
        exact ⟨fun _ => rfl, fun _ => .inr h64, fun h => by simp at h, fun h => by simp at h, fun _ _ => rfl, fun h => by omega, fun h => by omega, by simp⟩
      · rw [if_neg h64]
        have hb : (bump j n ⟨t, 0, 0, 0⟩).t = t := bump_t ..
        have hF := fun t' => find_app (M := M) (c := bump j n ⟨t, 0, 0, 0⟩) t' (by rw [hb]; exact hf')
        have hnone : (M.find? fun c => c.t = t) = none := by rwa [Option.isSome_eq_false_iff, Option.isNone_iff_eq_none] at hf'
        simp only [hb] at hF
        refine ⟨fun h => absurd rfl h, fun h => absurd rfl h, fun _ => by omega, fun _ => ?_, fun t' h => ?_, fun _ => by rw [if_neg hn], fun _ => ?_, by simp⟩
        · rw [cof, cof, hF, if_pos rfl, hnone]; rfl
        · rw [hF, if_neg h]
        · rw [hF, if_pos rfl, if_neg hn, cof, hnone]; rfl
theorem cof_t (M : List Cnt) (t : ByteArray) : (cof M t).t = t := by
  unfold cof
  cases h : M.find? fun c => c.t = t with
  | none => rfl
  | some c => have := List.find?_some h; simpa using this
theorem cof_ok {M : List Cnt} (h : ∀ c ∈ M, Ok c) (t : ByteArray) : Ok (cof M t) := by
  unfold cof
  cases e : M.find? fun c => c.t = t with
  | none => exact zero_ok t
  | some c => exact h c (List.mem_of_find?_eq_some e)
theorem cof_congr {M M' : List Cnt} {t : ByteArray} (h : (M.find? fun c => c.t = t) = M'.find? fun c => c.t = t) : cof M t = cof M' t := by rw [cof, cof, h]
end Go.Proofs.Ytglfkkaldeblhaa
