/- The meter: what stays true of it. Plain. -/
import Derived.Test.YtglfkkaldeblhaaMeterA
namespace Go.Proofs.Ytglfkkaldeblhaa
open Go.RowKit Go.Sub
structure MInv (M : List Cnt) : Prop where
  ok : ∀ c ∈ M, Ok c
  once : (M.map (·.t)).Nodup
  size : ∀ c ∈ M, c.t.size ≤ 1000
  few : M.length ≤ 64
theorem minv_nil : MInv [] := ⟨by simp, by simp, by simp, by simp⟩
theorem bump_t (j : Nat) (n : Int) (c : Cnt) : (bump j n c).t = c.t := by unfold bump; split <;> rfl
theorem cap_in {a n : Int} (h0 : 0 ≤ a) (h1 : a ≤ most) (hn : 0 ≤ n) : 0 ≤ cap a n ∧ cap a n ≤ most ∧ a ≤ cap a n := by simp only [cap]; omega
theorem bump_ok {j : Nat} {n : Int} {c : Cnt} (h : Ok c) (hn : 0 ≤ n) : Ok (bump j n c) := by
  have h1 := cap_in h.d0 h.d1 hn
  have h2 := cap_in h.u0 h.u1 hn
  have h3 := cap_in h.p0 h.p1 hn
  unfold bump
  split
  · exact ⟨h1.1, h1.2.1, h.u0, h.u1, h.p0, h.p1⟩
  · exact ⟨h.d0, h.d1, h2.1, h2.2.1, h.p0, h.p1⟩
  · exact ⟨h.d0, h.d1, h.u0, h.u1, h3.1, h3.2.1⟩
theorem cupd_map {M : List Cnt} {t : ByteArray} {f : Cnt → Cnt} (hf : ∀ c, (f c).t = c.t) : (cupd M t f).map (·.t) = M.map (·.t) := by
  induction M with
  | nil => rfl
  | cons c M ih =>
    simp only [cupd]
    split
    · simp [hf]
    · simp [ih]
theorem cupd_len {M : List Cnt} {t : ByteArray} {f : Cnt → Cnt} : (cupd M t f).length = M.length := by
  induction M with
  | nil => rfl
  | cons c M ih => simp only [cupd]; split <;> simp [ih]
theorem mem_cupd {M : List Cnt} {t : ByteArray} {f : Cnt → Cnt} {c : Cnt} (h : c ∈ cupd M t f) : c ∈ M ∨ ∃ c0 ∈ M, c = f c0 := by
  induction M with
  | nil => simp [cupd] at h
  | cons x M ih =>
    simp only [cupd] at h
    split at h
    · rcases List.mem_cons.1 h with rfl | h
      · exact .inr ⟨x, by simp, rfl⟩
      · exact .inl (by simp [h])
    · rcases List.mem_cons.1 h with rfl | h
      · exact .inl (by simp)
      · rcases ih h with h | ⟨c0, h, e⟩
        · exact .inl (by simp [h])
        · exact .inr ⟨c0, by simp [h], e⟩
theorem find_none_iff {M : List Cnt} {t : ByteArray} : (M.find? fun c => c.t = t).isSome = false ↔ t ∉ M.map (·.t) := by
  rw [Bool.eq_false_iff, ne_eq, List.find?_isSome]
  simp
theorem inv_cstep {M : List Cnt} (h : MInv M) {t : ByteArray} {j : Nat} {n : Int} (ht : t.size ≤ 1000) : MInv (cstep M t j n).1 := by
  unfold cstep
  split
  · exact h
  · rename_i hn
    have hn : 0 ≤ n := by omega
    split
    · refine ⟨fun c hc => ?_, by rw [cupd_map (fun c => bump_t j n c)]; exact h.once, fun c hc => ?_, by rw [cupd_len]; exact h.few⟩
      · rcases mem_cupd hc with h1 | ⟨c0, h1, rfl⟩
        · exact h.ok c h1
        · exact bump_ok (h.ok c0 h1) hn
      · rcases mem_cupd hc with h1 | ⟨c0, h1, rfl⟩
        · exact h.size c h1
        · rw [bump_t]; exact h.size c0 h1
    · rename_i hf
      split
      · exact h
      · rename_i h64
        have hnt := find_none_iff.1 (Bool.eq_false_iff.2 hf)
        refine ⟨fun c hc => ?_, ?_, fun c hc => ?_, ?_⟩
        · rcases List.mem_append.1 hc with h1 | h1
          · exact h.ok c h1
          · simp at h1; subst h1; exact bump_ok (zero_ok t) hn
        · rw [List.map_append]
          refine List.nodup_append.2 ⟨h.once, by simp, fun a ha b hb => ?_⟩
          simp [bump_t] at hb
          subst hb
          exact fun e => hnt (e ▸ ha)
        · rcases List.mem_append.1 hc with h1 | h1
          · exact h.size c h1
          · simp at h1; subst h1; rw [bump_t]; exact ht
        · have := h.few
          simp; omega
end Go.Proofs.Ytglfkkaldeblhaa
