/- Frames that come in pieces: the plain law. -/
import Derived.Test.YtimkbpcdbbdjlaaConnQ
import Derived.Test.YtimkbpcdbbdjlaaSubM
namespace Go.Proofs.Ytimkbpcdbbdjlaa
open Go.RowKit Go.Sub Go.ChangeMaps
namespace connFrames
/-- the first frame stays the first, and so does an error, whatever comes behind -/
theorem first_app (r m : List UInt8) (h : (firstS r).2.1 ≠ 0 ∨ (firstS r).2.2 ≠ 0) : firstS (r ++ m) = firstS r := by
  match r with
  | [] => simp [firstS] at h
  | x :: [] =>
    by_cases hx : x ≠ 170
    · simp [firstS, hx]
    · simp [firstS, hx] at h
  | x :: n :: q =>
    by_cases hx : x ≠ 170
    · simp [firstS, hx]
    · by_cases hn : n = 0 ∨ 200 < n.toNat
      · simp only [firstS, List.cons_append, if_neg hx, if_pos hn]
      · by_cases hq : q.length < n.toNat
        · simp only [firstS, if_neg hx, if_neg hn, if_pos hq] at h
          simp at h
        · have hq2 : ¬ (q ++ m).length < n.toNat := by simp; omega
          simp only [firstS, List.cons_append, if_neg hx, if_neg hn, if_neg hq, if_neg hq2]
          rw [List.take_append_of_le_length (by omega)]
theorem first_cases (r : List UInt8) : ((firstS r).2.1 = 0 ∧ (firstS r).1 = []) ∨ ((firstS r).2.1 ≠ 0 ∧ (firstS r).2.2 = 0) := by
  match r with
  | [] => exact .inl ⟨rfl, rfl⟩
  | x :: [] =>
    by_cases hx : x ≠ 170
    · exact .inl (by simp [firstS, hx])
    · exact .inl (by simp [firstS, hx])
  | x :: n :: q =>
    by_cases hx : x ≠ 170
    · exact .inl (by simp [firstS, hx])
    · by_cases hn : n = 0 ∨ 200 < n.toNat
      · exact .inl (by simp only [firstS, if_neg hx, if_pos hn, and_self])
      · by_cases hq : q.length < n.toNat
        · exact .inl (by simp only [firstS, if_neg hx, if_neg hn, if_pos hq, and_self])
        · refine .inr ?_
          simp only [firstS, if_neg hx, if_neg hn, if_neg hq, and_true]
          omega
theorem first_err (r : List UInt8) (h : (firstS r).2.1 ≠ 0) : (firstS r).2.2 = 0 := (first_cases r).elim (fun q => absurd q.1 h) fun q => q.2
theorem first_zero (r : List UInt8) (h : (firstS r).2.1 = 0) : (firstS r).1 = [] := (first_cases r).elim (fun q => q.2) fun q => absurd h q.1
/-- the frames with which bytes begin, and what is left then -/
inductive Pre : List UInt8 → List (List UInt8) → List UInt8 → Prop where
  | nil (b : List UInt8) : Pre b [] b
  | step {b : List UInt8} {G : List (List UInt8)} {r : List UInt8} : Pre b G r → (firstS r).2.1 ≠ 0 → Pre b (G ++ [(firstS r).1]) (r.drop (firstS r).2.1)
theorem Pre.app {b : List UInt8} {G : List (List UInt8)} {r : List UInt8} (h : Pre b G r) (m : List UInt8) : Pre (b ++ m) G (r ++ m) := by
  induction h with
  | nil => exact .nil _
  | step h hn ih =>
    rename_i G' r'
    have := Pre.step ih (by rw [first_app _ m (.inl hn)]; exact hn)
    rw [first_app _ m (.inl hn), List.drop_append_of_le_length (firstS_le r')] at this
    exact this
theorem Pre.size {b : List UInt8} {G : List (List UInt8)} {r : List UInt8} (h : Pre b G r) : G.length + r.length ≤ b.length := by
  induction h with
  | nil => simp
  | step h hn ih =>
    rename_i G' r'
    have := firstS_le r'
    simp only [List.length_append, List.length_drop, List.length_cons, List.length_nil]
    omega
/-- what is left is an end of the bytes -/
theorem Pre.tail {b : List UInt8} {G : List (List UInt8)} {r : List UInt8} (h : Pre b G r) : ∃ k, k ≤ b.length ∧ r = b.drop k := by
  induction h with
  | nil => exact ⟨0, by omega, by simp⟩
  | step h hn ih =>
    rename_i G' r'
    obtain ⟨k, hk, e⟩ := ih
    have h1 := firstS_le r'
    have h2 := congrArg List.length e
    rw [List.length_drop] at h2
    exact ⟨k + (firstS r').2.1, by omega, by rw [← List.drop_drop, ← e]⟩
def itF : Nat → List UInt8 → Option (List (List UInt8) × List UInt8)
  | 0, b => some ([], b)
  | n + 1, b => match itF n b with
    | none => none
    | some (G, r) => if (firstS r).2.1 = 0 then none else some (G ++ [(firstS r).1], r.drop (firstS r).2.1)
theorem Pre.it {b : List UInt8} {G : List (List UInt8)} {r : List UInt8} (h : Pre b G r) : itF G.length b = some (G, r) := by
  induction h with
  | nil => rfl
  | step h hn ih =>
    rw [List.length_append, List.length_cons, List.length_nil]
    simp only [itF, ih, if_neg hn]
theorem it_none {n : Nat} {b : List UInt8} (h : itF n b = none) : ∀ k, itF (n + k) b = none
  | 0 => h
  | k + 1 => by
    have := it_none h k
    show itF ((n + k) + 1) b = none
    simp only [itF, this]
theorem Pre.le {b : List UInt8} {G G' : List (List UInt8)} {r r' : List UInt8} (h : Pre b G r) (h' : Pre b G' r') (hs : (firstS r).2.1 = 0) : G'.length ≤ G.length := by
  rcases Nat.lt_or_ge G.length G'.length with hl | hl
  · exfalso
    have e : itF (G.length + 1) b = none := by simp only [itF, h.it, if_pos hs]
    have := it_none e (G'.length - (G.length + 1))
    rw [show G.length + 1 + (G'.length - (G.length + 1)) = G'.length by omega, h'.it] at this
    cases this
  · exact hl
/-- there is one way alone to cut all -/
theorem Pre.same {b : List UInt8} {G G' : List (List UInt8)} {r r' : List UInt8} (h : Pre b G r) (h' : Pre b G' r') (hs : (firstS r).2.1 = 0) (hs' : (firstS r').2.1 = 0) : G = G' ∧ r = r' := by
  have e : G.length = G'.length := Nat.le_antisymm (h'.le h hs') (h.le h' hs)
  have h1 := h.it
  rw [e, h'.it] at h1
  cases h1
  exact ⟨rfl, rfl⟩
/-- the law's inner loop: frames told, what is left, the error -/
structure Cut (A : List UInt8) (G : List (List UInt8)) (r : List UInt8) (bad : Int) : Prop where
  pre : Pre A G r
  bad : bad ≠ 0 → (firstS r).2.1 = 0 ∧ (firstS r).2.2 = bad
theorem cut_nil : Cut [] [] [] 0 := ⟨.nil _, fun h => absurd rfl h⟩
theorem Cut.feed {A : List UInt8} {G : List (List UInt8)} {r : List UInt8} {bad : Int} (h : Cut A G r bad) (m : List UInt8) : Cut (A ++ m) G (r ++ m) bad :=
  ⟨h.pre.app m, fun hb => by
    obtain ⟨h1, h2⟩ := h.bad hb
    rw [first_app r m (.inr (by rw [h2]; exact hb))]
    exact ⟨h1, h2⟩⟩
theorem Cut.fine {A : List UInt8} {G : List (List UInt8)} {r : List UInt8} {bad : Int} (h : Cut A G r bad) (hb : bad ≠ 0) : (decide (0 < (firstS r).2.1)) = false ∧ (firstS r).2.2 = bad := by
  obtain ⟨h1, h2⟩ := h.bad hb
  exact ⟨by simp [h1], h2⟩
theorem Cut.next {A : List UInt8} {G : List (List UInt8)} {r : List UInt8} {bad : Int} (h : Cut A G r bad) (hn : (firstS r).2.1 ≠ 0) : Cut A (G ++ [(firstS r).1]) (r.drop (firstS r).2.1) (firstS r).2.2 :=
  ⟨.step h.pre hn, fun hb => absurd (first_err r hn) hb⟩
theorem Cut.stop {A : List UInt8} {G : List (List UInt8)} {r : List UInt8} {bad : Int} (h : Cut A G r bad) (hn : (firstS r).2.1 = 0) : Cut A G r (firstS r).2.2 := ⟨h.pre, fun _ => ⟨hn, rfl⟩⟩
end connFrames
end Go.Proofs.Ytimkbpcdbbdjlaa
