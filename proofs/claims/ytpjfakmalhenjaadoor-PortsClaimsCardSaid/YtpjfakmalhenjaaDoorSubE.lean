/- Part E: slices that are read. No program's text. -/
import Derived.Test.YtpjfakmalhenjaaDoorSubD
import Derived.Deep.LoopGhost
namespace Go.Sub
open Go.ChangeMaps (setBlock)

/-- The slice value v reads as L: each element has k cells, and they hold (enc x). -/
def Reads {α : Type} (w : World) (k : Nat) (enc : α → List Value) (v : Value) (L : List α) : Prop :=
  ∃ a cap, v = .slice a L.length cap ∧ ∀ i x, L[i]? = some x → ∃ g off, a = some ⟨g, off, none⟩ ∧ g < w.heap.size ∧ ∀ j u, (enc x)[j]? = some u → w.cell? ⟨g, off + i * k + j, none⟩ = some u

theorem row_reads {α : Type} {e : TypeId} {k : Nat} {enc : α → List Value} {v : Value} {L : List α} {w : World} {F : Fp} (hk : ∀ x, (enc x).length = k) (h : (row e k enc v L).on w F) :
    Reads w k enc v L ∧ (∀ g, v.ownBlock = some g ↔ F g) := by
  obtain ⟨⟨h1, h2⟩, rfl⟩ := h
  refine ⟨?_, fun g => Iff.rfl⟩
  rcases h2 with ⟨rfl, hL⟩ | ⟨g, cap, cur, rfl, hb, hg, hn, hc, hs, ht⟩
  · have : L = [] := List.eq_nil_of_length_eq_zero hL
    subst this
    exact ⟨none, 0, rfl, fun i x hx => by simp at hx⟩
  · refine ⟨_, cap, rfl, fun i x hx => ⟨g, 0, rfl, lt_of_heap hg, fun j u hu => ?_⟩⟩
    have hj : j < k := by
      rw [← hk x]
      rcases Nat.lt_or_ge j (enc x).length with h | h
      · exact h
      · rw [List.getElem?_eq_none h] at hu; cases hu
    have hi : i < L.length := by
      rcases Nat.lt_or_ge i L.length with h | h
      · exact h
      · rw [List.getElem?_eq_none h] at hx; cases hx
    have hflat : (L.flatMap enc)[i * k + j]? = some u := by
      clear ht hs hn h1 hg hi
      induction L generalizing i with
      | nil => simp at hx
      | cons y L ih =>
        cases i with
        | zero =>
          simp only [List.getElem?_cons_zero, Option.some.injEq] at hx
          subst hx
          rw [List.flatMap_cons, List.getElem?_append_left (by rw [hk]; omega)]
          simpa using hu
        | succ i =>
          simp only [List.getElem?_cons_succ] at hx
          rw [List.flatMap_cons, List.getElem?_append_right (by rw [hk, Nat.succ_mul]; omega), hk]
          have := ih i hx
          rw [show (i + 1) * k + j - k = i * k + j from by rw [Nat.succ_mul]; omega]
          exact this
    rw [← ht] at hflat
    have hlt : i * k + j < L.length * k := by
      have : (i + 1) * k ≤ L.length * k := Nat.mul_le_mul_right _ hi
      rw [Nat.succ_mul] at this
      omega
    rw [List.getElem?_take_of_lt hlt] at hflat
    have hg' : w.heap[g]? = _ := hg
    simp only [World.cell?, hg', Nat.zero_add, Option.isSome_none, Bool.false_eq_true, if_false]
    rw [← Array.getElem?_toList]
    exact hflat
theorem Reads.upd {α : Type} {w w' : World} {k : Nat} {enc : α → List Value} {v : Value} {L : List α} {F F' : Fp} (h : Reads w k enc v L) (hu : Upd F F' w w') (hd : ∀ g, v.ownBlock = some g → ¬ F g) : Reads w' k enc v L := by
  obtain ⟨a, cap, rfl, hr⟩ := h
  refine ⟨a, cap, rfl, fun i x hx => ?_⟩
  obtain ⟨g, off, rfl, hg, hc⟩ := hr i x hx
  exact ⟨g, off, rfl, Nat.lt_of_lt_of_le hg hu.size, fun j u hj => by rw [hu.cell hg (hd g rfl)]; exact hc j u hj⟩
theorem Reads.nil {α : Type} (w : World) (k : Nat) (enc : α → List Value) (a : Option Addr) (cap : Nat) : Reads w k enc (.slice a 0 cap) ([] : List α) := ⟨a, cap, rfl, fun i x hx => by simp at hx⟩
end Go.Sub
