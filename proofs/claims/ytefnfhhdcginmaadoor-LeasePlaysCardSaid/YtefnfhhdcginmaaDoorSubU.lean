/- Part U: cells stored into a block one by one, the block known whole. No program's text. -/
import Derived.Test.YtefnfhhdcginmaaDoorSubR
import Derived.Laws.IdiomCopy
set_option linter.unusedVariables false
namespace Go.Sub
open Go.ChangeMaps (setBlock)
def putL (c : Array Value) : Nat → List Value → Array Value
  | _, [] => c
  | o, v :: r => putL (c.setIfInBounds o v) (o + 1) r
theorem putL_size : ∀ (vs : List Value) (c : Array Value) (o : Nat), (putL c o vs).size = c.size
  | [], c, o => rfl
  | v :: r, c, o => by rw [putL, putL_size r]; simp
theorem putL_get : ∀ (vs : List Value) (c : Array Value) (o j : Nat), o + vs.length ≤ c.size → (putL c o vs)[j]? = if o ≤ j ∧ j < o + vs.length then vs[j - o]? else c[j]?
  | [], c, o, j, h => by
    rw [putL, if_neg (fun h => absurd h.2 (by simp; omega))]
  | v :: r, c, o, j, h => by
    simp only [List.length_cons] at h ⊢
    rw [putL, putL_get r _ _ _ (by simp; omega)]
    by_cases e : j = o
    · subst e
      rw [if_neg (by omega), if_pos (by omega)]
      simp [show j < c.size by omega]
    · by_cases e2 : o + 1 ≤ j ∧ j < o + 1 + r.length
      · rw [if_pos e2, if_pos (by omega), show j - o = (j - (o + 1)) + 1 by omega]
        simp
      · rw [if_neg e2, if_neg (by omega)]
        simp [show o ≠ j from fun q => e q.symm]
theorem obj_setCells {b : Nat} {t : TypeId} {fz : Nat × Nat} : ∀ (vs : List Value) (o : Nat) (w : World) (c : Array Value), w.obj b = some (.cells c t fz) → (w.setCells b o vs).obj b = some (.cells (putL c o vs) t fz)
  | [], o, w, c, h => h
  | v :: r, o, w, c, h => by
    rw [World.setCells, putL]
    exact obj_setCells r (o + 1) _ _ (obj_setCell_at h o v)
theorem upd_setCells {F F' : Fp} {w : World} {b : Nat} : ∀ (vs : List Value) (o : Nat) (w' : World), Upd F F' w w' → (F b ∨ w.heap.size ≤ b) → Upd F F' w (w'.setCells b o vs)
  | [], o, w', h, hb => h
  | v :: r, o, w', h, hb => upd_setCells r (o + 1) _ (h.setCell (a := ⟨b, o, none⟩) hb v) hb
end Go.Sub
