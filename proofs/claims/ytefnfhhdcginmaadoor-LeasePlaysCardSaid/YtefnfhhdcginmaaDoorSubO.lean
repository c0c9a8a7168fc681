/- Part O: a map is struck from while it is gone over. No program's text. -/
import Derived.Test.YtefnfhhdcginmaaDoorSubD
set_option linter.unusedVariables false
namespace Go.Sub
open Go.ChangeMaps (setBlock)
variable {κ V : Type} {enc : κ → Value} {ev : V → Value} {P : Program} {k : TypeId} {d : TypeDesc}
theorem leftOf_erase (es : Array MapEntry) (seen : Array Nat) (j : Nat) (e : MapEntry) (hj : es.toList[j]? = some e) (hs : e ∉ (leftOf es seen).toList) : (leftOf (es.eraseIdxIfInBounds j) seen).toList = (leftOf es seen).toList := by
  have hl : j < es.toList.length := (List.getElem?_eq_some_iff.1 hj).1
  have hl' : j < es.size := by simpa using hl
  have he : es.toList[j] = e := (List.getElem?_eq_some_iff.1 hj).2
  have h1 : (es.eraseIdxIfInBounds j).toList = es.toList.eraseIdx j := by simp [Array.eraseIdxIfInBounds, hl', Array.toList_eraseIdx]
  simp only [leftOf, Array.toList_filter, h1]
  simp only [leftOf, Array.toList_filter] at hs
  have h2 : es.toList = es.toList.take j ++ e :: es.toList.drop (j + 1) := by
    rw [← he]
    conv => lhs; rw [← List.take_append_drop j es.toList]
    rw [List.drop_eq_getElem_cons hl]
  have h3 : es.toList.eraseIdx j = es.toList.take j ++ es.toList.drop (j + 1) := List.eraseIdx_eq_take_drop_succ ..
  rw [h3, List.filter_append]
  conv => rhs; rw [h2]
  rw [List.filter_append, List.filter_cons]
  have h4 : (!seen.contains e.born) = false := by
    cases h : (!seen.contains e.born) with
    | false => rfl
    | true => exact (hs (List.mem_filter.2 ⟨List.mem_of_getElem? hj, by simpa using h⟩)).elim
  rw [h4]
  simp
theorem keyOk_inj [DecidableEq κ] (K : KeyOk P k d enc) {x y : κ} (h : enc x = enc y) : x = y := by
  have h1 := K.now x y
  rw [h, K.now y y] at h1
  simpa using h1
/-- 'delete(m, x)' in a loop over m, x being none of those that are still to come. -/
theorem run_delete_iter [DecidableEq κ] (K : KeyOk P k d enc) {t e : TypeId} (ht : P.underlying t = some (.map k e)) {o it : Obj} {m left : List (κ × V)} (ho : MapObj enc ev o m) (b : Nat) (x : κ) (hI : IterObj enc ev o b it left) (hx : x ∉ left.map (·.1)) :
    ∃ o', MapObj enc ev o' (mdel m x) ∧ IterObj enc ev o' b it left ∧ ∀ W : World, W.obj b = some o → ∀ ty, (Builtin.delete_ #[t, k] ty #[.map (some b), enc x]).run P W = .ok (.tuple #[]) (setBlock W b o') := by
  obtain ⟨es, clk, rfl, hE, hB⟩ := ho
  obtain ⟨es', clk', seen, heq, rfl, hB', hL⟩ := hI
  injection heq with e1 e2
  subst e1
  subst e2
  rcases findNow_of K x es.toList m 0 hE with ⟨h1, h2, _, h4⟩ | ⟨j, v0, e', h1, h2, h3, hk, _, h6⟩
  · refine ⟨.map es clk, ⟨_, _, rfl, by rw [h4]; exact hE, hB⟩, ⟨es, clk, seen, rfl, rfl, hB', hL⟩, fun W hb ty => ?_⟩
    simp [Builtin.delete_, run_underlying ht, run_getObj_of hb, K.check, run_findKey_of K h2, run_setObj_of hb, Result.andThen]
  · have hj : j < es.size := by
      rcases Nat.lt_or_ge j es.size with h | h
      · exact h
      · have hn : es.toList[j]? = none := List.getElem?_eq_none (by simpa using h)
        rw [hn] at h3; cases h3
    have hno : e' ∉ (leftOf es seen).toList := fun hmem => by
      have h7 : (e'.key, e'.val) ∈ (leftOf es seen).toList.map fun e => (e.key, e.val) := List.mem_map.2 ⟨e', hmem, rfl⟩
      rw [hL] at h7
      obtain ⟨p, hp, hpe⟩ := List.mem_map.1 h7
      rw [Prod.mk.injEq] at hpe
      have := keyOk_inj K (hpe.1.trans hk)
      exact hx (List.mem_map.2 ⟨p, hp, this⟩)
    have hBe : Born (es.eraseIdxIfInBounds j).toList clk := by simpa [Array.eraseIdxIfInBounds, hj, Array.toList_eraseIdx] using hB.erase j
    refine ⟨.map (es.eraseIdxIfInBounds j) clk, ⟨_, _, rfl, ?_, hBe⟩, ⟨_, _, seen, rfl, rfl, hBe, by rw [leftOf_erase es seen j e' h3 hno]; exact hL⟩, fun W hb ty => ?_⟩
    · simpa [Array.eraseIdxIfInBounds, hj, Array.toList_eraseIdx] using h6
    · simp [Builtin.delete_, run_underlying ht, run_getObj_of hb, K.check, run_findKey_of K h2, run_setObj_of hb, Result.andThen]
end Go.Sub
