/- The statement LeaseLeaves: what holds in plain words. -/
import Derived.Test.YtefnfhhdcginmaaDoorLeaseV
set_option linter.unusedVariables false
namespace Go.Proofs.YtefnfhhdcginmaaDoor
open Go.ChangeShapes Go.WideShapes Go.ChangeAt Go.RowKit Go.Sub Go.ChangeMaps
theorem stepL_self (so : Lz → Bool) (dof : Lz → Lz) (M : LT) (nm : ByteArray) : mget (stepL so dof M nm) nm = (mget M nm).map fun x => if so x = true then dof x else x := by
  unfold stepL
  split
  · rename_i h; rw [h]; rfl
  · rename_i x h
    rw [h]
    simp only [Option.map_some]
    split
    · rw [mget_mset, if_pos rfl]
    · exact h
theorem foldL_at (so : Lz → Bool) (dof : Lz → Lz) {k : ByteArray} : ∀ (ns : List ByteArray) (M : LT), ns.Nodup → k ∈ ns → mget (foldL so dof ns M) k = (mget M k).map fun x => if so x = true then dof x else x
  | [], M, _, h => by cases h
  | n :: ns, M, hnd, h => by
    rw [List.nodup_cons] at hnd
    show mget (foldL so dof ns (stepL so dof M n)) k = _
    by_cases e : n = k
    · subst e
      rw [foldL_get so dof ns _ hnd.1, stepL_self]
    · rcases List.mem_cons.1 h with h | h
      · exact absurd h.symm e
      · rw [foldL_at so dof ns _ hnd.2 h, stepL_get so dof M e]
theorem foldL_none (so : Lz → Bool) (dof : Lz → Lz) : ∀ (ns : List ByteArray) (M : LT), (∀ k ∈ ns, ∀ x, mget M k = some x → so x = false) → foldL so dof ns M = M
  | [], M, _ => rfl
  | n :: ns, M, h => by
    have hs : stepL so dof M n = M := by
      unfold stepL
      split
      · rfl
      · rename_i x hx
        rw [if_neg (by rw [h n (by simp) x hx]; simp)]
    show foldL so dof ns (stepL so dof M n) = M
    rw [hs]
    exact foldL_none so dof ns M fun k hk => h k (by simp [hk])
theorem allS_eq (M : LT) : allS M = (keysOf (M.map (·.1))).filterMap fun k => mget M k := by
  unfold allS outL
  congr 1
  funext k
  cases mget M k <;> rfl
theorem outL_eq (so : Lz → Bool) (M : LT) (ns : List ByteArray) : outL so M ns = (ns.filterMap fun k => mget M k).filter so := by
  unfold outL
  exact List.filter_filterMap.symm
theorem mem_allS {e : Int} {M : LT} (I : InvB e M) {x : Lz} (h : x ∈ allS M) : mget M x.name = some x := by
  rw [allS_eq] at h
  obtain ⟨k, hk, hx⟩ := List.mem_filterMap.1 h
  have := I.nm _ (mget_mem hx)
  simp only at this
  rw [this]; exact hx
theorem statS_two (g : Int) (x : Lz) (now : Int) : statS g x now = 2 ↔ x.held = true ∧ now < x.til := by
  unfold statS
  cases x.held with
  | true =>
    by_cases h : now < x.til
    · simp [h]
    · by_cases h3 : now < x.til + g <;> simp [h, h3]
  | false =>
    by_cases h : now < x.til <;> simp [h]
/-- what a leave makes of a lease -/
def leftF (g conn now : Int) (x : Lz) : Lz := if soLeave conn now x = true then keptL x (now + g) else x
theorem leftF_so (g conn now : Int) (x : Lz) : soLeave conn now (leftF g conn now x) = false := by
  unfold leftF
  split
  · unfold soLeave; simp
  · rename_i h; simpa using h
theorem leave_says {g e conn now : Int} {M : LT} (I : InvB e M) (hn : clockB now = true) :
    (leaveS g M conn now).2 = (allS M).filter (soLeave conn now) ∧ allS (leaveS g M conn now).1 = (allS M).map (leftF g conn now) ∧ (∀ x ∈ allS M, mget (leaveS g M conn now).1 x.name = some (leftF g conn now x)) ∧ leaveS g (leaveS g M conn now).1 conn now = ((leaveS g M conn now).1, []) := by
  have hK : (keysOf (M.map (·.1))).Nodup := (keysOf_perm _).nodup_iff.2 I.nd
  have hat : ∀ k ∈ keysOf (M.map (·.1)), mget (foldL (soLeave conn now) (fun x => keptL x (now + g)) (keysOf (M.map (·.1))) M) k = (mget M k).map (leftF g conn now) := fun k hk => foldL_at _ _ _ _ hK hk
  have hkeys : (foldL (soLeave conn now) (fun x => keptL x (now + g)) (keysOf (M.map (·.1))) M).map (·.1) = M.map (·.1) := foldL_keys ..
  have hno : ∀ k ∈ keysOf (M.map (·.1)), ∀ x, mget (foldL (soLeave conn now) (fun x => keptL x (now + g)) (keysOf (M.map (·.1))) M) k = some x → soLeave conn now x = false := fun k hk x hx => by
    rw [hat k hk] at hx
    obtain ⟨y, _, rfl⟩ := Option.map_eq_some_iff.1 hx
    exact leftF_so ..
  unfold leaveS
  rw [if_pos hn]
  simp only
  refine ⟨by rw [outL_eq, allS_eq], ?_, fun x hx => ?_, ?_⟩
  · rw [allS_eq, allS_eq, hkeys]
    generalize keysOf (M.map (·.1)) = K at *
    clear hK hkeys hno
    generalize foldL (soLeave conn now) (fun x => keptL x (now + g)) K M = M' at *
    induction K with
    | nil => rfl
    | cons k K ih =>
      rw [List.filterMap_cons, List.filterMap_cons, hat k (by simp)]
      cases mget M k with
      | none => simpa using ih fun k hk => hat k (by simp [hk])
      | some x => simpa using ih fun k hk => hat k (by simp [hk])
  · have h1 := mem_allS I hx
    rw [hat _ ((keysOf_perm _).mem_iff.2 (List.mem_map.2 ⟨_, mget_mem h1, rfl⟩)), h1]
    rfl
  · rw [if_pos hn, hkeys, foldL_none _ _ _ _ hno, outL_eq]
    have : ((keysOf (M.map (·.1))).filterMap fun k => mget (foldL (soLeave conn now) (fun x => keptL x (now + g)) (keysOf (M.map (·.1))) M) k).filter (soLeave conn now) = [] := by
      rw [List.filter_eq_nil_iff]
      intro x hx
      obtain ⟨k, hk, hxk⟩ := List.mem_filterMap.1 hx
      rw [hno k hk x hxk]; simp
    rw [this]
theorem hold_of {g : Int} {M : LT} {nm : ByteArray} {now : Int} {x : Lz} (h : mget M nm = some x) : holdS g M nm now = if statS g x now = 2 then (x, true) else (zeroL, false) := by
  unfold holdS; rw [h]
end Go.Proofs.YtefnfhhdcginmaaDoor
