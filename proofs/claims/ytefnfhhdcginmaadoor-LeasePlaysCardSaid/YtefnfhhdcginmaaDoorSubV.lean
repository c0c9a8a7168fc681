/- Part V: one cell of a row's element. No program's text. -/
import Derived.Test.YtefnfhhdcginmaaDoorSubU
set_option linter.unusedVariables false
namespace Go.Sub
open Go.ChangeMaps (setBlock)
section
variable {α : Type} {e : TypeId} {k : Nat} {enc : α → List Value}
/-- the block behind a row that has something -/
theorem row_blk {g n cap : Nat} {L : List α} {w : World} {F : Fp} (h : (row e k enc (.slice (some ⟨g, 0, none⟩) n cap) L).on w F) :
    ∃ cur : Array Value, w.obj g = some (.cells cur e (0, 0)) ∧ n = L.length ∧ n ≤ cap ∧ cap ≤ maxLen ∧ cur.size = cap * k ∧ cur.toList.take (L.length * k) = L.flatMap enc ∧ F = fun b => b = g := by
  obtain ⟨⟨h1, h2⟩, hF⟩ := h
  rcases h2 with ⟨hv, _⟩ | ⟨g', cap', cur, hv, hb, hg, hn, hc, hs, ht⟩
  · cases hv
  · simp only [Value.slice.injEq, Option.some.injEq, Addr.mk.injEq, and_true] at hv
    obtain ⟨rfl, rfl, rfl⟩ := hv
    exact ⟨cur, hg, rfl, hn, hc, hs, ht, by rw [hF]; funext b; simp [Value.ownBlock, eq_comm]⟩
theorem flat_get (hk : ∀ x, (enc x).length = k) : ∀ (M : List α) (i j : Nat), j < k → (M.flatMap enc)[i * k + j]? = (M[i]?).bind fun x => (enc x)[j]?
  | [], i, j, hj => by simp
  | x :: M, 0, j, hj => by
    rw [List.flatMap_cons, List.getElem?_append_left (by rw [hk]; omega)]
    simp
  | x :: M, i + 1, j, hj => by
    rw [List.flatMap_cons, List.getElem?_append_right (by rw [hk, Nat.succ_mul]; omega), hk]
    rw [show (i + 1) * k + j - k = i * k + j from by rw [Nat.succ_mul]; omega, flat_get hk M i j hj]
    simp
theorem flat_len2 (hk : ∀ x, (enc x).length = k) (M : List α) : (M.flatMap enc).length = M.length * k := flat_len' hk M
theorem flat_set (hk : ∀ x, (enc x).length = k) {L : List α} {i j : Nat} (hi : i < L.length) (hj : j < k) {x' : α} {u : Value} (he : enc x' = (enc L[i]).set j u) :
    (L.set i x').flatMap enc = (L.flatMap enc).set (i * k + j) u := by
  have hk0 : 0 < k := by omega
  apply List.ext_getElem?
  intro p
  have hp : p = p / k * k + p % k := by rw [Nat.mul_comm]; exact (Nat.div_add_mod p k).symm
  have hm : p % k < k := Nat.mod_lt _ hk0
  rw [hp, flat_get hk _ _ _ hm, List.getElem?_set, List.getElem?_set, flat_get hk _ _ _ hm, flat_len2 hk]
  have hlt : i * k + j < L.length * k := by
    have : (i + 1) * k ≤ L.length * k := Nat.mul_le_mul_right _ hi
    rw [Nat.succ_mul] at this
    omega
  by_cases e1 : i = p / k
  · subst e1
    rw [if_pos rfl, if_pos hi]
    simp only [Option.bind_some]
    rw [he, List.getElem?_set]
    by_cases e2 : j = p % k
    · rw [if_pos e2, if_pos (by rw [hk]; exact hj), if_pos (by rw [e2]), if_pos hlt]
    · rw [if_neg e2, if_neg (fun q => e2 (Nat.add_left_cancel q)), List.getElem?_eq_getElem hi]
      rfl
  · rw [if_neg e1, if_neg]
    intro e2
    apply e1
    have h1 : (i * k + j) / k = i := by rw [Nat.mul_comm, Nat.mul_add_div hk0, Nat.div_eq_of_lt hj]; rfl
    have h2 : (p / k * k + p % k) / k = p / k := by rw [Nat.mul_comm, Nat.mul_add_div hk0, Nat.div_eq_of_lt hm]; rfl
    rw [← h1, ← h2, e2]
/-- one cell of one element has another value now -/
theorem row_set (hk : ∀ x, (enc x).length = k) {g n cap : Nat} {L : List α} {w : World} {F : Fp} (h : (row e k enc (.slice (some ⟨g, 0, none⟩) n cap) L).on w F)
    {i j : Nat} (hi : i < L.length) (hj : j < k) {x' : α} {u : Value} (he : enc x' = (enc L[i]).set j u) :
    (row e k enc (.slice (some ⟨g, 0, none⟩) n cap) (L.set i x')).on (w.setCell ⟨g, i * k + j, none⟩ u) F ∧ Upd F F w (w.setCell ⟨g, i * k + j, none⟩ u) := by
  obtain ⟨cur, hg, rfl, hn, hc, hs, ht, rfl⟩ := row_blk h
  have hg' := obj_setCell_at hg (i * k + j) u
  have hlt : i * k + j < L.length * k := by
    have : (i + 1) * k ≤ L.length * k := Nat.mul_le_mul_right _ hi
    rw [Nat.succ_mul] at this
    omega
  refine ⟨⟨⟨flat_len2 hk _, .inr ⟨g, cap, _, by rw [List.length_set], Nat.zero_le _, hg', by rw [List.length_set]; exact hn, hc, by simpa using hs, ?_⟩⟩, by funext b; simp [Value.ownBlock, eq_comm]⟩, (Upd.refl (fun b => b = g) w).setCell (a := ⟨g, i * k + j, none⟩) (.inl rfl) _⟩
  rw [List.length_set, Array.toList_setIfInBounds, List.take_set, ht, flat_set hk hi hj he]
theorem row_cell (hk : ∀ x, (enc x).length = k) {g n cap : Nat} {L : List α} {w : World} {F : Fp} (h : (row e k enc (.slice (some ⟨g, 0, none⟩) n cap) L).on w F) {i j : Nat} (hi : i < L.length) {u : Value} (hu : (enc L[i])[j]? = some u) :
    w.cell? ⟨g, i * k + j, none⟩ = some u ∧ w.frozen? ⟨g, i * k + j, none⟩ = false := by
  obtain ⟨cur, hg, rfl, hn, hc, hs, ht, rfl⟩ := row_blk h
  obtain ⟨hcell, hf, _⟩ := blk_facts hg
  have hj : j < k := by
    rw [← hk L[i]]
    exact (List.getElem?_eq_some_iff.1 hu).1
  refine ⟨?_, hf _⟩
  have h1 := flat_get hk L i j hj
  rw [List.getElem?_eq_getElem hi] at h1
  simp only [Option.bind_some, hu] at h1
  rw [← ht, List.getElem?_take] at h1
  split at h1
  · rw [hcell, ← Array.getElem?_toList]; exact h1
  · cases h1
/-- a row that has something lies in a block -/
theorem row_some {v : Value} {L : List α} {w : World} {F : Fp} (h : (row e k enc v L).on w F) {i : Nat} (hi : i < L.length) : ∃ g cap, v = .slice (some ⟨g, 0, none⟩) L.length cap := by
  rcases h.1.2 with ⟨hv, hn⟩ | ⟨g, c', cur, hv, _⟩
  · omega
  · exact ⟨g, c', hv⟩
end
section
variable {P : Program} {t e : TypeId} {k : Nat} {α : Type} {enc : α → List Value}
theorem run_cutk_to (ht : P.underlying t = some (.slice e)) (hs : (P.info? e).map (·.size) = some k) (n cap i : Nat) (g : Addr) (hi : i ≤ cap) : ∀ W : World, (Instr.slice t (.slice (some g) n cap) none (some (.int .i64 (i : Int))) none).run P W = .ok (.slice (some g) i cap) W := by
  intro W
  obtain ⟨q, hq, hz⟩ := Option.map_eq_some_iff.1 hs
  have h0 : g.add 0 = g := by unfold Addr.add; simp
  simp [Instr.slice, run_underlying ht, Instr.sliceBounds, run_sliceBound, sizeOf, typeInfo, hq, Result.andThen, hi, Int.toNat_natCast]
  exact fun _ => h0
theorem run_cutk_from (ht : P.underlying t = some (.slice e)) (hs : (P.info? e).map (·.size) = some k) (n cap i : Nat) (g : Addr) (hk : i ≤ n) : ∀ W : World, (Instr.slice t (.slice (some g) n cap) (some (.int .i64 (i : Int))) none none).run P W = .ok (.slice (if cap = i then some g else some (g.add (i * k))) (n - i) (cap - i)) W := by
  intro W
  obtain ⟨q, hq, hz⟩ := Option.map_eq_some_iff.1 hs
  simp [Instr.slice, run_underlying ht, Instr.sliceBounds, run_sliceBound, sizeOf, typeInfo, hq, hz, Result.andThen, hk, Int.toNat_natCast]
theorem reads_cut_to {w : World} {a : Option Addr} {n cap i : Nat} {L : List α} (h : Reads w k enc (.slice a n cap) L) (hi : i ≤ L.length) : Reads w k enc (.slice a i cap) (L.take i) := by
  obtain ⟨a', c', e1, hr⟩ := h
  simp only [Value.slice.injEq] at e1
  obtain ⟨rfl, rfl, rfl⟩ := e1
  refine ⟨a, cap, by simp; omega, fun j x hx => hr j x ?_⟩
  rw [List.getElem?_take] at hx
  split at hx
  · exact hx
  · cases hx
theorem reads_cut_from {w : World} {g off n cap i : Nat} {L : List α} (h : Reads w k enc (.slice (some ⟨g, off, none⟩) n cap) L) (hi : i ≤ L.length) (hcap : L.length ≤ cap) : Reads w k enc (.slice (if cap = i then some ⟨g, off, none⟩ else some ((⟨g, off, none⟩ : Addr).add (i * k))) (n - i) (cap - i)) (L.drop i) := by
  obtain ⟨a', c', e1, hr⟩ := h
  simp only [Value.slice.injEq] at e1
  obtain ⟨rfl, rfl, rfl⟩ := e1
  by_cases hc : cap = i
  · refine ⟨_, _, by rw [List.length_drop], fun j x hx => ?_⟩
    rw [List.getElem?_drop, List.getElem?_eq_none (by omega)] at hx
    cases hx
  · rw [if_neg hc]
    refine ⟨_, _, by rw [List.length_drop], fun j x hx => ?_⟩
    rw [List.getElem?_drop] at hx
    obtain ⟨g', off', e2, hg, hcell⟩ := hr _ x hx
    simp only [Option.some.injEq, Addr.mk.injEq, and_true] at e2
    obtain ⟨rfl, rfl⟩ := e2
    refine ⟨g, off + i * k, by unfold Addr.add; split <;> simp, hg, fun q u hu => ?_⟩
    rw [show off + i * k + j * k + q = off + (i + j) * k + q by rw [Nat.add_mul]; omega]
    exact hcell q u hu
end
/-- a row of one's own grows: what was there stays -/
theorem own_quiet {w w1 w2 : World} {F F' : Fp} (h : Quiet w w1) (hF : ∀ k, F k → w.heap.size ≤ k) (hu : Upd F F' w1 w2) : Quiet w w2 ∧ ∀ k, F' k → w.heap.size ≤ k := by
  have h1 : Upd none' F w w1 := h.re fun k hk => .inr (hF k hk)
  have h2 := h1.trans hu
  exact ⟨h2.quiet, fun k hk => (h2.fp k hk).resolve_left id⟩
theorem range_pick (l : List Asrt) : (List.range l.length).filterMap (fun i => l[i]?) = l := by
  induction l with
  | nil => rfl
  | cons A l ih =>
    rw [List.length_cons, List.range_succ_eq_map, List.filterMap_cons, List.filterMap_map]
    simp only [List.getElem?_cons_zero]
    congr 1
/-- the same beside each other in another order -/
theorem Asrt.stars_order {l : List Asrt} (n : Nat) (idx : List Nat) (h : idx.Perm (List.range n)) (hn : l.length = n) {w : World} {F : Fp} (hS : (Asrt.stars l).on w F) : (Asrt.stars (idx.filterMap fun i => l[i]?)).on w F := by
  subst hn
  refine Asrt.stars_perm ?_ hS
  have := (h.filterMap (fun i => l[i]?)).symm
  rwa [range_pick] at this
theorem Asrt.stars_fold {A B : Asrt} {l : List Asrt} {w : World} {F : Fp} (hf : ∀ G, (Asrt.stars l).on w G → B.on w G) (hS : (Asrt.stars (A :: l)).on w F) : (Asrt.stars [A, B]).on w F := by
  obtain ⟨Fa, Fc, ha, hc, hac, rfl⟩ := hS
  exact ⟨Fa, Fc, ha, Asrt.stars_one (hf _ hc), hac, rfl⟩
theorem own_upd {w w1 : World} {F : Fp} (h : Quiet w w1) (hF : ∀ k, F k → w.heap.size ≤ k) : Upd none' F w w1 := h.re fun k hk => .inr (hF k hk)
end Go.Sub
