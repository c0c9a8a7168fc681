/- Part G: a row that slices.SortFunc has sorted. No program's text. -/
import Derived.Test.YtnjdhijngioljaaSubE
import Derived.Shelf.SlSortCmp.NoneTotal
namespace Go.Sub
open Go.Sort Go.Proofs
variable {α : Type}

theorem flat_get [Inhabited α] (enc : α → List Value) {k : Nat} (hk : ∀ x, (enc x).length = k) : ∀ (L : List α) (i j : Nat), i < L.length → j < k → (L.flatMap enc)[i * k + j]? = (enc L[i]!)[j]?
  | [], i, _, h, _ => by simp at h
  | y :: L, 0, j, _, hj => by
    rw [List.flatMap_cons, List.getElem?_append_left (by rw [hk]; omega)]
    simp
  | y :: L, i + 1, j, h, hj => by
    rw [List.flatMap_cons, List.getElem?_append_right (by rw [hk, Nat.succ_mul]; omega), hk, show (i + 1) * k + j - k = i * k + j from by rw [Nat.succ_mul]; omega,
      flat_get enc hk L i j (by simpa using h) hj]
    simp
theorem flat_len (enc : α → List Value) {k : Nat} (hk : ∀ x, (enc x).length = k) : ∀ L : List α, (L.flatMap enc).length = L.length * k
  | [] => by simp
  | y :: L => by rw [List.flatMap_cons, List.length_append, hk, flat_len enc hk L, List.length_cons, Nat.succ_mul]; omega
theorem flatK_toList [Inhabited α] (enc : α → List Value) {k : Nat} (hk : ∀ x, (enc x).length = k) (d : Array α) : (flatK enc k d).toList = d.toList.flatMap enc := by
  apply List.ext_getElem?
  intro t
  by_cases ht : t < d.size * k
  · have hk0 : 0 < k := Nat.pos_of_ne_zero fun h => by subst h; simp at ht
    have h1 : t / k < d.toList.length := by
      rw [Array.length_toList]
      exact Nat.div_lt_of_lt_mul (by rwa [Nat.mul_comm] at ht)
    have h2 := flat_get enc hk d.toList (t / k) (t % k) h1 (Nat.mod_lt _ hk0)
    have h3 : t / k * k + t % k = t := by rw [Nat.mul_comm]; exact Nat.div_add_mod t k
    rw [h3] at h2
    rw [h2, Array.getElem?_toList, Array.getElem?_eq_getElem (by simpa using ht)]
    have h4 := get_flatK enc k d t ht
    rw [getElem!_pos _ t (by simpa using ht)] at h4
    rw [h4, getElem!_pos _ (t % k) (by rw [hk]; exact Nat.mod_lt _ hk0)]
    have h5 : d[t / k]! = d.toList[t / k]! := by
      have h6 : t / k < d.size := by simpa using h1
      rw [getElem!_pos d (t / k) h6, getElem!_pos d.toList (t / k) h1]
      simp
    rw [List.getElem?_eq_getElem (by rw [hk]; exact Nat.mod_lt _ hk0)]
    simp only [h5]
  · rw [List.getElem?_eq_none (by simp; omega), List.getElem?_eq_none (by rw [flat_len enc hk]; simp; omega)]

theorem row_holds [Inhabited α] {e : TypeId} {k : Nat} {enc : α → List Value} (hk : ∀ x, (enc x).length = k) {g cap : Nat} {L : List α} {w : World} {F : Fp} (h : (row e k enc (.slice (some ⟨g, 0, none⟩) L.length cap) L).on w F) :
    HoldsK enc k w g 0 L.toArray := by
  obtain ⟨hown, _⟩ := h
  intro j hj
  rw [size_flatK] at hj
  simp only [List.size_toArray] at hj
  rw [Nat.zero_add, hown.cellAt j hj, hown.frozenAt j]
  refine ⟨?_, rfl⟩
  have h1 := flatK_toList enc hk L.toArray
  rw [← h1, Array.getElem?_toList, Array.getElem?_eq_getElem (by simpa using hj)]
  show _ = some (flatK enc k L.toArray)[j]!
  rw [getElem!_pos _ j (by simpa using hj)]

theorem row_sorted [Inhabited α] {e : TypeId} {k : Nat} {enc : α → List Value} (hk : ∀ x, (enc x).length = k) {g cap n : Nat} {L : List α} {d : Array α} {w : World} {F : Fp} {os : Array Obj} (h : (row e k enc (.slice (some ⟨g, 0, none⟩) L.length cap) L).on w F)
    (hs : d.size = L.length) : (row e k enc (.slice (some ⟨g, 0, none⟩) d.toList.length cap) d.toList).on (sortWorldK enc k w g 0 n d os) F ∧ Upd F F w (sortWorldK enc k w g 0 n d os) := by
  obtain ⟨⟨h1, h2⟩, rfl⟩ := h
  rcases h2 with ⟨h2, _⟩ | ⟨g', cap', cur, hv, hb, hg, hn, hc, hsz, ht⟩
  · cases h2
  · simp only [Value.slice.injEq, Option.some.injEq, Addr.mk.injEq, and_true] at hv
    obtain ⟨rfl, _, rfl⟩ := hv
    have hgl : g < w.heap.size := lt_of_heap hg
    have hobj : (sortWorldK enc k w g 0 n d os).obj g = some (.cells (putCells id 0 (flatK enc k d) cur) e (0, 0)) := by
      show (grow (putRowK enc k (Sort.ahead w n) g 0 d) os).heap[g]? = _
      rw [heap_grow_old _ _ (by rw [size_putRowK]; exact hgl)]
      have hg' : w.heap[g]? = _ := hg
      simp [putRowK, putRow, mapBlock, Sort.ahead, Array.getElem?_modify, hg', onCells]
    have hle : d.size * k ≤ cur.size := by rw [hsz, hs]; exact Nat.mul_le_mul_right _ hn
    refine ⟨⟨⟨by rw [flat_len enc hk], .inr ⟨g, cap, _, rfl, hb, hobj, by simp; omega, hc, by simp [putCells, hsz], ?_⟩⟩, rfl⟩, ?_⟩
    · rw [← flatK_toList enc hk d]
      apply List.ext_getElem?
      intro t
      rw [List.getElem?_take]
      simp only [Array.length_toList]
      by_cases htl : t < d.size * k
      · rw [if_pos htl, Array.getElem?_toList, Array.getElem?_toList]
        simp only [putCells, Array.getElem?_mapIdx, Array.getElem?_eq_getElem (show t < cur.size by omega), Array.getElem?_eq_getElem (show t < (flatK enc k d).size by simpa using htl)]
        simp only [Option.map_some, Option.some.injEq]
        rw [if_pos ⟨Nat.zero_le _, by simpa using htl⟩, Nat.sub_zero, getElem!_pos _ t (by simpa using htl)]
        rfl
      · rw [if_neg htl, List.getElem?_eq_none (by simp; omega)]
    · refine ⟨rfl, rfl, rfl, ?_, fun j hj hn => ?_, fun j hj => .inl hj⟩
      · show w.heap.size ≤ (grow (putRowK enc k (Sort.ahead w n) g 0 d) os).heap.size
        rw [size_grow, size_putRowK]
        exact Nat.le_add_right _ _
      · have hjg : j ≠ g := fun e => hn (by rw [e]; rfl)
        show (grow (putRowK enc k (Sort.ahead w n) g 0 d) os).heap[j]? = _
        rw [heap_grow_old _ _ (by rw [size_putRowK]; exact hj)]
        simp [putRowK, putRow, mapBlock, Sort.ahead, Array.getElem?_modify, show ¬ g = j from fun e => hjg e.symm, World.obj]

theorem perm_of_in [Inhabited α] {d d' : Array α} (h : PermIn 0 d.size d d') : d'.toList.Perm d.toList ∧ d'.size = d.size := by
  obtain ⟨h1, _, h2⟩ := h
  refine ⟨?_, h1⟩
  have e1 : d.extract 0 d.size = d := Array.extract_size
  have e2 : d'.extract 0 d.size = d' := by rw [← h1]; exact Array.extract_size
  rw [e1, e2] at h2
  exact h2
theorem sorted_of_in [Inhabited α] {lt : α → α → Bool} {d : Array α} {n : Nat} (hn : n = d.size) (h : SortedIn lt 0 n d) : d.toList.Pairwise fun x y => lt y x = false := by
  rw [List.pairwise_iff_getElem]
  intro i j hi hj hij
  have := h i j (Nat.zero_le _) hij (by rw [hn]; simpa using hj)
  rw [getElem!_pos _ j (by simpa using hj), getElem!_pos _ i (by simpa using hi)] at this
  simpa using this
end Go.Sub
