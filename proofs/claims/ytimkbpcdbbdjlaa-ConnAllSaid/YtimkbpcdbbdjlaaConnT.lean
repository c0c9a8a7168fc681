/- ConnAll: plain facts. -/
import Derived.Test.YtimkbpcdbbdjlaaConnQ
import Derived.Test.YtimkbpcdbbdjlaaConnR
namespace Go.Sub
open Go.RowKit
def falses (n : Nat) : List Bool := List.replicate n false
theorem made_bools (n : Nat) : madeCells #[Value.bool false] n = ((falses n).map Value.bool).toArray := by
  simp only [falses, List.map_replicate]
  apply Array.ext
  · simp [madeCells]
  · intro i h1 h2
    simp [madeCells, Nat.mod_one]
theorem run_make_bools {P : Program} {t e : TypeId} (ht : P.underlying t = some (.slice e)) (hi : (P.info? e).map (fun i => (i.zero, i.size, i.bytes)) = some (some (.bool false), 1, 1)) (n : Nat) (hn : n ≤ 1000000000) : ∀ W : World,
    (Instr.makeSlice t (.int .i64 n) (.int .i64 n)).run P W = .ok (.slice (some ⟨W.heap.size, 0, none⟩) n n) (W.alloc (.cells ((falses n).map Value.bool).toArray e)) := by
  intro W
  obtain ⟨i, h0, h1⟩ := Option.map_eq_some_iff.1 hi
  simp only [Prod.mk.injEq] at h1
  have hr := run_make (P := P) W t e i (.bool false) ht h0 h1.1 .i64 .i64 n n (by omega) (Int.le_refl _) (by rw [h1.2.2]; omega) (by omega)
  rw [hr, h1.2.1, Nat.mul_one, Int.toNat_natCast]
  show _ = Result.ok _ (W.alloc (.cells _ e))
  rw [← made_bools]
  rfl
end Go.Sub
namespace Go.Proofs.Ytimkbpcdbbdjlaa
open Go.RowKit Go.Sub Go.ChangeMaps
namespace connAll
abbrev con0 (x : Int) : Con := ⟨x, [], [], 0, false⟩
/-- the table behind n openings -/
def opened (ad : List Int) (n : Nat) : CT := (List.range n).map fun j : Nat => ((j : Int) + 1, con0 (ad.getD j 0))
theorem opened_succ (ad : List Int) (n : Nat) : opened ad (n + 1) = opened ad n ++ [((n : Int) + 1, con0 (ad.getD n 0))] := by
  simp [opened, List.range_succ]
theorem opened_len (ad : List Int) (n : Nat) : (opened ad n).length = n := by simp [opened]
theorem opened_inv (ad : List Int) : ∀ n : Nat, n ≤ 60 → TInv n (opened ad n) ∧ (n < 60 → openS n (opened ad n) (ad.getD n 0) = ((n : Int) + 1, opened ad (n + 1), (n : Int) + 1, 0)) := by
  have hopen : ∀ n : Nat, n ≤ 60 → openS n (opened ad n) (ad.getD n 0) = ((n : Int) + 1, opened ad (n + 1), (n : Int) + 1, 0) := by
    intro n hn
    unfold openS
    rw [if_neg (by rw [opened_len]; omega), opened_succ]
  intro n hn
  refine ⟨?_, fun h => hopen n hn⟩
  induction n with
  | zero => exact tinv_nil
  | succ n ih =>
    have := (ih (by omega)).opens (ad.getD n 0)
    rw [hopen n (by omega)] at this
    simpa using this
theorem opened_get (ad : List Int) (n : Nat) (id : Int) : mget (opened ad n) id = if 1 ≤ id ∧ id ≤ n then some (con0 (ad.getD (id - 1).toNat 0)) else none := by
  induction n with
  | zero => rw [if_neg (by omega)]; rfl
  | succ n ih =>
    rw [opened_succ]
    by_cases h : id = (n : Int) + 1
    · have hn : mget (opened ad n) id = none := by rw [ih, if_neg (by omega)]
      rw [← mset_none _ (h ▸ hn), mget_mset, if_pos h.symm, if_pos (by omega)]
      congr 3
      omega
    · have e : mget (opened ad n ++ [((n : Int) + 1, con0 (ad.getD n 0))]) id = mget (opened ad n) id := by
        have hn : mget (opened ad n) ((n : Int) + 1) = none := by
          rw [mget_none]
          intro hm
          obtain ⟨x, hx, e⟩ := List.mem_map.1 hm
          obtain ⟨j, hj, rfl⟩ := List.mem_map.1 hx
          simp at hj e
          omega
        rw [← mset_none _ hn, mget_mset, if_neg (fun q => h q.symm)]
      rw [e, ih]
      by_cases h2 : 1 ≤ id ∧ id ≤ n
      · rw [if_pos h2, if_pos (by omega)]
      · rw [if_neg h2, if_neg (by omega)]
/-- what is there while connections are closed -/
structure Cl (ad : List Int) (M : CT) (G : List Bool) : Prop where
  inv : TInv ad.length M
  len : G.length = ad.length + 1
  get : ∀ id : Int, mget M id = if 1 ≤ id ∧ id ≤ ad.length ∧ G.getD id.toNat false = false then some (con0 (ad.getD (id - 1).toNat 0)) else none
theorem cl_start (ad : List Int) (h : ad.length ≤ 60) : Cl ad (opened ad ad.length) (falses (ad.length + 1)) := by
  refine ⟨(opened_inv ad ad.length h).1, by simp [falses], fun id => ?_⟩
  rw [opened_get]
  have : (falses (ad.length + 1)).getD id.toNat false = false := by simp [falses, List.getD, List.getElem?_replicate]; split <;> simp
  simp only [this, and_true]
theorem Cl.has {ad : List Int} {M : CT} {G : List Bool} (h : Cl ad M G) {n : Nat} (hn : n ≤ ad.length) : ofC M n false (fun _ => true) = (decide (0 < (n : Int)) && !(G.getD n false)) := by
  unfold ofC
  rw [h.get, Int.toNat_natCast]
  by_cases h0 : n = 0
  · subst h0; simp
  · cases hb : G.getD n false with
    | true => rw [if_neg (by simp)]; simp
    | false => rw [if_pos ⟨by omega, by omega, rfl⟩]; simp; omega
theorem Cl.close {ad : List Int} {M : CT} {G : List Bool} (h : Cl ad M G) {n : Nat} (hn : n ≤ ad.length) : Cl ad (mdel M n) (G.set n true) := by
  refine ⟨h.inv.del _, by simp [h.len], fun id => ?_⟩
  rw [mget_mdel h.inv.nd, h.get]
  have hlt : n < G.length := by have := h.len; omega
  by_cases e : (n : Int) = id
  · subst e
    have : (G.set n true).getD (n : Int).toNat false = true := by simp [List.getD, hlt]
    rw [if_pos rfl, this]; simp
  · rw [if_neg e]
    have : 1 ≤ id → (G.set n true).getD id.toNat false = G.getD id.toNat false := fun h1 => by
      simp only [List.getD, List.getElem?_set]
      rw [if_neg (by omega)]
    by_cases h1 : 1 ≤ id
    · rw [this h1]
    · rw [if_neg (by omega), if_neg (by omega)]
/-- what is wanted, up to a number -/
def want (G : List Bool) (n : Nat) : List Int := ((List.range n).filter fun j : Nat => !(G.getD (j + 1) false)).map fun j : Nat => (j : Int) + 1
theorem want_succ (G : List Bool) (n : Nat) : want G (n + 1) = want G n ++ if G.getD (n + 1) false = true then [] else [(n : Int) + 1] := by
  unfold want
  rw [List.range_succ, List.filter_append, List.map_append]
  cases h : G.getD (n + 1) false with
  | true => simp only [List.filter_cons, List.filter_nil, h]; simp
  | false => simp only [List.filter_cons, List.filter_nil, h]; simp
theorem want_len (G : List Bool) (n : Nat) : (want G n).length ≤ n := by
  unfold want
  rw [List.length_map]
  exact Nat.le_trans (List.length_filter_le _ _) (by simp)
theorem want_rises (G : List Bool) (n : Nat) : (want G n).Pairwise (· < ·) := by
  unfold want
  rw [List.pairwise_map]
  refine List.Pairwise.filter _ (List.pairwise_lt_range.imp fun h => by omega)
theorem Cl.all {ad : List Int} {M : CT} {G : List Bool} (h : Cl ad M G) : keysOf (M.map (·.1)) = want G ad.length := by
  have hp : (M.map (·.1)).Perm (want G ad.length) := by
    refine (List.perm_ext_iff_of_nodup h.inv.nd ((want_rises G _).imp fun h => Int.ne_of_lt h)).2 fun id => ?_
    have h1 : id ∈ M.map (·.1) ↔ mget M id ≠ none := by rw [Ne, mget_none, Decidable.not_not]
    rw [h1, h.get]
    unfold want
    simp only [List.mem_map, List.mem_filter, List.mem_range]
    constructor
    · intro hne
      by_cases hc : 1 ≤ id ∧ id ≤ ad.length ∧ G.getD id.toNat false = false
      · refine ⟨(id - 1).toNat, ⟨by omega, ?_⟩, by omega⟩
        rw [show (id - 1).toNat + 1 = id.toNat from by omega, hc.2.2]; rfl
      · rw [if_neg hc] at hne; exact absurd rfl hne
    · rintro ⟨j, ⟨hj, hg⟩, rfl⟩
      rw [if_pos]
      · simp
      · refine ⟨by omega, by omega, ?_⟩
        rw [show ((j : Int) + 1).toNat = j + 1 from by omega]
        simpa using hg
  unfold keysOf
  rw [mergeSort_of_perm_i hp]
  exact List.mergeSort_of_pairwise ((want_rises G _).imp fun h => by simpa using Int.le_of_lt h)
theorem Cl.addr {ad : List Int} {M : CT} {G : List Bool} (h : Cl ad M G) {n : Nat} (hn : n < ad.length) (hg : G.getD (n + 1) false = false) : ofC M ((n : Int) + 1) 0 Con.addr = ad[n] := by
  unfold ofC
  rw [h.get, if_pos ⟨by omega, by omega, by rw [show ((n : Int) + 1).toNat = n + 1 from by omega]; exact hg⟩]
  simp only
  rw [show ((n : Int) + 1 - 1).toNat = n from by omega]
  simp [List.getD, hn]
end connAll
end Go.Proofs.Ytimkbpcdbbdjlaa
