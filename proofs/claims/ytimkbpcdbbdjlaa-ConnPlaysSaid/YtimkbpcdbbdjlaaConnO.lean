/- What stays true of a table of connections, whatever is called. No program's text but for the names. -/
import Derived.Test.YtimkbpcdbbdjlaaConnN
namespace Go.Proofs.Ytimkbpcdbbdjlaa
open Go.RowKit Go.Sub Go.ChangeMaps
section
variable {κ V : Type} [DecidableEq κ]
theorem mget_mset (m : List (κ × V)) (x y : κ) (v : V) : mget (mset m x v) y = if x = y then some v else mget m y := by
  induction m with
  | nil => simp [mset, mget]
  | cons p m ih =>
    obtain ⟨k, u⟩ := p
    by_cases e : k = x
    · subst e; simp only [mset, if_pos, mget]; split <;> rfl
    · simp only [mset, if_neg e, mget, ih]
      by_cases e2 : k = y
      · subst e2; simp [show ¬ x = k from fun h => e h.symm]
      · simp [e2]
theorem mget_none {m : List (κ × V)} {x : κ} : mget m x = none ↔ x ∉ m.map (·.1) := by
  induction m with
  | nil => simp [mget]
  | cons p m ih =>
    obtain ⟨k, u⟩ := p
    by_cases e : k = x
    · subst e; simp [mget]
    · simp only [mget, if_neg e, ih, List.map_cons, List.mem_cons, not_or]
      exact ⟨fun h => ⟨fun q => e q.symm, h⟩, fun h => h.2⟩
theorem mset_keys {m : List (κ × V)} {x : κ} {v : V} (h : mget m x = some v) (v' : V) : (mset m x v').map (·.1) = m.map (·.1) := by
  induction m with
  | nil => cases h
  | cons p m ih =>
    obtain ⟨k, u⟩ := p
    by_cases e : k = x
    · simp [mset, e]
    · simp only [mget, if_neg e] at h; simp [mset, e, ih h]
theorem mem_mset {m : List (κ × V)} {x : κ} {v : V} {p : κ × V} (h : p ∈ mset m x v) : p ∈ m ∨ p = (x, v) := by
  induction m with
  | nil => simp [mset] at h; exact .inr h
  | cons q m ih =>
    obtain ⟨k, u⟩ := q
    by_cases e : k = x
    · simp only [mset, if_pos e, List.mem_cons] at h
      rcases h with h | h
      · exact .inr (by rw [h, e])
      · exact .inl (List.mem_cons_of_mem _ h)
    · simp only [mset, if_neg e, List.mem_cons] at h
      rcases h with h | h
      · exact .inl (by rw [h]; exact List.mem_cons_self ..)
      · rcases ih h with h | h
        · exact .inl (List.mem_cons_of_mem _ h)
        · exact .inr h
theorem mdel_sub (m : List (κ × V)) (x : κ) : (mdel m x).Sublist m := by
  induction m with
  | nil => exact List.Sublist.refl _
  | cons p m ih =>
    obtain ⟨k, u⟩ := p
    by_cases e : k = x
    · simp only [mdel, if_pos e]; exact List.sublist_cons_self ..
    · simp only [mdel, if_neg e]; exact ih.cons_cons _
theorem mget_mdel {m : List (κ × V)} (hm : (m.map (·.1)).Nodup) (x y : κ) : mget (mdel m x) y = if x = y then none else mget m y := by
  induction m with
  | nil => simp [mdel, mget]
  | cons p m ih =>
    obtain ⟨k, u⟩ := p
    rw [List.map_cons, List.nodup_cons] at hm
    by_cases e : k = x
    · subst e
      simp only [mdel, if_true, mget]
      by_cases e2 : k = y
      · subst e2; simpa using mget_none.2 hm.1
      · simp [e2]
    · simp only [mdel, if_neg e, mget, ih hm.2]
      by_cases e2 : k = y
      · subst e2; simp [show ¬ x = k from fun h => e h.symm]
      · simp [e2]
theorem mdel_len {m : List (κ × V)} {x : κ} {v : V} (h : mget m x = some v) : (mdel m x).length + 1 = m.length := by
  induction m with
  | nil => cases h
  | cons p m ih =>
    obtain ⟨k, u⟩ := p
    by_cases e : k = x
    · simp [mdel, e]
    · simp only [mget, if_neg e] at h; simp [mdel, e, ih h]
end
/-- what holds of a table -/
structure TInv (last : Int) (M : CT) : Prop where
  ok : AllOk M
  nd : (M.map (·.1)).Nodup
  rng : ∀ x ∈ M, 1 ≤ x.1 ∧ x.1 ≤ last
  l0 : 0 ≤ last
  few : M.length ≤ 64
theorem tinv_nil : TInv 0 [] := ⟨by simp, by simp, by simp, by omega, by simp⟩
theorem TInv.none {last : Int} {M : CT} (h : TInv last M) : mget M (last + 1) = none := mget_none.2 fun hm => by
  obtain ⟨x, hx, e⟩ := List.mem_map.1 hm
  have := h.rng x hx
  omega
theorem TInv.wf {last : Int} {M : CT} (h : TInv last M) (hl : last ≤ 1000000) : ∀ p ∈ M, (Lit.int .i64 p.1).wf = true := fun p hp => by
  have := h.rng p hp
  simp [Lit.wf, IntKind.min, IntKind.max, IntKind.signed, IntKind.bits]
  omega
theorem TInv.set {last : Int} {M : CT} (h : TInv last M) {id : Int} {c c' : Con} (hc : mget M id = some c) (hk : ConOk c') : TInv last (mset M id c') where
  ok := fun x hx => (mem_mset hx).elim (h.ok x) (fun e => by rw [e]; exact hk)
  nd := by rw [mset_keys hc]; exact h.nd
  rng := fun x hx => by
    have : x.1 ∈ (mset M id c').map (·.1) := List.mem_map_of_mem hx
    rw [mset_keys hc] at this
    obtain ⟨y, hy, e⟩ := List.mem_map.1 this
    rw [← e]; exact h.rng y hy
  l0 := h.l0
  few := by have := congrArg List.length (mset_keys hc c'); simp only [List.length_map] at this; rw [this]; exact h.few
theorem TInv.del {last : Int} {M : CT} (h : TInv last M) (id : Int) : TInv last (mdel M id) where
  ok := fun x hx => h.ok x ((mdel_sub M id).mem hx)
  nd := h.nd.sublist ((mdel_sub M id).map _)
  rng := fun x hx => h.rng x ((mdel_sub M id).mem hx)
  l0 := h.l0
  few := Nat.le_trans (mdel_sub M id).length_le h.few
theorem TInv.opens {last : Int} {M : CT} (h : TInv last M) (addr : Int) : TInv (openS last M addr).1 (openS last M addr).2.1 := by
  unfold openS
  split
  · exact h
  · have hl := h.l0
    refine ⟨fun x hx => ?_, ?_, fun x hx => ?_, by simp only; omega, by have := h.few; simp; omega⟩
    · rcases List.mem_append.1 hx with hx | hx
      · exact h.ok x hx
      · simp at hx; subst hx; exact ⟨by simp, by simp, by simp, by simp⟩
    · simp only [List.map_append, List.map_cons, List.map_nil]
      rw [List.nodup_append]
      refine ⟨h.nd, by simp, fun a ha b hb => ?_⟩
      simp at hb; subst hb
      intro e
      exact mget_none.1 h.none (by rw [← e]; exact ha)
    · simp only
      rcases List.mem_append.1 hx with hx | hx
      · have := h.rng x hx; omega
      · simp at hx; subst hx; simp only; omega
theorem openS_le (last : Int) (M : CT) (addr : Int) : last ≤ (openS last M addr).1 ∧ (openS last M addr).1 ≤ last + 1 := by
  unfold openS; split <;> simp only <;> omega
theorem TInv.feed {last : Int} {M : CT} (h : TInv last M) (id : Int) (b : List UInt8) : TInv last (feedS M id b).1 := by
  unfold feedS
  split
  · exact h
  · rename_i c hc
    split
    · exact h
    · have k : ConOk c := h.ok _ (mget_mem hc)
      refine h.set hc ⟨k.k0, k.k1, ?_, k.lo⟩
      have := k.li
      simp [List.length_take]; omega
theorem TInv.next {last : Int} {M : CT} (h : TInv last M) (id : Int) : TInv last (nextS M id).1 := by
  unfold nextS
  split
  · exact h
  · rename_i c hc
    have k : ConOk c := h.ok _ (mget_mem hc)
    refine h.set hc ⟨k.k0, k.k1, ?_, k.lo⟩
    have := k.li
    simp; omega
theorem TInv.rest {last : Int} {M : CT} (h : TInv last M) (id n : Int) : TInv last (restS M id n).1 := by
  unfold restS
  split
  · exact h
  · rename_i c hc
    have k : ConOk c := h.ok _ (mget_mem hc)
    refine h.set hc ⟨k.k0, k.k1, ?_, k.lo⟩
    have := k.li
    simp; omega
theorem TInv.say {last : Int} {M : CT} (h : TInv last M) (id : Int) (b : List UInt8) : TInv last (sayS M id b).1 := by
  unfold sayS
  split
  · exact h
  · rename_i c hc
    have k : ConOk c := h.ok _ (mget_mem hc)
    split
    · refine h.set hc ⟨k.k0, k.k1, k.li, ?_⟩
      have := k.lo
      simp; omega
    · exact h
theorem TInv.budget {last : Int} {M : CT} (h : TInv last M) (id n : Int) : TInv last (budgetS M id n).1 := by
  unfold budgetS
  split
  · exact h
  · rename_i c hc
    have k : ConOk c := h.ok _ (mget_mem hc)
    split
    · exact h
    · refine h.set hc ⟨?_, ?_, k.li, k.lo⟩
      · have := k.k0; simp only; omega
      · simp only; omega
theorem TInv.flush {last : Int} {M : CT} (h : TInv last M) (id : Int) : TInv last (flushS M id).1 := by
  unfold flushS
  split
  · exact h
  · rename_i c hc
    have k : ConOk c := h.ok _ (mget_mem hc)
    refine h.set hc ⟨?_, ?_, k.li, ?_⟩
    · have := k.k0; simp only; omega
    · have := k.k1; simp only; omega
    · have := k.lo; simp; omega
theorem TInv.half {last : Int} {M : CT} (h : TInv last M) (id : Int) : TInv last (halfS M id).1 := by
  unfold halfS
  split
  · exact h
  · rename_i c hc
    have k : ConOk c := h.ok _ (mget_mem hc)
    exact h.set hc ⟨k.k0, k.k1, k.li, k.lo⟩
theorem TInv.does {last : Int} {M : CT} (h : TInv last M) (o : COp) : TInv (doesS last M o).1 (doesS last M o).2 := by
  unfold doesS
  split
  · exact h.opens _
  · simp only
    repeat' split
    · exact h.del _
    · exact h.feed _ _
    · exact h.next _
    · exact h.rest _ _
    · exact h.say _ _
    · exact h.budget _ _
    · exact h.flush _
    · exact h.half _
theorem doesS_le (last : Int) (M : CT) (o : COp) : last ≤ (doesS last M o).1 ∧ (doesS last M o).1 ≤ last + 1 := by
  unfold doesS
  split
  · exact openS_le _ _ _
  · simp only; omega
theorem doesS_none {M : CT} {id : Int} (h : mget M id = none) :
    ofC M id false (fun _ => true) = false ∧ mdel M id = M ∧ (∀ b, feedS M id b = (M, 0)) ∧ nextS M id = (M, [], false, 0) ∧ (∀ n, restS M id n = (M, [])) ∧ (∀ b, sayS M id b = (M, false)) ∧ (∀ n, budgetS M id n = (M, false)) ∧ flushS M id = (M, []) ∧ halfS M id = (M, false) :=
  ⟨by simp [ofC, h], mdel_none h, fun b => by simp [feedS, h], by simp [nextS, h], fun n => by simp [restS, h], fun b => by simp [sayS, h], fun n => by simp [budgetS, h], by simp [flushS, h], by simp [halfS, h]⟩
theorem sees_old {W w : World} {F : Fp} {o : COp} (h : Bytes W o.v o.b) (hu : Upd none' F W w) (hl : o.b.length ≤ 40000) : Sees w F o :=
  ⟨(h.old hu).1, (h.old hu).2, by omega⟩
end Go.Proofs.Ytimkbpcdbbdjlaa
