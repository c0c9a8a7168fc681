/- The table of pairs: plain facts. No program in sight. -/
import Derived.Test.YtnjdhijngioljaaPairB
namespace Go.Sub
section
variable {κ V : Type} [DecidableEq κ]
def NoTwice (m : List (κ × V)) : Prop := (m.map (·.1)).Nodup
theorem mget_none {m : List (κ × V)} {x : κ} : mget m x = none ↔ x ∉ m.map (·.1) := by
  induction m with
  | nil => simp [mget]
  | cons p m ih =>
    obtain ⟨k, u⟩ := p
    by_cases e : k = x
    · subst e; simp [mget]
    · simp only [mget, if_neg e, ih, List.map_cons, List.mem_cons, not_or]
      exact ⟨fun h => ⟨fun q => e q.symm, h⟩, fun h => h.2⟩
theorem mget_mem {m : List (κ × V)} (hm : NoTwice m) {x : κ} {v : V} (h : (x, v) ∈ m) : mget m x = some v := by
  induction m with
  | nil => simp at h
  | cons p m ih =>
    obtain ⟨k, u⟩ := p
    simp only [NoTwice, List.map_cons, List.nodup_cons] at hm
    rcases List.mem_cons.1 h with h | h
    · simp only [Prod.mk.injEq] at h; simp [mget, h]
    · have hne : k ≠ x := fun e => hm.1 (e ▸ List.mem_map.2 ⟨_, h, rfl⟩)
      simp only [mget, if_neg hne]
      exact ih hm.2 h
theorem mem_of_get {m : List (κ × V)} {x : κ} {v : V} (h : mget m x = some v) : (x, v) ∈ m := by
  induction m with
  | nil => simp [mget] at h
  | cons p m ih =>
    obtain ⟨k, u⟩ := p
    by_cases e : k = x
    · subst e; simp [mget] at h; simp [h]
    · simp [mget, e] at h; exact .tail _ (ih h)
theorem mset_absent {m : List (κ × V)} {x : κ} (h : mget m x = none) (v : V) : mset m x v = m ++ [(x, v)] := by
  induction m with
  | nil => rfl
  | cons p m ih =>
    obtain ⟨k, u⟩ := p
    by_cases e : k = x
    · subst e; simp [mget] at h
    · simp only [mget, if_neg e] at h
      simp only [mset, if_neg e, ih h, List.cons_append]
theorem mdel_perm {m : List (κ × V)} {x : κ} {v : V} (h : mget m x = some v) : m.Perm ((x, v) :: mdel m x) := by
  induction m with
  | nil => simp [mget] at h
  | cons p m ih =>
    obtain ⟨k, u⟩ := p
    by_cases e : k = x
    · subst e; simp [mget] at h; subst h; simp [mdel]
    · simp only [mget, if_neg e] at h
      simp only [mdel, if_neg e]
      exact ((ih h).cons _).trans (List.Perm.swap ..)
theorem mget_of_perm {m m' : List (κ × V)} (hm : NoTwice m) (hp : m.Perm m') (x : κ) : mget m' x = mget m x := by
  have hm' : NoTwice m' := (hp.map _).nodup_iff.1 hm
  cases h : mget m x with
  | none =>
    rw [mget_none] at h ⊢
    exact fun q => h ((hp.map _).mem_iff.2 q)
  | some v => exact mget_mem hm' (hp.mem_iff.1 (mem_of_get h))
theorem mget_mdel {m : List (κ × V)} (hm : NoTwice m) {x : κ} {v : V} (h : mget m x = some v) (y : κ) : mget (mdel m x) y = if x = y then none else mget m y := by
  have hp := mdel_perm h
  have hm' : NoTwice ((x, v) :: mdel m x) := (hp.map _).nodup_iff.1 hm
  have h1 := mget_of_perm hm hp y
  by_cases e : x = y
  · subst e
    rw [if_pos rfl, mget_none]
    exact (List.nodup_cons.1 hm').1
  · rw [if_neg e, ← h1]
    simp [mget, e]
theorem noTwice_mdel {m : List (κ × V)} (hm : NoTwice m) (x : κ) : NoTwice (mdel m x) := by
  cases h : mget m x with
  | none =>
    have : mdel m x = m := by
      clear hm
      induction m with
      | nil => rfl
      | cons p m ih =>
        obtain ⟨k, u⟩ := p
        by_cases e : k = x
        · subst e; simp [mget] at h
        · simp only [mget, if_neg e] at h
          simp only [mdel, if_neg e, ih h]
    rw [this]; exact hm
  | some v => exact (List.nodup_cons.1 (((mdel_perm h).map _).nodup_iff.1 hm)).2
theorem noTwice_mset {m : List (κ × V)} (hm : NoTwice m) (x : κ) (v : V) : NoTwice (mset m x v) := by
  induction m with
  | nil => simp [NoTwice, mset]
  | cons p m ih =>
    obtain ⟨k, u⟩ := p
    have hm2 := List.nodup_cons.1 hm
    by_cases e : k = x
    · subst e; simpa [mset, NoTwice] using hm
    · simp only [mset, if_neg e]
      refine List.nodup_cons.2 ⟨?_, ih hm2.2⟩
      intro hmem
      obtain ⟨⟨k', u'⟩, h1, h2⟩ := List.mem_map.1 hmem
      simp only at h2
      subst h2
      have : ∀ {m : List (κ × V)} {p : κ × V}, p ∈ mset m x v → p = (x, v) ∨ p ∈ m := by
        intro m p h
        induction m with
        | nil => simpa [mset] using h
        | cons q m ih =>
          obtain ⟨a, b⟩ := q
          by_cases e2 : a = x
          · subst e2; simp [mset] at h; rcases h with h | h <;> simp [h]
          · simp [mset, e2] at h
            rcases h with h | h
            · simp [h]
            · rcases ih h with h | h <;> simp [h]
      rcases this h1 with h | h
      · exact e (by simpa using congrArg Prod.fst h)
      · exact hm2.1 (List.mem_map.2 ⟨_, h, rfl⟩)
end
end Go.Sub

namespace Go.Proofs.Ytnjdhijngioljaa
open Go.Sub
structure Inv (T : Tab) : Prop where
  once : NoTwice T.ends
  back : ∀ x y s, mget T.ends x = some (y, s) → mget T.ends y = some (x, !s) ∧ x ≠ y
  ever : ∀ x p, mget T.ends x = some p → T.was x = true
  ones : ∀ p ∈ T.ever, p.2 = 1
theorem inv_nil : Inv ⟨[], []⟩ := ⟨by simp [NoTwice], by simp [mget], by simp [mget], by simp⟩
theorem was_iff {T : Tab} (h : ∀ p ∈ T.ever, p.2 = 1) (x : Int) : T.was x = true ↔ mget T.ever x ≠ none := by
  cases hg : mget T.ever x with
  | none => simp [Tab.was, hg]
  | some n =>
    have := h _ (mem_of_mget hg)
    simp only at this
    simp [Tab.was, hg, this]
theorem join_ok_eq {T : Tab} {v c : Int} (h : (T.join v c).2 = 0) : 1 ≤ v ∧ 1 ≤ c ∧ v ≠ c ∧ T.was v = false ∧ T.was c = false ∧ (T.join v c).1 = ⟨mset (mset T.ends v (c, true)) c (v, false), mset (mset T.ever v 1) c 1⟩ := by
  unfold Tab.join at h ⊢
  by_cases h1 : v < 1 ∨ c < 1 ∨ v = c
  · simp [h1] at h
  · by_cases h2 : T.was v = true ∨ T.was c = true
    · simp [h1, h2] at h
    · simp only [if_neg h1, if_neg h2]
      exact ⟨by omega, by omega, by omega, by simpa using fun q => h2 (.inl q), by simpa using fun q => h2 (.inr q), trivial⟩
theorem join_no {T : Tab} {v c : Int} (h : (T.join v c).2 ≠ 0) : (T.join v c).1 = T := by
  unfold Tab.join at h ⊢
  by_cases h1 : v < 1 ∨ c < 1 ∨ v = c
  · simp [h1]
  · by_cases h2 : T.was v = true ∨ T.was c = true
    · simp [h1, h2]
    · simp [h1, h2] at h
theorem join_code (T : Tab) (v c : Int) : (T.join v c).2 = if v < 1 ∨ c < 1 ∨ v = c then 1 else if T.was v = true ∨ T.was c = true then 4 else 0 := by
  unfold Tab.join
  by_cases h1 : v < 1 ∨ c < 1 ∨ v = c
  · simp [h1]
  · by_cases h2 : T.was v = true ∨ T.was c = true
    · simp [h1, h2]
    · simp [h1, h2]
theorem not_in {T : Tab} (hI : Inv T) {x : Int} (h : T.was x = false) : mget T.ends x = none := by
  cases hg : mget T.ends x with
  | none => rfl
  | some p => rw [hI.ever x p hg] at h; cases h
theorem join_ends {T : Tab} (hI : Inv T) {v c : Int} (h : (T.join v c).2 = 0) : (T.join v c).1.ends = T.ends ++ [(v, (c, true)), (c, (v, false))] := by
  obtain ⟨_, _, hvc, wv, wc, e⟩ := join_ok_eq h
  rw [e]
  have g1 := not_in hI wv
  have g2 := not_in hI wc
  show mset (mset T.ends v (c, true)) c (v, false) = _
  rw [mset_absent g1, mset_absent (by
    rw [mget_none]; rw [mget_none] at g2
    simp only [List.map_append, List.map_cons, List.map_nil, List.mem_append, List.mem_singleton, not_or]
    exact ⟨g2, fun q => hvc q.symm⟩), List.append_assoc]
  rfl
theorem join_was {T : Tab} (_hI : Inv T) {v c : Int} (h : (T.join v c).2 = 0) (x : Int) : (T.join v c).1.was x = (T.was x || decide (x = v) || decide (x = c)) := by
  obtain ⟨_, _, hvc, wv, wc, e⟩ := join_ok_eq h
  rw [e]
  show decide (0 < (mget (mset (mset T.ever v 1) c 1) x).getD 0) = _
  rw [mget_mset, mget_mset]
  by_cases h1 : c = x
  · subst h1; simp
  · by_cases h2 : v = x
    · subst h2; simp [h1]
    · simp [h1, h2, Tab.was, show ¬ x = v from fun q => h2 q.symm, show ¬ x = c from fun q => h1 q.symm]
theorem inv_join {T : Tab} (hI : Inv T) (v c : Int) : Inv (T.join v c).1 := by
  by_cases h : (T.join v c).2 = 0
  case neg => rw [join_no h]; exact hI
  have hends := join_ends hI h
  have hwas := join_was hI h
  obtain ⟨_, _, hvc, wv, wc, e⟩ := join_ok_eq h
  have g1 := not_in hI wv
  have g2 := not_in hI wc
  have hget : ∀ x, mget (T.join v c).1.ends x = if c = x then some (v, false) else if v = x then some (c, true) else mget T.ends x := by
    intro x
    rw [e]
    show mget (mset (mset T.ends v (c, true)) c (v, false)) x = _
    rw [mget_mset, mget_mset]
  refine ⟨?_, fun x y s hg => ?_, fun x p hg => ?_, ?_⟩
  · rw [e]; exact noTwice_mset (noTwice_mset hI.once _ _) _ _
  · rw [hget] at hg
    rw [hget]
    by_cases h1 : c = x
    · subst h1
      rw [if_pos rfl] at hg
      simp only [Option.some.injEq, Prod.mk.injEq] at hg
      obtain ⟨rfl, rfl⟩ := hg
      rw [if_neg (fun q => hvc q.symm), if_pos rfl]
      exact ⟨rfl, fun q => hvc q.symm⟩
    · rw [if_neg h1] at hg
      by_cases h2 : v = x
      · subst h2
        rw [if_pos rfl] at hg
        simp only [Option.some.injEq, Prod.mk.injEq] at hg
        obtain ⟨rfl, rfl⟩ := hg
        rw [if_pos rfl]
        exact ⟨rfl, hvc⟩
      · rw [if_neg h2] at hg
        obtain ⟨hb, hne⟩ := hI.back x y s hg
        rw [if_neg (fun q => by rw [← q, g2] at hb; cases hb), if_neg (fun q => by rw [← q, g1] at hb; cases hb)]
        exact ⟨hb, hne⟩
  · rw [hwas]
    rw [hget] at hg
    by_cases h1 : c = x
    · subst h1; simp
    · by_cases h2 : v = x
      · subst h2; simp
      · rw [if_neg h1, if_neg h2] at hg
        simp [hI.ever x p hg]
  · rw [e]
    intro p hp
    rcases mem_mset hp with rfl | hp
    · rfl
    · rcases mem_mset hp with rfl | hp
      · rfl
      · exact hI.ones p hp
theorem part_get {T : Tab} (hI : Inv T) {id o : Int} {s : Bool} (h : mget T.ends id = some (o, s)) (x : Int) : mget (T.part id).ends x = if x = id ∨ x = o then none else mget T.ends x := by
  obtain ⟨hb, hne⟩ := hI.back id o s h
  simp only [Tab.part, h]
  have h1 := mget_mdel hI.once h
  have h2 : mget (mdel T.ends id) o = some (id, !s) := by rw [h1, if_neg hne]; exact hb
  rw [mget_mdel (noTwice_mdel hI.once id) h2, h1]
  by_cases e1 : o = x
  · subst e1; simp
  · by_cases e2 : id = x
    · subst e2; simp [e1]
    · rw [if_neg e1, if_neg e2, if_neg]
      rintro (q | q)
      · exact e2 q.symm
      · exact e1 q.symm
theorem inv_part {T : Tab} (hI : Inv T) (id : Int) : Inv (T.part id) := by
  cases h : mget T.ends id with
  | none => rw [show T.part id = T from by simp [Tab.part, h]]; exact hI
  | some p =>
    obtain ⟨o, s⟩ := p
    have hget := part_get hI h
    obtain ⟨hb, hne⟩ := hI.back id o s h
    have hev : (T.part id).ever = T.ever := by simp [Tab.part, h]
    have hwas : ∀ x, (T.part id).was x = T.was x := fun x => by simp [Tab.was, hev]
    refine ⟨?_, fun x y t hg => ?_, fun x p hg => ?_, ?_⟩
    · have : (T.part id).ends = mdel (mdel T.ends id) o := by simp [Tab.part, h]
      rw [this]; exact noTwice_mdel (noTwice_mdel hI.once _) _
    · rw [hget] at hg
      split at hg
      · cases hg
      · rename_i hn
        obtain ⟨hb2, hne2⟩ := hI.back x y t hg
        rw [hget, if_neg]
        · exact ⟨hb2, hne2⟩
        · rintro (q | q)
          · subst q; rw [h] at hb2; simp only [Option.some.injEq, Prod.mk.injEq] at hb2; exact hn (.inr hb2.1.symm)
          · subst q; rw [hb] at hb2; simp only [Option.some.injEq, Prod.mk.injEq] at hb2; exact hn (.inl hb2.1.symm)
    · rw [hget] at hg
      split at hg
      · cases hg
      · rw [hwas]; exact hI.ever x p hg
    · rw [hev]; exact hI.ones
theorem part_was (T : Tab) (id x : Int) : (T.part id).was x = T.was x := by
  have : (T.part id).ever = T.ever := by unfold Tab.part; split <;> rfl
  simp [Tab.was, this]
theorem vis_join {T : Tab} (hI : Inv T) {v c : Int} (h : (T.join v c).2 = 0) : vis (T.join v c).1.ends = vis T.ends ++ [(v, c)] := by
  rw [join_ends hI h]; simp [vis]
theorem vis_part {T : Tab} (hI : Inv T) {id o : Int} {s : Bool} (h : mget T.ends id = some (o, s)) : (vis T.ends).Perm ((if s = true then (id, o) else (o, id)) :: vis (T.part id).ends) := by
  obtain ⟨hb, hne⟩ := hI.back id o s h
  have h1 := mget_mdel hI.once h
  have h2 : mget (mdel T.ends id) o = some (id, !s) := by rw [h1, if_neg hne]; exact hb
  have p1 := mdel_perm h
  have p2 := mdel_perm h2
  have e : (T.part id).ends = mdel (mdel T.ends id) o := by simp [Tab.part, h]
  rw [e]
  have p3 : (vis T.ends).Perm (vis ((id, (o, s)) :: (o, (id, !s)) :: mdel (mdel T.ends id) o)) := (p1.trans (p2.cons _)).filterMap _
  refine p3.trans ?_
  cases s <;> simp [vis]
theorem mem_vis {T : Tab} (hI : Inv T) {p : Int × Int} : p ∈ vis T.ends ↔ mget T.ends p.1 = some (p.2, true) := by
  simp only [vis, List.mem_filterMap]
  constructor
  · rintro ⟨⟨k, y, s⟩, h1, h2⟩
    cases s
    · simp at h2
    · simp at h2; subst h2; exact mget_mem hI.once h1
  · intro h
    exact ⟨_, mem_of_get h, by simp⟩
theorem vis_nodup {T : Tab} (hI : Inv T) : ((vis T.ends).map (·.1)).Nodup := by
  have : ((vis T.ends).map (·.1)).Sublist (T.ends.map (·.1)) := by
    have : ∀ l : List (Int × (Int × Bool)), ((vis l).map (·.1)).Sublist (l.map (·.1)) := by
      intro l
      induction l with
      | nil => exact .slnil
      | cons p l ih =>
        obtain ⟨k, y, s⟩ := p
        cases s
        · simpa [vis] using ih.cons k
        · simpa [vis] using ih.cons_cons k
    exact this _
  exact hI.once.sublist this
theorem all_strict {T : Tab} (hI : Inv T) {L : List (Int × Int)} (h : AllOf T L) : L.Pairwise fun x y => x.1 < y.1 := by
  have hn : (L.map (·.1)).Nodup := (h.perm.map _).nodup_iff.2 (vis_nodup hI)
  have hn' : L.Pairwise fun x y => x.1 ≠ y.1 := by simpa [List.Nodup, List.pairwise_map] using hn
  exact (hn'.and h.rising).imp fun ⟨a, b⟩ => by omega
theorem all_unique {T : Tab} (hI : Inv T) {L K : List (Int × Int)} (h : AllOf T L) (hp : K.Perm L) (hs : K.Pairwise fun x y => x.1 < y.1) : K = L :=
  List.Perm.eq_of_pairwise (fun a b _ _ h1 h2 => by omega) hs (all_strict hI h) hp
end Go.Proofs.Ytnjdhijngioljaa
