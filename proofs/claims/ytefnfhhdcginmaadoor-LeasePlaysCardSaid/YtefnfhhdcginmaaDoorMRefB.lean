/- joined: RefL RefM RefN RefO -/
import Derived.Test.YtefnfhhdcginmaaDoorMRefA
import Derived.Test.YtefnfhhdcginmaaDoorRefMI
import Derived.Test.YtefnfhhdcginmaaDoorLeaseX0
import Derived.Test.YtefnfhhdcginmaaDoorLeaseT
import Derived.Deep.RegionHeld3
import Derived.Deep.CutBlock
import Derived.Deep.DeepCutAuto
/- The document's book of leases beside the program's: the plain law. -/
set_option linter.unusedVariables false
set_option linter.unusedSimpArgs false
namespace Go.Proofs.YtefnfhhdcginmaaDoor
open Go.ChangeShapes Go.WideShapes Go.ChangeAt Go.RowKit Go.Sub Go.ChangeMaps
namespace LzRel
abbrev bl (x y : ByteArray) : Prop := Op.bytesLess x.toList y.toList = true
theorem bl_iff (x y : ByteArray) : bl x y ↔ x.data.toList < y.data.toList := by
  unfold bl
  rw [Go.Proofs.bytesLess_eq, ByteArray.toList_eq, ByteArray.toList_eq, decide_eq_true_eq]
theorem bl_irrefl (x : ByteArray) : ¬ bl x x := by rw [bl_iff]; exact List.lt_irrefl _
theorem bl_trans {x y z : ByteArray} (h : bl x y) (h' : bl y z) : bl x z := by rw [bl_iff] at *; exact List.lt_trans h h'
theorem bl_tri {x y : ByteArray} (h : ¬ bl x y) (hn : x ≠ y) : bl y x := by
  rw [bl_iff] at *
  exact Classical.byContradiction fun hlt => hn (WideShapes.bytes_inj (List.le_antisymm (List.not_lt.1 hlt) (List.not_lt.1 h)))
theorem ge_iff (x y : ByteArray) : geB x y = true ↔ ¬ bl x y := by unfold geB bl; cases Op.bytesLess x.toList y.toList <;> simp
abbrev Srt (L : List Lz) : Prop := L.Pairwise fun x y => bl x.name y.name
theorem srt_nodup {L : List Lz} (h : Srt L) : (L.map (·.name)).Nodup := by
  rw [List.nodup_iff_pairwise_ne, List.pairwise_map]
  exact h.imp fun {a b} hab (e : a.name = b.name) => bl_irrefl b.name (by rw [e] at hab; exact hab)
theorem find_mem {L : List Lz} (h : Srt L) {x : Lz} : L.find? (isN x.name) = some x ↔ x ∈ L := by
  constructor
  · exact fun he => List.mem_of_find?_eq_some he
  · intro hx
    induction L with
    | nil => cases hx
    | cons y L ih =>
      replace h := List.pairwise_cons.1 h
      by_cases e : y.name = x.name
      · rw [List.find?_cons_of_pos (by simp [e])]
        rcases List.mem_cons.1 hx with rfl | hx'
        · rfl
        · exact absurd (h.1 x hx') (by rw [e]; exact bl_irrefl _)
      · rw [List.find?_cons_of_neg (by simp [e])]
        rcases List.mem_cons.1 hx with rfl | hx'
        · exact absurd rfl e
        · exact ih h.2 hx'
theorem find_name {L : List Lz} {nm : ByteArray} {x : Lz} (h : L.find? (isN nm) = some x) : x.name = nm := by
  have := List.find?_some h
  simpa using this
/-- two rows in order, alike at each name, are the same -/
theorem srt_ext {L L' : List Lz} (h : Srt L) (h' : Srt L') (hf : ∀ nm, L.find? (isN nm) = L'.find? (isN nm)) : L = L' := by
  refine List.Perm.eq_of_pairwise (le := fun x y : Lz => bl x.name y.name) (fun a b _ _ h1 h2 => absurd (bl_trans h1 h2) (bl_irrefl _)) h h' ?_
  have n1 : L.Nodup := List.nodup_iff_pairwise_ne.2 (h.imp fun {a b} hab (e : a = b) => bl_irrefl b.name (by rw [e] at hab; exact hab))
  have n2 : L'.Nodup := List.nodup_iff_pairwise_ne.2 (h'.imp fun {a b} hab (e : a = b) => bl_irrefl b.name (by rw [e] at hab; exact hab))
  refine (List.perm_ext_iff_of_nodup n1 n2).2 fun x => ?_
  rw [← find_mem h, ← find_mem h', hf]
/-- what a 'put' makes, in plain words -/
def insL (c : Lz) : List Lz → List Lz
  | [] => [c]
  | x :: L => if bl x.name c.name then x :: insL c L else if x.name = c.name then c :: L else c :: x :: L
theorem pfold_app (c : Lz) (A : List Lz) (f : Bool) (L : List Lz) : ∀ A f, (L.foldl (pstep c) (A, f)) = (A ++ (L.foldl (pstep c) ([], f)).1, (L.foldl (pstep c) ([], f)).2) := by
  induction L with
  | nil => intro A f; simp
  | cons x L ih =>
    intro A f
    simp only [List.foldl_cons]
    have h1 : ∀ B : List Lz, pstep c (B, f) x = (B ++ (pstep c ([], f) x).1, (pstep c ([], f) x).2) := by
      intro B
      simp only [pstep]
      cases f <;> cases geB x.name c.name <;> by_cases e : x.name = c.name <;> simp [e]
    rw [h1 A, ih, h1 [], ih (([] : List Lz) ++ _)]
    simp
theorem pfold_done {c : Lz} : ∀ {L : List Lz}, (∀ x ∈ L, x.name ≠ c.name) → L.foldl (pstep c) ([], true) = (L, true)
  | [], _ => rfl
  | x :: L, h => by
    have e : x.name ≠ c.name := h x (by simp)
    rw [List.foldl_cons, show pstep c ([], true) x = ([x], true) by simp [pstep, e], pfold_app c [] true, pfold_done (fun y hy => h y (by simp [hy]))]
    rfl
theorem put_ins {c : Lz} : ∀ {L : List Lz}, Srt L → rput L c = insL c L
  | [], _ => by simp [rput, pfold, insL]
  | x :: L, h => by
    replace h := List.pairwise_cons.1 h
    unfold insL
    by_cases h1 : bl x.name c.name
    · rw [if_pos h1]
      have e : x.name ≠ c.name := fun e => bl_irrefl c.name (by rw [e] at h1; exact h1)
      have hg : geB x.name c.name = false := by cases hh : geB x.name c.name with | false => rfl | true => exact absurd h1 ((ge_iff _ _).1 hh)
      rw [← put_ins h.2]
      have hs : (x :: L).foldl (pstep c) ([], false) = ([x] ++ (L.foldl (pstep c) ([], false)).1, (L.foldl (pstep c) ([], false)).2) := by
        rw [List.foldl_cons, show pstep c ([], false) x = ([x], false) by simp [pstep, e, hg], pfold_app c [x] false]
      unfold rput pfold
      rw [hs]
      simp only
      split <;> simp
    · rw [if_neg h1]
      have hg : geB x.name c.name = true := (ge_iff _ _).2 h1
      by_cases e : x.name = c.name
      · rw [if_pos e]
        have hs : (x :: L).foldl (pstep c) ([], false) = ([c] ++ L, true) := by
          rw [List.foldl_cons, show pstep c ([], false) x = ([c], true) by simp [pstep, e, (e ▸ hg : geB c.name c.name = true)], pfold_app c [c] true, pfold_done]
          intro y hy q
          have := h.1 y hy
          rw [q, e] at this
          exact bl_irrefl _ this
        unfold rput pfold
        rw [hs]
        simp
      · rw [if_neg e]
        have hc := bl_tri h1 e
        have hs : (x :: L).foldl (pstep c) ([], false) = ([c, x] ++ L, true) := by
          rw [List.foldl_cons, show pstep c ([], false) x = ([c, x], true) by simp [pstep, e, hg], pfold_app c [c, x] true, pfold_done]
          intro y hy q
          have := h.1 y hy
          rw [q] at this
          exact bl_irrefl _ (bl_trans hc this)
        unfold rput pfold
        rw [hs]
        simp
theorem ins_mem {c y : Lz} : ∀ {L : List Lz}, y ∈ insL c L → y = c ∨ y ∈ L
  | [], h => by simp [insL] at h; exact .inl h
  | x :: L, h => by
    unfold insL at h
    split at h
    · rcases List.mem_cons.1 h with h | h
      · exact .inr (by simp [h])
      · rcases ins_mem h with h | h
        · exact .inl h
        · exact .inr (by simp [h])
    · split at h
      · rcases List.mem_cons.1 h with h | h
        · exact .inl h
        · exact .inr (by simp [h])
      · rcases List.mem_cons.1 h with h | h
        · exact .inl h
        · exact .inr h
theorem ins_srt {c : Lz} : ∀ {L : List Lz}, Srt L → Srt (insL c L)
  | [], _ => by simp [insL]
  | x :: L, h => by
    replace h := List.pairwise_cons.1 h
    unfold insL
    split
    · rename_i h1
      rw [Srt, List.pairwise_cons]
      refine ⟨fun y hy => ?_, ins_srt h.2⟩
      rcases ins_mem hy with rfl | hy
      · exact h1
      · exact h.1 y hy
    · rename_i h1
      split
      · rename_i e
        rw [Srt, List.pairwise_cons]
        exact ⟨fun y hy => by rw [← e]; exact h.1 y hy, h.2⟩
      · rename_i e
        have hc := bl_tri h1 e
        rw [Srt, List.pairwise_cons, List.pairwise_cons]
        refine ⟨fun y hy => ?_, h⟩
        rcases List.mem_cons.1 hy with rfl | hy
        · exact hc
        · exact bl_trans hc (h.1 y hy)
theorem ins_find {c : Lz} : ∀ {L : List Lz} (nm : ByteArray), (insL c L).find? (isN nm) = if c.name = nm then some c else L.find? (isN nm)
  | [], nm => by
    by_cases e : c.name = nm <;> simp [insL, e]
  | x :: L, nm => by
    unfold insL
    split
    · rename_i h1
      have hne : x.name ≠ c.name := fun e => bl_irrefl c.name (by rw [e] at h1; exact h1)
      by_cases e2 : x.name = nm
      · have : c.name ≠ nm := fun q => hne (e2.trans q.symm)
        simp [List.find?_cons, e2, this]
      · rw [List.find?_cons_of_neg (by simp [e2]), List.find?_cons_of_neg (by simp [e2])]
        exact ins_find nm
    · split
      · rename_i e
        by_cases e2 : c.name = nm
        · simp [List.find?_cons, e2]
        · have : x.name ≠ nm := fun q => e2 (e.symm.trans q)
          simp [List.find?_cons, e2, this]
      · by_cases e2 : c.name = nm <;> simp [List.find?_cons, e2]
theorem put_srt {L : List Lz} (h : Srt L) (c : Lz) : Srt (rput L c) := by rw [put_ins h]; exact ins_srt h
theorem put_find {L : List Lz} (h : Srt L) (c : Lz) (nm : ByteArray) : (rput L c).find? (isN nm) = if c.name = nm then some c else L.find? (isN nm) := by rw [put_ins h]; exact ins_find nm
theorem drop_srt {L : List Lz} (h : Srt L) (n : ByteArray) : Srt (rdrop L n) := h.sublist List.filter_sublist
theorem drop_find (L : List Lz) (n nm : ByteArray) : (rdrop L n).find? (isN nm) = if n = nm then none else L.find? (isN nm) := by
  unfold rdrop
  induction L with
  | nil => simp
  | cons x L ih =>
    by_cases e : x.name = n
    · rw [List.filter_cons_of_neg (by simp [e]), ih]
      by_cases e2 : n = nm
      · rw [if_pos e2, if_pos e2]
      · rw [if_neg e2, if_neg e2, List.find?_cons_of_neg (by simp [e, e2])]
    · rw [List.filter_cons_of_pos (by simp [e])]
      by_cases e2 : x.name = nm
      · have : n ≠ nm := fun q => e (e2.trans q.symm)
        rw [List.find?_cons_of_pos (by simp [e2]), List.find?_cons_of_pos (by simp [e2]), if_neg this]
      · rw [List.find?_cons_of_neg (by simp [e2]), List.find?_cons_of_neg (by simp [e2]), ih]
/-- a fold over a row, each step at the element's own name -/
theorem fold_point (step : List Lz → Lz → List Lz) (T : Lz → Option Lz) (hstep : ∀ cur x, Srt cur → cur.find? (isN x.name) = some x → Srt (step cur x) ∧ ∀ nm, (step cur x).find? (isN nm) = if x.name = nm then T x else cur.find? (isN nm)) :
    ∀ (R cur : List Lz), (R.map (·.name)).Nodup → Srt cur → (∀ x ∈ R, cur.find? (isN x.name) = some x) → Srt (R.foldl step cur) ∧ ∀ nm, (R.foldl step cur).find? (isN nm) = match R.find? (isN nm) with | some x => T x | none => cur.find? (isN nm)
  | [], cur, _, hs, _ => ⟨hs, fun nm => rfl⟩
  | x :: R, cur, hn, hs, hm => by
    rw [List.map_cons, List.nodup_cons] at hn
    obtain ⟨h1, h2⟩ := hstep cur x hs (hm x (by simp))
    have hm' : ∀ y ∈ R, (step cur x).find? (isN y.name) = some y := fun y hy => by
      rw [h2, if_neg (fun e => hn.1 (by rw [e]; exact List.mem_map_of_mem hy))]
      exact hm y (by simp [hy])
    obtain ⟨h3, h4⟩ := fold_point step T hstep R _ hn.2 h1 hm'
    refine ⟨h3, fun nm => ?_⟩
    rw [List.foldl_cons, h4]
    by_cases e : x.name = nm
    · rw [List.find?_cons_of_pos (by simp [e])]
      have : R.find? (isN nm) = none := by
        rw [List.find?_eq_none]
        intro y hy
        simp only [decide_eq_true_eq]
        intro q
        exact hn.1 (by rw [e, ← q]; exact List.mem_map_of_mem hy)
      rw [this]
      simp only
      rw [h2, if_pos e]
    · rw [List.find?_cons_of_neg (by simp [e])]
      cases hR : R.find? (isN nm) with
      | some y => rfl
      | none => simp only; rw [h2, if_neg e]

/-! ### the program's book, all of it in order -/
theorem all_find {e : Int} {M : LT} (I : InvB e M) (nm : ByteArray) : (allS M).find? (isN nm) = mget M nm := by
  have hs : Srt (allS M) := allS_rise I
  cases hf : (allS M).find? (isN nm) with
  | some x =>
    have hx := mem_allS I (List.mem_of_find?_eq_some hf)
    rw [find_name hf] at hx
    exact hx.symm
  | none =>
    cases hm : mget M nm with
    | none => rfl
    | some x =>
      have hn := I.nm _ (mget_mem hm)
      simp only at hn
      have hk : nm ∈ keysOf (M.map (·.1)) := (keysOf_perm _).mem_iff.2 (List.mem_map.2 ⟨(nm, x), mget_mem hm, rfl⟩)
      have : x ∈ allS M := by rw [allS_eq]; exact List.mem_filterMap.2 ⟨nm, hk, hm⟩
      have h2 := List.find?_eq_none.1 hf x this
      simp [hn] at h2
theorem all_unique {e : Int} {M : LT} (I : InvB e M) {L : List Lz} (h : Srt L) (hf : ∀ nm, L.find? (isN nm) = mget M nm) : L = allS M :=
  srt_ext h (allS_rise I) fun nm => by rw [hf, all_find I]
theorem all_size {e : Int} {M : LT} (I : InvB e M) : (allS M).length = M.length := by
  have h := congrArg List.length (allS_names I.nm)
  rwa [List.length_map, (keysOf_perm _).length_eq, List.length_map] at h
end LzRel
end Go.Proofs.YtefnfhhdcginmaaDoor

/- The document's book of leases beside the program's: call by call. -/
set_option linter.unusedVariables false
namespace Go.Proofs.YtefnfhhdcginmaaDoor
open Go.ChangeShapes Go.WideShapes Go.ChangeAt Go.RowKit Go.Sub Go.ChangeMaps
namespace LzRel
theorem mget_mdel' {κ V : Type} [DecidableEq κ] {m : List (κ × V)} (hm : (m.map (·.1)).Nodup) (x y : κ) : mget (mdel m x) y = if x = y then none else mget m y := by
  induction m with
  | nil => simp [mdel, mget]
  | cons p m ih =>
    obtain ⟨k, u⟩ := p
    rw [List.map_cons, List.nodup_cons] at hm
    have hn : mget m k = none := by
      cases h : mget m k with
      | none => rfl
      | some v => exact absurd (List.mem_map.2 ⟨(k, v), mget_mem h, rfl⟩) hm.1
    by_cases e : k = x
    · subst e
      simp only [mdel, if_true, mget]
      by_cases e2 : k = y
      · subst e2; simp [hn]
      · simp [e2]
    · simp only [mdel, if_neg e, mget, ih hm.2]
      by_cases e2 : k = y
      · subst e2; simp [show ¬ x = k from fun h => e h.symm]
      · simp [e2]
theorem mget_filter' {κ V : Type} [DecidableEq κ] {m : List (κ × V)} (hm : (m.map (·.1)).Nodup) (p : κ × V → Bool) (y : κ) : mget (m.filter p) y = (mget m y).filter fun v => p (y, v) := by
  induction m with
  | nil => simp [mget]
  | cons q m ih =>
    obtain ⟨k, u⟩ := q
    rw [List.map_cons, List.nodup_cons] at hm
    have hn : mget m k = none := by
      cases h : mget m k with
      | none => rfl
      | some v => exact absurd (List.mem_map.2 ⟨(k, v), mget_mem h, rfl⟩) hm.1
    by_cases hp : p (k, u) = true
    · rw [List.filter_cons_of_pos hp]
      by_cases e : k = y
      · subst e; simp [mget, hp, Option.filter]
      · simp only [mget, if_neg e]; exact ih hm.2
    · rw [List.filter_cons_of_neg hp, ih hm.2]
      by_cases e : k = y
      · subst e; simp [mget, hn, hp, Option.filter]
      · simp only [mget, if_neg e]
theorem put_all {e e' : Int} {M : LT} (I : InvB e M) (c : Lz) (I' : InvB e' (mset M c.name c)) : rput (allS M) c = allS (mset M c.name c) :=
  all_unique I' (put_srt (allS_rise I) c) fun nm => by rw [put_find (allS_rise I), mget_mset, all_find I]
theorem drop_all {e e' : Int} {M : LT} (I : InvB e M) (n : ByteArray) (I' : InvB e' (mdel M n)) : rdrop (allS M) n = allS (mdel M n) :=
  all_unique I' (drop_srt (allS_rise I) n) fun nm => by rw [drop_find, mget_mdel' I.nd, all_find I]
section
variable {g m e : Int} {M : LT}
theorem hold_eq (I : InvB e M) (g : Int) (nm : ByteArray) (now : Int) : rhold (allS M) nm now = holdS g M nm now := by
  unfold rhold holdS
  rw [all_find I]
  cases mget M nm with
  | none => rfl
  | some x => simp only [stat_held g, decide_eq_true_eq]
theorem own_eq (I : InvB e M) (g : Int) (tenant nm : ByteArray) (epoch now : Int) : (rown (allS M) tenant nm epoch now).2 = ownErr g M tenant nm epoch now ∧ ∀ x, ownErr g M tenant nm epoch now = 0 → mget M nm = some x → (rown (allS M) tenant nm epoch now).1 = x := by
  unfold rown ownErr rownV
  rw [hold_eq I g]
  unfold holdS
  cases clockB now with
  | false => simp
  | true =>
    cases mget M nm with
    | none => simp
    | some x =>
      simp only
      by_cases h1 : statS g x now = 2
      · by_cases h2 : x.tenant = tenant
        · by_cases h3 : x.epoch = epoch
          · simp [h1, h2, h3]
          · simp [h1, h2, h3]
        · simp [h1, h2, seq]
      · simp [h1]
theorem renew_eq (I : InvB e M) (m0 : 1 ≤ m) (m1 : m ≤ 1073741824) (tenant nm : ByteArray) (epoch now ttl : Int) :
    rrenew m (allS M) tenant nm epoch now ttl = (allS (renewS g m M tenant nm epoch now ttl).1, (renewS g m M tenant nm epoch now ttl).2.1, (renewS g m M tenant nm epoch now ttl).2.2) := by
  have I' := renew_inv (g := g) I m0 m1 tenant nm epoch now ttl
  obtain ⟨h1, h2⟩ := own_eq I g tenant nm epoch now
  unfold rrenew
  unfold renewS at I' ⊢
  rw [h1]
  cases ht : timeB ttl with
  | false => simp
  | true =>
    by_cases h0 : ownErr g M tenant nm epoch now = 0
    · obtain ⟨_, x, hx, _⟩ := own_found h0
      rw [h2 x h0 hx]
      have hn := I.nm _ (mget_mem hx)
      simp only at hn
      simp only [ht, h0, hx, if_true, Bool.true_eq_false, if_false] at I' ⊢
      have := put_all I (renL x (now + min ttl m)) (by simp only; rw [hn]; exact I')
      rw [this]
      simp only [hn]
    · simp [h0]
theorem release_eq (I : InvB e M) (g0 : 0 ≤ g) (g1 : g ≤ 1073741824) (tenant nm : ByteArray) (epoch now : Int) :
    rrelease g (allS M) tenant nm epoch now = (allS (releaseS g M tenant nm epoch now).1, (releaseS g M tenant nm epoch now).2) := by
  have I' := release_inv I g0 g1 tenant nm epoch now
  obtain ⟨h1, h2⟩ := own_eq I g tenant nm epoch now
  unfold rrelease
  unfold releaseS at I' ⊢
  rw [h1]
  by_cases h0 : ownErr g M tenant nm epoch now = 0
  · obtain ⟨_, x, hx, _⟩ := own_found h0
    rw [h2 x h0 hx]
    have hn := I.nm _ (mget_mem hx)
    simp only at hn
    simp only [h0, hx, if_true] at I' ⊢
    have := put_all I (keptL x (now + g)) (by simp only; rw [hn]; exact I')
    rw [this]
    simp only [hn]
  · simp [h0]
theorem evict_eq (I : InvB e M) (nm : ByteArray) (now : Int) : revict (allS M) nm now = (allS (evictS g M nm now).1, (evictS g M nm now).2.1, (evictS g M nm now).2.2) := by
  have I' := evict_inv (g := g) I nm now
  unfold revict
  rw [hold_eq I g]
  unfold evictS at I' ⊢
  unfold holdS
  cases hx : mget M nm with
  | none => simp
  | some x =>
    rw [hx] at I'
    simp only at I' ⊢
    by_cases h1 : statS g x now = 2
    · by_cases hc : clockB now = true
      · rw [if_pos (And.intro h1 hc)] at I'
        rw [if_pos (And.intro h1 hc), if_pos h1]
        simp only [hc, if_true]
        rw [drop_all I nm I']
      · simp [h1, hc]
    · simp [h1]
theorem claim_eq (I : InvB e M) (g0 : 0 ≤ g) (g1 : g ≤ 1073741824) (m0 : 1 ≤ m) (m1 : m ≤ 1073741824) (tenant nm : ByteArray) (hs : nm.size ≤ maxLen) (conn now ttl : Int) :
    rclaim g m (e + 1) (allS M) tenant nm conn now ttl = ((claimS g m e M tenant nm conn now ttl).1 + 1, allS (claimS g m e M tenant nm conn now ttl).2.1, (claimS g m e M tenant nm conn now ttl).2.2.1, (claimS g m e M tenant nm conn now ttl).2.2.2) := by
  have I' := (claim_inv I g0 g1 m0 m1 tenant nm hs conn now ttl).1
  unfold rclaim
  unfold claimS at I' ⊢
  rw [all_find I, all_size I]
  by_cases hok : (nameB tenant.data.toList && (nameB nm.data.toList && (clockB now && timeB ttl))) = false
  · simp only [hok, if_true]
  · rw [if_neg hok] at I'
    rw [if_neg hok, if_neg hok]
    cases hx : mget M nm with
    | none =>
      rw [hx] at I'
      simp only at I' ⊢
      have hl := I.len
      by_cases h64 : M.length = 64
      · simp [h64]
      · rw [if_neg h64] at I' ⊢
        rw [if_neg (show ¬ 64 ≤ M.length by omega)]
        rw [put_all I (nowL tenant nm conn (e + 1) now ttl m) I']
    | some x =>
      rw [hx] at I'
      simp only at I' ⊢
      have hst : heldB x now = decide (statS g x now = 2) := stat_held g x now
      have hsk : keptB g x now = decide (statS g x now = 1) := stat_kept g x now
      have h012 : statS g x now = 0 ∨ statS g x now = 1 ∨ statS g x now = 2 := by
        unfold statS
        split
        · split
          · simp
          · split <;> simp
        · split <;> simp
      rw [hst, hsk]
      simp only [seq] at I' ⊢
      by_cases ht : x.tenant = tenant
      · rcases h012 with h | h | h
        · simp only [h, ht] at I' ⊢
          simp at I' ⊢
          exact put_all I (nowL tenant nm conn (e + 1) now ttl m) I'
        · simp only [h, ht] at I' ⊢
          simp at I' ⊢
          exact put_all I (nowL tenant nm conn (e + 1) now ttl m) I'
        · simp [h, ht]
      · rcases h012 with h | h | h
        · simp only [h, ht] at I' ⊢
          simp at I' ⊢
          exact put_all I (nowL tenant nm conn (e + 1) now ttl m) I'
        · simp [h, ht]
        · simp [h, ht]
end
end LzRel
end Go.Proofs.YtefnfhhdcginmaaDoor

/- The document's book of leases beside the program's: Leave, Lapse. -/
set_option linter.unusedVariables false
namespace Go.Proofs.YtefnfhhdcginmaaDoor
open Go.ChangeShapes Go.WideShapes Go.ChangeAt Go.RowKit Go.Sub Go.ChangeMaps
namespace LzRel
theorem foldl_pair {α β γ : Type} (f : α × β → γ → α × β) (p : α → γ → α) (q : β → γ → β) (h : ∀ a b x, f (a, b) x = (p a x, q b x)) : ∀ (L : List γ) (a : α) (b : β), L.foldl f (a, b) = (L.foldl p a, L.foldl q b)
  | [], _, _ => rfl
  | x :: L, a, b => by simp only [List.foldl_cons, h]; exact foldl_pair f p q h L _ _
theorem foldl_filter {α : Type} (so : α → Bool) : ∀ (L o : List α), L.foldl (fun o x => if so x = true then o ++ [x] else o) o = o ++ L.filter so
  | [], o => by simp
  | x :: L, o => by
    rw [List.foldl_cons, foldl_filter so L]
    by_cases h : so x = true <;> simp [h]
theorem find_if {cur : List Lz} {x : Lz} (h : cur.find? (isN x.name) = some x) (nm : ByteArray) : cur.find? (isN nm) = if x.name = nm then some x else cur.find? (isN nm) := by
  by_cases e : x.name = nm
  · rw [if_pos e, ← e]; exact h
  · rw [if_neg e]
theorem foldL_all_at {e : Int} {M : LT} (I : InvB e M) (so : Lz → Bool) (dof : Lz → Lz) (nm : ByteArray) : mget (foldL so dof (keysOf (M.map (·.1))) M) nm = (mget M nm).map fun x => if so x = true then dof x else x := by
  have hn : (keysOf (M.map (·.1))).Nodup := (keysOf_perm _).nodup_iff.2 I.nd
  cases hx : mget M nm with
  | none =>
    rw [foldL_get so dof _ _ (fun h => mget_none_mem hx ((keysOf_perm _).mem_iff.1 h)), hx]
    rfl
  | some x =>
    rw [foldL_at so dof _ _ hn ((keysOf_perm _).mem_iff.2 (List.mem_map.2 ⟨(nm, x), mget_mem hx, rfl⟩)), hx]
theorem out_all (so : Lz → Bool) (M : LT) : outL so M (keysOf (M.map (·.1))) = (allS M).filter so := by rw [outL_eq, allS_eq]
section
variable {g e : Int} {M : LT}
theorem leave_eq (I : InvB e M) (g0 : 0 ≤ g) (g1 : g ≤ 1073741824) (conn now : Int) : rleave g (allS M) conn now = (allS (leaveS g M conn now).1, (leaveS g M conn now).2) := by
  have I' := leave_inv I g0 g1 conn now
  unfold rleave
  unfold leaveS at I' ⊢
  by_cases hc : clockB now = true
  · rw [if_pos hc] at I'
    rw [if_pos hc, if_pos hc]
    have hso : ∀ x : Lz, (x.conn = conn ∧ heldB x now = true) ↔ soLeave conn now x = true := fun x => by unfold soLeave heldB; simp
    unfold lvfold
    rw [List.take_length]
    rw [foldl_pair (lvstep g conn now) (fun cur x => if soLeave conn now x = true then rput cur (keptL x (now + g)) else cur) (fun o x => if soLeave conn now x = true then o ++ [x] else o) (fun a b x => by
      unfold lvstep
      by_cases h : soLeave conn now x = true
      · rw [if_pos ((hso x).2 h), if_pos h, if_pos h]
      · rw [if_neg (fun q => h ((hso x).1 q)), if_neg h, if_neg h])]
    rw [foldl_filter, List.nil_append, out_all]
    have hs : Srt (allS M) := allS_rise I
    obtain ⟨h1, h2⟩ := fold_point (fun cur x => if soLeave conn now x = true then rput cur (keptL x (now + g)) else cur) (fun x => some (if soLeave conn now x = true then keptL x (now + g) else x)) (fun cur x hc hx => by
      by_cases h : soLeave conn now x = true
      · simp only [h, if_true]
        exact ⟨put_srt hc _, fun nm => put_find hc _ nm⟩
      · simp only [h, if_false]
        exact ⟨hc, fun nm => find_if hx nm⟩) (allS M) (allS M) (srt_nodup hs) hs (fun x hx => (find_mem hs).2 hx)
    rw [all_unique I' h1 (fun nm => by
      rw [h2, foldL_all_at I]
      rw [all_find I]
      cases mget M nm <;> rfl)]
  · rw [if_neg hc, if_neg hc]
theorem lapse_eq (I : InvB e M) (g0 : 0 ≤ g) (g1 : g ≤ 1073741824) (now : Int) : rlapse g (allS M) now = (allS (lapseS g M now).1, (lapseS g M now).2) := by
  have I' := lapse_inv I g0 g1 now
  unfold rlapse
  unfold lapseS at I' ⊢
  by_cases hc : clockB now = true
  · rw [if_pos hc] at I'
    rw [if_pos hc, if_pos hc]
    have hfree : ∀ y : Lz, (heldB y now = false ∧ keptB g y now = false) ↔ statS g y now = 0 := fun y => by
      have h012 : statS g y now = 0 ∨ statS g y now = 1 ∨ statS g y now = 2 := by
        unfold statS
        split
        · split
          · simp
          · split <;> simp
        · split <;> simp
      rw [stat_held g, stat_kept g]
      rcases h012 with h | h | h <;> simp [h]
    unfold lpfold
    rw [List.take_length]
    rw [foldl_pair (lpstep g now) (fun cur x => if statS g (lpNew g now x) now = 0 then rdrop (if soLapse now x = true then rput cur (lpNew g now x) else cur) x.name else (if soLapse now x = true then rput cur (lpNew g now x) else cur)) (fun o x => if soLapse now x = true then o ++ [x] else o) (fun a b x => by
      unfold lpstep
      have e1 : lpOver now x = soLapse now x := rfl
      rw [e1]
      by_cases h : statS g (lpNew g now x) now = 0
      · rw [if_pos ((hfree _).2 h), if_pos h]
      · rw [if_neg (fun q => h ((hfree _).1 q)), if_neg h])]
    rw [foldl_filter, List.nil_append, out_all]
    have hs : Srt (allS M) := allS_rise I
    have hnm : ∀ x : Lz, (lpNew g now x).name = x.name := fun x => by unfold lpNew; split <;> rfl
    obtain ⟨h1, h2⟩ := fold_point (fun cur x => if statS g (lpNew g now x) now = 0 then rdrop (if soLapse now x = true then rput cur (lpNew g now x) else cur) x.name else (if soLapse now x = true then rput cur (lpNew g now x) else cur)) (fun x => if statS g (lpNew g now x) now = 0 then none else some (lpNew g now x)) (fun cur x hc hx => by
      have hmid : Srt (if soLapse now x = true then rput cur (lpNew g now x) else cur) ∧ ∀ nm, (if soLapse now x = true then rput cur (lpNew g now x) else cur).find? (isN nm) = if x.name = nm then some (lpNew g now x) else cur.find? (isN nm) := by
        by_cases h : soLapse now x = true
        · rw [if_pos h]
          exact ⟨put_srt hc _, fun nm => by rw [put_find hc, hnm]⟩
        · rw [if_neg h]
          have : lpNew g now x = x := by unfold lpNew; exact if_neg h
          rw [this]
          exact ⟨hc, fun nm => find_if hx nm⟩
      by_cases h : statS g (lpNew g now x) now = 0
      · rw [if_pos h, if_pos h]
        refine ⟨drop_srt hmid.1 _, fun nm => ?_⟩
        rw [drop_find, hmid.2]
        by_cases e1 : x.name = nm
        · rw [if_pos e1, if_pos e1]
        · rw [if_neg e1, if_neg e1, if_neg e1]
      · rw [if_neg h, if_neg h]
        exact hmid) (allS M) (allS M) (srt_nodup hs) hs (fun x hx => (find_mem hs).2 hx)
    rw [all_unique I' h1 (fun nm => by
      rw [h2, mget_filter' (by rw [foldL_keys]; exact I.nd), foldL_all_at I, all_find I]
      cases mget M nm with
      | none => rfl
      | some x =>
        have e1 : (if soLapse now x = true then keptL x (x.til + g) else x) = lpNew g now x := rfl
        simp only [Option.map_some, e1]
        by_cases h : statS g (lpNew g now x) now = 0
        · simp [h, Option.filter]
        · simp [h, Option.filter])]
  · rw [if_neg hc, if_neg hc]
end
end LzRel
end Go.Proofs.YtefnfhhdcginmaaDoor

/- LeasePlays: its walk. -/
set_option linter.unusedVariables false
set_option linter.unusedSimpArgs false
namespace Go.Proofs.YtefnfhhdcginmaaDoor
open Go.ChangeShapes Go.WideShapes Go.ChangeAt Go.RowKit Go.Sub Go.ChangeMaps
namespace leasePlays
open LzRel
theorem on_idx {P : Program} {f : Nat} {args : Array Value} {v : Value} {A A' : Asrt} {l : List Asrt} {w : World} {F : Fp} (i : Nat) (hi : l[i]? = some A) (hS : (Asrt.stars l).on w F)
    (C : ∀ Fi, A.on w Fi → (∀ k, Fi k → F k) → Calls P f args w (Ret v fun w' => ∃ F', A'.on w' F' ∧ Upd Fi F' w w')) :
    Calls P f args w (Ret v fun w' => ∃ F', (Asrt.stars (l.set i A')).on w' F' ∧ Upd F F' w w') := by
  obtain ⟨Fi, h, hsub, hgo⟩ := Asrt.stars_upd l i A hi hS
  refine (C Fi h hsub).mono ?_
  rintro e w' ⟨rfl, F', h', u'⟩
  exact ⟨rfl, hgo w' F' A' h' u'⟩
theorem on_idx_row {P : Program} {f : Nat} {args : Array Value} {A A' : Asrt} {X : Value → Asrt} {l : List Asrt} {w : World} {F : Fp} (i : Nat) (hi : l[i]? = some A) (hil : i < l.length) (hS : (Asrt.stars l).on w F)
    (C : ∀ Fi, A.on w Fi → Calls P f args w fun e w' => ∃ v, Ret v (fun w' => ∃ F', (Asrt.stars [A', X v]).on w' F' ∧ Upd Fi F' w w') e w') :
    Calls P f args w fun e w' => ∃ v, Ret v (fun w' => ∃ F', (Asrt.stars (X v :: l.set i A')).on w' F' ∧ Upd F F' w w') e w' := by
  obtain ⟨Fi, h, hsub, hgo⟩ := Asrt.stars_upd l i A hi hS
  refine (C Fi h).mono ?_
  rintro e w' ⟨v, rfl, F', h', u'⟩
  have h2 : (Asrt.star (X v) A').on w' F' := by
    obtain ⟨Fa, Fb, ha, ⟨Fc, Fe, hc, he, _, rfl⟩, hd, rfl⟩ := h'
    have he' : Fe = fun _ => False := he
    subst he'
    exact ⟨Fc, Fa, hc, ha, fun k x y => hd k y (.inl x), by funext k; simp [or_comm]⟩
  obtain ⟨F2, h3, u3⟩ := hgo w' F' _ h2 u'
  exact ⟨v, rfl, F2, Asrt.star_out l i hil h3, u3⟩
theorem on_idx_quiet {P : Program} {f : Nat} {args : Array Value} {v : Value} {A : Asrt} {l : List Asrt} {w : World} {F : Fp} (i : Nat) (hi : l[i]? = some A) (hS : (Asrt.stars l).on w F)
    (C : ∀ Fi, A.on w Fi → Calls P f args w (Ret v fun w' => Quiet w w')) :
    Calls P f args w (Ret v fun w' => (Asrt.stars l).on w' F ∧ Upd F F w w') := by
  obtain ⟨Fi, h, hsub⟩ := Asrt.stars_get hS i hi
  refine (C Fi h).mono ?_
  rintro e w' ⟨rfl, q⟩
  exact ⟨rfl, (Asrt.stars l).frame hS q (fun _ _ h => h), (Upd.refl F w).thenQ q⟩
theorem allS_nil : allS [] = [] := by simp [allS, outL, keysOf]
abbrev opB (o : LO) : Obj := .cells #[.int .i64 o.what, .string o.tenant, .string o.name, .int .i64 o.conn, .int .i64 o.epoch, .int .i64 o.now, .int .i64 o.ttl] 39 (0, 0)
abbrev lzB (x : Lz) : Obj := .cells (cellsL x) 26 (0, 0)
/-- what the switch leaves -/
structure Mid (W : World) (b b2 : Nat) (g m : Int) (O : Nat) (op : LO) (e : Int) (r : Lz) (e2 : Int) (M2 : LT) (wx : World) (F' : Fp) : Prop where
  mem : (Asrt.stars [bookT b g m e2 M2, refT b2 g m (e2 + 1) (allS M2), .blk O (opB op), .blk (O + 1) (lzB r), .blk (O + 1 + 1) (lzB r)]).on wx F'
  upd : Upd none' F' W wx
  inv : InvB e2 M2
  le : e2 ≤ e + 1
theorem mid_of {W : World} {b b2 : Nat} {g m : Int} {O : Nat} {op : LO} {e : Int} {r : Lz} {e2 : Int} {M2 : LT} {wx : World} {F' : Fp} {Z1 Z2 : Asrt}
    (h : (Asrt.stars [bookT b g m e2 M2, Z1, Z2, refT b2 g m (e2 + 1) (allS M2), .blk O (opB op), .blk (O + 1) (lzB r), .blk (O + 1 + 1) (lzB r)]).on wx F') (u : Upd none' F' W wx) (I : InvB e2 M2) (hl : e2 ≤ e + 1) :
    ∃ F'', Mid W b b2 g m O op e r e2 M2 wx F'' := by
  obtain ⟨F1, h1, s1⟩ := Asrt.stars_drop (Asrt.stars_order 7 [1, 2, 0, 3, 4, 5, 6] (by decide) rfl h)
  obtain ⟨F2, h2, s2⟩ := Asrt.stars_drop h1
  exact ⟨F2, h2, u.re fun k hk => u.fp k (s1 k (s2 k hk)), I, hl⟩
theorem tils_all {e : Int} {M : LT} (I : InvB e M) : ∀ x ∈ allS M, TilOk x.til := fun x hx => I.tils _ (mget_mem (mem_allS I hx))
theorem tilb_all {e : Int} {M : LT} (I : InvB e M) : ∀ x ∈ allS M, TilB x.til := fun x hx => by
  have := I.til _ (mget_mem (mem_allS I hx))
  simp only [tilMost] at this
  exact ⟨by omega, by omega⟩
theorem p_renew {b : Nat} {g m e : Int} {M : LT} (I : InvB e M) (g0 : 0 ≤ g) (g1 : g ≤ 1073741824) (m0 : 1 ≤ m) (m1 : m ≤ 1073741824) (e1 : e ≤ 1000) {t n : ByteArray} {co ep now ttl : Int} (z1 : t.size ≤ maxLen) (z2 : n.size ≤ maxLen) {M2 : LT} {r : Lz} {er : Int} (h : (M2, r, er) = renewS g m M t n ep now ttl) :
    ∀ (w : World) (F : Fp), (bookT b g m e M).on w F → Calls Tryd.prog 17 (#[.pointer (some ⟨b, 0, none⟩), .string t, .string n, .int .i64 ep, .int .i64 now, .int .i64 ttl] : Array Value) w (Ret (.tuple #[aggL r, .int .i64 er]) fun w' => ∃ F', (bookT b g m e M2).on w' F' ∧ Upd F F' w w') := by
  intro w F hM
  have := renew_c hM g0 g1 m0 m1 I.tils t n ep now ttl
  unfold RenEnds at this
  rw [← h] at this
  exact this
theorem r_renew {b : Nat} {g m e : Int} {M : LT} (I : InvB e M) (g0 : 0 ≤ g) (g1 : g ≤ 1073741824) (m0 : 1 ≤ m) (m1 : m ≤ 1073741824) (e1 : e ≤ 1000) {t n : ByteArray} {co ep now ttl : Int} (z1 : t.size ≤ maxLen) (z2 : n.size ≤ maxLen) {M2 : LT} {r : Lz} {er : Int} (h : (M2, r, er) = renewS g m M t n ep now ttl) :
    ∀ (w : World) (F : Fp), (refT b g m (e + 1) (allS M)).on w F → Calls Tryd.prog 18 (#[.pointer (some ⟨b, 0, none⟩), .string t, .string n, .int .i64 ep, .int .i64 now, .int .i64 ttl] : Array Value) w (Ret (.tuple #[aggL r, .int .i64 er]) fun w' => ∃ F', (refT b g m (e + 1) (allS M2)).on w' F' ∧ Upd F F' w w') := by
  intro w F hM
  have hl : (allS M).length ≤ 64 := by rw [all_size I]; exact I.len
  have := rrenew_c hM (by omega) m0 m1 t n ep now ttl
  unfold REnds at this
  rw [renew_eq (g := g) I m0 m1, ← h] at this
  exact this
theorem p_release {b : Nat} {g m e : Int} {M : LT} (I : InvB e M) (g0 : 0 ≤ g) (g1 : g ≤ 1073741824) (m0 : 1 ≤ m) (m1 : m ≤ 1073741824) (e1 : e ≤ 1000) {t n : ByteArray} {co ep now ttl : Int} (z1 : t.size ≤ maxLen) (z2 : n.size ≤ maxLen) {M2 : LT} {er : Int} (h : (M2, er) = releaseS g M t n ep now) :
    ∀ (w : World) (F : Fp), (bookT b g m e M).on w F → Calls Tryd.prog 19 (#[.pointer (some ⟨b, 0, none⟩), .string t, .string n, .int .i64 ep, .int .i64 now] : Array Value) w (Ret (.int .i64 er) fun w' => ∃ F', (bookT b g m e M2).on w' F' ∧ Upd F F' w w') := by
  intro w F hM
  have := release_c hM g0 g1 I.tils t n ep now
  unfold RelEnds at this
  rw [← h] at this
  exact this
theorem r_release {b : Nat} {g m e : Int} {M : LT} (I : InvB e M) (g0 : 0 ≤ g) (g1 : g ≤ 1073741824) (m0 : 1 ≤ m) (m1 : m ≤ 1073741824) (e1 : e ≤ 1000) {t n : ByteArray} {co ep now ttl : Int} (z1 : t.size ≤ maxLen) (z2 : n.size ≤ maxLen) {M2 : LT} {er : Int} (h : (M2, er) = releaseS g M t n ep now) :
    ∀ (w : World) (F : Fp), (refT b g m (e + 1) (allS M)).on w F → Calls Tryd.prog 20 (#[.pointer (some ⟨b, 0, none⟩), .string t, .string n, .int .i64 ep, .int .i64 now] : Array Value) w (Ret (.int .i64 er) fun w' => ∃ F', (refT b g m (e + 1) (allS M2)).on w' F' ∧ Upd F F' w w') := by
  intro w F hM
  have hl : (allS M).length ≤ 64 := by rw [all_size I]; exact I.len
  have := rrelease_c hM (by omega) g0 g1 t n ep now
  unfold REnds at this
  rw [release_eq I g0 g1, ← h] at this
  exact this
theorem p_evict {b : Nat} {g m e : Int} {M : LT} (I : InvB e M) (g0 : 0 ≤ g) (g1 : g ≤ 1073741824) (m0 : 1 ≤ m) (m1 : m ≤ 1073741824) (e1 : e ≤ 1000) {t n : ByteArray} {co ep now ttl : Int} (z1 : t.size ≤ maxLen) (z2 : n.size ≤ maxLen) {M2 : LT} {r : Lz} {is : Bool} (h : (M2, r, is) = evictS g M n now) :
    ∀ (w : World) (F : Fp), (bookT b g m e M).on w F → Calls Tryd.prog 21 (#[.pointer (some ⟨b, 0, none⟩), .string n, .int .i64 now] : Array Value) w (Ret (.tuple #[aggL r, .bool is]) fun w' => ∃ F', (bookT b g m e M2).on w' F' ∧ Upd F F' w w') := by
  intro w F hM
  have := evict_c hM g0 g1 I.tils n now
  skip
  rw [← h] at this
  exact this
theorem r_evict {b : Nat} {g m e : Int} {M : LT} (I : InvB e M) (g0 : 0 ≤ g) (g1 : g ≤ 1073741824) (m0 : 1 ≤ m) (m1 : m ≤ 1073741824) (e1 : e ≤ 1000) {t n : ByteArray} {co ep now ttl : Int} (z1 : t.size ≤ maxLen) (z2 : n.size ≤ maxLen) {M2 : LT} {r : Lz} {is : Bool} (h : (M2, r, is) = evictS g M n now) :
    ∀ (w : World) (F : Fp), (refT b g m (e + 1) (allS M)).on w F → Calls Tryd.prog 22 (#[.pointer (some ⟨b, 0, none⟩), .string n, .int .i64 now] : Array Value) w (Ret (.tuple #[aggL r, .bool is]) fun w' => ∃ F', (refT b g m (e + 1) (allS M2)).on w' F' ∧ Upd F F' w w') := by
  intro w F hM
  have hl : (allS M).length ≤ 64 := by rw [all_size I]; exact I.len
  have := revict_c hM (by omega) n now
  unfold REnds at this
  rw [evict_eq (g := g) I, ← h] at this
  exact this
theorem p_claim {b : Nat} {g m e : Int} {M : LT} (I : InvB e M) (g0 : 0 ≤ g) (g1 : g ≤ 1073741824) (m0 : 1 ≤ m) (m1 : m ≤ 1073741824) (e1 : e ≤ 1000) {t n : ByteArray} {co ep now ttl : Int} (z1 : t.size ≤ maxLen) (z2 : n.size ≤ maxLen) {e2 : Int} {M2 : LT} {r : Lz} {er : Int} (h : (e2, M2, r, er) = claimS g m e M t n co now ttl) :
    ∀ (w : World) (F : Fp), (bookT b g m e M).on w F → Calls Tryd.prog 12 (#[.pointer (some ⟨b, 0, none⟩), .string t, .string n, .int .i64 co, .int .i64 now, .int .i64 ttl] : Array Value) w (Ret (.tuple #[aggL r, .int .i64 er]) fun w' => ∃ F', (bookT b g m e2 M2).on w' F' ∧ Upd F F' w w') := by
  intro w F hM
  have := claim_c hM g0 g1 m0 m1 I.e0 (by omega) I.tils t n z1 z2 co now ttl
  unfold ClaimEnds at this
  rw [← h] at this
  exact this
theorem r_claim {b : Nat} {g m e : Int} {M : LT} (I : InvB e M) (g0 : 0 ≤ g) (g1 : g ≤ 1073741824) (m0 : 1 ≤ m) (m1 : m ≤ 1073741824) (e1 : e ≤ 1000) {t n : ByteArray} {co ep now ttl : Int} (z1 : t.size ≤ maxLen) (z2 : n.size ≤ maxLen) {e2 : Int} {M2 : LT} {r : Lz} {er : Int} (h : (e2, M2, r, er) = claimS g m e M t n co now ttl) :
    ∀ (w : World) (F : Fp), (refT b g m (e + 1) (allS M)).on w F → Calls Tryd.prog 28 (#[.pointer (some ⟨b, 0, none⟩), .string t, .string n, .int .i64 co, .int .i64 now, .int .i64 ttl] : Array Value) w (Ret (.tuple #[aggL r, .int .i64 er]) fun w' => ∃ F', (refT b g m (e2 + 1) (allS M2)).on w' F' ∧ Upd F F' w w') := by
  intro w F hM
  have hl : (allS M).length ≤ 64 := by rw [all_size I]; exact I.len
  have := rclaim_c hM (by omega) g0 g1 m0 m1 (by have := I.e0; omega) (by omega) (tils_all I) t n z1 z2 co now ttl
  unfold ClEnds REnds at this
  rw [claim_eq I g0 g1 m0 m1 t n z2, ← h] at this
  exact this
theorem p_leave {b : Nat} {g m e : Int} {M : LT} (I : InvB e M) (g0 : 0 ≤ g) (g1 : g ≤ 1073741824) {co now : Int} {M2 : LT} {out : List Lz} (h : (M2, out) = leaveS g M co now) :
    ∀ (w : World) (F : Fp), (bookT b g m e M).on w F → Calls Tryd.prog 24 (#[.pointer (some ⟨b, 0, none⟩), .int .i64 co, .int .i64 now] : Array Value) w fun en w' => ∃ v, Ret v (fun w' => ∃ F', (Asrt.stars [bookT b g m e M2, rowL v out]).on w' F' ∧ Upd F F' w w') en w' := by
  intro w F hM
  have := leave_c hM I.nd I.sz (Nat.le_trans I.len (by decide)) g0 g1 co now
  unfold RowEnds at this
  rw [← h] at this
  exact this
theorem r_leave {b : Nat} {g m e : Int} {M : LT} (I : InvB e M) (g0 : 0 ≤ g) (g1 : g ≤ 1073741824) {co now : Int} {M2 : LT} {out : List Lz} (h : (M2, out) = leaveS g M co now) :
    ∀ (w : World) (F : Fp), (refT b g m (e + 1) (allS M)).on w F → Calls Tryd.prog 25 (#[.pointer (some ⟨b, 0, none⟩), .int .i64 co, .int .i64 now] : Array Value) w fun en w' => ∃ v, Ret v (fun w' => ∃ F', (Asrt.stars [refT b g m (e + 1) (allS M2), rowL v out]).on w' F' ∧ Upd F F' w w') en w' := by
  intro w F hM
  have hl : (allS M).length ≤ 64 := by rw [all_size I]; exact I.len
  have := rleave_c hM (by omega) g0 g1 co now
  unfold LvEnds at this
  rw [leave_eq I g0 g1, ← h] at this
  exact this
theorem p_lapse {b : Nat} {g m e : Int} {M : LT} (I : InvB e M) (g0 : 0 ≤ g) (g1 : g ≤ 1073741824) {co now : Int} {M2 : LT} {out : List Lz} (h : (M2, out) = lapseS g M now) :
    ∀ (w : World) (F : Fp), (bookT b g m e M).on w F → Calls Tryd.prog 26 (#[.pointer (some ⟨b, 0, none⟩), .int .i64 now] : Array Value) w fun en w' => ∃ v, Ret v (fun w' => ∃ F', (Asrt.stars [bookT b g m e M2, rowL v out]).on w' F' ∧ Upd F F' w w') en w' := by
  intro w F hM
  have := lapse_c hM I.nd I.sz (Nat.le_trans I.len (by decide)) g0 g1 I.tils now
  unfold RowEnds at this
  rw [← h] at this
  exact this
theorem r_lapse {b : Nat} {g m e : Int} {M : LT} (I : InvB e M) (g0 : 0 ≤ g) (g1 : g ≤ 1073741824) {co now : Int} {M2 : LT} {out : List Lz} (h : (M2, out) = lapseS g M now) :
    ∀ (w : World) (F : Fp), (refT b g m (e + 1) (allS M)).on w F → Calls Tryd.prog 27 (#[.pointer (some ⟨b, 0, none⟩), .int .i64 now] : Array Value) w fun en w' => ∃ v, Ret v (fun w' => ∃ F', (Asrt.stars [refT b g m (e + 1) (allS M2), rowL v out]).on w' F' ∧ Upd F F' w w') en w' := by
  intro w F hM
  have hl : (allS M).length ≤ 64 := by rw [all_size I]; exact I.len
  have := rlapse_c hM (by omega) (tilb_all I) g0 g1 now
  unfold LvEnds at this
  rw [lapse_eq I g0 g1, ← h] at this
  exact this
theorem outL_few {e : Int} {M : LT} (I : InvB e M) (so : Lz → Bool) : (outL so M (keysOf (M.map (·.1)))).length ≤ 1000000 := by
  rw [out_all]
  have h1 := List.length_filter_le so (allS M)
  rw [all_size I] at h1
  have := I.len
  omega
theorem out_few {g e : Int} {M : LT} (I : InvB e M) {co now : Int} {M2 : LT} {out : List Lz} (h : (M2, out) = leaveS g M co now) : out.length ≤ 1000000 := by
  have h2 : out = (leaveS g M co now).2 := by rw [← h]
  rw [h2]
  unfold leaveS
  split
  · exact outL_few I _
  · simp
theorem out_few2 {g e : Int} {M : LT} (I : InvB e M) {now : Int} {M2 : LT} {out : List Lz} (h : (M2, out) = lapseS g M now) : out.length ≤ 1000000 := by
  have h2 : out = (lapseS g M now).2 := by rw [← h]
  rw [h2]
  unfold lapseS
  split
  · exact outL_few I _
  · simp
theorem stars_ex {α : Type} {A : α → Asrt} {l : List Asrt} {w : World} {F : Fp} (i : Nat) (hi : l[i]? = some (.ex A)) (hS : (Asrt.stars l).on w F) : ∃ x F', (Asrt.stars (l.set i (A x))).on w F' ∧ ∀ k, F' k → F k := by
  obtain ⟨Fi, ⟨x, hx⟩, hsub, hgo⟩ := Asrt.stars_upd l i _ hi hS
  obtain ⟨F', h', u'⟩ := hgo w Fi (A x) hx (Upd.refl Fi w)
  refine ⟨x, F', h', fun k hk => ?_⟩
  rcases u'.fp k hk with h | h
  · exact h
  · have := (Asrt.stars _).lt h' k hk
    omega
end leasePlays
end Go.Proofs.YtefnfhhdcginmaaDoor

