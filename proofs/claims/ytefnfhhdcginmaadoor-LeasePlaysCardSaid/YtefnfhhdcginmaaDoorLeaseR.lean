/- The statements on leases: what holds of every book; the live question. -/
import Derived.Test.YtefnfhhdcginmaaDoorLeaseQ
set_option linter.unusedVariables false
namespace Go.Proofs.YtefnfhhdcginmaaDoor
open Go.ChangeShapes Go.WideShapes Go.ChangeAt Go.RowKit Go.Sub Go.ChangeMaps
section
variable {κ V : Type} [DecidableEq κ]
theorem mem_mset {M : List (κ × V)} {x : κ} {v : V} {p : κ × V} (h : p ∈ mset M x v) : p ∈ M ∨ p = (x, v) := by
  induction M with
  | nil => simp [mset] at h; exact .inr h
  | cons q M ih =>
    obtain ⟨k, u⟩ := q
    by_cases e : k = x
    · subst e
      simp only [mset, if_true, List.mem_cons] at h
      rcases h with rfl | h
      · exact .inr rfl
      · exact .inl (List.mem_cons_of_mem _ h)
    · simp only [mset, if_neg e, List.mem_cons] at h
      rcases h with rfl | h
      · exact .inl (List.mem_cons_self ..)
      · exact (ih h).imp (List.mem_cons_of_mem _) id
theorem mget_none_mem {M : List (κ × V)} {x : κ} (h : mget M x = none) : x ∉ M.map (·.1) := by
  induction M with
  | nil => simp
  | cons q M ih =>
    obtain ⟨k, u⟩ := q
    by_cases e : k = x
    · simp [mget, e] at h
    · simp only [mget, if_neg e] at h
      rw [List.map_cons, List.mem_cons]
      rintro (h1 | h1)
      · exact e h1.symm
      · exact ih h h1
theorem mem_mdel {M : List (κ × V)} {x : κ} {p : κ × V} (h : p ∈ mdel M x) : p ∈ M := by
  induction M with
  | nil => cases h
  | cons q M ih =>
    obtain ⟨k, u⟩ := q
    by_cases e : k = x
    · simp only [mdel, if_pos e] at h; exact List.mem_cons_of_mem _ h
    · simp only [mdel, if_neg e, List.mem_cons] at h
      rcases h with rfl | h
      · exact List.mem_cons_self ..
      · exact List.mem_cons_of_mem _ (ih h)
theorem mdel_sub (M : List (κ × V)) (x : κ) : (mdel M x).Sublist M := by
  induction M with
  | nil => exact List.Sublist.refl _
  | cons q M ih =>
    obtain ⟨k, u⟩ := q
    by_cases e : k = x
    · simp only [mdel, if_pos e]; exact List.sublist_cons_self ..
    · simp only [mdel, if_neg e]; exact ih.cons_cons _
end
theorem InvB.sub {e : Int} {M M' : LT} (I : InvB e M) (h : M'.Sublist M) : InvB e M' :=
  ⟨I.nd.sublist (h.map _), fun p hp => I.nm p (h.mem hp), fun p hp => I.sz p (h.mem hp), Nat.le_trans h.length_le I.len, fun p hp => I.til p (h.mem hp), fun p hp => I.ep p (h.mem hp), I.e0⟩
theorem InvB.up {e e' : Int} {M : LT} (I : InvB e M) (h : e ≤ e') : InvB e' M :=
  ⟨I.nd, I.nm, I.sz, I.len, I.til, fun p hp => ⟨(I.ep p hp).1, Int.le_trans (I.ep p hp).2 h⟩, Int.le_trans I.e0 h⟩
theorem InvB.mset {e : Int} {M : LT} (I : InvB e M) {nm : ByteArray} {x : Lz} (hn : x.name = nm) (ht : 0 ≤ x.til ∧ x.til ≤ tilMost) (he : 1 ≤ x.epoch ∧ x.epoch ≤ e) (hs : nm.size ≤ maxLen) (hl : mget M nm = none → M.length < 64) : InvB e (mset M nm x) := by
  have hm : ∀ {P : ByteArray × Lz → Prop}, (∀ p ∈ M, P p) → P (nm, x) → ∀ p ∈ Go.Sub.mset M nm x, P p := fun h1 h2 p hp => (mem_mset hp).elim (h1 p) fun h => h ▸ h2
  have hk : (Go.Sub.mset M nm x).map (·.1) = M.map (·.1) ∨ (mget M nm = none ∧ Go.Sub.mset M nm x = M ++ [(nm, x)]) := by
    cases h : mget M nm with
    | none => exact .inr ⟨rfl, mset_none _ h⟩
    | some y => exact .inl (mset_keys h _)
  refine ⟨?_, hm I.nm hn, hm I.sz hs, ?_, hm I.til ht, hm I.ep he, I.e0⟩
  · rcases hk with h | ⟨h1, h2⟩
    · rw [h]; exact I.nd
    · rw [h2, List.map_append, List.nodup_append]
      refine ⟨I.nd, by simp, fun a ha b hb => ?_⟩
      simp only [List.map_cons, List.map_nil, List.mem_singleton] at hb
      intro e
      subst e
      subst hb
      exact mget_none_mem h1 ha
  · rcases hk with h | ⟨h1, h2⟩
    · have := congrArg List.length h
      simp only [List.length_map] at this
      rw [this]; exact I.len
    · rw [h2, List.length_append]
      have := hl h1
      simp; omega
theorem InvB.get {e : Int} {M : LT} (I : InvB e M) {nm : ByteArray} {x : Lz} (h : mget M nm = some x) : x.name = nm ∧ (0 ≤ x.til ∧ x.til ≤ tilMost) ∧ (1 ≤ x.epoch ∧ x.epoch ≤ e) ∧ nm.size ≤ maxLen :=
  ⟨I.nm _ (mget_mem h), I.til _ (mget_mem h), I.ep _ (mget_mem h), I.sz _ (mget_mem h)⟩
theorem InvB.step {e : Int} {M : LT} (I : InvB e M) (so : Lz → Bool) (dof : Lz → Lz) (hd : ∀ x, (0 ≤ x.til ∧ x.til ≤ tilMost) → so x = true → (dof x).name = x.name ∧ (0 ≤ (dof x).til ∧ (dof x).til ≤ tilMost) ∧ (dof x).epoch = x.epoch) (nm : ByteArray) : InvB e (stepL so dof M nm) := by
  unfold stepL
  split
  · exact I
  · rename_i x hx
    split
    · rename_i hs
      obtain ⟨h1, h2, h3, h4⟩ := I.get hx
      obtain ⟨d1, d2, d3⟩ := hd x h2 hs
      exact I.mset (d1.trans h1) d2 (by rw [d3]; exact h3) h4 (fun h => by rw [hx] at h; cases h)
    · exact I
theorem InvB.fold {e : Int} (so : Lz → Bool) (dof : Lz → Lz) (hd : ∀ x, (0 ≤ x.til ∧ x.til ≤ tilMost) → so x = true → (dof x).name = x.name ∧ (0 ≤ (dof x).til ∧ (dof x).til ≤ tilMost) ∧ (dof x).epoch = x.epoch) : ∀ (ns : List ByteArray) {M : LT}, InvB e M → InvB e (foldL so dof ns M)
  | [], M, I => I
  | n :: ns, M, I => InvB.fold so dof hd ns (I.step so dof hd n)
section
variable {g m e : Int} {M : LT}
theorem claim_inv (I : InvB e M) (g0 : 0 ≤ g) (g1 : g ≤ 1073741824) (m0 : 1 ≤ m) (m1 : m ≤ 1073741824) (tenant nm : ByteArray) (hs : nm.size ≤ maxLen) (conn now ttl : Int) : InvB (claimS g m e M tenant nm conn now ttl).1 (claimS g m e M tenant nm conn now ttl).2.1 ∧ e ≤ (claimS g m e M tenant nm conn now ttl).1 ∧ (claimS g m e M tenant nm conn now ttl).1 ≤ e + 1 := by
  have N : clockB now = true → timeB ttl = true → (mget M nm = none → M.length < 64) → InvB (e + 1) (mset M nm (newL tenant nm conn e now ttl m)) := fun h1 h2 h3 => by
    obtain ⟨a, b⟩ := clockB_iff.1 h1
    obtain ⟨c, d⟩ := timeB_iff.1 h2
    have he := I.e0
    refine (I.up (e' := e + 1) (by omega)).mset rfl ?_ ?_ hs h3
    · simp only [tilMost]; omega
    · simp only; omega
  unfold claimS
  split
  · exact ⟨I, by simp, by simp only; omega⟩
  · rename_i hok
    have hck : clockB now = true ∧ timeB ttl = true := by
      have := (by simpa only [Bool.not_eq_false] using hok : (nameB tenant.data.toList && (nameB nm.data.toList && (clockB now && timeB ttl))) = true)
      simp only [Bool.and_eq_true] at this
      exact this.2.2
    split
    · rename_i hn
      split
      · exact ⟨I, by simp, by simp only; omega⟩
      · rename_i h64
        refine ⟨N hck.1 hck.2 fun _ => ?_, by simp only; omega, by simp⟩
        have := I.len
        omega
    · rename_i x hx
      split
      · exact ⟨I, by simp, by simp only; omega⟩
      · split
        · exact ⟨I, by simp, by simp only; omega⟩
        · exact ⟨N hck.1 hck.2 (fun h => by rw [hx] at h; cases h), by simp only; omega, by simp⟩
theorem renew_inv (I : InvB e M) (m0 : 1 ≤ m) (m1 : m ≤ 1073741824) (tenant nm : ByteArray) (epoch now ttl : Int) : InvB e (renewS g m M tenant nm epoch now ttl).1 := by
  unfold renewS
  split
  · exact I
  · rename_i ht
    split
    · rename_i ho
      obtain ⟨hn, x, hx, _⟩ := own_found ho
      rw [hx]
      obtain ⟨h1, h2, h3, h4⟩ := I.get hx
      obtain ⟨a, b⟩ := clockB_iff.1 hn
      obtain ⟨c, d⟩ := timeB_iff.1 (by simpa using ht : timeB ttl = true)
      exact I.mset h1 (by simp only [tilMost]; omega) h3 h4 (fun h => by rw [hx] at h; cases h)
    · exact I
theorem release_inv (I : InvB e M) (g0 : 0 ≤ g) (g1 : g ≤ 1073741824) (tenant nm : ByteArray) (epoch now : Int) : InvB e (releaseS g M tenant nm epoch now).1 := by
  unfold releaseS
  split
  · rename_i ho
    obtain ⟨hn, x, hx, _⟩ := own_found ho
    rw [hx]
    obtain ⟨h1, h2, h3, h4⟩ := I.get hx
    obtain ⟨a, b⟩ := clockB_iff.1 hn
    exact I.mset h1 (by simp only [tilMost]; omega) h3 h4 (fun h => by rw [hx] at h; cases h)
  · exact I
theorem evict_inv (I : InvB e M) (nm : ByteArray) (now : Int) : InvB e (evictS g M nm now).1 := by
  unfold evictS
  split
  · exact I
  · split
    · exact I.sub (mdel_sub M nm)
    · exact I
theorem leave_inv (I : InvB e M) (g0 : 0 ≤ g) (g1 : g ≤ 1073741824) (conn now : Int) : InvB e (leaveS g M conn now).1 := by
  unfold leaveS
  split
  · rename_i hn
    obtain ⟨a, b⟩ := clockB_iff.1 hn
    exact InvB.fold (soLeave conn now) (fun x => keptL x (now + g)) (fun x hx _ => ⟨rfl, by simp only [tilMost] at hx ⊢; omega, rfl⟩) _ I
  · exact I
theorem lapse_inv (I : InvB e M) (g0 : 0 ≤ g) (g1 : g ≤ 1073741824) (now : Int) : InvB e (lapseS g M now).1 := by
  unfold lapseS
  split
  · rename_i hn
    obtain ⟨a, b⟩ := clockB_iff.1 hn
    refine (InvB.fold (soLapse now) (fun x => keptL x (x.til + g)) (fun x hx hs => ⟨rfl, ?_, rfl⟩) (keysOf (M.map (·.1))) I).sub (show (List.filter _ _).Sublist _ from List.filter_sublist)
    unfold soLapse at hs
    simp only [Bool.and_eq_true, decide_eq_true_eq] at hs
    simp only [tilMost] at hx ⊢
    omega
  · exact I
theorem does_inv (I : InvB e M) (g0 : 0 ≤ g) (g1 : g ≤ 1073741824) (m0 : 1 ≤ m) (m1 : m ≤ 1073741824) (o : LO) (hs : o.name.size ≤ maxLen) : InvB (doesS g m e M o).1 (doesS g m e M o).2.1 ∧ e ≤ (doesS g m e M o).1 ∧ (doesS g m e M o).1 ≤ e + 1 := by
  unfold doesS
  split
  · exact ⟨renew_inv I m0 m1 .., by simp, by simp only; omega⟩
  split
  · exact ⟨release_inv I g0 g1 .., by simp, by simp only; omega⟩
  split
  · exact ⟨evict_inv I .., by simp, by simp only; omega⟩
  split
  · exact ⟨leave_inv I g0 g1 .., by simp, by simp only; omega⟩
  split
  · exact ⟨lapse_inv I g0 g1 .., by simp, by simp only; omega⟩
  · exact claim_inv I g0 g1 m0 m1 _ _ hs _ _ _
end
/-- the book behind calls -/
def runB (g m : Int) (L : List LO) : Int × LT := L.foldl (fun s o => ((doesS g m s.1 s.2 o).1, (doesS g m s.1 s.2 o).2.1)) (0, [])
theorem runB_snoc (g m : Int) (L : List LO) (o : LO) : runB g m (L ++ [o]) = ((doesS g m (runB g m L).1 (runB g m L).2 o).1, (doesS g m (runB g m L).1 (runB g m L).2 o).2.1) := by simp [runB]
theorem runB_inv {g m : Int} (g0 : 0 ≤ g) (g1 : g ≤ 1073741824) (m0 : 1 ≤ m) (m1 : m ≤ 1073741824) (L : List LO) (hL : ∀ o ∈ L, OkLO o) : InvB (runB g m L).1 (runB g m L).2 ∧ (runB g m L).1 ≤ (L.length : Nat) := by
  have : ∀ n, ∀ L : List LO, L.length = n → (∀ o ∈ L, OkLO o) → InvB (runB g m L).1 (runB g m L).2 ∧ (runB g m L).1 ≤ (L.length : Nat) := by
    intro n
    induction n with
    | zero => intro L h _; rw [List.length_eq_zero_iff] at h; subst h; exact ⟨InvB.new, by simp [runB]⟩
    | succ n ih =>
      intro L h hL
      obtain ⟨L', o, rfl⟩ : ∃ L' o, L = L' ++ [o] := by
        rcases List.eq_nil_or_concat L with e | ⟨L', b, e⟩
        · subst e; simp at h
        · exact ⟨L', b, by rw [e]; simp⟩
      obtain ⟨i1, i2⟩ := ih L' (by simpa using h) fun o ho => hL o (by simp [ho])
      rw [runB_snoc]
      obtain ⟨j1, j2, j3⟩ := does_inv i1 g0 g1 m0 m1 o (hL o (by simp)).2.1
      exact ⟨j1, by simp only [List.length_append, List.length_singleton]; omega⟩
  exact this _ L rfl hL
end Go.Proofs.YtefnfhhdcginmaaDoor
