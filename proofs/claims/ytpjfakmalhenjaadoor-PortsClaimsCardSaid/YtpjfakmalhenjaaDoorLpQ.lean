/- A book of leases whose names are ports': what holds of it; what Claim says of the next port's name, and of lesser ones. -/
import Derived.Test.YtpjfakmalhenjaaDoorLpK
import Derived.Test.YtpjfakmalhenjaaDoorPortsO
set_option linter.unusedVariables false
namespace Go.Proofs.YtpjfakmalhenjaaDoor
open Go.RowKit Go.Sub Go.Shelf Go.Sort Go.ChangeMaps
theorem own_found {g : Int} {M : LT} {tenant nm : ByteArray} {epoch now : Int} (h : ownErr g M tenant nm epoch now = 0) : clockB now = true ∧ ∃ x, mget M nm = some x ∧ statS g x now = 2 ∧ (x.tenant.toList == tenant.toList) = true ∧ x.epoch = epoch := by
  unfold ownErr at h
  cases hck : clockB now with
  | false => rw [hck] at h; simp at h
  | true =>
    rw [hck, if_neg (by simp)] at h
    cases hs : mget M nm with
    | none => rw [hs] at h; simp at h
    | some x =>
      rw [hs] at h
      simp only at h
      have hst : statS g x now = 2 := Classical.byContradiction fun e => by rw [if_pos e] at h; simp at h
      rw [if_neg (by simpa using hst)] at h
      have htn : (x.tenant.toList == tenant.toList) = true := by
        cases e : (x.tenant.toList == tenant.toList) with
        | true => rfl
        | false => rw [if_pos e] at h; simp at h
      rw [if_neg (by simp [htn])] at h
      have hep : x.epoch = epoch := Classical.byContradiction fun e => by rw [if_pos e] at h; simp at h
      exact ⟨rfl, x, rfl, hst, htn, hep⟩
abbrev tilMost : Int := 1100585369600
/-- what holds of every book -/
structure InvB (e : Int) (M : LT) : Prop where
  nd : (M.map (·.1)).Nodup
  nm : ∀ p ∈ M, p.2.name = p.1
  sz : ∀ p ∈ M, p.1.size ≤ maxLen
  len : M.length ≤ 64
  til : ∀ p ∈ M, 0 ≤ p.2.til ∧ p.2.til ≤ tilMost
  ep : ∀ p ∈ M, 1 ≤ p.2.epoch ∧ p.2.epoch ≤ e
  e0 : 0 ≤ e
theorem InvB.tils {e : Int} {M : LT} (h : InvB e M) : TilsOk M := fun p hp => by
  have := h.til p hp
  simp only [tilMost] at this
  exact ⟨by omega, by omega⟩
theorem InvB.new : InvB 0 [] := ⟨by simp, by simp, by simp, by simp, by simp, by simp, by omega⟩
section
variable {κ V : Type} [DecidableEq κ]
theorem mem_mset {M : List (κ × V)} {x : κ} {v : V} {p : κ × V} (h : p ∈ mset M x v) : p ∈ M ∨ p = (x, v) := by
  induction M with
  | nil => simp [mset] at h; exact .inr h
  | cons q M ih =>
    obtain ⟨k, u⟩ := q
    by_cases e : k = x
    · subst e
      simp only [mset, if_true, List.mem_cons] at h
      rcases h with rfl | h
      · exact .inr rfl
      · exact .inl (List.mem_cons_of_mem _ h)
    · simp only [mset, if_neg e, List.mem_cons] at h
      rcases h with rfl | h
      · exact .inl (List.mem_cons_self ..)
      · exact (ih h).imp (List.mem_cons_of_mem _) id
theorem mget_none_mem {M : List (κ × V)} {x : κ} (h : mget M x = none) : x ∉ M.map (·.1) := by
  induction M with
  | nil => simp
  | cons q M ih =>
    obtain ⟨k, u⟩ := q
    by_cases e : k = x
    · simp [mget, e] at h
    · simp only [mget, if_neg e] at h
      rw [List.map_cons, List.mem_cons]
      rintro (h1 | h1)
      · exact e h1.symm
      · exact ih h h1
theorem mem_mdel {M : List (κ × V)} {x : κ} {p : κ × V} (h : p ∈ mdel M x) : p ∈ M := by
  induction M with
  | nil => cases h
  | cons q M ih =>
    obtain ⟨k, u⟩ := q
    by_cases e : k = x
    · simp only [mdel, if_pos e] at h; exact List.mem_cons_of_mem _ h
    · simp only [mdel, if_neg e, List.mem_cons] at h
      rcases h with rfl | h
      · exact List.mem_cons_self ..
      · exact List.mem_cons_of_mem _ (ih h)
theorem mdel_sub (M : List (κ × V)) (x : κ) : (mdel M x).Sublist M := by
  induction M with
  | nil => exact List.Sublist.refl _
  | cons q M ih =>
    obtain ⟨k, u⟩ := q
    by_cases e : k = x
    · simp only [mdel, if_pos e]; exact List.sublist_cons_self ..
    · simp only [mdel, if_neg e]; exact ih.cons_cons _
end
theorem InvB.sub {e : Int} {M M' : LT} (I : InvB e M) (h : M'.Sublist M) : InvB e M' :=
  ⟨I.nd.sublist (h.map _), fun p hp => I.nm p (h.mem hp), fun p hp => I.sz p (h.mem hp), Nat.le_trans h.length_le I.len, fun p hp => I.til p (h.mem hp), fun p hp => I.ep p (h.mem hp), I.e0⟩
theorem InvB.up {e e' : Int} {M : LT} (I : InvB e M) (h : e ≤ e') : InvB e' M :=
  ⟨I.nd, I.nm, I.sz, I.len, I.til, fun p hp => ⟨(I.ep p hp).1, Int.le_trans (I.ep p hp).2 h⟩, Int.le_trans I.e0 h⟩
theorem InvB.mset {e : Int} {M : LT} (I : InvB e M) {nm : ByteArray} {x : Lz} (hn : x.name = nm) (ht : 0 ≤ x.til ∧ x.til ≤ tilMost) (he : 1 ≤ x.epoch ∧ x.epoch ≤ e) (hs : nm.size ≤ maxLen) (hl : mget M nm = none → M.length < 64) : InvB e (mset M nm x) := by
  have hm : ∀ {P : ByteArray × Lz → Prop}, (∀ p ∈ M, P p) → P (nm, x) → ∀ p ∈ Go.Sub.mset M nm x, P p := fun h1 h2 p hp => (mem_mset hp).elim (h1 p) fun h => h ▸ h2
  have hk : (Go.Sub.mset M nm x).map (·.1) = M.map (·.1) ∨ (mget M nm = none ∧ Go.Sub.mset M nm x = M ++ [(nm, x)]) := by
    cases h : mget M nm with
    | none => exact .inr ⟨rfl, mset_none _ h⟩
    | some y => exact .inl (mset_keys h _)
  refine ⟨?_, hm I.nm hn, hm I.sz hs, ?_, hm I.til ht, hm I.ep he, I.e0⟩
  · rcases hk with h | ⟨h1, h2⟩
    · rw [h]; exact I.nd
    · rw [h2, List.map_append, List.nodup_append]
      refine ⟨I.nd, by simp, fun a ha b hb => ?_⟩
      simp only [List.map_cons, List.map_nil, List.mem_singleton] at hb
      intro e
      subst e
      subst hb
      exact mget_none_mem h1 ha
  · rcases hk with h | ⟨h1, h2⟩
    · have := congrArg List.length h
      simp only [List.length_map] at this
      rw [this]; exact I.len
    · rw [h2, List.length_append]
      have := hl h1
      simp; omega
theorem InvB.get {e : Int} {M : LT} (I : InvB e M) {nm : ByteArray} {x : Lz} (h : mget M nm = some x) : x.name = nm ∧ (0 ≤ x.til ∧ x.til ≤ tilMost) ∧ (1 ≤ x.epoch ∧ x.epoch ≤ e) ∧ nm.size ≤ maxLen :=
  ⟨I.nm _ (mget_mem h), I.til _ (mget_mem h), I.ep _ (mget_mem h), I.sz _ (mget_mem h)⟩
section
variable {g m e : Int} {M : LT}
theorem claim_inv (I : InvB e M) (g0 : 0 ≤ g) (g1 : g ≤ 1073741824) (m0 : 1 ≤ m) (m1 : m ≤ 1073741824) (tenant nm : ByteArray) (hs : nm.size ≤ maxLen) (conn now ttl : Int) : InvB (claimS g m e M tenant nm conn now ttl).1 (claimS g m e M tenant nm conn now ttl).2.1 ∧ e ≤ (claimS g m e M tenant nm conn now ttl).1 ∧ (claimS g m e M tenant nm conn now ttl).1 ≤ e + 1 := by
  have N : clockB now = true → timeB ttl = true → (mget M nm = none → M.length < 64) → InvB (e + 1) (mset M nm (newL tenant nm conn e now ttl m)) := fun h1 h2 h3 => by
    obtain ⟨a, b⟩ := clockB_iff.1 h1
    obtain ⟨c, d⟩ := timeB_iff.1 h2
    have he := I.e0
    refine (I.up (e' := e + 1) (by omega)).mset rfl ?_ ?_ hs h3
    · simp only [tilMost]; omega
    · simp only; omega
  unfold claimS
  split
  · exact ⟨I, by simp, by simp only; omega⟩
  · rename_i hok
    have hck : clockB now = true ∧ timeB ttl = true := by
      have := (by simpa only [Bool.not_eq_false] using hok : (nameB tenant.data.toList && (nameB nm.data.toList && (clockB now && timeB ttl))) = true)
      simp only [Bool.and_eq_true] at this
      exact this.2.2
    split
    · rename_i hn
      split
      · exact ⟨I, by simp, by simp only; omega⟩
      · rename_i h64
        refine ⟨N hck.1 hck.2 fun _ => ?_, by simp only; omega, by simp⟩
        have := I.len
        omega
    · rename_i x hx
      split
      · exact ⟨I, by simp, by simp only; omega⟩
      · split
        · exact ⟨I, by simp, by simp only; omega⟩
        · exact ⟨N hck.1 hck.2 (fun h => by rw [hx] at h; cases h), by simp only; omega, by simp⟩
theorem release_inv (I : InvB e M) (g0 : 0 ≤ g) (g1 : g ≤ 1073741824) (tenant nm : ByteArray) (epoch now : Int) : InvB e (releaseS g M tenant nm epoch now).1 := by
  unfold releaseS
  split
  · rename_i ho
    obtain ⟨hn, x, hx, _⟩ := own_found ho
    rw [hx]
    obtain ⟨h1, h2, h3, h4⟩ := I.get hx
    obtain ⟨a, b⟩ := clockB_iff.1 hn
    exact I.mset h1 (by simp only [tilMost]; omega) h3 h4 (fun h => by rw [hx] at h; cases h)
  · exact I
end
/-- all names are ports' -/
abbrev PNames (M : LT) : Prop := ∀ p ∈ M, ∃ q, portS p.1.data.toList = some q
theorem mem_allS {e : Int} {M : LT} (I : InvB e M) {x : Lz} (h : x ∈ allS M) : mget M x.name = some x := by
  unfold allS outL at h
  obtain ⟨k, hk, hx⟩ := List.mem_filterMap.1 h
  have hx : mget M k = some x := by
    cases hm : mget M k with
    | none => rw [hm] at hx; simp at hx
    | some y => rw [hm] at hx; simpa using hx
  have := I.nm _ (mget_mem hx)
  simp only at this
  rw [this]; exact hx
theorem allS_of {M : LT} {nm : ByteArray} {x : Lz} (h : mget M nm = some x) : x ∈ allS M := by
  unfold allS outL
  exact List.mem_filterMap.2 ⟨nm, (keysOf_perm _).mem_iff.2 (List.mem_map.2 ⟨_, mget_mem h, rfl⟩), by rw [h]; rfl⟩
theorem allS_le {e : Int} {M : LT} (I : InvB e M) : (allS M).length ≤ 64 := by
  unfold allS outL
  refine Nat.le_trans (List.length_filterMap_le ..) ?_
  rw [(keysOf_perm _).length_eq, List.length_map]
  exact I.len
theorem allS_small {e : Int} {M : LT} (I : InvB e M) : ∀ x ∈ allS M, x.name.size ≤ maxLen := fun x hx => I.sz _ (mget_mem (mem_allS I hx))
theorem so_stat {g : Int} {t : ByteArray} {now : Int} {x : Lz} (h0 : 0 ≤ x.til) (h1 : x.til ≤ tilMost) : soNext g t now x = true ↔ statS g x now = 2 ∨ (statS g x now = 1 ∧ (x.tenant.toList == t.toList) = false) := by
  unfold soNext statS
  rw [if_neg (by simp only [tilMost] at h1; omega)]
  by_cases hh : x.held = true
  · rw [if_pos hh, if_pos hh]
    by_cases h2 : now < x.til
    · simp [h2]
    · rw [if_neg h2, if_neg h2]
      by_cases h3 : now < x.til + g
      · simp [h3]
      · simp [h3]
  · rw [if_neg hh, if_neg hh]
    by_cases h2 : now < x.til
    · simp [h2]
    · simp [h2]
theorem nodup_le {α : Type} [DecidableEq α] : ∀ {A B : List α}, A.Nodup → (∀ x ∈ A, x ∈ B) → A.length ≤ B.length
  | [], _, _, _ => Nat.zero_le _
  | a :: A, B, h, hs => by
    obtain ⟨h1, h2⟩ := List.nodup_cons.1 h
    have ha := hs a (List.mem_cons_self ..)
    have := nodup_le (A := A) (B := B.erase a) h2 fun x hx => (List.mem_erase_of_ne (fun e => h1 (by rw [← e]; exact hx))).2 (hs x (List.mem_cons_of_mem _ hx))
    rw [List.length_erase_of_mem ha] at this
    have := List.length_pos_of_mem ha
    simp only [List.length_cons]
    omega
theorem strB_data (l : List UInt8) : (strB l).data.toList = l := rfl
theorem port_key {k : ByteArray} {q : Int} (h : portS k.data.toList = some q) : 20000 ≤ q ∧ q ≤ 20063 ∧ k = strB (nameS q) := by
  obtain ⟨h0, h1, h2⟩ := portS_iff.1 h
  exact ⟨h0, h1, by rw [← h2]; rfl⟩
def allN : List ByteArray := (List.range 64).map fun j : Nat => strB (nameS (20000 + (j : Int)))
theorem mem_allN {q : Int} (h0 : 20000 ≤ q) (h1 : q ≤ 20063) : strB (nameS q) ∈ allN :=
  List.mem_map.2 ⟨(q - 20000).toNat, List.mem_range.2 (by omega), by rw [show (20000 + ((q - 20000).toNat : Int)) = q from by omega]⟩
/-- a port whose name is not in the book: there is room for it -/
theorem room {e : Int} {M : LT} (I : InvB e M) (hp : PNames M) {q : Int} (h0 : 20000 ≤ q) (h1 : q ≤ 20063) (h : mget M (strB (nameS q)) = none) : M.length ≠ 64 := by
  have := nodup_le (A := strB (nameS q) :: M.map (·.1)) (B := allN) (List.nodup_cons.2 ⟨mget_none_mem h, I.nd⟩) fun x hx => by
    rcases List.mem_cons.1 hx with rfl | hx
    · exact mem_allN h0 h1
    · obtain ⟨p, hp', rfl⟩ := List.mem_map.1 hx
      obtain ⟨r, hr⟩ := hp p hp'
      obtain ⟨r0, r1, e⟩ := port_key hr
      rw [e]
      exact mem_allN r0 r1
  simp [allN] at this
  omega
theorem nextP_some {g : Int} {t : ByteArray} {now : Int} {L : List Lz} {p : Int} (h : nextP g t now L = some p) : ∃ k : Nat, k < 64 ∧ p = 20000 + (k : Int) ∧ (markS (soNext g t now) L).getD k 0 = 0 ∧ ∀ j, j < k → (markS (soNext g t now) L).getD j 0 ≠ 0 := by
  unfold nextP at h
  split at h
  · cases h
  · obtain ⟨k, hk, rfl⟩ := Option.map_eq_some_iff.1 h
    unfold nextI at hk
    rw [List.find?_range_eq_some] at hk
    exact ⟨k, List.mem_range.1 hk.2.1, rfl, by simpa using hk.1, fun j hj => by simpa using hk.2.2 j hj⟩
theorem nextP_bd {g : Int} {t : ByteArray} {now : Int} {L : List Lz} {p : Int} (h : nextP g t now L = some p) : 20000 ≤ p ∧ p ≤ 20063 := by
  obtain ⟨k, hk, rfl, _⟩ := nextP_some h
  omega
theorem claim_args {t : ByteArray} (ht : nameB t.data.toList = true) {q : Int} (h0 : 20000 ≤ q) (h1 : q ≤ 20063) {now ttl : Int} (hn : clockB now = true) (hl : timeB ttl = true) : ¬ (nameB t.data.toList && (nameB (strB (nameS q)).data.toList && (clockB now && timeB ttl))) = false := by
  rw [strB_data, name_port h0 h1, ht, hn, hl]
  simp
/-- the next port's name is granted -/
theorem claim_next {m e : Int} {M : LT} (I : InvB e M) (hp : PNames M) {t : ByteArray} (ht : nameB t.data.toList = true) {now ttl : Int} (hn : clockB now = true) (hl : timeB ttl = true) {p : Int} (h : nextP 4 t now (allS M) = some p) (conn : Int) :
    claimS 4 m e M t (strB (nameS p)) conn now ttl = (e + 1, mset M (strB (nameS p)) (newL t (strB (nameS p)) conn e now ttl m), newL t (strB (nameS p)) conn e now ttl m, 0) := by
  obtain ⟨h0, h1⟩ := nextP_bd h
  obtain ⟨k, hk, rfl, hz, _⟩ := nextP_some h
  rw [markS_zero _ _ hk] at hz
  unfold claimS
  rw [if_neg (claim_args ht h0 h1 hn hl)]
  cases hm : mget M (strB (nameS (20000 + (k : Int)))) with
  | none => simp only [if_neg (room I hp h0 h1 hm)]
  | some x =>
    obtain ⟨g1, g2, _, _⟩ := I.get hm
    have hx := hz x (allS_of hm)
    unfold isPort at hx
    rw [g1, strB_data, port_name h0 h1, decide_eq_true rfl, Bool.true_and] at hx
    have hs : ¬ (statS 4 x now = 2 ∨ (statS 4 x now = 1 ∧ (x.tenant.toList == t.toList) = false)) := fun c => by
      rw [(so_stat g2.1 g2.2).2 c] at hx; cases hx
    have h3 := stat_cases 4 x now
    have e1 : ¬ (0 < statS 4 x now ∧ (x.tenant.toList == t.toList) = false) := fun c => by
      rcases h3 with h3 | h3 | h3
      · have := c.1; omega
      · exact hs (.inr ⟨h3, c.2⟩)
      · exact hs (.inl h3)
    simp only [if_neg e1, if_neg (fun c => hs (.inl c) : ¬ statS 4 x now = 2)]
/-- a lesser port's is not -/
theorem claim_less {m e : Int} {M : LT} (I : InvB e M) {t : ByteArray} (ht : nameB t.data.toList = true) {now ttl : Int} (hn : clockB now = true) (hl : timeB ttl = true) {q : Int} (h0 : 20000 ≤ q) (h1 : q ≤ 20063) (h : ∀ p, nextP 4 t now (allS M) = some p → q < p) (conn : Int) :
    ∃ er, er ≠ 0 ∧ claimS 4 m e M t (strB (nameS q)) conn now ttl = (e, M, zeroL, er) := by
  have hk : (q - 20000).toNat < 64 := by omega
  have hq : (20000 + ((q - 20000).toNat : Int)) = q := by omega
  have hz : (markS (soNext 4 t now) (allS M)).getD (q - 20000).toNat 0 ≠ 0 := by
    intro hz
    obtain ⟨n0, n1⟩ := clockB_iff.1 hn
    cases hx : nextI (markS (soNext 4 t now) (allS M)) with
    | none =>
      unfold nextI at hx
      rw [List.find?_eq_none] at hx
      exact hx _ (List.mem_range.2 hk) (by simpa using hz)
    | some k =>
      have hp : nextP 4 t now (allS M) = some (20000 + (k : Int)) := by
        unfold nextP
        rw [if_neg (by omega), hx]; rfl
      have := h _ hp
      obtain ⟨k2, _, e2, _, hb⟩ := nextP_some hp
      exact hb (q - 20000).toNat (by omega) hz
  have hz2 : ¬ ∀ x ∈ allS M, isPort (soNext 4 t now) (q - 20000).toNat x = false := fun c => hz ((markS_zero _ _ hk).2 c)
  obtain ⟨x, hx⟩ := Classical.not_forall.1 hz2
  obtain ⟨hx, hi⟩ := Classical.not_imp.1 hx
  have hi : isPort (soNext 4 t now) (q - 20000).toNat x = true := by simpa using hi
  unfold isPort at hi
  rw [hq, Bool.and_eq_true, decide_eq_true_iff] at hi
  obtain ⟨_, _, e3⟩ := port_key hi.1
  have hm := mem_allS I hx
  rw [e3] at hm
  obtain ⟨g1, g2, _, _⟩ := I.get hm
  have hs := (so_stat g2.1 g2.2).1 hi.2
  unfold claimS
  rw [if_neg (claim_args ht h0 h1 hn hl), hm]
  rcases hs with hs | ⟨hs, ht2⟩
  · by_cases h5 : (x.tenant.toList == t.toList) = false
    · exact ⟨131, by decide, by simp only [if_pos (⟨by omega, h5⟩ : 0 < statS 4 x now ∧ (x.tenant.toList == t.toList) = false)]⟩
    · exact ⟨4, by decide, by simp only [if_neg (fun c => h5 c.2 : ¬ (0 < statS 4 x now ∧ (x.tenant.toList == t.toList) = false)), if_pos hs]⟩
  · exact ⟨131, by decide, by simp only [if_pos (⟨by omega, ht2⟩ : 0 < statS 4 x now ∧ (x.tenant.toList == t.toList) = false)]⟩
theorem pnames_set {M : LT} (hp : PNames M) {nm : ByteArray} {x : Lz} (h : ∃ q, portS nm.data.toList = some q) : PNames (mset M nm x) := fun p hm => by
  rcases mem_mset hm with hm | rfl
  · exact hp p hm
  · exact h
theorem pnames_release {g : Int} {M : LT} (hp : PNames M) (t nm : ByteArray) (ep now : Int) : PNames (releaseS g M t nm ep now).1 := by
  unfold releaseS
  split
  · cases hm : mget M nm with
    | none => exact hp
    | some x => exact pnames_set hp (hp _ (mget_mem hm))
  · exact hp
end Go.Proofs.YtpjfakmalhenjaaDoor
