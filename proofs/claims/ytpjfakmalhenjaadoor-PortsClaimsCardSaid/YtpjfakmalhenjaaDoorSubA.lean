/- Part A of a small library of memory assertions: maps as association lists, footprints, and frames. No program's text. -/
import Derived.WalkKit
import Derived.WalkSpells
import Derived.WalkLawsBesides
import Derived.Maps.RangeRun
namespace Go.Sub
open Go.ChangeMaps (setBlock)

/-- What lies in a block. -/
def _root_.Go.World.obj (w : World) (b : Nat) : Option Obj := w.heap[b]?

/-- A fact kept from the walk's rewriting. -/
structure Keep (p : Prop) : Prop where
  out : p

/-! ### association lists -/
section lists
variable {κ V : Type} [DecidableEq κ]
def mget : List (κ × V) → κ → Option V
  | [], _ => none
  | (k, v) :: r, x => if k = x then some v else mget r x
def mset : List (κ × V) → κ → V → List (κ × V)
  | [], x, v => [(x, v)]
  | (k, u) :: r, x, v => if k = x then (k, v) :: r else (k, u) :: mset r x v
def mdel : List (κ × V) → κ → List (κ × V)
  | [], _ => []
  | (k, u) :: r, x => if k = x then r else (k, u) :: mdel r x
end lists

/-! ### what the model holds of a map -/
structure KeyOk {κ : Type} [DecidableEq κ] (P : Program) (k : TypeId) (d : TypeDesc) (enc : κ → Value) : Prop where
  desc : P.underlying k = some d
  now : ∀ x y, Instr.sameNow d (enc x) (enc y) = some (decide (x = y))
  check : ∀ em x w, (Instr.checkKey em 10000 k (enc x)).run P w = .ok () w
  bits : ∀ x, Instr.sameBits 10000 (enc x) (enc x) = true

theorem keyOk_int {P : Program} {k : TypeId} {q : IntKind} (h : P.underlying k = some (.int q)) : KeyOk P k (.int q) (fun x : Int => Value.int q x) where
  desc := h
  now := fun x y => by simp [Instr.sameNow]; by_cases e : x = y <;> simp [e]
  check := fun em x w => by
    show (Instr.checkKey em (9999 + 1) k _).run P w = _
    rw [Instr.checkKey]
    simp [run_underlying h]
  bits := fun x => by simp [Instr.sameBits]

theorem beq_bytes (x y : ByteArray) : (x == y) = decide (x = y) := by
  rw [Bool.eq_iff_iff, decide_eq_true_eq]; exact MapKept.bytes_beq x y

theorem keyOk_string {P : Program} {k : TypeId} (h : P.underlying k = some .string) : KeyOk P k .string (fun x : ByteArray => Value.string x) where
  desc := h
  now := fun x y => by simp [Instr.sameNow, beq_bytes]
  check := fun em x w => by
    show (Instr.checkKey em (9999 + 1) k _).run P w = _
    rw [Instr.checkKey]
    simp [run_underlying h]
  bits := fun x => by simp [Instr.sameBits, beq_bytes]

section maps
variable {κ V : Type} (enc : κ → Value) (ev : V → Value)

def Ents (es : List MapEntry) (m : List (κ × V)) : Prop := es.map (fun e => (e.key, e.val)) = m.map (fun p => (enc p.1, ev p.2))
def Born (es : List MapEntry) (clk : Nat) : Prop := (es.map (·.born)).Pairwise (· < ·) ∧ ∀ e ∈ es, e.born < clk
/-- The object o is a map whose entries are m, in this order. -/
def MapObj (o : Obj) (m : List (κ × V)) : Prop := ∃ es clk, o = .map es clk ∧ Ents enc ev es.toList m ∧ Born es.toList clk

variable {enc ev}
theorem Ents.nil : Ents enc ev [] [] := rfl
theorem Ents.inv {es : List MapEntry} {m : List (κ × V)} (h : Ents enc ev es m) : es.length = m.length := by
  have := congrArg List.length h
  simpa using this

variable {P : Program} {k : TypeId} {d : TypeDesc}

theorem findNow_of [DecidableEq κ] (K : KeyOk P k d enc) (x : κ) : ∀ (es : List MapEntry) (m : List (κ × V)) (i : Nat), Ents enc ev es m →
    (mget m x = none ∧ Instr.findNow d (enc x) es i = some none ∧ (∀ v', mset m x v' = m ++ [(x, v')]) ∧ mdel m x = m) ∨
    ∃ j v e, mget m x = some v ∧ Instr.findNow d (enc x) es i = some (some (i + j, ev v)) ∧ es[j]? = some e ∧ e.key = enc x ∧
      (∀ v', Ents enc ev (es.modify j fun e => { e with key := enc x, val := ev v' }) (mset m x v')) ∧ Ents enc ev (es.eraseIdx j) (mdel m x)
  | [], m, i, h => by
    cases m with
    | nil => exact .inl ⟨rfl, rfl, fun _ => rfl, rfl⟩
    | cons p m => simp [Ents] at h
  | e :: es, m, i, h => by
    cases m with
    | nil => simp [Ents] at h
    | cons p m =>
      obtain ⟨y, u⟩ := p
      simp only [Ents, List.map_cons, List.cons.injEq, Prod.mk.injEq] at h
      obtain ⟨⟨hk, hv⟩, ht⟩ := h
      have hs := K.now x y
      by_cases e1 : y = x
      · subst e1
        refine .inr ⟨0, u, e, by simp [mget], by simp [Instr.findNow, hk, hs, hv], rfl, hk, fun v' => ?_, ?_⟩
        · simp only [mset, if_true, List.modify_zero_cons, Ents, List.map_cons, List.cons.injEq]
          exact ⟨trivial, ht⟩
        · simp only [mdel, if_true, List.eraseIdx_zero, List.tail_cons]
          exact ht
      · have e2 : ¬ x = y := fun q => e1 q.symm
        rcases findNow_of K x es m (i + 1) ht with ⟨h1, h2, h3, h4⟩ | ⟨j, v, e', h1, h2, h3, h4, h5, h6⟩
        · exact .inl ⟨by simp [mget, e1, h1], by simp [Instr.findNow, hk, hs, e2, h2], fun v' => by simp [mset, e1, h3], by simp [mdel, e1, h4]⟩
        · refine .inr ⟨j + 1, v, e', by simp [mget, e1, h1], by simp [Instr.findNow, hk, hs, e2, h2]; omega, by simpa using h3, h4, fun v' => ?_, ?_⟩
          · simp only [mset, if_neg e1, List.modify_succ_cons, Ents, List.map_cons, List.cons.injEq, hk, hv, true_and]
            exact h5 v'
          · simp only [mdel, if_neg e1, List.eraseIdx_cons_succ, Ents, List.map_cons, List.cons.injEq, hk, hv, true_and]
            exact h6

theorem run_findKey_of [DecidableEq κ] (K : KeyOk P k d enc) {x : κ} {es : List MapEntry} {r : Option (Nat × Value)} (h : Instr.findNow d (enc x) es 0 = some r) (w : World) :
    (Instr.findKey k (enc x) es).run P w = .ok r w := by
  simp [Instr.findKey, run_underlying K.desc, h]

theorem run_getObj_of {w : World} {b : Nat} {es : Array MapEntry} {clk : Nat} (h : w.obj b = some (.map es clk)) : (getObj b).run P w = .ok (.map es clk) w := by
  simp [getObj, Sem.run, show w.heap[b]? = _ from h]
theorem run_setObj_of {w : World} {b : Nat} {es : Array MapEntry} {clk : Nat} (h : w.obj b = some (.map es clk)) (o : Obj) : (setObj b o).run P w = .ok () (setBlock w b o) := by
  simp [setObj, Sem.run, show w.heap[b]? = _ from h, setBlock]

/-- 'm[x]' (c: with 'ok'). -/
theorem run_lookup_of [DecidableEq κ] (K : KeyOk P k d enc) {t e : TypeId} (ht : P.underlying t = some (.map k e)) {z : V} (hz : ∀ w, (zeroValue e).run P w = .ok (ev z) w) {o : Obj} {m : List (κ × V)} (ho : MapObj enc ev o m) (b : Nat) (x : κ) :
    ∀ W : World, W.obj b = some o → ∀ c, (Instr.lookup t (.map (some b)) (enc x) c).run P W = .ok (if c = true then .tuple #[ev ((mget m x).getD z), .bool (mget m x).isSome] else ev ((mget m x).getD z)) W := by
  intro W hb c
  obtain ⟨es, clk, rfl, hE, _⟩ := ho
  rcases findNow_of K x es.toList m 0 hE with ⟨h1, h2, _, _⟩ | ⟨j, v, e', h1, h2, _⟩
  · simp [Instr.lookup, run_underlying ht, run_getObj_of hb, K.check, run_findKey_of K h2, Result.andThen, hz, h1]
  · simp [Instr.lookup, run_underlying ht, run_getObj_of hb, K.check, run_findKey_of K h2, Result.andThen, h1]

theorem Born.modify {es : List MapEntry} {clk : Nat} (h : Born es clk) (j : Nat) (f : MapEntry → MapEntry) (hf : ∀ e, (f e).born = e.born) : Born (es.modify j f) clk := by
  have e1 : (es.modify j f).map (·.born) = es.map (·.born) := by
    apply List.ext_getElem?
    intro i
    simp only [List.getElem?_map, List.getElem?_modify]
    cases h2 : es[i]? with
    | none => split <;> simp
    | some a => split <;> simp [hf]
  refine ⟨by rw [e1]; exact h.1, fun e he => ?_⟩
  have : e.born ∈ (es.modify j f).map (·.born) := List.mem_map.2 ⟨e, he, rfl⟩
  rw [e1] at this
  obtain ⟨e', h1, h2⟩ := List.mem_map.1 this
  rw [← h2]
  exact h.2 e' h1
theorem Born.push {es : List MapEntry} {clk : Nat} (h : Born es clk) (key val : Value) : Born (es ++ [{ key, val, born := clk }]) (clk + 1) := by
  refine ⟨?_, fun e he => ?_⟩
  · rw [List.map_append, List.pairwise_append]
    refine ⟨h.1, by simp, fun a ha b hb => ?_⟩
    obtain ⟨e, he, rfl⟩ := List.mem_map.1 ha
    simp only [List.map_cons, List.map_nil, List.mem_singleton] at hb
    rw [hb]
    exact h.2 e he
  · rcases List.mem_append.1 he with h1 | h1
    · exact Nat.lt_succ_of_lt (h.2 e h1)
    · simp only [List.mem_singleton] at h1
      rw [h1]
      exact Nat.lt_succ_self _
theorem Born.erase {es : List MapEntry} {clk : Nat} (h : Born es clk) (j : Nat) : Born (es.eraseIdx j) clk :=
  ⟨by
    have h1 : ((es.eraseIdx j).map (·.born)).Sublist (es.map (·.born)) := (List.eraseIdx_sublist es j).map _
    exact h.1.sublist h1, fun e he => h.2 e ((List.eraseIdx_sublist es j).mem he)⟩

theorem run_keyThatStays_of [DecidableEq κ] (K : KeyOk P k d enc) (x : κ) (w : World) : (Instr.keyThatStays (enc x) (enc x)).run P w = .ok (enc x) w := by
  simp [Instr.keyThatStays, K.bits]

theorem Ents.push {es : List MapEntry} {m : List (κ × V)} (h : Ents enc ev es m) (x : κ) (v : V) (n : Nat) : Ents enc ev (es ++ [{ key := enc x, val := ev v, born := n }]) (m ++ [(x, v)]) := by
  unfold Ents at *
  rw [List.map_append, List.map_append, h]
  rfl

/-- 'm[x] = v'. -/
theorem run_update_of [DecidableEq κ] (K : KeyOk P k d enc) {t e : TypeId} (ht : P.underlying t = some (.map k e)) {o : Obj} {m : List (κ × V)} (ho : MapObj enc ev o m) (b : Nat) (x : κ) (v : V) :
    ∃ o', MapObj enc ev o' (mset m x v) ∧ ∀ W : World, W.obj b = some o → (Instr.mapUpdate t (.map (some b)) (enc x) (ev v)).run P W = .ok () (setBlock W b o') := by
  obtain ⟨es, clk, rfl, hE, hB⟩ := ho
  rcases findNow_of K x es.toList m 0 hE with ⟨h1, h2, h3, _⟩ | ⟨j, v0, e', h1, h2, h3, h4, h5, _⟩
  · refine ⟨.map (es.push { key := enc x, val := ev v, born := clk }) (clk + 1), ⟨_, _, rfl, ?_, ?_⟩, fun W hb => ?_⟩
    · rw [h3, Array.toList_push]; exact hE.push x v clk
    · rw [Array.toList_push]; exact hB.push _ _
    · simp [Instr.mapUpdate, run_underlying ht, run_getObj_of hb, K.check, run_findKey_of K h2, run_setObj_of hb, Result.andThen]
  · have hj : es[j]? = some e' := by rw [← Array.getElem?_toList]; exact h3
    refine ⟨.map (es.modify j fun e => { e with key := enc x, val := ev v }) clk, ⟨_, _, rfl, ?_, ?_⟩, fun W hb => ?_⟩
    · rw [Array.toList_modify]; exact h5 v
    · rw [Array.toList_modify]; exact hB.modify j _ fun _ => rfl
    · simp [Instr.mapUpdate, run_underlying ht, run_getObj_of hb, K.check, run_findKey_of K h2, hj, h4, run_keyThatStays_of K, run_setObj_of hb, Result.andThen]

theorem findIdx_toList {α : Type} (xs : Array α) (p : α → Bool) : xs.findIdx? p = xs.toList.findIdx? p := by
  obtain ⟨l⟩ := xs
  simp

theorem findIdx_born {es : List MapEntry} {clk : Nat} (hB : Born es clk) {j : Nat} {e : MapEntry} (hj : es[j]? = some e) : es.findIdx? (fun a => (a.born : Int) == (e.born : Int)) = some j := by
  have hl : j < es.length := by
    rcases Nat.lt_or_ge j es.length with h | h
    · exact h
    · rw [List.getElem?_eq_none h] at hj; cases hj
  have he : es[j] = e := by rw [List.getElem?_eq_getElem hl] at hj; exact Option.some.inj hj
  rw [List.findIdx?_eq_some_iff_getElem]
  refine ⟨hl, by simp [he], fun i hi => ?_⟩
  have h1 := List.pairwise_iff_getElem.1 hB.1 i j (by simp; omega) (by simpa using hl) hi
  simp only [List.getElem_map, he] at h1
  simp
  omega

/-- 'm[x]' on the left of '=', in two steps: the entry, then what is stored into it. -/
theorem run_entry_of [DecidableEq κ] (K : KeyOk P k d enc) {t e : TypeId} (ht : P.underlying t = some (.map k e)) {z : Value} (hz : ∀ w, (zeroValue e).run P w = .ok z w) {o : Obj} {m : List (κ × V)} (ho : MapObj enc ev o m) (b : Nat) (x : κ) (v' : V) :
    ∃ o1 o' u, ∃ n : Int, (∀ W : World, W.obj b = some o → (Instr.mapEntry t (.map (some b)) (enc x)).run P W = .ok (.tuple #[u, .int .i64 n]) (setBlock W b o1)) ∧
      MapObj enc ev o' (mset m x v') ∧ ∀ W : World, W.obj b = some o1 → (Instr.entryStore t (.map (some b)) (.int .i64 n) (ev v')).run P W = .ok () (setBlock W b o') := by
  obtain ⟨es, clk, rfl, hE, hB⟩ := ho
  rcases findNow_of K x es.toList m 0 hE with ⟨h1, h2, h3, _⟩ | ⟨j, v0, e', h1, h2, h3, h4, h5, _⟩
  · refine ⟨.map (es.push { key := enc x, val := z, born := clk }) (clk + 1), .map (es.push { key := enc x, val := ev v', born := clk }) (clk + 1), z, clk, fun W hb => ?_, ⟨_, _, rfl, ?_, ?_⟩, fun W hb => ?_⟩
    · simp [Instr.mapEntry, run_underlying ht, run_getObj_of hb, K.check, run_findKey_of K h2, run_setObj_of hb, Result.andThen, hz, goInt]
    · rw [h3, Array.toList_push]; exact hE.push x v' clk
    · rw [Array.toList_push]; exact hB.push _ _
    · have hi := findIdx_born (hB.push (enc x) z) (j := es.size) (e := { key := enc x, val := z, born := clk }) (by simp)
      have hi' : (es.push { key := enc x, val := z, born := clk }).findIdx? (fun a => (a.born : Int) == (clk : Int)) = some es.size := by
        rw [findIdx_toList, Array.toList_push]; exact hi
      have hm : (es.push { key := enc x, val := z, born := clk }).modify es.size (fun e => { e with val := ev v' }) = es.push { key := enc x, val := ev v', born := clk } := by
        apply Array.ext_getElem?
        intro i
        simp only [Array.getElem?_modify, Array.getElem?_push]
        by_cases e1 : es.size = i
        · subst e1; simp
        · simp [e1, show ¬ i = es.size from fun q => e1 q.symm]
      simp [Instr.entryStore, run_getObj_of hb, asInt, asIntOf, hi', run_setObj_of hb, hm, Result.andThen]
  · have hj : es[j]? = some e' := by rw [← Array.getElem?_toList]; exact h3
    refine ⟨.map (es.modify j fun e => { e with key := enc x }) clk, .map (es.modify j fun e => { e with key := enc x, val := ev v' }) clk, ev v0, e'.born, fun W hb => ?_, ⟨_, _, rfl, ?_, ?_⟩, fun W hb => ?_⟩
    · simp [Instr.mapEntry, run_underlying ht, run_getObj_of hb, K.check, run_findKey_of K h2, hj, h4, run_keyThatStays_of K, run_setObj_of hb, Result.andThen, goInt]
    · rw [Array.toList_modify]; exact h5 v'
    · rw [Array.toList_modify]; exact hB.modify j _ fun _ => rfl
    · have hi := findIdx_born (hB.modify j (fun e => { e with key := enc x }) fun _ => rfl) (j := j) (e := { e' with key := enc x }) (by simp [h3])
      have hi' : (es.modify j fun e => { e with key := enc x }).findIdx? (fun a => (a.born : Int) == (e'.born : Int)) = some j := by
        rw [findIdx_toList, Array.toList_modify]; exact hi
      have hm : (es.modify j fun e => { e with key := enc x }).modify j (fun e => { e with val := ev v' }) = es.modify j fun e => { e with key := enc x, val := ev v' } := by
        apply Array.ext_getElem?
        intro i
        simp only [Array.getElem?_modify]
        by_cases e1 : j = i
        · subst e1; simp [hj]
        · simp [e1]
      simp [Instr.entryStore, run_getObj_of hb, asInt, asIntOf, hi', run_setObj_of hb, hm, Result.andThen]

/-- 'delete(m, x)'. -/
theorem run_delete_of [DecidableEq κ] (K : KeyOk P k d enc) {t e : TypeId} (ht : P.underlying t = some (.map k e)) {o : Obj} {m : List (κ × V)} (ho : MapObj enc ev o m) (b : Nat) (x : κ) :
    ∃ o', MapObj enc ev o' (mdel m x) ∧ ∀ W : World, W.obj b = some o → ∀ ty, (Builtin.delete_ #[t, k] ty #[.map (some b), enc x]).run P W = .ok (.tuple #[]) (setBlock W b o') := by
  obtain ⟨es, clk, rfl, hE, hB⟩ := ho
  rcases findNow_of K x es.toList m 0 hE with ⟨h1, h2, _, h4⟩ | ⟨j, v0, e', h1, h2, h3, _, _, h6⟩
  · refine ⟨.map es clk, ⟨_, _, rfl, by rw [h4]; exact hE, hB⟩, fun W hb ty => ?_⟩
    simp [Builtin.delete_, run_underlying ht, run_getObj_of hb, K.check, run_findKey_of K h2, run_setObj_of hb, Result.andThen]
  · have hj : j < es.size := by
      rcases Nat.lt_or_ge j es.size with h | h
      · exact h
      · have hn : es.toList[j]? = none := List.getElem?_eq_none (by simpa using h)
        rw [hn] at h3; cases h3
    refine ⟨.map (es.eraseIdxIfInBounds j) clk, ⟨_, _, rfl, ?_, ?_⟩, fun W hb ty => ?_⟩
    · simpa [Array.eraseIdxIfInBounds, hj, Array.toList_eraseIdx] using h6
    · simpa [Array.eraseIdxIfInBounds, hj, Array.toList_eraseIdx] using hB.erase j
    · simp [Builtin.delete_, run_underlying ht, run_getObj_of hb, K.check, run_findKey_of K h2, run_setObj_of hb, Result.andThen]

/-- 'len(m)'. -/
theorem run_len_of {t e : TypeId} (ht : P.underlying t = some (.map k e)) {o : Obj} {m : List (κ × V)} (ho : MapObj enc ev o m) (b : Nat) :
    ∀ W : World, W.obj b = some o → ∀ ty, (Builtin.len_ #[t] ty #[.map (some b)]).run P W = .ok (.int .i64 m.length) W := by
  intro W hb ty
  obtain ⟨es, clk, rfl, hE, _⟩ := ho
  have := hE.inv
  simp at this
  simp [Builtin.len_, run_underlying ht, run_getObj_of hb, Result.andThen, ← this, goInt]

theorem mapObj_new : MapObj enc ev (.map #[] 0) ([] : List (κ × V)) := ⟨#[], 0, rfl, rfl, by simp [Born]⟩
end maps
end Go.Sub
