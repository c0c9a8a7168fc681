/- The table of connections: what it is in memory; what is asked of one. -/
import Derived.Test.YtimkbpcdbbdjlaaRingD
namespace Go.Proofs.Ytimkbpcdbbdjlaa
open Go.RowKit Go.Sub Go.ChangeMaps
abbrev encI (x : Int) : Value := .int .i64 x
abbrev evP (p : Option Nat) : Value := .pointer (p.map fun b => ⟨b, 0, none⟩)
theorem keyI : KeyOk Try.prog 3 (.int .i64) encI := keyOk_int Try.underlying3
theorem zCon (w : World) : (zeroValue 67).run Try.prog w = .ok (evP none) w := by kernel_rfl
/-- A connection. -/
structure Con where
  addr : Int
  inn : List UInt8
  out : List UInt8
  credit : Int
  ended : Bool
/-- A connection, and where it lies. -/
structure CE where
  id : Int
  cb : Nat
  ri : Nat
  ro : Nat
  c : Con
abbrev CE.key (x : CE) : Int × Option Nat := (x.id, some x.cb)
abbrev CE.val (x : CE) : Int × Con := (x.id, x.c)
abbrev conB (ri ro : Nat) (c : Con) : Obj := .cells #[.int .u32 c.addr, .pointer (some ⟨ri, 0, none⟩), .pointer (some ⟨ro, 0, none⟩), .int .i64 c.credit, .bool c.ended] 71 (0, 0)
def conT (cb ri ro : Nat) (c : Con) : Asrt := .stars [.blk cb (conB ri ro c), ringT ri 512 c.inn, ringT ro 1024 c.out]
abbrev CE.asrt (x : CE) : Asrt := conT x.cb x.ri x.ro x.c
def tabT (b : Nat) (last : Int) (M : List (Int × Con)) : Asrt := .ex fun q : Nat × List CE => .fact (q.2.map CE.val = M)
  (.stars (.blk b (.cells #[.map (some q.1), .int .i64 last] 66 (0, 0)) :: .map encI evP q.1 (q.2.map CE.key) :: q.2.map CE.asrt))
theorem ent_open (L : List CE) (id : Int) : (mget (L.map CE.key) id = none ∧ mget (L.map CE.val) id = none ∧ (∀ x ∈ L, x.id ≠ id)) ∨
    ∃ i x, L[i]? = some x ∧ x.id = id ∧ mget (L.map CE.key) id = some (some x.cb) ∧ mget (L.map CE.val) id = some x.c ∧
      (∀ c', mset (L.map CE.val) id c' = (L.set i { x with c := c' }).map CE.val) ∧ mdel (L.map CE.key) id = (L.eraseIdx i).map CE.key ∧ mdel (L.map CE.val) id = (L.eraseIdx i).map CE.val := by
  induction L with
  | nil => exact .inl ⟨rfl, rfl, by simp⟩
  | cons y L ih =>
    by_cases e : y.id = id
    · exact .inr ⟨0, y, rfl, e, by simp [mget, e], by simp [mget, e], fun c' => by simp [mset, e], by simp [mdel, e], by simp [mdel, e]⟩
    · rcases ih with ⟨h1, h2, h3⟩ | ⟨i, x, h1, h2, h3, h4, h5, h6, h7⟩
      · refine .inl ⟨by simp [mget, e, h1], by simp [mget, e, h2], fun x hx => ?_⟩
        rcases List.mem_cons.1 hx with rfl | hx
        · exact e
        · exact h3 x hx
      · exact .inr ⟨i + 1, x, by simpa using h1, h2, by simp [mget, e, h3], by simp [mget, e, h4], fun c' => by simp [mset, e, h5], by simp [mdel, e, h6], by simp [mdel, e, h7]⟩
/-- What is there of a connection, and how the table is made whole again. -/
theorem tab_open {b : Nat} {last : Int} {M : List (Int × Con)} {w : World} {F : Fp} (hM : (tabT b last M).on w F) (id : Int) :
    ∃ mb, w.cell? ⟨b, 0, none⟩ = some (.map (some mb)) ∧ w.cell? ⟨b, 1, none⟩ = some (.int .i64 last) ∧ b < w.heap.size ∧ mb < w.heap.size ∧ (∀ j, w.frozen? ⟨b, j, none⟩ = false) ∧
    ((mget M id = none ∧ (∀ W : World, W.obj mb = w.obj mb → ∀ c, (Instr.lookup 64 (.map (some mb)) (.int .i64 id) c).run Try.prog W = .ok (if c = true then .tuple #[.pointer none, .bool false] else .pointer none) W)) ∨
     ∃ cb ri ro c Fi, mget M id = some c ∧ (∀ W : World, W.obj mb = w.obj mb → ∀ k, (Instr.lookup 64 (.map (some mb)) (.int .i64 id) k).run Try.prog W = .ok (if k = true then .tuple #[.pointer (some ⟨cb, 0, none⟩), .bool true] else .pointer (some ⟨cb, 0, none⟩)) W) ∧
       (conT cb ri ro c).on w Fi ∧ (∀ k, Fi k → F k) ∧ ∀ (w' : World) (Fi' : Fp) (c' : Con) (X : Asrt), (Asrt.star X (conT cb ri ro c')).on w' Fi' → Upd Fi Fi' w w' → ∃ F', (Asrt.star X (tabT b last (mset M id c'))).on w' F' ∧ Upd F F' w w') := by
  obtain ⟨⟨mb, L⟩, rfl, hS⟩ := hM
  obtain ⟨hc, hf, hlt⟩ := Asrt.blk_of hS 0 rfl
  obtain ⟨_, ⟨o, ho, hm, _⟩, _⟩ := Asrt.stars_get hS 1 rfl
  have hl := run_lookup_of keyI Try.underlying64 zCon ho mb id
  refine ⟨mb, hc 0, hc 1, hlt, lt_of_heap hm, hf, ?_⟩
  rcases ent_open L id with ⟨h1, h2, _⟩ | ⟨i, x, h1, h2, h3, h4, h5, _, _⟩
  · left
    rw [h1] at hl
    exact ⟨h2, fun W hW c => hl W (hW.trans hm) c⟩
  · right
    rw [h3] at hl
    obtain ⟨Fi, hi, hsub, hgo⟩ := Asrt.stars_upd _ (i + 2) x.asrt (by simp [h1]) hS
    refine ⟨x.cb, x.ri, x.ro, x.c, Fi, h4, fun W hW c => hl W (hW.trans hm) c, hi, hsub, fun w' Fi' c' X h' hu => ?_⟩
    obtain ⟨F', hS', hU'⟩ := hgo w' Fi' (.star X (conT x.cb x.ri x.ro c')) h' hu
    refine ⟨F', Asrt.star_imp (fun G hG => ⟨(mb, L.set i { x with c := c' }), (h5 c').symm, ?_⟩) (Asrt.star_out _ _ (by have := (List.getElem?_eq_some_iff.1 h1).1; simpa using this) hS'), hU'⟩
    have e1 : (L.set i { x with c := c' }).map CE.key = L.map CE.key := by
      rw [List.map_set]
      show (L.map CE.key).set i (CE.key x) = _
      obtain ⟨hi', hx⟩ := List.getElem?_eq_some_iff.1 h1
      subst hx
      apply List.ext_getElem?
      intro j
      rw [List.getElem?_set]
      by_cases e : i = j
      · subst e; simp [hi']
      · simp [e]
    rw [e1, List.map_set]
    exact hG
end Go.Proofs.Ytimkbpcdbbdjlaa
