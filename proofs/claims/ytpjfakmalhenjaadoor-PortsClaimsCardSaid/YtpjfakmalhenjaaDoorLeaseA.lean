/- The book of leases: what it is in memory. -/
import Derived.Test.YtpjfakmalhenjaaDoorLzA
set_option linter.unusedVariables false
namespace Go.Proofs.YtpjfakmalhenjaaDoor
open Go.RowKit Go.Sub Go.ChangeMaps
abbrev encS (x : ByteArray) : Value := .string x
abbrev evP (p : Option Nat) : Value := .pointer (p.map fun b => ⟨b, 0, none⟩)
theorem keyS : KeyOk Tryd.prog 9 .string encS := keyOk_string Tryd.underlying9
theorem zLease (w : World) : (zeroValue 63).run Tryd.prog w = .ok (evP none) w := by kernel_rfl
/-- a lease, and where it lies -/
structure LE where
  nm : ByteArray
  cb : Nat
  x : Lz
abbrev LE.key (y : LE) : ByteArray × Option Nat := (y.nm, some y.cb)
abbrev LE.val (y : LE) : ByteArray × Lz := (y.nm, y.x)
abbrev LE.asrt (y : LE) : Asrt := .blk y.cb (blkL y.x)
abbrev LT := List (ByteArray × Lz)
abbrev bookO (g m e : Int) (mb : Nat) : Obj := .cells #[.int .i64 g, .int .i64 m, .int .i64 e, .map (some mb)] 61 (0, 0)
def bookT (b : Nat) (g m e : Int) (M : LT) : Asrt := .ex fun q : Nat × List LE => .fact (q.2.map LE.val = M)
  (.stars (.blk b (bookO g m e q.1) :: .map encS evP q.1 (q.2.map LE.key) :: q.2.map LE.asrt))
theorem lent_open (L : List LE) (nm : ByteArray) : (mget (L.map LE.key) nm = none ∧ mget (L.map LE.val) nm = none ∧ (∀ y ∈ L, y.nm ≠ nm)) ∨
    ∃ i y, L[i]? = some y ∧ y.nm = nm ∧ mget (L.map LE.key) nm = some (some y.cb) ∧ mget (L.map LE.val) nm = some y.x ∧
      (∀ x', mset (L.map LE.val) nm x' = (L.set i { y with x := x' }).map LE.val) ∧ mdel (L.map LE.key) nm = (L.eraseIdx i).map LE.key ∧ mdel (L.map LE.val) nm = (L.eraseIdx i).map LE.val ∧
      (∀ p, mset (L.map LE.key) nm (some p) = (L.set i { y with cb := p }).map LE.key) := by
  induction L with
  | nil => exact .inl ⟨rfl, rfl, by simp⟩
  | cons y L ih =>
    by_cases e : y.nm = nm
    · exact .inr ⟨0, y, rfl, e, by simp [mget, e], by simp [mget, e], fun c' => by simp [mset, e], by simp [mdel, e], by simp [mdel, e], fun p => by simp [mset, e]⟩
    · rcases ih with ⟨h1, h2, h3⟩ | ⟨i, x, h1, h2, h3, h4, h5, h6, h7, h8⟩
      · refine .inl ⟨by simp [mget, e, h1], by simp [mget, e, h2], fun x hx => ?_⟩
        rcases List.mem_cons.1 hx with rfl | hx
        · exact e
        · exact h3 x hx
      · exact .inr ⟨i + 1, x, by simpa using h1, h2, by simp [mget, e, h3], by simp [mget, e, h4], fun c' => by simp [mset, e, h5], by simp [mdel, e, h6], by simp [mdel, e, h7], fun p => by simp [mset, e, h8]⟩
/-- what 'lookup' says of a name -/
def Finds (mb : Nat) (w : World) (nm : ByteArray) (p : Option Nat) : Prop := ∀ W : World, W.obj mb = w.obj mb → ∀ c, (Instr.lookup 59 (.map (some mb)) (.string nm) c).run Tryd.prog W =
  .ok (if c = true then .tuple #[.pointer (p.map fun b => ⟨b, 0, none⟩), .bool p.isSome] else .pointer (p.map fun b => ⟨b, 0, none⟩)) W
theorem book_open {b : Nat} {g m e : Int} {M : LT} {w : World} {F : Fp} (hM : (bookT b g m e M).on w F) (nm : ByteArray) :
    ∃ mb, w.cell? ⟨b, 0, none⟩ = some (.int .i64 g) ∧ w.cell? ⟨b, 1, none⟩ = some (.int .i64 m) ∧ w.cell? ⟨b, 2, none⟩ = some (.int .i64 e) ∧ w.cell? ⟨b, 3, none⟩ = some (.map (some mb)) ∧ b < w.heap.size ∧ mb < w.heap.size ∧ (∀ j, w.frozen? ⟨b, j, none⟩ = false) ∧ F b ∧ F mb ∧
    ((mget M nm = none ∧ Finds mb w nm none) ∨
     ∃ cb x Fi, mget M nm = some x ∧ Finds mb w nm (some cb) ∧ (Asrt.blk cb (blkL x)).on w Fi ∧ (∀ k, Fi k → F k) ∧
       ∀ (w' : World) (Fi' : Fp) (x' : Lz), (Asrt.blk cb (blkL x')).on w' Fi' → Upd Fi Fi' w w' → ∃ F', (bookT b g m e (mset M nm x')).on w' F' ∧ Upd F F' w w') := by
  obtain ⟨⟨mb, L⟩, rfl, hS⟩ := hM
  obtain ⟨hc, hf, hlt⟩ := Asrt.blk_of hS 0 rfl
  obtain ⟨Fb, hb, hbF⟩ := Asrt.stars_get hS 0 rfl
  obtain ⟨Fm, ⟨o, ho, hm, hFm⟩, hmF⟩ := Asrt.stars_get hS 1 rfl
  have hl := run_lookup_of keyS Tryd.underlying59 zLease ho mb nm
  refine ⟨mb, hc 0, hc 1, hc 2, hc 3, hlt, lt_of_heap hm, hf, hbF _ (by rw [hb.2]), hmF _ (by rw [hFm]), ?_⟩
  rcases lent_open L nm with ⟨h1, h2, _⟩ | ⟨i, y, h1, h2, h3, h4, h5, _, _, _⟩
  · left
    rw [h1] at hl
    exact ⟨h2, fun W hW c => hl W (hW.trans hm) c⟩
  · right
    rw [h3] at hl
    obtain ⟨Fi, hi, hsub, hgo⟩ := Asrt.stars_upd _ (i + 2) y.asrt (by simp [h1]) hS
    refine ⟨y.cb, y.x, Fi, h4, fun W hW c => hl W (hW.trans hm) c, hi, hsub, fun w' Fi' x' h' hu => ?_⟩
    obtain ⟨F', hS', hU'⟩ := hgo w' Fi' (.blk y.cb (blkL x')) h' hu
    refine ⟨F', ⟨(mb, L.set i { y with x := x' }), (h5 x').symm, ?_⟩, hU'⟩
    have e1 : (L.set i { y with x := x' }).map LE.key = L.map LE.key := by
      rw [List.map_set]
      obtain ⟨hi', hx⟩ := List.getElem?_eq_some_iff.1 h1
      subst hx
      apply List.ext_getElem?
      intro j
      rw [List.getElem?_set]
      by_cases e : i = j
      · subst e; simp [hi']
      · simp [e]
    have := hS'
    simp only [List.set_cons_succ] at this
    show (Asrt.stars (_ :: Asrt.map encS evP mb ((L.set i { y with x := x' }).map LE.key) :: (L.set i { y with x := x' }).map LE.asrt)).on w' F'
    rw [e1, List.map_set]
    exact this
end Go.Proofs.YtpjfakmalhenjaaDoor
