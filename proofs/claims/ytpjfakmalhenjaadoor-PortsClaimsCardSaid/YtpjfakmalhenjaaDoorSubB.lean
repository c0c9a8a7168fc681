/- Part B of a small library of memory assertions: worlds, footprints, frames, separating lists. No program's text. -/
import Derived.Test.YtpjfakmalhenjaaDoorSubA
namespace Go.Sub
open Go.ChangeMaps (setBlock)

/-! ### worlds -/
section worlds
variable {w : World} {b : Nat} {o : Obj}
@[go_sem] theorem size_setBlock (w : World) (b : Nat) (o : Obj) : (setBlock w b o).heap.size = w.heap.size := by simp [setBlock]
@[go_sem] theorem obj_setBlock_at (h : b < w.heap.size) : (setBlock w b o).obj b = some o := by simp [World.obj, setBlock, h]
@[go_sem] theorem obj_setBlock_ne {i : Nat} (h : i ≠ b) : (setBlock w b o).obj i = w.obj i := by
  simp only [World.obj, setBlock, Array.getElem?_setIfInBounds, if_neg (fun e : b = i => h e.symm)]
@[go_sem] theorem cell?_setBlock_ne {a : Addr} (h : a.block ≠ b) : (setBlock w b o).cell? a = w.cell? a := World.cell?_of_block (obj_setBlock_ne h)
@[go_sem] theorem frozen?_setBlock_ne {a : Addr} (h : a.block ≠ b) : (setBlock w b o).frozen? a = w.frozen? a := World.frozen?_of_block (obj_setBlock_ne h)
@[go_sem] theorem setBlock_drew (w : World) (b : Nat) (o : Obj) : setBlock w.drew b o = (setBlock w b o).drew := rfl
@[go_sem] theorem setBlock_setBlock (w : World) (b : Nat) (o o' : Obj) : setBlock (setBlock w b o) b o' = setBlock w b o' := by simp [setBlock]
@[go_sem] theorem obj_drew (w : World) (i : Nat) : w.drew.obj i = w.obj i := rfl
@[go_sem] theorem obj_drewN (w : World) (n i : Nat) : (w.drewN n).obj i = w.obj i := rfl
@[go_sem] theorem size_drewN (w : World) (n : Nat) : (w.drewN n).heap.size = w.heap.size := rfl
@[go_sem] theorem setBlock_drewN (w : World) (n b : Nat) (o : Obj) : setBlock (w.drewN n) b o = (setBlock w b o).drewN n := rfl
@[go_sem] theorem obj_alloc_at {i : Nat} (h : i = w.heap.size) : (w.alloc o).obj i = some o := by
  subst h; simp only [World.obj, World.alloc, Array.getElem?_push_size]
@[go_sem] theorem obj_alloc_lt {i : Nat} (h : i < w.heap.size) : (w.alloc o).obj i = w.obj i := by
  simp only [World.obj, World.alloc, Array.getElem?_push, if_neg (Nat.ne_of_lt h)]
@[go_sem] theorem obj_setCell_ne {a : Addr} {v : Value} {i : Nat} (h : i ≠ a.block) : (w.setCell a v).obj i = w.obj i := RowKit.Below.heap_setCell w a v i h
theorem obj_setCell_at {c : Array Value} {t : TypeId} {fz : Nat × Nat} (h : w.obj b = some (.cells c t fz)) (i : Nat) (v : Value) :
    (w.setCell ⟨b, i, none⟩ v).obj b = some (.cells (c.setIfInBounds i v) t fz) := by
  have h' : w.heap[b]? = _ := h
  simp [World.obj, World.setCell, Array.getElem?_modify, h']

/-- a block of cells, none frozen: what is read there -/
theorem blk_facts {c : Array Value} {t : TypeId} (h : w.obj b = some (.cells c t (0, 0))) :
    (∀ i, w.cell? ⟨b, i, none⟩ = c[i]?) ∧ (∀ i, w.frozen? ⟨b, i, none⟩ = false) ∧ b < w.heap.size :=
  ⟨fun i => by simp [World.cell?, show w.heap[b]? = _ from h], fun i => by simp [World.frozen?, show w.heap[b]? = _ from h], by
    rcases Nat.lt_or_ge b w.heap.size with h1 | h1
    · exact h1
    · rw [World.obj, Array.getElem?_eq_none h1] at h; cases h⟩
theorem lt_of_heap {x : Obj} (h : w.obj b = some x) : b < w.heap.size := by
  rcases Nat.lt_or_ge b w.heap.size with h1 | h1
  · exact h1
  · rw [World.obj, Array.getElem?_eq_none h1] at h; cases h
end worlds

/-! ### footprints and what is left alone -/
abbrev Fp := Nat → Prop
def none' : Fp := fun _ => False
/-- From w to w' at most the blocks of F have turned, and F' has no block but of F and new ones. -/
structure Upd (F F' : Fp) (w w' : World) : Prop where
  os : w'.os = w.os
  tape : w'.tape = w.tape
  output : w'.output = w.output
  size : w.heap.size ≤ w'.heap.size
  same : ∀ k, k < w.heap.size → ¬ F k → w'.obj k = w.obj k
  fp : ∀ k, F' k → F k ∨ w.heap.size ≤ k

/-- How a call ends: with a value, in a world of which Q holds. A definition, so that no walk lays it open. -/
def Ret (v : Value) (Q : World → Prop) (e : Ending) (w' : World) : Prop := e = .returned v ∧ Q w'
/-- Nothing that was there has turned. -/
def Quiet (w w' : World) : Prop := Upd none' none' w w'

namespace Upd
variable {F F' F'' G : Fp} {w w' w'' : World}
theorem refl (F : Fp) (w : World) : Upd F F w w := ⟨rfl, rfl, rfl, Nat.le_refl _, fun _ _ _ => rfl, fun _ h => .inl h⟩
theorem trans (h : Upd F F' w w') (h' : Upd F' F'' w' w'') : Upd F F'' w w'' where
  os := h'.os.trans h.os
  tape := h'.tape.trans h.tape
  output := h'.output.trans h.output
  size := Nat.le_trans h.size h'.size
  same := fun k hk hn => (h'.same k (Nat.lt_of_lt_of_le hk h.size) fun hf => by
    rcases h.fp k hf with h1 | h1
    · exact hn h1
    · omega).trans (h.same k hk hn)
  fp := fun k hk => by
    rcases h'.fp k hk with h1 | h1
    · exact h.fp k h1
    · exact .inr (Nat.le_trans h.size h1)
theorem drew (h : Upd F F' w w') : Upd F F' w w'.drew := ⟨h.os, h.tape, h.output, h.size, h.same, h.fp⟩
theorem drewN (h : Upd F F' w w') (n : Nat) : Upd F F' w (w'.drewN n) := ⟨h.os, h.tape, h.output, h.size, h.same, h.fp⟩
theorem alloc (h : Upd F F' w w') (o : Obj) : Upd F F' w (w'.alloc o) :=
  ⟨h.os, h.tape, h.output, by simp; exact Nat.le_succ_of_le h.size, fun k hk hn => (obj_alloc_lt (Nat.lt_of_lt_of_le hk h.size)).trans (h.same k hk hn), h.fp⟩
theorem own (h : Upd F F' w w') {n : Nat} (hn : w.heap.size ≤ n) : Upd F (fun k => F' k ∨ k = n) w w' :=
  ⟨h.os, h.tape, h.output, h.size, h.same, fun k hk => by
    rcases hk with h1 | h1
    · exact h.fp k h1
    · exact .inr (h1 ▸ hn)⟩
theorem setCell (h : Upd F F' w w') {a : Addr} (ha : F a.block ∨ w.heap.size ≤ a.block) (v : Value) : Upd F F' w (w'.setCell a v) :=
  ⟨h.os, h.tape, h.output, by simp; exact h.size, fun k hk hn => (obj_setCell_ne (fun e => by
    rcases ha with h1 | h1
    · exact hn (e ▸ h1)
    · omega)).trans (h.same k hk hn), h.fp⟩
theorem setBlock (h : Upd F F' w w') {b : Nat} (ha : F b ∨ w.heap.size ≤ b) (o : Obj) : Upd F F' w (setBlock w' b o) :=
  ⟨h.os, h.tape, h.output, by rw [size_setBlock]; exact h.size, fun k hk hn => (obj_setBlock_ne (fun e => by
    rcases ha with h1 | h1
    · exact hn (e ▸ h1)
    · omega)).trans (h.same k hk hn), h.fp⟩
/-- another new footprint -/
theorem re (h : Upd F F' w w') (hF : ∀ k, F'' k → F k ∨ w.heap.size ≤ k) : Upd F F'' w w' := ⟨h.os, h.tape, h.output, h.size, h.same, hF⟩
/-- A call that touches a part only. -/
theorem weaken (h : Upd F F' w w') (hF : ∀ k, F k → G k) (hG : ∀ k, F'' k → G k ∨ F' k ∨ w.heap.size ≤ k) : Upd G F'' w w' :=
  ⟨h.os, h.tape, h.output, h.size, fun k hk hn => h.same k hk (fun hf => hn (hF k hf)), fun k hk => by
    rcases hG k hk with h1 | h1 | h1
    · exact .inl h1
    · rcases h.fp k h1 with h2 | h2
      · exact .inl (hF k h2)
      · exact .inr h2
    · exact .inr h1⟩
/-- beside something that is left alone -/
theorem beside (h : Upd F F' w w') (G : Fp) : Upd (fun k => F k ∨ G k) (fun k => F' k ∨ G k) w w' :=
  h.weaken (fun _ h => .inl h) fun _ hk => hk.elim (fun h => .inr (.inl h)) fun h => .inl (.inr h)
theorem cell (h : Upd F F' w w') {a : Addr} (hk : a.block < w.heap.size) (hn : ¬ F a.block) : w'.cell? a = w.cell? a := World.cell?_of_block (h.same _ hk hn)
theorem frozen (h : Upd F F' w w') {a : Addr} (hk : a.block < w.heap.size) (hn : ¬ F a.block) : w'.frozen? a = w.frozen? a := World.frozen?_of_block (h.same _ hk hn)
theorem thenQ {G : Fp} (h : Upd F F' w w') (h' : Upd none' G w' w'') : Upd F F' w w'' := h.trans (h'.weaken (fun _ h => h.elim) fun _ h => .inl h)
theorem quiet (h : Upd none' F' w w') : Quiet w w' := h.re fun _ h => h.elim
theorem below (h : Upd F F' w w') (hF : ∀ k, F k → False) : RowKit.Below w.heap.size w w' :=
  ⟨h.os, h.tape, h.output, h.size, fun k hk => h.same k hk (hF k)⟩
theorem of_grown {row : Option Nat} (h : w.grownBy w' row) (hr : ∀ k, row = some k → F k) (hF : ∀ k, F' k → F k ∨ w.heap.size ≤ k) : Upd F F' w w' :=
  ⟨h.os, h.tape, h.output, h.size, fun k hk hn => h.block k hk (fun e => hn (hr k e.symm)), hF⟩
end Upd

/-- An assertion: of a world and a footprint. -/
structure Asrt where
  on : World → Fp → Prop
  loc : ∀ {w w' : World} {F : Fp}, on w F → (∀ k, F k → w'.obj k = w.obj k) → on w' F
  lt : ∀ {w : World} {F : Fp}, on w F → ∀ k, F k → k < w.heap.size

namespace Asrt
/-- One block. -/
def blk (b : Nat) (o : Obj) : Asrt where
  on := fun w F => w.obj b = some o ∧ F = fun k => k = b
  loc := fun {w w' F} h hk => ⟨(hk b (by rw [h.2])).trans h.1, h.2⟩
  lt := fun {w F} h k hk => by rw [h.2] at hk; subst hk; exact lt_of_heap h.1
def emp : Asrt where
  on := fun _ F => F = fun _ => False
  loc := fun h _ => h
  lt := fun {w F} h k hk => by rw [h] at hk; exact hk.elim
def star (A B : Asrt) : Asrt where
  on := fun w F => ∃ F1 F2, A.on w F1 ∧ B.on w F2 ∧ (∀ k, F1 k → F2 k → False) ∧ F = fun k => F1 k ∨ F2 k
  loc := fun {w w' F} ⟨F1, F2, h1, h2, hd, hF⟩ hk =>
    ⟨F1, F2, A.loc h1 (fun k h => hk k (by rw [hF]; exact .inl h)), B.loc h2 (fun k h => hk k (by rw [hF]; exact .inr h)), hd, hF⟩
  lt := fun {w F} ⟨F1, F2, h1, h2, hd, hF⟩ k hk => by
    rw [hF] at hk
    rcases hk with h | h
    · exact A.lt h1 k h
    · exact B.lt h2 k h
def ex {α : Type} (A : α → Asrt) : Asrt where
  on := fun w F => ∃ x, (A x).on w F
  loc := fun ⟨x, h⟩ hk => ⟨x, (A x).loc h hk⟩
  lt := fun ⟨x, h⟩ k hk => (A x).lt h k hk
/-- with a plain fact -/
def fact (φ : Prop) (A : Asrt) : Asrt where
  on := fun w F => φ ∧ A.on w F
  loc := fun ⟨x, h⟩ hk => ⟨x, A.loc h hk⟩
  lt := fun ⟨_, h⟩ k hk => A.lt h k hk
def stars : List Asrt → Asrt
  | [] => emp
  | A :: l => star A (stars l)
/-- A map of the model. -/
def map {κ V : Type} (enc : κ → Value) (ev : V → Value) (b : Nat) (m : List (κ × V)) : Asrt := ex fun o => fact (MapObj enc ev o m) (blk b o)

theorem frame (A : Asrt) {w w' : World} {F F' G : Fp} (h : A.on w G) (hu : Upd F F' w w') (hd : ∀ k, G k → F k → False) : A.on w' G :=
  A.loc h fun k hk => hu.same k (A.lt h k hk) (fun hf => hd k hk hf)

theorem frame2 (A : Asrt) {w w' : World} {F F' G : Fp} (h : A.on w G) (hu : Upd F F' w w') (hd : ∀ k, G k → F k → False) : A.on w' G ∧ ∀ k, G k → F' k → False :=
  ⟨A.frame h hu hd, fun k hg hf => (hu.fp k hf).elim (hd k hg) fun h1 => by have := A.lt h k hg; omega⟩
/-- something new stands apart from what was there -/
theorem new_apart (A : Asrt) {w w' : World} {F G : Fp} (h : A.on w F) (hu : Upd none' G w w') : ∀ k, G k → F k → False := fun k hg hf => (hu.fp k hg).elim id fun h1 => by have := A.lt h k hf; omega

theorem stars_upd : ∀ (l : List Asrt) (i : Nat) (A : Asrt), l[i]? = some A → ∀ {w : World} {F : Fp}, (stars l).on w F →
    ∃ Fi, A.on w Fi ∧ (∀ k, Fi k → F k) ∧ ∀ (w' : World) (Fi' : Fp) (A' : Asrt), A'.on w' Fi' → Upd Fi Fi' w w' → ∃ F', (stars (l.set i A')).on w' F' ∧ Upd F F' w w'
  | [], i, A, h, _, _, _ => by simp at h
  | B :: l, 0, A, h, w, F, hS => by
    simp only [List.getElem?_cons_zero, Option.some.injEq] at h
    subst h
    obtain ⟨F1, F2, h1, h2, hd, rfl⟩ := hS
    refine ⟨F1, h1, fun k h => .inl h, fun w' Fi' A' hA' hu => ⟨fun k => Fi' k ∨ F2 k, ⟨Fi', F2, hA', (stars l).frame h2 hu (fun k a b => hd k b a), fun k a b => ?_, rfl⟩, hu.weaken (fun k h => .inl h) fun k hk => ?_⟩⟩
    · rcases hu.fp k a with h3 | h3
      · exact hd k h3 b
      · have := (stars l).lt h2 k b; omega
    · rcases hk with h3 | h3
      · exact .inr (.inl h3)
      · exact .inl (.inr h3)
  | B :: l, i + 1, A, h, w, F, hS => by
    simp only [List.getElem?_cons_succ] at h
    obtain ⟨F1, F2, h1, h2, hd, rfl⟩ := hS
    obtain ⟨Fi, hA, hsub, hgo⟩ := stars_upd l i A h h2
    refine ⟨Fi, hA, fun k h => .inr (hsub k h), fun w' Fi' A' hA' hu => ?_⟩
    obtain ⟨F2', hS', hu'⟩ := hgo w' Fi' A' hA' hu
    refine ⟨fun k => F1 k ∨ F2' k, ⟨F1, F2', B.frame h1 hu' hd, hS', fun k a b => ?_, rfl⟩, hu'.weaken (fun k h => .inr h) fun k hk => ?_⟩
    · rcases hu'.fp k b with h3 | h3
      · exact hd k a h3
      · have := B.lt h1 k a; omega
    · rcases hk with h3 | h3
      · exact .inl (.inl h3)
      · exact .inr (.inl h3)

theorem stars_one {A : Asrt} {w : World} {F : Fp} (h : A.on w F) : (stars [A]).on w F := ⟨F, none', h, rfl, fun _ _ h => h, by funext k; simp [none']⟩
theorem stars_emp {A : Asrt} {l : List Asrt} {w : World} {F : Fp} (h : A.on w none') (hS : (stars l).on w F) : (stars (A :: l)).on w F := ⟨none', F, h, hS, fun _ h _ => h, by funext k; simp [none']⟩
/-- something new beside all -/
theorem stars_new {l : List Asrt} {A : Asrt} {w w' : World} {F Fn : Fp} (hS : (stars l).on w F) (hA : A.on w' Fn) (hu : Upd none' Fn w w') :
    ∃ F', (stars (A :: l)).on w' F' ∧ Upd F F' w w' := by
  have hfn : ∀ k, Fn k → w.heap.size ≤ k := fun k hk => (hu.fp k hk).resolve_left (fun h => h)
  refine ⟨fun k => Fn k ∨ F k, ⟨Fn, F, hA, (stars l).frame hS hu (fun k _ h => h), fun k a b => ?_, rfl⟩, hu.weaken (fun k h => h.elim) fun k hk => ?_⟩
  · have := hfn k a; have := (stars l).lt hS k b; omega
  · rcases hk with h | h
    · exact .inr (.inr (hfn k h))
    · exact .inl h
theorem stars_perm {l l' : List Asrt} (h : l.Perm l') : ∀ {w : World} {F : Fp}, (stars l).on w F → (stars l').on w F := by
  induction h with
  | nil => exact fun h => h
  | cons A _ ih =>
    rintro w F ⟨F1, F2, h1, h2, hd, hF⟩
    exact ⟨F1, F2, h1, ih h2, hd, hF⟩
  | swap A B l =>
    rintro w F ⟨F1, F2, h1, ⟨F3, F4, h3, h4, hd', rfl⟩, hd, rfl⟩
    refine ⟨F3, fun k => F1 k ∨ F4 k, h3, ⟨F1, F4, h1, h4, fun k a b => hd k a (.inr b), rfl⟩, fun k a b => b.elim (fun c => hd k c (.inl a)) (fun c => hd' k a c), ?_⟩
    funext k
    exact propext ⟨fun h => h.elim (fun a => .inr (.inl a)) (fun b => b.elim .inl fun c => .inr (.inr c)), fun h => h.elim (fun a => .inr (.inl a)) (fun b => b.elim .inl fun c => .inr (.inr c))⟩
  | trans _ _ ih1 ih2 => exact fun h => ih2 (ih1 h)
theorem stars_drop {A : Asrt} {l : List Asrt} {w : World} {F : Fp} (h : (stars (A :: l)).on w F) : ∃ F', (stars l).on w F' ∧ ∀ k, F' k → F k := by
  obtain ⟨F1, F2, _, h2, _, rfl⟩ := h
  exact ⟨F2, h2, fun k h => .inr h⟩
theorem stars_same {l : List Asrt} {w w' : World} {F Fn : Fp} (hS : (stars l).on w F) (hu : Upd none' Fn w w') :
    (stars l).on w' F ∧ Upd F F w w' := ⟨(stars l).frame hS hu (fun _ _ h => h), hu.weaken (fun _ h => h.elim) fun _ hk => .inl hk⟩
theorem stars_get {l : List Asrt} {w : World} {F : Fp} (hS : (stars l).on w F) (i : Nat) {A : Asrt} (h : l[i]? = some A) : ∃ Fi, A.on w Fi ∧ ∀ k, Fi k → F k :=
  let ⟨Fi, h1, h2, _⟩ := stars_upd l i A h hS; ⟨Fi, h1, h2⟩
end Asrt
end Go.Sub
