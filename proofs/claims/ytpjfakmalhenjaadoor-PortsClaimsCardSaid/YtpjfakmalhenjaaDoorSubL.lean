/- Part L: the first parts alone. No program's text. -/
import Derived.Test.YtpjfakmalhenjaaDoorSubK
namespace Go.Sub
namespace Asrt
theorem stars_two {A B : Asrt} {l : List Asrt} {w : World} {F : Fp} (hS : (stars (A :: B :: l)).on w F) : ∃ F', (stars [A, B]).on w F' ∧ ∀ k, F' k → F k := by
  obtain ⟨F1, F2, h1, ⟨F3, F4, h3, h4, hd', rfl⟩, hd, rfl⟩ := hS
  refine ⟨fun k => F1 k ∨ F3 k, ⟨F1, fun k => F3 k, h1, stars_one h3, fun k a b => hd k a (.inl b), rfl⟩, fun k hk => hk.elim .inl fun h => .inr (.inl h)⟩
theorem stars_fst {A : Asrt} {l : List Asrt} {w : World} {F : Fp} (hS : (stars (A :: l)).on w F) : ∃ F', (stars [A]).on w F' ∧ ∀ k, F' k → F k := by
  obtain ⟨F1, F2, h1, h2, hd, rfl⟩ := hS
  exact ⟨F1, stars_one h1, fun k hk => .inl hk⟩
/-- a block of one's own beside all -/
theorem stars_box {l : List Asrt} {w : World} {F : Fp} (hS : (stars l).on w F) (o : Obj) : ∃ F', (stars (.blk w.heap.size o :: l)).on (w.alloc o) F' ∧ Upd F F' w (w.alloc o) :=
  stars_new hS (A := .blk w.heap.size o) (w' := w.alloc o) (Fn := fun k => k = w.heap.size) ⟨obj_alloc_at rfl, rfl⟩ (((Upd.refl none' w).alloc _).re fun k hk => .inr (by rw [hk]; exact Nat.le_refl _))
/-- the same, at the end -/
theorem stars_box2 {A B : Asrt} {l : List Asrt} {w : World} {F : Fp} (hS : (stars (A :: B :: l)).on w F) (o : Obj) : ∃ F', (stars (A :: B :: .blk w.heap.size o :: l)).on (w.alloc o) F' ∧ Upd F F' w (w.alloc o) := by
  obtain ⟨F', h, u⟩ := stars_box hS o
  exact ⟨F', stars_perm ((List.Perm.swap ..).trans ((List.Perm.swap ..).cons _)) h, u⟩
theorem stars_box1 {A : Asrt} {l : List Asrt} {w : World} {F : Fp} (hS : (stars (A :: l)).on w F) (o : Obj) : ∃ F', (stars (A :: .blk w.heap.size o :: l)).on (w.alloc o) F' ∧ Upd F F' w (w.alloc o) := by
  obtain ⟨F', h, u⟩ := stars_box hS o
  exact ⟨F', stars_perm (List.Perm.swap ..) h, u⟩
end Asrt
theorem box_cell {l : List Asrt} {w : World} {F : Fp} {i b : Nat} {c : Array Value} {t : TypeId} (hS : (Asrt.stars l).on w F) (hi : l[i]? = some (.blk b (.cells c t (0, 0)))) :
    (∀ j, w.cell? ⟨b, j, none⟩ = c[j]?) ∧ (∀ j, w.frozen? ⟨b, j, none⟩ = false) ∧ b < w.heap.size := by
  obtain ⟨_, ⟨h, _⟩, _⟩ := Asrt.stars_get hS i hi
  exact blk_facts h
end Go.Sub
