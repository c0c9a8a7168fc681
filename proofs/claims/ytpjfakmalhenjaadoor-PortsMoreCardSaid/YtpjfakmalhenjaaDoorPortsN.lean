/- PortsMore: what is one's own since a world. -/
import Derived.Test.YtpjfakmalhenjaaDoorPortsJ
import Derived.Test.YtpjfakmalhenjaaDoorSubX
set_option linter.unusedVariables false
set_option linter.unusedSimpArgs false
namespace Go.Proofs.YtpjfakmalhenjaaDoor
open Go.RowKit Go.Sub Go.Shelf Go.Sort Go.ChangeMaps Go.Lib Go.WideShapes
namespace portsMore
def Own (w0 : World) (l : List Asrt) (w : World) : Prop := ∃ F, (Asrt.stars l).on w F ∧ Upd none' F w0 w
theorem Own.quiet {w0 w : World} {l : List Asrt} (h : Own w0 l w) : Quiet w0 w := by obtain ⟨F, _, u⟩ := h; exact u.quiet
theorem Own.start (w : World) : Own w [] w := ⟨none', rfl, Upd.refl none' w⟩
theorem Own.drew {w0 w : World} {l : List Asrt} (h : Own w0 l w) : Own w0 l w.drew := by obtain ⟨F, h, u⟩ := h; exact ⟨F, Asrt.drew h, u.drew⟩
theorem Own.call {w0 w w' : World} {l : List Asrt} {A : Asrt} {F' : Fp} (h : Own w0 l w) (r : A.on w' F') (u : Upd none' F' w w') : Own w0 (A :: l) w' := by
  obtain ⟨F, h, u0⟩ := h
  obtain ⟨F2, h2, u2⟩ := Asrt.stars_new h r u
  exact ⟨F2, h2, u0.trans u2⟩
theorem Own.none {w0 w : World} {l : List Asrt} (h : Own w0 l w) {n : Nat} (hn : n = w.heap.size) : Own w0 (row 34 6 encL (.slice (some ⟨n, 0, .none⟩) 0 0) [] :: l) (w.alloc (.cells #[] 34)) := by
  subst hn
  exact h.call (row_empty w _ _ _) (((Upd.refl none' w).alloc _).re fun k hk => .inr (by rw [hk]; exact Nat.le_refl _))
theorem Own.one {w0 w : World} {l : List Asrt} (h : Own w0 l w) (x : Lz) {n : Nat} (hn : n = w.heap.size) : Own w0 (.blk n (boxL x) :: l) (w.alloc (boxL x)) := by
  subst hn
  exact h.call (A := .blk w.heap.size (boxL x)) (F' := fun k => k = w.heap.size) ⟨obj_alloc_at rfl, rfl⟩ (((Upd.refl none' w).alloc _).re fun k hk => .inr (by rw [hk]; exact Nat.le_refl _))
theorem Own.app {w0 w : World} {l : List Asrt} {e : TypeId} {k : Nat} {α : Type} {enc : α → List Value} {v : Value} {L : List α} (h : Own w0 l w) (i : Nat) (hi : l[i]? = some (row e k enc v L)) :
    ∃ Fi, (row e k enc v L).on w Fi ∧ ∀ w' F' v' L', (row e k enc v' L').on w' F' → Upd Fi F' w w' → Own w0 (l.set i (row e k enc v' L')) w' := by
  obtain ⟨F, h, u0⟩ := h
  obtain ⟨Fi, h1, _, hgo⟩ := Asrt.stars_upd l i _ hi h
  refine ⟨Fi, h1, fun w' F' v' L' r u => ?_⟩
  obtain ⟨F2, h2, u2⟩ := hgo w' F' _ r u
  exact ⟨F2, h2, u0.trans u2⟩
theorem Own.get {w0 w : World} {l : List Asrt} {A : Asrt} (h : Own w0 l w) (i : Nat) (hi : l[i]? = some A) : ∃ Fi, A.on w Fi := by
  obtain ⟨F, h, _⟩ := h
  obtain ⟨Fi, h1, _⟩ := Asrt.stars_get h i hi
  exact ⟨Fi, h1⟩
theorem Own.reads {w0 w : World} {l : List Asrt} {e : TypeId} {v : Value} {L : List Lz} (h : Own w0 l w) (i : Nat) (hi : l[i]? = some (row e 6 encL v L)) : Reads w 6 encL v L := by
  obtain ⟨_, h⟩ := h.get i hi
  exact (row_reads (enc := encL) (fun _ => rfl) h).1
theorem Own.readsI {w0 w : World} {l : List Asrt} {e : TypeId} {v : Value} {L : List Int} (h : Own w0 l w) (i : Nat) (hi : l[i]? = some (row e 1 encIL v L)) : ReadsI w v L := by
  obtain ⟨_, h⟩ := h.get i hi
  exact row_readsI h
theorem Own.oneReads {w0 w : World} {l : List Asrt} {n : Nat} {x : Lz} (h : Own w0 l w) (i : Nat) (hi : l[i]? = some (.blk n (boxL x))) : Reads w 6 encL (.slice (some ⟨n, 0, .none⟩) 1 1) [x] := by
  obtain ⟨_, h⟩ := h.get i hi
  refine ⟨_, 1, rfl, fun i y hy => ?_⟩
  rcases i with _ | i
  · simp only [List.getElem?_cons_zero, Option.some.injEq] at hy
    subst hy
    refine ⟨n, 0, rfl, (Asrt.blk n (boxL x)).lt h n (by rw [h.2]), fun j u hu => ?_⟩
    rw [(blk_facts h.1).1 (0 + 0 * 6 + j)]
    simpa [encL] using hu
  · simp at hy
end portsMore
end Go.Proofs.YtpjfakmalhenjaaDoor
