/- Part F: what an argument of a statement holds, out of its reading as data. No program's text. -/
import Derived.Test.YtpjfakmalhenjaaDoorSubE
import Derived.ProofKit
import Derived.OpenShut
import Derived.Deep.Slices
namespace Go.Sub
open Go.Deep
section
variable {H : Type} {enc : TypeId × Value → H} {P : Program} {w : World} {base : Nat} {spare : Nat → Bool} {held : Bool}

/-- One cell of a struct whose fields have one cell each. -/
theorem field_cell {t : TypeId} {fs : Array Field} {n : Nat} {cs : List Value} {x : DataW H × List MemPlace} (ht : P.underlying t = some (.struct fs)) (h : DataW.trod enc P w base spare held n t cs = some x) :
    cs.length = P.cellsOf t ∧ ∀ (i : Nat) (f : Field), fs[i]? = some f → f.offset = i → P.cellsOf f.type = 1 → i < cs.length → ∃ m v y, cs[i]? = some v ∧ DataW.trod enc P w base spare held m f.type [v] = some y := by
  obtain ⟨xs, m, _, _, hl, hxl, hf⟩ := DataW.trod_struct ht h
  refine ⟨hl, fun i f hi ho hc hlt => ?_⟩
  have hg := hf i f hi
  have hi' : i < fs.size := by
    rcases Nat.lt_or_ge i fs.size with h | h
    · exact h
    · rw [Array.getElem?_eq_none h] at hi; cases hi
  rw [ho, hc, List.getElem?_eq_getElem (by omega : i < xs.length)] at hg
  have e1 : (cs.drop i).take 1 = [cs[i]] := by
    rw [List.drop_eq_getElem_cons hlt]
    rfl
  rw [e1] at hg
  exact ⟨m, cs[i], _, List.getElem?_eq_getElem hlt, hg⟩

theorem reads_of_trod {α : Type} {encA : α → List Value} {φ : α → Prop} {k : Nat} {t e : TypeId} {fuel : Nat} {v : Value} {x : DataW H × List MemPlace} (ht : P.underlying t = some (.slice e)) (hk : P.cellsOf e = k) (hk0 : 0 < k)
    (hdec : ∀ n cs y, DataW.trod enc P w base spare held n e cs = some y → ∃ a : α, cs = encA a ∧ φ a)
    (h : DataW.trod enc P w base spare held fuel t [v] = some x) : ∃ L : List α, Reads w k encA v L ∧ (∀ a ∈ L, φ a) ∧ L.length ≤ maxLen := by
  rcases open_slice ht h with ⟨hv, _⟩ | ⟨a, len, cap, m, n, D, Pl, hv, hb, hl, hm, hmm, _, hx⟩
  · simp only [List.cons.injEq, and_true] at hv
    subst hv
    exact ⟨[], ⟨none, 0, rfl, fun i x hx => by simp at hx⟩, by simp, by simp⟩
  · simp only [List.cons.injEq, and_true] at hv
    subst hv
    have hlm : len ≤ m := by rw [hmm]; split <;> omega
    have each : ∀ i, i < len → ∃ a' : α, φ a' ∧ w.cells? base (a.add (i * k)) k = some (encA a') := by
      intro i hi
      obtain ⟨cs', h1, h2⟩ := hx i (by omega)
      obtain ⟨a', rfl, hφ⟩ := hdec _ _ _ h2
      rw [hk] at h1
      exact ⟨a', hφ, h1⟩
    rcases Nat.eq_zero_or_pos len with h0 | hpos
    · subst h0
      exact ⟨[], ⟨some a, cap, rfl, fun i x hx => by simp at hx⟩, by simp, by simp⟩
    obtain ⟨d0, _⟩ := each 0 hpos
    have : Inhabited α := ⟨d0⟩
    obtain ⟨f, hf⟩ := choose_lt each
    refine ⟨(List.range len).map f, ⟨some a, cap, by simp, fun i x hx => ?_⟩, fun x hx => ?_, by simp; omega⟩
    · have hi : i < len := by
        rcases Nat.lt_or_ge i len with h | h
        · exact h
        · rw [List.getElem?_eq_none (by simpa using h)] at hx; cases hx
      have hx' : f i = x := by simpa [List.getElem?_map, List.getElem?_range hi] using hx
      subst hx'
      obtain ⟨_, hlen, hcell⟩ := World.cells?_some (hf i hi).2
      obtain ⟨b, off, spot⟩ := a
      have hs : ∃ u, w.cell? ⟨b, off, spot⟩ = some u := by
        obtain ⟨_, hlen0, hcell0⟩ := World.cells?_some (hf 0 hpos).2
        have := hcell0 0 (by omega)
        simp only [Nat.zero_mul, Addr.add, if_true] at this
        rw [List.getElem?_eq_getElem (by omega)] at this
        exact ⟨_, this⟩
      obtain ⟨u0, hu0⟩ := hs
      have hspot : spot = none := World.cell?_spot hu0
      subst hspot
      refine ⟨b, off, rfl, World.block_lt_of_cell? w _ hu0, fun j u hj => ?_⟩
      have hj' : j < k := by
        rw [← hlen]
        rcases Nat.lt_or_ge j (encA (f i)).length with h | h
        · exact h
        · rw [List.getElem?_eq_none h] at hj; cases hj
      have := hcell j (by omega)
      rw [add_add] at this
      have hadd : (⟨b, off, none⟩ : Addr).add (i * k + j) = ⟨b, off + i * k + j, none⟩ := by
        unfold Addr.add
        split
        · rename_i h; simp only [Addr.mk.injEq, true_and, and_true]; omega
        · simp [Nat.add_assoc]
      rw [hadd] at this
      rw [this]
      simpa using hj
    · obtain ⟨i, hi, rfl⟩ := List.mem_map.1 hx
      exact (hf i (by simpa using hi)).1
end
end Go.Sub
