/- The book of leases: Evict. -/
import Derived.Test.YtpjfakmalhenjaaDoorLpC
set_option linter.unusedVariables false
namespace Go.Proofs.YtpjfakmalhenjaaDoor
open Go.RowKit Go.Sub Go.ChangeMaps
theorem stars_erase : ∀ (l : List Asrt) (i : Nat) {w : World} {F : Fp}, (Asrt.stars l).on w F → ∃ F', (Asrt.stars (l.eraseIdx i)).on w F' ∧ ∀ k, F' k → F k
  | [], _, w, F, h => ⟨F, h, fun _ h => h⟩
  | A :: l, 0, w, F, h => Asrt.stars_drop h
  | A :: l, i + 1, w, F, h => by
    obtain ⟨F1, F2, h1, h2, hd, rfl⟩ := h
    obtain ⟨F', h', hs⟩ := stars_erase l i h2
    exact ⟨fun k => F1 k ∨ F' k, ⟨F1, F', h1, h', fun k a b => hd k a (hs k b), rfl⟩, fun k hk => hk.elim .inl fun h => .inr (hs k h)⟩
theorem mdel_none {κ V : Type} [DecidableEq κ] : ∀ {M : List (κ × V)} {x : κ}, mget M x = none → mdel M x = M
  | [], _, _ => rfl
  | (k, u) :: M, x, h => by
    by_cases e : k = x
    · simp [mget, e] at h
    · simp only [mget, if_neg e] at h
      simp [mdel, e, mdel_none h]
theorem erase_map {α β : Type} (f : α → β) : ∀ (L : List α) (i : Nat), (L.map f).eraseIdx i = (L.eraseIdx i).map f
  | [], _ => rfl
  | _ :: _, 0 => rfl
  | x :: L, i + 1 => by simp [erase_map f L i]
/-- a name is struck from the book -/
theorem book_del {b mb : Nat} {g m e : Int} {M : LT} {w : World} {F : Fp} (hM : (bookT b g m e M).on w F) (h3 : w.cell? ⟨b, 3, none⟩ = some (.map (some mb))) (nm : ByteArray) :
    ∃ o' : Obj, (∀ W : World, W.obj mb = w.obj mb → ∀ ty, (Builtin.delete_ #[59, 9] ty #[.map (some mb), .string nm]).run Tryd.prog W = .ok (.tuple #[]) (setBlock W mb o')) ∧
      (∀ n, ∃ F', (bookT b g m e (mdel M nm)).on (setBlock (w.drewN n) mb o') F' ∧ Upd F F' w (setBlock (w.drewN n) mb o')) := by
  obtain ⟨⟨mb', L⟩, rfl, hS⟩ := hM
  obtain ⟨hc, hf, hlt⟩ := Asrt.blk_of hS 0 rfl
  obtain ⟨Fm, ⟨o, ho, hm, hFm⟩, _, hgo⟩ := Asrt.stars_upd _ 1 _ rfl hS
  obtain rfl : mb' = mb := by
    have := (hc 3).symm.trans h3
    simpa using this
  obtain ⟨o', ho', hd⟩ := run_delete_of keyS Tryd.underlying59 ho mb' nm
  have hlm := lt_of_heap hm
  refine ⟨o', fun W hW ty => hd W (hW.trans hm) ty, fun n => ?_⟩
  obtain ⟨F2, h2, u2⟩ := hgo (setBlock (w.drewN n) mb' o') Fm (.map encS evP mb' (mdel (L.map LE.key) nm)) ⟨o', ho', obj_setBlock_at hlm, hFm⟩ (((Upd.refl Fm w).drewN n).setBlock (.inl (by rw [hFm])) o')
  rcases lent_open L nm with ⟨h1, h2', h3⟩ | ⟨i, x, h1, _, _, _, _, h6, h7, _⟩
  · have e1 := mdel_none h1
    have e2 := mdel_none h2'
    rw [e1] at h2
    rw [e2]
    exact ⟨F2, ⟨(mb', L), rfl, h2⟩, u2⟩
  · rw [h6] at h2
    obtain ⟨F3, h3, hs3⟩ := stars_erase _ (i + 2) h2
    rw [h7]
    refine ⟨F3, ⟨(mb', L.eraseIdx i), rfl, ?_⟩, u2.re fun k hk => u2.fp k (hs3 k hk)⟩
    have e : ((Asrt.blk b (bookO g m e mb') :: Asrt.map encS evP mb' (L.map LE.key) :: L.map LE.asrt).set 1 (Asrt.map encS evP mb' ((L.eraseIdx i).map LE.key))).eraseIdx (i + 2) =
        Asrt.blk b (bookO g m e mb') :: Asrt.map encS evP mb' ((L.eraseIdx i).map LE.key) :: (L.eraseIdx i).map LE.asrt := by
      simp [erase_map]
    rw [e] at h3
    exact h3
/-- Evict, on what the book has -/
def evictS (g : Int) (M : LT) (nm : ByteArray) (now : Int) : LT × Lz × Bool := match mget M nm with
  | none => (M, zeroL, false)
  | some x => if statS g x now = 2 ∧ clockB now = true then (mdel M nm, x, true) else (M, zeroL, false)
theorem book_keep {b : Nat} {g m e : Int} {M : LT} {w w' : World} {F : Fp} (hM : (bookT b g m e M).on w F) (hq : Quiet w w') : ∃ F', (bookT b g m e M).on w' F' ∧ Upd F F' w w' :=
  ⟨F, (bookT b g m e M).frame hM hq fun _ _ h => h, (Upd.refl F w).thenQ hq⟩
theorem fin_set {A : Asrt} {w w1 : World} {F F1 : Fp} {z : Nat} {y : Lz} (h : A.on w1 F1) (u : Upd F F1 w w1) (hz : w.heap.size ≤ z) (hF : ¬ F1 z) : A.on (w1.setRow z (cellsL y)) F1 ∧ Upd F F1 w (w1.setRow z (cellsL y)) :=
  ⟨A.frame h (set_upd (y := y) (Upd.refl (fun k => k = z) w1) (.inl rfl)) fun k hk e => hF (e ▸ hk), set_upd u (.inr hz)⟩
theorem not_fresh {A : Asrt} {w w1 : World} {F F1 : Fp} (h : A.on w F) {o : Obj} (u : Upd F F1 (w.alloc o) w1) : ¬ F1 w.heap.size := fun hk => by
  rcases u.fp _ hk with h1 | h1
  · exact absurd (A.lt h _ h1) (by omega)
  · rw [size_alloc'] at h1; omega
end Go.Proofs.YtpjfakmalhenjaaDoor
