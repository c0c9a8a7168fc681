/- The table of connections: Close, Open. -/
import Derived.Test.YtimkbpcdbbdjlaaConnG
namespace Go.Proofs.Ytimkbpcdbbdjlaa
open Go.RowKit Go.Sub Go.ChangeMaps
theorem star_weak {A B : Asrt} {w : World} {F : Fp} (h : (Asrt.star A B).on w F) : ∃ F', B.on w F' ∧ ∀ k, F' k → F k := by
  obtain ⟨F1, F2, _, h2, _, rfl⟩ := h
  exact ⟨F2, h2, fun k hk => .inr hk⟩
/-- a part is left out -/
theorem stars_erase : ∀ (l : List Asrt) (i : Nat) {w : World} {F : Fp}, (Asrt.stars l).on w F → ∃ F', (Asrt.stars (l.eraseIdx i)).on w F' ∧ ∀ k, F' k → F k
  | [], _, w, F, h => ⟨F, h, fun _ h => h⟩
  | A :: l, 0, w, F, h => Asrt.stars_drop h
  | A :: l, i + 1, w, F, h => by
    obtain ⟨F1, F2, h1, h2, hd, rfl⟩ := h
    obtain ⟨F', h', hs⟩ := stars_erase l i h2
    exact ⟨fun k => F1 k ∨ F' k, ⟨F1, F', h1, h', fun k a b => hd k a (hs k b), rfl⟩, fun k hk => hk.elim .inl fun h => .inr (hs k h)⟩
theorem mdel_none {κ V : Type} [DecidableEq κ] : ∀ {M : List (κ × V)} {x : κ}, mget M x = none → mdel M x = M
  | [], _, _ => rfl
  | (k, u) :: M, x, h => by
    by_cases e : k = x
    · simp [mget, e] at h
    · simp only [mget, if_neg e] at h
      simp [mdel, e, mdel_none h]
theorem erase_map {α β : Type} (f : α → β) : ∀ (L : List α) (i : Nat), (L.map f).eraseIdx i = (L.eraseIdx i).map f
  | [], _ => rfl
  | _ :: _, 0 => rfl
  | x :: L, i + 1 => by simp [erase_map f L i]
set_option maxHeartbeats 1000000 in
theorem close_c {b : Nat} {last : Int} {M : List (Int × Con)} {w : World} {F : Fp} (hM : (tabT b last M).on w F) (id : Int) :
    Calls Try.prog 18 #[.pointer (some ⟨b, 0, none⟩), .int .i64 id] w (Ret (.bool (ofC M id false fun _ => true)) fun w' => ∃ F', (tabT b last (mdel M id)).on w' F' ∧ Upd F F' w w') := by
  have HC := Keep.mk (has_c hM id)
  have hM0 := hM
  obtain ⟨⟨mb, L⟩, rfl, hS⟩ := hM
  obtain ⟨hc, hf, hlt⟩ := Asrt.blk_of hS 0 rfl
  obtain ⟨Fm, ⟨o, ho, hm, hFm⟩, _, hgo⟩ := Asrt.stars_upd _ 1 _ rfl hS
  obtain ⟨o', ho', hd⟩ := run_delete_of keyI Try.underlying64 ho mb id
  have hc0 : w.cell? ⟨b, 0, none⟩ = some (.map (some mb)) := hc 0
  have hlm := lt_of_heap hm
  generalize ofC (L.map CE.val) id false (fun _ => true) = r at *
  have hfin : ∀ n, ∃ F', (tabT b last (mdel (L.map CE.val) id)).on (setBlock (w.drewN n) mb o') F' ∧ Upd F F' w (setBlock (w.drewN n) mb o') := by
    intro n
    obtain ⟨F2, h2, u2⟩ := hgo (setBlock (w.drewN n) mb o') Fm (.map encI evP mb (mdel (L.map CE.key) id)) ⟨o', ho', obj_setBlock_at hlm, hFm⟩ (((Upd.refl Fm w).drewN n).setBlock (.inl (by rw [hFm])) o')
    rcases ent_open L id with ⟨h1, h2', h3⟩ | ⟨i, x, h1, _, _, _, _, h6, h7⟩
    · have e1 := mdel_none h1
      have e2 := mdel_none h2'
      rw [e1] at h2
      rw [e2]
      exact ⟨F2, ⟨(mb, L), rfl, h2⟩, u2⟩
    · rw [h6] at h2
      obtain ⟨F3, h3, hs3⟩ := stars_erase _ (i + 2) h2
      rw [h7]
      refine ⟨F3, ⟨(mb, L.eraseIdx i), rfl, ?_⟩, u2.re fun k hk => u2.fp k (hs3 k hk)⟩
      have e : ((Asrt.blk b (.cells #[.map (some mb), .int .i64 last] 66 (0, 0)) :: Asrt.map encI evP mb (L.map CE.key) :: L.map CE.asrt).set 1 (Asrt.map encI evP mb ((L.eraseIdx i).map CE.key))).eraseIdx (i + 2) =
          Asrt.blk b (.cells #[.map (some mb), .int .i64 last] 66 (0, 0)) :: Asrt.map encI evP mb ((L.eraseIdx i).map CE.key) :: (L.eraseIdx i).map CE.asrt := by
        simp [erase_map]
      rw [e] at h3
      exact h3
  have HF := Keep.mk hfin
  have hbm : b ≠ mb := by
    obtain ⟨F1, F2, hb1, ⟨F3, F4, ⟨o2, _, hm2⟩, _, _, rfl⟩, hd2, _⟩ := hS
    intro e
    exact hd2 b (by rw [hb1.2]) (.inl (by rw [hm2.2]; exact e))
  clear hfin hS hc hgo hM0 ho ho'
  go_enter Try.func18, Try.ntmps18
  go_wp2_with fail
  refine HC.out.mono ?_
  rintro e w1 ⟨rfl, n, rfl⟩
  go_wp2_with (at_delete; refine at_delete_run rfl _ _ _ _ rfl _ _ _ _ rfl rfl (hd _ ?_ _) ?_; go_simp)
  go_wp2_with fail
  go_returns
  exact ⟨rfl, HF.out n⟩
end Go.Proofs.Ytimkbpcdbbdjlaa
