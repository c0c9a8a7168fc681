/- The book of leases: Evict. -/
import Derived.Test.YtefnfhhdcginmaaDoorLeaseC
set_option linter.unusedVariables false
namespace Go.Proofs.YtefnfhhdcginmaaDoor
open Go.RowKit Go.Sub Go.ChangeMaps
theorem stars_erase : ∀ (l : List Asrt) (i : Nat) {w : World} {F : Fp}, (Asrt.stars l).on w F → ∃ F', (Asrt.stars (l.eraseIdx i)).on w F' ∧ ∀ k, F' k → F k
  | [], _, w, F, h => ⟨F, h, fun _ h => h⟩
  | A :: l, 0, w, F, h => Asrt.stars_drop h
  | A :: l, i + 1, w, F, h => by
    obtain ⟨F1, F2, h1, h2, hd, rfl⟩ := h
    obtain ⟨F', h', hs⟩ := stars_erase l i h2
    exact ⟨fun k => F1 k ∨ F' k, ⟨F1, F', h1, h', fun k a b => hd k a (hs k b), rfl⟩, fun k hk => hk.elim .inl fun h => .inr (hs k h)⟩
theorem mdel_none {κ V : Type} [DecidableEq κ] : ∀ {M : List (κ × V)} {x : κ}, mget M x = none → mdel M x = M
  | [], _, _ => rfl
  | (k, u) :: M, x, h => by
    by_cases e : k = x
    · simp [mget, e] at h
    · simp only [mget, if_neg e] at h
      simp [mdel, e, mdel_none h]
theorem erase_map {α β : Type} (f : α → β) : ∀ (L : List α) (i : Nat), (L.map f).eraseIdx i = (L.eraseIdx i).map f
  | [], _ => rfl
  | _ :: _, 0 => rfl
  | x :: L, i + 1 => by simp [erase_map f L i]
/-- a name is struck from the book -/
theorem book_del {b mb : Nat} {g m e : Int} {M : LT} {w : World} {F : Fp} (hM : (bookT b g m e M).on w F) (h3 : w.cell? ⟨b, 3, none⟩ = some (.map (some mb))) (nm : ByteArray) :
    ∃ o' : Obj, (∀ W : World, W.obj mb = w.obj mb → ∀ ty, (Builtin.delete_ #[58, 9] ty #[.map (some mb), .string nm]).run Tryd.prog W = .ok (.tuple #[]) (setBlock W mb o')) ∧
      (∀ n, ∃ F', (bookT b g m e (mdel M nm)).on (setBlock (w.drewN n) mb o') F' ∧ Upd F F' w (setBlock (w.drewN n) mb o')) := by
  obtain ⟨⟨mb', L⟩, rfl, hS⟩ := hM
  obtain ⟨hc, hf, hlt⟩ := Asrt.blk_of hS 0 rfl
  obtain ⟨Fm, ⟨o, ho, hm, hFm⟩, _, hgo⟩ := Asrt.stars_upd _ 1 _ rfl hS
  obtain rfl : mb' = mb := by
    have := (hc 3).symm.trans h3
    simpa using this
  obtain ⟨o', ho', hd⟩ := run_delete_of keyS Tryd.underlying58 ho mb' nm
  have hlm := lt_of_heap hm
  refine ⟨o', fun W hW ty => hd W (hW.trans hm) ty, fun n => ?_⟩
  obtain ⟨F2, h2, u2⟩ := hgo (setBlock (w.drewN n) mb' o') Fm (.map encS evP mb' (mdel (L.map LE.key) nm)) ⟨o', ho', obj_setBlock_at hlm, hFm⟩ (((Upd.refl Fm w).drewN n).setBlock (.inl (by rw [hFm])) o')
  rcases lent_open L nm with ⟨h1, h2', h3⟩ | ⟨i, x, h1, _, _, _, _, h6, h7, _⟩
  · have e1 := mdel_none h1
    have e2 := mdel_none h2'
    rw [e1] at h2
    rw [e2]
    exact ⟨F2, ⟨(mb', L), rfl, h2⟩, u2⟩
  · rw [h6] at h2
    obtain ⟨F3, h3, hs3⟩ := stars_erase _ (i + 2) h2
    rw [h7]
    refine ⟨F3, ⟨(mb', L.eraseIdx i), rfl, ?_⟩, u2.re fun k hk => u2.fp k (hs3 k hk)⟩
    have e : ((Asrt.blk b (bookO g m e mb') :: Asrt.map encS evP mb' (L.map LE.key) :: L.map LE.asrt).set 1 (Asrt.map encS evP mb' ((L.eraseIdx i).map LE.key))).eraseIdx (i + 2) =
        Asrt.blk b (bookO g m e mb') :: Asrt.map encS evP mb' ((L.eraseIdx i).map LE.key) :: (L.eraseIdx i).map LE.asrt := by
      simp [erase_map]
    rw [e] at h3
    exact h3
/-- Evict, on what the book has -/
def evictS (g : Int) (M : LT) (nm : ByteArray) (now : Int) : LT × Lz × Bool := match mget M nm with
  | none => (M, zeroL, false)
  | some x => if statS g x now = 2 ∧ clockB now = true then (mdel M nm, x, true) else (M, zeroL, false)
theorem book_keep {b : Nat} {g m e : Int} {M : LT} {w w' : World} {F : Fp} (hM : (bookT b g m e M).on w F) (hq : Quiet w w') : ∃ F', (bookT b g m e M).on w' F' ∧ Upd F F' w w' :=
  ⟨F, (bookT b g m e M).frame hM hq fun _ _ h => h, (Upd.refl F w).thenQ hq⟩
theorem fin_set {A : Asrt} {w w1 : World} {F F1 : Fp} {z : Nat} {y : Lz} (h : A.on w1 F1) (u : Upd F F1 w w1) (hz : w.heap.size ≤ z) (hF : ¬ F1 z) : A.on (w1.setRow z (cellsL y)) F1 ∧ Upd F F1 w (w1.setRow z (cellsL y)) :=
  ⟨A.frame h (set_upd (y := y) (Upd.refl (fun k => k = z) w1) (.inl rfl)) fun k hk e => hF (e ▸ hk), set_upd u (.inr hz)⟩
theorem not_fresh {A : Asrt} {w w1 : World} {F F1 : Fp} (h : A.on w F) {o : Obj} (u : Upd F F1 (w.alloc o) w1) : ¬ F1 w.heap.size := fun hk => by
  rcases u.fp _ hk with h1 | h1
  · exact absurd (A.lt h _ h1) (by omega)
  · rw [size_alloc'] at h1; omega
set_option maxHeartbeats 1000000 in
set_option maxRecDepth 100000 in
theorem evict_c {b : Nat} {g m e : Int} {M : LT} {w : World} {F : Fp} (hM : (bookT b g m e M).on w F) (g0 : 0 ≤ g) (g1 : g ≤ 1073741824) (ht : TilsOk M) (nm : ByteArray) (now : Int) :
    Calls Tryd.prog 21 #[.pointer (some ⟨b, 0, none⟩), .string nm, .int .i64 now] w (Ret (.tuple #[aggL (evictS g M nm now).2.1, .bool (evictS g M nm now).2.2]) fun w' => ∃ F', (bookT b g m e (evictS g M nm now).1).on w' F' ∧ Upd F F' w w') := by
  obtain ⟨mb, h0, h1, h2, h3, hb, hmb, hf, hFb, hFm, ⟨hn, hl⟩ | ⟨cb, x, Fi, hs, hl, hC, hsub, _⟩⟩ := book_open hM nm
  · simp only [evictS, hn]
    have j3 : (w.alloc (boxL zeroL)).cell? ⟨b, 3, none⟩ = some (.map (some mb)) := by rw [World.cell?_alloc_lt _ _ _ hb]; exact h3
    have hl' : Finds mb (w.alloc (boxL zeroL)) nm none := fun W hW c => hl W (hW.trans (obj_alloc_lt hmb)) c
    have C := Keep.mk (at_none j3 hl' now)
    have hM := Keep.mk hM
    clear h0 h1 h2 h3 hl j3 hl'
    go_enter Tryd.func21, Tryd.ntmps21
    go_wp2_with fail
    refine C.out.mono ?_
    rintro e w' ⟨rfl, rfl⟩
    have hzn : (w.alloc (boxL zeroL)).obj w.heap.size = some (blkL zeroL) := obj_alloc_at (w := w) rfl
    have HN := Keep.mk (And.intro (set_lease (y := zeroL) hzn) (set_upd (y := zeroL) (g := w.heap.size) ((Upd.refl none' w).alloc (boxL zeroL)) (.inr (Nat.le_refl _))))
    go_wp2_with (refine wpList_store_row rfl 26 _ _ rfl w.heap.size (cellsL zeroL) rfl rfl 26 _ hzn (sizeL zeroL) rfl (oneL zeroL) ?_)
    refine bodyPost_ret (struct_ret rfl rfl rfl HN.out.1) rfl ?_
    exact ⟨rfl, book_keep hM.out HN.out.2⟩
  · simp only [evictS, hs]
    have htx := ht _ (mget_mem hs)
    obtain ⟨hcb, hcf, hcl⟩ := blk_facts hC.1
    have hFc : F cb := hsub cb (by rw [hC.2])
    have j0 : (w.alloc (boxL zeroL)).cell? ⟨b, 0, none⟩ = some (.int .i64 g) := by rw [World.cell?_alloc_lt _ _ _ hb]; exact h0
    have j3 : (w.alloc (boxL zeroL)).cell? ⟨b, 3, none⟩ = some (.map (some mb)) := by rw [World.cell?_alloc_lt _ _ _ hb]; exact h3
    have hl' : Finds mb (w.alloc (boxL zeroL)) nm (some cb) := fun W hW c => hl W (hW.trans (obj_alloc_lt hmb)) c
    have kk : ∀ j, (w.alloc (boxL zeroL)).cell? ⟨cb, j, none⟩ = (cellsL x)[j]? := fun j => by rw [World.cell?_alloc_lt _ _ _ hcl]; exact hcb j
    have C := Keep.mk (at_some j0 j3 hl' (kk 4) (kk 5) g0 g1 htx now)
    have CK := Keep.mk (fun w' : World => clock_c (w := w') now)
    have hne : cb ≠ w.heap.size := by omega
    have hmz : mb ≠ w.heap.size := by omega
    have hz : (w.alloc (boxL zeroL)).obj w.heap.size = some (blkL zeroL) := obj_alloc_at (w := w) rfl
    have hMa := Asrt.alloc hM (boxL zeroL)
    obtain ⟨o', hdel, hfin⟩ := book_del hMa j3 nm
    have hmc : cb ≠ mb := by
      intro e
      subst e
      have q0 := hl w rfl false
      obtain ⟨⟨mb', L⟩, rfl, hS⟩ := hM
      obtain ⟨hc, _, _⟩ := Asrt.blk_of hS 0 rfl
      obtain ⟨_, ⟨o, ho, hm, _⟩, _⟩ := Asrt.stars_get hS 1 rfl
      obtain rfl : mb' = cb := by have := (hc 3).symm.trans h3; simpa using this
      obtain ⟨es, clk, rfl, _⟩ := ho
      rw [hC.1] at hm
      cases hm
    have kd : ∀ n j, (setBlock ((w.alloc (boxL zeroL)).drewN n) mb o').cell? ⟨cb, j, none⟩ = (cellsL x)[j]? := fun n j => by
      rw [cell?_setBlock_ne (by simpa using hmc)]; exact kk j
    have hM := Keep.mk hM
    have HF := Keep.mk hfin
    clear h0 h1 h2 h3 hl j0 hl' hcb hcf hC hMa hfin
    by_cases hst : statS g x now = 2
    · rw [hst] at C
      cases hck : clockB now with
      | true =>
        rw [if_pos ⟨hst, rfl⟩]
        rw [hck] at CK
        clear hst hck
        go_enter Tryd.func21, Tryd.ntmps21
        go_wp2_with fail
        refine C.out.mono ?_
        rintro e w' ⟨rfl, n, rfl⟩
        go_wp2_with fail
        refine (CK.out _).mono ?_
        rintro e w' ⟨rfl, rfl⟩
        have k0 := kd n 0
        have k1 := kd n 1
        have k2 := kd n 2
        have k3 := kd n 3
        have k4 := kd n 4
        have k5 := kd n 5
        have hzn : (setBlock ((w.alloc (boxL zeroL)).drewN n) mb o').obj w.heap.size = some (blkL zeroL) := by rw [obj_setBlock_ne hmz.symm]; exact hz
        obtain ⟨F1, hM1, u1⟩ := HF.out n
        have hsn := set_lease (y := x) hzn
        have HN := Keep.mk (And.intro hsn (fin_set (y := x) (z := w.heap.size) hM1 (((Upd.refl F w).alloc (boxL zeroL)).trans u1) (Nat.le_refl _) (not_fresh hM.out u1)))
        clear hsn hM1 u1
        go_wp2_with (first | (at_delete; refine at_delete_run rfl _ _ _ _ rfl _ _ _ _ rfl rfl (hdel _ ?_ _) ?_; go_simp) | (refine wpList_store_row rfl 26 _ _ rfl w.heap.size (cellsL x) rfl rfl 26 _ hzn (sizeL x) rfl (oneL x) ?_))
        refine bodyPost_ret (struct_ret rfl rfl rfl HN.out.1) rfl ?_
        exact ⟨rfl, F1, HN.out.2⟩
      | false =>
        rw [if_neg (by simp)]
        rw [hck] at CK
        clear hst hck
        go_enter Tryd.func21, Tryd.ntmps21
        go_wp2_with fail
        refine C.out.mono ?_
        rintro e w' ⟨rfl, n, rfl⟩
        go_wp2_with fail
        refine (CK.out _).mono ?_
        rintro e w' ⟨rfl, rfl⟩
        have hzn : ((w.alloc (boxL zeroL)).drewN n).obj w.heap.size = some (blkL zeroL) := hz
        have HN := Keep.mk (And.intro (set_lease (y := zeroL) hzn) (set_upd (y := zeroL) (g := w.heap.size) (((Upd.refl none' w).alloc (boxL zeroL)).drewN n) (.inr (Nat.le_refl _))))
        go_wp2_with (refine wpList_store_row rfl 26 _ _ rfl w.heap.size (cellsL zeroL) rfl rfl 26 _ hzn (sizeL zeroL) rfl (oneL zeroL) ?_)
        refine bodyPost_ret (struct_ret rfl rfl rfl HN.out.1) rfl ?_
        exact ⟨rfl, book_keep hM.out HN.out.2⟩
    · rw [if_neg (fun h => hst h.1)]
      have e2 : ((statS g x now) != 2) = true := by simp [hst]
      generalize statS g x now = st at *
      clear hst
      go_enter Tryd.func21, Tryd.ntmps21
      go_wp2_with fail
      refine C.out.mono ?_
      rintro e w' ⟨rfl, n, rfl⟩
      have hzn : ((w.alloc (boxL zeroL)).drewN n).obj w.heap.size = some (blkL zeroL) := hz
      have HN := Keep.mk (And.intro (set_lease (y := zeroL) hzn) (set_upd (y := zeroL) (g := w.heap.size) (((Upd.refl none' w).alloc (boxL zeroL)).drewN n) (.inr (Nat.le_refl _))))
      go_wp2_with (refine wpList_store_row rfl 26 _ _ rfl w.heap.size (cellsL zeroL) rfl rfl 26 _ hzn (sizeL zeroL) rfl (oneL zeroL) ?_)
      refine bodyPost_ret (struct_ret rfl rfl rfl HN.out.1) rfl ?_
      exact ⟨rfl, book_keep hM.out HN.out.2⟩
end Go.Proofs.YtefnfhhdcginmaaDoor
