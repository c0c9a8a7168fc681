/- The book of leases: a name is written into the book. -/
import Derived.Test.YtpjfakmalhenjaaDoorLpD
import Derived.Deep.RegionHeld3
set_option linter.unusedVariables false
namespace Go.Proofs.YtpjfakmalhenjaaDoor
open Go.RowKit Go.Sub Go.ChangeMaps
theorem mset_none {κ V : Type} [DecidableEq κ] : ∀ {M : List (κ × V)} {x : κ} (v : V), mget M x = none → mset M x v = M ++ [(x, v)]
  | [], _, _, _ => rfl
  | (k, u) :: M, x, v, h => by
    by_cases e : k = x
    · simp [mget, e] at h
    · simp only [mget, if_neg e] at h
      simp [mset, e, mset_none v h]
theorem set_erase_perm {α : Type} : ∀ (L : List α) (i : Nat) (x : α), i < L.length → (x :: L.eraseIdx i).Perm (L.set i x)
  | [], i, x, h => by simp at h
  | y :: L, 0, x, h => by simp
  | y :: L, i + 1, x, h => by
    simp only [List.eraseIdx_cons_succ, List.set_cons_succ]
    exact (List.Perm.swap ..).trans ((set_erase_perm L i x (by simpa using h)).cons y)
/-- a name is written into the book, with a lease in a block of its own -/
theorem book_put {b mb : Nat} {g m e : Int} {M : LT} {w : World} {F : Fp} (hM : (bookT b g m e M).on w F) (h3 : w.cell? ⟨b, 3, none⟩ = some (.map (some mb))) (nm : ByteArray) (x' : Lz) (e' : Int) :
    ∃ O : Nat → Obj, (∀ (p : Nat) (W : World), W.obj mb = w.obj mb → (Instr.mapUpdate 59 (.map (some mb)) (.string nm) (.pointer (some ⟨p, 0, none⟩))).run Tryd.prog W = .ok () (setBlock W mb (O p))) ∧
      ∀ (n : Nat) (w2 : World), w2 = ((w.setCell ⟨b, 2, none⟩ (.int .i64 e')).drewN n).alloc (blkL x') → ∃ F', (bookT b g m e' (mset M nm x')).on (setBlock w2 mb (O w.heap.size)) F' ∧ Upd F F' w (setBlock w2 mb (O w.heap.size)) ∧ F' w.heap.size := by
  obtain ⟨⟨mb', L⟩, rfl, hS⟩ := hM
  obtain ⟨hc, hf, hlt⟩ := Asrt.blk_of hS 0 rfl
  obtain rfl : mb' = mb := by
    have := (hc 3).symm.trans h3
    simpa using this
  obtain ⟨Fb, hbk, _, hgo0⟩ := Asrt.stars_upd _ 0 _ rfl hS
  obtain ⟨_, ⟨o, ho, hm, _⟩, _⟩ := Asrt.stars_get hS 1 rfl
  have HU := fun k : Nat => run_update_of (ev := evP) keyS Tryd.underlying59 ho mb' nm (some k)
  obtain ⟨O, hO⟩ : ∃ O : Nat → Obj, ∀ k, MapObj encS evP (O k) (mset (L.map LE.key) nm (some k)) ∧ ∀ W : World, W.obj mb' = some o → (Instr.mapUpdate 59 (.map (some mb')) (.string nm) (.pointer (some ⟨k, 0, none⟩))).run Tryd.prog W = .ok () (setBlock W mb' (O k)) := ⟨fun k => (HU k).choose, fun k => (HU k).choose_spec⟩
  refine ⟨O, fun p W hW => (hO p).2 W (hW.trans hm), ?_⟩
  rintro n w2 rfl
  obtain ⟨B1, v1⟩ := blk_set hbk 2 (.int .i64 e')
  obtain ⟨F1, S1, u1⟩ := hgo0 _ _ (.blk b (bookO g m e' mb')) B1 v1
  simp only [List.set_cons_zero] at S1
  have S1n := Asrt.drewN S1 n
  have hsz : ((w.setCell ⟨b, 2, none⟩ (.int .i64 e')).drewN n).heap.size = w.heap.size := by simp [World.drewN, World.size_setCell]
  obtain ⟨F2, S2, u2⟩ := new_blk S1n (blkL x')
  rw [hsz] at S2
  obtain ⟨Fm, ⟨om, hom, hbmm, hFm⟩, _, hgo5⟩ := Asrt.stars_upd _ 2 _ rfl S2
  obtain ⟨F5, S5, u5⟩ := hgo5 (setBlock (((w.setCell ⟨b, 2, none⟩ (.int .i64 e')).drewN n).alloc (blkL x')) mb' (O w.heap.size)) Fm (.map encS evP mb' (mset (L.map LE.key) nm (some w.heap.size))) ⟨_, (hO _).1, obj_setBlock_at (lt_of_heap hbmm), hFm⟩ ((Upd.refl Fm _).setBlock (.inl (by rw [hFm])) _)
  simp only [List.set_cons_succ, List.set_cons_zero] at S5
  have U5 := ((u1.drewN n).trans u2).trans u5
  rcases lent_open L nm with ⟨h1, h2', h3⟩ | ⟨i, y, h1, hy, _, _, h5, _, _, h8⟩
  · rw [mset_none _ h1] at S5
    rw [mset_none _ h2']
    have S6 := Asrt.stars_perm (List.perm_append_singleton (Asrt.blk w.heap.size (blkL x')) (Asrt.blk b (bookO g m e' mb') :: Asrt.map encS evP mb' (L.map LE.key ++ [(nm, some w.heap.size)]) :: L.map LE.asrt)).symm S5
    obtain ⟨Fz, hz, hzs⟩ := Asrt.stars_get S5 0 rfl
    refine ⟨F5, ⟨(mb', L ++ [⟨nm, w.heap.size, x'⟩]), by simp, ?_⟩, U5, hzs _ (by rw [hz.2])⟩
    simpa using S6
  · rw [h8] at S5
    rw [h5]
    have hi : i < L.length := (List.getElem?_eq_some_iff.1 h1).1
    obtain ⟨F6, S6, s6⟩ := stars_erase _ (i + 3) S5
    simp only [List.eraseIdx_cons_succ] at S6
    rw [erase_map] at S6
    have e1 : (L.set i { y with cb := w.heap.size, x := x' }).map LE.key = (L.set i { y with cb := w.heap.size }).map LE.key := by simp [List.map_set]
    have e2 : (L.set i { y with cb := w.heap.size, x := x' }).map LE.val = (L.set i { y with x := x' }).map LE.val := by simp [List.map_set]
    obtain ⟨Fz, hz, hzs⟩ := Asrt.stars_get S6 0 rfl
    refine ⟨F6, ⟨(mb', L.set i { y with cb := w.heap.size, x := x' }), e2, ?_⟩, U5.re fun k hk => U5.fp k (s6 k hk), hzs _ (by rw [hz.2])⟩
    have P := ((set_erase_perm (L.map LE.asrt) i (Asrt.blk w.heap.size (blkL x')) (by simpa using hi)).cons (Asrt.map encS evP mb' ((L.set i { y with cb := w.heap.size }).map LE.key))).cons (Asrt.blk b (bookO g m e' mb'))
    rw [erase_map] at P
    have S7 := Asrt.stars_perm (((List.Perm.swap ..).trans ((List.Perm.swap ..).cons _)).trans P) S6
    show (Asrt.stars (_ :: Asrt.map encS evP mb' ((L.set i { y with cb := w.heap.size, x := x' }).map LE.key) :: (L.set i { y with cb := w.heap.size, x := x' }).map LE.asrt)).on _ F6
    rw [e1, List.map_set (f := LE.asrt)]
    exact S7
end Go.Proofs.YtpjfakmalhenjaaDoor
