/- The book of leases: New, Holder, Evict. -/
import Derived.Test.YtefnfhhdcginmaaDoorLeaseB
import Derived.Laws.ResultCell
set_option linter.unusedVariables false
namespace Go.Proofs.YtefnfhhdcginmaaDoor
open Go.RowKit Go.Sub Go.ChangeMaps
set_option maxHeartbeats 400000 in
theorem new_no {w : World} {g m : Int} (h : (timeB g && timeB m) = false) : Calls Tryd.prog 11 #[.int .i64 g, .int .i64 m] w (Ret (.pointer none) fun w' => w = w') := by
  have C1 := Keep.mk (time_c (w := w) g)
  have C2 := Keep.mk (time_c (w := w) m)
  cases h1 : timeB g with
  | false =>
    rw [h1] at C1
    clear h
    go_enter Tryd.func11, Tryd.ntmps11
    go_wp2_with fail
    refine C1.out.mono ?_
    rintro e w' ⟨rfl, rfl⟩
    go_wp2_with fail
    go_ret
    exact ⟨rfl, rfl⟩
  | true =>
    have h2 : timeB m = false := by simpa [h1] using h
    rw [h1] at C1
    rw [h2] at C2
    clear h
    go_enter Tryd.func11, Tryd.ntmps11
    go_wp2_with fail
    refine C1.out.mono ?_
    rintro e w' ⟨rfl, rfl⟩
    go_wp2_with fail
    refine C2.out.mono ?_
    rintro e w' ⟨rfl, rfl⟩
    go_wp2_with fail
    go_ret
    exact ⟨rfl, rfl⟩
set_option maxHeartbeats 400000 in
theorem new_yes {w : World} {g m : Int} (h1 : timeB g = true) (h2 : timeB m = true) : Calls Tryd.prog 11 #[.int .i64 g, .int .i64 m] w fun e w' => ∃ b, Ret (.pointer (some ⟨b, 0, none⟩)) (fun w' => ∃ F, (bookT b g m 0 []).on w' F ∧ Upd none' F w w') e w' := by
  have C1 := Keep.mk (time_c (w := w) g)
  have C2 := Keep.mk (time_c (w := w) m)
  rw [h1] at C1
  rw [h2] at C2
  have hmm := @run_makeMap Tryd.prog
  clear h1 h2
  go_enter Tryd.func11, Tryd.ntmps11
  go_wp2_with fail
  refine C1.out.mono ?_
  rintro e w' ⟨rfl, rfl⟩
  go_wp2_with fail
  refine C2.out.mono ?_
  rintro e w' ⟨rfl, rfl⟩
  go_wp2_with fail
  go_ret
  obtain ⟨F, h, u⟩ := Asrt.stars_new (l := []) (A := .map encS evP w.heap.size []) (w := w) (w' := w.alloc (.map #[] 0)) (F := none') (Fn := fun k => k = w.heap.size) rfl ⟨_, mapObj_new, obj_alloc_at rfl, rfl⟩ (((Upd.refl none' w).alloc _).re fun k hk => .inr (by rw [hk]; exact Nat.le_refl _))
  obtain ⟨F', h', u'⟩ := Asrt.stars_new (A := .blk (w.heap.size + 1) (bookO g m 0 w.heap.size)) (w' := (w.alloc (.map #[] 0)).alloc (bookO g m 0 w.heap.size)) (Fn := fun k => k = w.heap.size + 1) h ⟨obj_alloc_at (Array.size_push ..).symm, rfl⟩ (((Upd.refl none' _).alloc _).re fun k hk => .inr (by rw [hk]; exact Nat.le_of_eq (Array.size_push ..)))
  refine ⟨_, rfl, F', ⟨(w.heap.size, []), rfl, h'⟩, u.trans u'⟩
/-- who holds a name -/
def holdS (g : Int) (M : LT) (nm : ByteArray) (now : Int) : Lz × Bool := match mget M nm with
  | none => (zeroL, false)
  | some x => if statS g x now = 2 then (x, true) else (zeroL, false)
abbrev TilsOk (M : LT) : Prop := ∀ p ∈ M, TilOk p.2.til
theorem mget_mem {κ V : Type} [DecidableEq κ] {M : List (κ × V)} {x : κ} {v : V} (h : mget M x = some v) : (x, v) ∈ M := by
  induction M with
  | nil => cases h
  | cons p M ih =>
    obtain ⟨k, u⟩ := p
    by_cases e : k = x
    · simp only [mget, if_pos e, Option.some.injEq] at h; subst h; subst e; exact List.mem_cons_self ..
    · simp only [mget, if_neg e] at h; exact List.mem_cons_of_mem _ (ih h)
set_option maxHeartbeats 1000000 in
set_option maxRecDepth 100000 in
theorem holder_c {b : Nat} {g m e : Int} {M : LT} {w : World} {F : Fp} (hM : (bookT b g m e M).on w F) (g0 : 0 ≤ g) (g1 : g ≤ 1073741824) (ht : TilsOk M) (nm : ByteArray) (now : Int) :
    Calls Tryd.prog 29 #[.pointer (some ⟨b, 0, none⟩), .string nm, .int .i64 now] w (Ret (.tuple #[aggL (holdS g M nm now).1, .bool (holdS g M nm now).2]) fun w' => Quiet w w') := by
  obtain ⟨mb, h0, h1, h2, h3, hb, hmb, hf, _, _, ⟨hn, hl⟩ | ⟨cb, x, Fi, hs, hl, hC, _, _⟩⟩ := book_open hM nm
  · simp only [holdS, hn]
    have j3 : (w.alloc (boxL zeroL)).cell? ⟨b, 3, none⟩ = some (.map (some mb)) := by rw [World.cell?_alloc_lt _ _ _ hb]; exact h3
    have hl' : Finds mb (w.alloc (boxL zeroL)) nm none := fun W hW c => hl W (hW.trans (obj_alloc_lt hmb)) c
    have C := Keep.mk (at_none j3 hl' now)
    clear h0 h1 h2 h3 hl j3 hl'
    go_enter Tryd.func29, Tryd.ntmps29
    go_wp2_with fail
    refine C.out.mono ?_
    rintro e w' ⟨rfl, rfl⟩
    have hzn : (w.alloc (boxL zeroL)).obj w.heap.size = some (blkL zeroL) := obj_alloc_at (w := w) rfl
    have HN := Keep.mk (And.intro (set_lease (y := zeroL) hzn) (set_upd (y := zeroL) (g := w.heap.size) ((Upd.refl none' w).alloc (boxL zeroL)) (.inr (Nat.le_refl _))))
    go_wp2_with (refine wpList_store_row rfl 26 _ _ rfl w.heap.size (cellsL zeroL) rfl rfl 26 _ hzn (sizeL zeroL) rfl (oneL zeroL) ?_)
    refine bodyPost_ret (struct_ret rfl rfl rfl HN.out.1) rfl ?_
    exact ⟨rfl, HN.out.2⟩
  · simp only [holdS, hs]
    have htx := ht _ (mget_mem hs)
    obtain ⟨hcb, hcf, hcl⟩ := blk_facts hC.1
    have j0 : (w.alloc (boxL zeroL)).cell? ⟨b, 0, none⟩ = some (.int .i64 g) := by rw [World.cell?_alloc_lt _ _ _ hb]; exact h0
    have j3 : (w.alloc (boxL zeroL)).cell? ⟨b, 3, none⟩ = some (.map (some mb)) := by rw [World.cell?_alloc_lt _ _ _ hb]; exact h3
    have hl' : Finds mb (w.alloc (boxL zeroL)) nm (some cb) := fun W hW c => hl W (hW.trans (obj_alloc_lt hmb)) c
    have kk : ∀ j, (w.alloc (boxL zeroL)).cell? ⟨cb, j, none⟩ = (#[Value.string x.name, .string x.tenant, .int .i64 x.conn, .int .i64 x.epoch, .int .i64 x.til, .bool x.held] : Array Value)[j]? := fun j => by rw [World.cell?_alloc_lt _ _ _ hcl]; exact hcb j
    have C := Keep.mk (at_some j0 j3 hl' (kk 4) (kk 5) g0 g1 htx now)
    have k0 := kk 0
    have k1 := kk 1
    have k2 := kk 2
    have k3 := kk 3
    have k4 := kk 4
    have k5 := kk 5
    have hne : cb ≠ w.heap.size := by omega
    clear h0 h1 h2 h3 hl j3 j0 hl' kk hcb hcf hC
    have hz : (w.alloc (boxL zeroL)).obj w.heap.size = some (blkL zeroL) := obj_alloc_at (w := w) rfl
    by_cases hst : statS g x now = 2
    · rw [if_pos hst]
      rw [hst] at C
      clear hst
      go_enter Tryd.func29, Tryd.ntmps29
      go_wp2_with fail
      refine C.out.mono ?_
      rintro e w' ⟨rfl, n, rfl⟩
      have hzn : ((w.alloc (boxL zeroL)).drewN n).obj w.heap.size = some (blkL zeroL) := hz
      have hsn := set_lease (y := x) hzn
      have un := set_upd (y := x) (g := w.heap.size) (((Upd.refl none' w).alloc (boxL zeroL)).drewN n) (.inr (Nat.le_refl _))
      have HN := Keep.mk (And.intro hsn un)
      clear hsn un
      go_wp2_with (refine wpList_store_row rfl 26 _ _ rfl w.heap.size (cellsL x) rfl rfl 26 _ hzn (sizeL x) rfl (oneL x) ?_)
      refine bodyPost_ret (struct_ret rfl rfl rfl HN.out.1) rfl ?_
      exact ⟨rfl, HN.out.2⟩
    · rw [if_neg hst]
      have e2 : ((statS g x now) != 2) = true := by simp [hst]
      generalize statS g x now = st at *
      clear hst
      go_enter Tryd.func29, Tryd.ntmps29
      go_wp2_with fail
      refine C.out.mono ?_
      rintro e w' ⟨rfl, n, rfl⟩
      have hzn : ((w.alloc (boxL zeroL)).drewN n).obj w.heap.size = some (blkL zeroL) := hz
      have hsn := set_lease (y := zeroL) hzn
      have un := set_upd (y := zeroL) (g := w.heap.size) (((Upd.refl none' w).alloc (boxL zeroL)).drewN n) (.inr (Nat.le_refl _))
      have HN := Keep.mk (And.intro hsn un)
      clear hsn un
      go_wp2_with (refine wpList_store_row rfl 26 _ _ rfl w.heap.size (cellsL zeroL) rfl rfl 26 _ hzn (sizeL zeroL) rfl (oneL zeroL) ?_)
      refine bodyPost_ret (struct_ret rfl rfl rfl HN.out.1) rfl ?_
      exact ⟨rfl, HN.out.2⟩
end Go.Proofs.YtefnfhhdcginmaaDoor
