/- The book of leases: Renew. -/
import Derived.Test.YtefnfhhdcginmaaDoorLeaseL
set_option linter.unusedVariables false
namespace Go.Proofs.YtefnfhhdcginmaaDoor
open Go.RowKit Go.Sub Go.ChangeMaps
/-- Renew, on what the book has -/
def renewS (g m : Int) (M : LT) (tenant nm : ByteArray) (epoch now ttl : Int) : LT × Lz × Int :=
  if timeB ttl = false then (M, zeroL, 1) else if ownErr g M tenant nm epoch now = 0 then (match mget M nm with | none => (M, zeroL, 0) | some x => (mset M nm (renL x (now + min ttl m)), renL x (now + min ttl m), 0)) else (M, zeroL, ownErr g M tenant nm epoch now)
def RenEnds (b : Nat) (g m e : Int) (R : LT × Lz × Int) (F : Fp) (w : World) : Ending → World → Prop := Ret (.tuple #[aggL R.2.1, .int .i64 R.2.2]) fun w' => ∃ F', (bookT b g m e R.1).on w' F' ∧ Upd F F' w w'
theorem own_found {g : Int} {M : LT} {tenant nm : ByteArray} {epoch now : Int} (h : ownErr g M tenant nm epoch now = 0) : clockB now = true ∧ ∃ x, mget M nm = some x ∧ statS g x now = 2 ∧ (x.tenant.toList == tenant.toList) = true ∧ x.epoch = epoch := by
  unfold ownErr at h
  cases hck : clockB now with
  | false => rw [hck] at h; simp at h
  | true =>
    rw [hck, if_neg (by simp)] at h
    cases hs : mget M nm with
    | none => rw [hs] at h; simp at h
    | some x =>
      rw [hs] at h
      simp only at h
      have hst : statS g x now = 2 := Classical.byContradiction fun e => by rw [if_pos e] at h; simp at h
      rw [if_neg (by simpa using hst)] at h
      have htn : (x.tenant.toList == tenant.toList) = true := by
        cases e : (x.tenant.toList == tenant.toList) with
        | true => rfl
        | false => rw [if_pos e] at h; simp at h
      rw [if_neg (by simp [htn])] at h
      have hep : x.epoch = epoch := Classical.byContradiction fun e => by rw [if_pos e] at h; simp at h
      exact ⟨rfl, x, rfl, hst, htn, hep⟩
def RenQ (b : Nat) (g m e : Int) (M : LT) (y : Lz) (F : Fp) (w w' : World) : Prop := ∃ F', (bookT b g m e M).on w' F' ∧ Upd F F' w w' ∧ w'.obj (w.heap.size + 4) = some (blkL y) ∧ w'.obj (w.heap.size + 3) = some (blkL zeroL) ∧ ¬ F' (w.heap.size + 3)
set_option maxHeartbeats 4000000 in
set_option maxRecDepth 100000 in
theorem renew_c {b : Nat} {g m e : Int} {M : LT} {w : World} {F : Fp} (hM : (bookT b g m e M).on w F) (g0 : 0 ≤ g) (g1 : g ≤ 1073741824) (m0 : 1 ≤ m) (m1 : m ≤ 1073741824) (ht : TilsOk M) (tenant nm : ByteArray) (epoch now ttl : Int) :
    Calls Tryd.prog 17 #[.pointer (some ⟨b, 0, none⟩), .string tenant, .string nm, .int .i64 epoch, .int .i64 now, .int .i64 ttl] w (RenEnds b g m e (renewS g m M tenant nm epoch now ttl) F w) := by
  have HMW := hM
  have CK := Keep.mk (fun w' : World => time_c (w := w') ttl)
  have u3 := (((Upd.refl F w).alloc (.cells #[.pointer (some ⟨b, 0, none⟩)] 23)).alloc (.cells #[.int .i64 now] 2)).alloc (.cells #[.int .i64 ttl] 2)
  have hM3 := Asrt.alloc (Asrt.alloc (Asrt.alloc hM (.cells #[.pointer (some ⟨b, 0, none⟩)] 23)) (.cells #[.int .i64 now] 2)) (.cells #[.int .i64 ttl] 2)
  obtain ⟨F1, S1, _⟩ := Asrt.stars_box (l := []) (w := w) (F := none') rfl (.cells #[.pointer (some ⟨b, 0, none⟩)] 23)
  obtain ⟨F2, S2, _⟩ := Asrt.stars_box S1 (.cells #[.int .i64 now] 2)
  obtain ⟨F3, S3, _⟩ := Asrt.stars_box S2 (.cells #[.int .i64 ttl] 2)
  simp only [size_alloc'] at S2 S3
  obtain ⟨kt, _, lt⟩ := box_cell (i := 0) S3 rfl
  obtain ⟨kn, _, ln⟩ := box_cell (i := 1) S3 rfl
  obtain ⟨kb, _, lb⟩ := box_cell (i := 2) S3 rfl
  have kt := kt 0
  have kn := kn 0
  have kb := kb 0
  have hw3 : (((w.alloc (.cells #[.pointer (some ⟨b, 0, none⟩)] 23)).alloc (.cells #[.int .i64 now] 2)).alloc (.cells #[.int .i64 ttl] 2)).heap.size = w.heap.size + 3 := by simp only [size_alloc']
  clear S1 S2 S3
  unfold renewS RenEnds
  -- the worlds behind the boxes
  obtain ⟨w3, hw3d⟩ : ∃ w3, w3 = ((w.alloc (.cells #[.pointer (some ⟨b, 0, none⟩)] 23)).alloc (.cells #[.int .i64 now] 2)).alloc (.cells #[.int .i64 ttl] 2) := ⟨_, rfl⟩
  rw [← hw3d] at u3 hM3 kt kn kb lt ln lb hw3
  have z3 : (w3.alloc (boxL zeroL)).obj (w.heap.size + 3) = some (blkL zeroL) := obj_alloc_at hw3.symm
  have kt4 : (w3.alloc (boxL zeroL)).cell? ⟨w.heap.size + 1 + 1, 0, none⟩ = some (.int .i64 ttl) := by rw [World.cell?_alloc_lt _ _ _ lt]; exact kt
  have kn4 : (w3.alloc (boxL zeroL)).cell? ⟨w.heap.size + 1, 0, none⟩ = some (.int .i64 now) := by rw [World.cell?_alloc_lt _ _ _ ln]; exact kn
  have kb4 : (w3.alloc (boxL zeroL)).cell? ⟨w.heap.size, 0, none⟩ = some (.pointer (some ⟨b, 0, none⟩)) := by rw [World.cell?_alloc_lt _ _ _ lb]; exact kb
  have hM4 := Asrt.alloc hM3 (boxL zeroL)
  have u4 := u3.alloc (boxL zeroL)
  have hs4 : (w3.alloc (boxL zeroL)).heap.size = w.heap.size + 4 := by rw [size_alloc']; omega
  have hFz : ∀ {F' : Fp} {w' : World}, Upd F F' (w3.alloc (boxL zeroL)) w' → ¬ F' (w.heap.size + 3) := fun u hk => by
    rcases u.fp _ hk with h1 | h1
    · exact absurd ((bookT b g m e M).lt HMW _ h1) (by omega)
    · omega
  generalize hg4 : w3.alloc (boxL zeroL) = w4 at *
  have lt4 : w.heap.size + 1 + 1 < w4.heap.size := by omega
  have ln4 : w.heap.size + 1 < w4.heap.size := by omega
  have lb4 : w.heap.size < w4.heap.size := by omega
  cases hck : timeB ttl with
  | false =>
    rw [hck] at CK
    rw [if_pos rfl]
    have HN := Keep.mk (And.intro (set_lease (y := zeroL) z3) (fin_set (y := zeroL) (z := w.heap.size + 3) hM4 u4 (by omega) (hFz (Upd.refl F w4))))
    have HG := Keep.mk hg4
    have HD := Keep.mk hw3d
    clear hM hM3 hM4 HMW u3 u4 kn kb kt kb4 kn4 ln lb lt lt4 ln4 lb4 hw3 hs4 hFz hg4 hw3d
    go_enter Tryd.func17, Tryd.ntmps17
    go_wp2_with (rw [← HD.out, HG.out])
    refine (CK.out _).mono ?_
    rintro e1 w1 ⟨rfl, rfl⟩
    go_wp2_with (refine wpList_store_row rfl 26 _ _ rfl (w.heap.size + 3) (cellsL zeroL) rfl rfl 26 _ z3 (sizeL zeroL) rfl (oneL zeroL) ?_)
    refine bodyPost_ret (struct_ret rfl rfl rfl HN.out.1) rfl ?_
    exact ⟨rfl, F, HN.out.2⟩
  | true =>
    rw [hck] at CK
    rw [if_neg (by simp)]
    obtain ⟨t0, t1⟩ := timeB_iff.1 hck
    have z4 : (w4.alloc (boxL zeroL)).obj (w.heap.size + 4) = some (blkL zeroL) := obj_alloc_at hs4.symm
    have z35 : (w4.alloc (boxL zeroL)).obj (w.heap.size + 3) = some (blkL zeroL) := (obj_alloc_lt (by omega)).trans z3
    have hM5 := Asrt.alloc hM4 (boxL zeroL)
    have u5 := u4.alloc (boxL zeroL)
    have hs5 : (w4.alloc (boxL zeroL)).heap.size = w.heap.size + 5 := by rw [size_alloc']; omega
    have kt5 : (w4.alloc (boxL zeroL)).cell? ⟨w.heap.size + 1 + 1, 0, none⟩ = some (.int .i64 ttl) := by rw [World.cell?_alloc_lt _ _ _ lt4]; exact kt4
    have kn5 : (w4.alloc (boxL zeroL)).cell? ⟨w.heap.size + 1, 0, none⟩ = some (.int .i64 now) := by rw [World.cell?_alloc_lt _ _ _ ln4]; exact kn4
    have kb5 : (w4.alloc (boxL zeroL)).cell? ⟨w.heap.size, 0, none⟩ = some (.pointer (some ⟨b, 0, none⟩)) := by rw [World.cell?_alloc_lt _ _ _ lb4]; exact kb4
    generalize hg5 : w4.alloc (boxL zeroL) = w5 at *
    have HG := Keep.mk hg4
    have HD := Keep.mk hw3d
    have HG5 := Keep.mk hg5
    have HS4 := Keep.mk hs4
    by_cases he : ownErr g M tenant nm epoch now = 0
    · rw [if_pos he]
      obtain ⟨hnow, x, hx, _⟩ := own_found he
      obtain ⟨n0, n1⟩ := clockB_iff.1 hnow
      have C := Keep.mk (own_ok hM5 g0 g1 ht tenant nm epoch now ent_renew1 (cd := #[.pointer (some ⟨w.heap.size + 1, 0, none⟩), .pointer (some ⟨w.heap.size + 1 + 1, 0, none⟩), .pointer (some ⟨w.heap.size, 0, none⟩), .pointer (some ⟨w.heap.size + 4, 0, none⟩)]) he (RenQ b g m e (mset M nm (renL x (now + min ttl m))) (renL x (now + min ttl m)) F w) (fun n cb x' hB hL hx' _ => by
        rw [hx] at hx'
        cases hx'
        obtain ⟨Fi, h1, hsub, h3⟩ := hL
        have hcb : ∀ k, Fi k → k < w.heap.size := fun k hk => (bookT b g m e M).lt HMW _ (hsub k hk)
        have hcbk := hcb cb (by rw [h1.2])
        refine (renew1_c h1 (bo := w.heap.size + 4) (z0 := zeroL) kn5 kt5 kb5 (book_cells hB).2.1 z4 (by omega) m0 m1 t0 t1 n0 n1).mono ?_
        rintro e1 w'' ⟨rfl, w1, h4, h5, h6, rfl⟩
        obtain ⟨F', h7, h8⟩ := h3 w1 Fi _ h4 h5
        have hn5 : (w5.drewN n).heap.size = w.heap.size + 5 := hs5
        have hnF : ∀ k, w.heap.size ≤ k → k < w.heap.size + 5 → ¬ F' k := fun k a b hk => by
          rcases h8.fp _ hk with h | h
          · exact absurd ((bookT _ g m e M).lt HMW _ h) (by omega)
          · omega
        have hq := fin_set (y := renL x (now + min ttl m)) (z := w.heap.size + 4) h7 ((u5.drewN n).trans h8) (by omega) (hnF _ (by omega) (by omega))
        refine ⟨rfl, F', hq.1, hq.2, set_lease h6, ?_, hnF _ (by omega) (by omega)⟩
        exact (setRow_other w1 (w.heap.size + 4) (w.heap.size + 3) _ (by omega)).trans ((h5.same _ (by rw [hn5]; omega) (fun h => absurd (hcb _ h) (by omega))).trans z35)))
      rw [hx]
      simp only
      generalize hy : renL x (now + min ttl m) = y at *
      generalize mset M nm y = M2 at *
      clear hM hM3 hM4 HMW u3 u4 kn kb kt kb4 kn4 ln lb lt lt4 ln4 lb4 hw3 hs4 hFz hg4 hw3d z4 z35 hM5 u5 hs5 he hx hy hg5
      go_enter Tryd.func17, Tryd.ntmps17
      go_wp2_with (rw [← HD.out, HG.out])
      refine (CK.out _).mono ?_
      rintro e1 w1 ⟨rfl, rfl⟩
      go_wp2_with (rw [HG5.out, HS4.out])
      refine C.out.mono ?_
      rintro e1 w1 ⟨rfl, F', q1, q2, q3, q4, q5⟩
      obtain ⟨hc, hf, hl⟩ := blk_facts q3
      have j0 := hc 0
      have j1 := hc 1
      have j2 := hc 2
      have j3 := hc 3
      have j4 := hc 4
      have j5 := hc 5
      have HN := Keep.mk (And.intro (set_lease (y := y) q4) (fin_set (y := y) (z := w.heap.size + 3) q1 q2 (by omega) q5))
      clear q1 q2 q3 q5 hc hf hl
      go_wp2_with (refine wpList_store_row rfl 26 _ _ rfl (w.heap.size + 3) (cellsL y) rfl rfl 26 _ q4 (sizeL y) rfl (oneL y) ?_)
      refine bodyPost_ret (struct_ret rfl rfl rfl HN.out.1) rfl ?_
      exact ⟨rfl, F', HN.out.2⟩
    · rw [if_neg he]
      have C := own_bad hM5 g0 g1 ht tenant nm epoch now (.func (.func 42) #[] #[.pointer (some ⟨w.heap.size + 1, 0, none⟩), .pointer (some ⟨w.heap.size + 1 + 1, 0, none⟩), .pointer (some ⟨w.heap.size, 0, none⟩), .pointer (some ⟨w.heap.size + 4, 0, none⟩)]) rfl he
      simp only
      generalize ownErr g M tenant nm epoch now = er at *
      replace C := Keep.mk C
      have HM5 := Keep.mk (And.intro hM5 u5)
      have HF := Keep.mk (show ¬ F (w.heap.size + 3) from hFz (Upd.refl F w4))
      have Z4 := Keep.mk z4
      clear hM hM3 hM4 HMW u3 u4 kn kb kt kb4 kn4 ln lb lt lt4 ln4 lb4 hw3 hs4 hFz hg4 hw3d z4 hM5 u5 hs5 he hg5
      go_enter Tryd.func17, Tryd.ntmps17
      go_wp2_with (rw [← HD.out, HG.out])
      refine (CK.out _).mono ?_
      rintro e1 w1 ⟨rfl, rfl⟩
      go_wp2_with (rw [HG5.out, HS4.out])
      refine C.out.mono ?_
      rintro e1 w1 ⟨rfl, n, rfl⟩
      have q3 : (w5.drewN n).obj (w.heap.size + 4) = some (blkL zeroL) := Z4.out
      have q4 : (w5.drewN n).obj (w.heap.size + 3) = some (blkL zeroL) := z35
      obtain ⟨hc, hf, hl⟩ := blk_facts q3
      have j0 := hc 0
      have j1 := hc 1
      have j2 := hc 2
      have j3 := hc 3
      have j4 := hc 4
      have j5 := hc 5
      have HN := Keep.mk (And.intro (set_lease (y := zeroL) q4) (fin_set (y := zeroL) (z := w.heap.size + 3) (Asrt.drewN HM5.out.1 n) (HM5.out.2.drewN n) (by omega) HF.out))
      clear q3 hc hf hl
      go_wp2_with (refine wpList_store_row rfl 26 _ _ rfl (w.heap.size + 3) (cellsL zeroL) rfl rfl 26 _ q4 (sizeL zeroL) rfl (oneL zeroL) ?_)
      refine bodyPost_ret (struct_ret rfl rfl rfl HN.out.1) rfl ?_
      exact ⟨rfl, F, HN.out.2⟩
end Go.Proofs.YtefnfhhdcginmaaDoor
