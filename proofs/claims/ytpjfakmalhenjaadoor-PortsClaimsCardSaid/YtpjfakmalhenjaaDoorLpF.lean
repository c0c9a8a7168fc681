/- The book of leases: Claim. -/
import Derived.Test.YtpjfakmalhenjaaDoorLpE
import Derived.Test.YtpjfakmalhenjaaDoorSynA
set_option linter.unusedVariables false
namespace Go.Proofs.YtpjfakmalhenjaaDoor
open Go.RowKit Go.Sub Go.ChangeMaps
theorem book_len {b mb : Nat} {g m e : Int} {M : LT} {w : World} {F : Fp} (hM : (bookT b g m e M).on w F) (h3 : w.cell? ⟨b, 3, none⟩ = some (.map (some mb))) :
    ∀ W : World, W.obj mb = w.obj mb → ∀ ty, (Builtin.len_ #[59] ty #[.map (some mb)]).run Tryd.prog W = .ok (.int .i64 (M.length : Nat)) W := by
  obtain ⟨⟨mb', L⟩, rfl, hS⟩ := hM
  obtain ⟨hc, hf, hlt⟩ := Asrt.blk_of hS 0 rfl
  obtain rfl : mb' = mb := by
    have := (hc 3).symm.trans h3
    simpa using this
  obtain ⟨_, ⟨o, ho, hm, _⟩, _⟩ := Asrt.stars_get hS 1 rfl
  have hlen := run_len_of Tryd.underlying59 ho mb'
  intro W hW ty
  rw [hlen W (hW.trans hm) ty]
  simp
theorem book_ne {b mb : Nat} {g m e : Int} {M : LT} {w : World} {F : Fp} (hM : (bookT b g m e M).on w F) (h3 : w.cell? ⟨b, 3, none⟩ = some (.map (some mb))) : b ≠ mb := by
  obtain ⟨⟨mb', L⟩, rfl, hS⟩ := hM
  obtain ⟨hc, hf, hlt⟩ := Asrt.blk_of hS 0 rfl
  obtain rfl : mb' = mb := by
    have := (hc 3).symm.trans h3
    simpa using this
  obtain ⟨F1, F2, hb1, ⟨F3, F4, ⟨o2, _, hm2⟩, _, _, rfl⟩, hd2, _⟩ := hS
  intro e
  exact hd2 b (by rw [hb1.2]) (.inl (by rw [hm2.2]; exact e))
theorem set_cell2 {b : Nat} {g m e : Int} {M : LT} {w : World} {F : Fp} (hM : (bookT b g m e M).on w F) (e' : Int) (j : Nat) : (w.setCell ⟨b, 2, none⟩ (.int .i64 e')).cell? ⟨b, j, none⟩ = if j = 2 then some (.int .i64 e') else w.cell? ⟨b, j, none⟩ := by
  obtain ⟨⟨mb', L⟩, rfl, hS⟩ := hM
  obtain ⟨Fb, hbk, _⟩ := Asrt.stars_get hS 0 rfl
  obtain ⟨hc, _, _⟩ := blk_facts hbk.1
  obtain ⟨B1, _⟩ := blk_set hbk 2 (.int .i64 e')
  obtain ⟨hc', _, _⟩ := blk_facts B1.1
  rw [hc', hc]
  rcases j with _ | _ | _ | _ | j <;> simp
/-- a lease that is new -/
abbrev newL (tenant nm : ByteArray) (conn e now ttl m : Int) : Lz := ⟨nm, tenant, conn, e + 1, now + min ttl m, true⟩
/-- Claim, on what the book has: the last epoch, the leases, the lease, the error -/
def claimS (g m e : Int) (M : LT) (tenant nm : ByteArray) (conn now ttl : Int) : Int × LT × Lz × Int :=
  if (nameB tenant.data.toList && (nameB nm.data.toList && (clockB now && timeB ttl))) = false then (e, M, zeroL, 1) else match mget M nm with
  | none => if M.length = 64 then (e, M, zeroL, 2) else (e + 1, mset M nm (newL tenant nm conn e now ttl m), newL tenant nm conn e now ttl m, 0)
  | some x => if 0 < statS g x now ∧ (x.tenant.toList == tenant.toList) = false then (e, M, zeroL, 131) else if statS g x now = 2 then (e, M, zeroL, 4) else
    (e + 1, mset M nm (newL tenant nm conn e now ttl m), newL tenant nm conn e now ttl m, 0)
theorem stat_cases (g : Int) (x : Lz) (now : Int) : statS g x now = 0 ∨ statS g x now = 1 ∨ statS g x now = 2 := by
  unfold statS
  repeat' split
  all_goals simp
/-- how 'Claim' ends -/
def ClaimEnds (b : Nat) (g m : Int) (R : Int × LT × Lz × Int) (F : Fp) (w : World) : Ending → World → Prop := Ret (.tuple #[aggL R.2.2.1, .int .i64 R.2.2.2]) fun w' => ∃ F', (bookT b g m R.1 R.2.1).on w' F' ∧ Upd F F' w w'
set_option maxHeartbeats 16000000 in
set_option maxRecDepth 100000 in
theorem claim_c {b : Nat} {g m e : Int} {M : LT} {w : World} {F : Fp} (hM : (bookT b g m e M).on w F) (g0 : 0 ≤ g) (g1 : g ≤ 1073741824) (m0 : 1 ≤ m) (m1 : m ≤ 1073741824) (l0 : 0 ≤ e) (l1 : e ≤ 1000000000) (ht : TilsOk M)
    (tenant nm : ByteArray) (hts : tenant.size ≤ maxLen) (hns : nm.size ≤ maxLen) (conn now ttl : Int) :
    Calls Tryd.prog 23 #[.pointer (some ⟨b, 0, none⟩), .string tenant, .string nm, .int .i64 conn, .int .i64 now, .int .i64 ttl] w (ClaimEnds b g m (claimS g m e M tenant nm conn now ttl) F w) := by
  have C1 := Keep.mk (fun w' : World => sname_c (w := w') tenant hts)
  have C2 := Keep.mk (fun w' : World => sname_c (w := w') nm hns)
  have C3 := Keep.mk (fun w' : World => clock_c (w := w') now)
  have C4 := Keep.mk (fun w' : World => time_c (w := w') ttl)
  have hz : (w.alloc (boxL zeroL)).obj w.heap.size = some (blkL zeroL) := obj_alloc_at (w := w) rfl
  have hzl : w.heap.size < (w.alloc (boxL zeroL)).heap.size := by rw [size_alloc']; omega
  have U0 := (Upd.refl none' w).alloc (boxL zeroL)
  have hFz : ¬ F w.heap.size := fun h => absurd ((bookT b g m e M).lt hM _ h) (by omega)
  have HM := Keep.mk hM
  have hzr : w.heap.size ≤ w.heap.size := Nat.le_refl _
  clear hM
  obtain ⟨z, hzd⟩ : ∃ z, z = w.heap.size := ⟨_, rfl⟩
  rw [← hzd] at hz hzl hFz
  have hzr : w.heap.size ≤ z := by omega
  have HZD := Keep.mk hzd
  clear hzd
  cases h1 : nameB tenant.data.toList with
  | false =>
    have FIN := Keep.mk (show claimS g m e M tenant nm conn now ttl = (e, M, zeroL, 1) from by unfold claimS; rw [if_pos (by simp [h1])])
    rw [h1] at C1
    go_enter Tryd.func23, Tryd.ntmps23
    go_wp2_with fail
    rw [← HZD.out]
    refine (C1.out _).mono ?_
    rintro e w1 ⟨rfl, q1⟩
    have U1 := U0.trans q1
    have hz1 : w1.obj z = some (blkL zeroL) := (q1.same z hzl id).trans hz
    have hzl1 := Nat.lt_of_lt_of_le hzl q1.size
    have hzn : w1.obj z = some (blkL zeroL) := hz1
    have HN := Keep.mk (And.intro (set_lease (y := zeroL) hzn) (set_upd (y := zeroL) (g := z) U1 (.inr hzr)))
    go_wp2_with (refine wpList_store_row rfl 34 _ _ rfl z (cellsL zeroL) rfl rfl 34 _ hzn (sizeL zeroL) rfl (oneL zeroL) ?_)
    refine bodyPost_ret (struct_ret rfl rfl rfl HN.out.1) rfl ?_
    unfold ClaimEnds
    rw [FIN.out]
    exact ⟨rfl, book_keep HM.out HN.out.2⟩
  | true =>
    rw [h1] at C1
    cases h2 : nameB nm.data.toList with
    | false =>
      have FIN := Keep.mk (show claimS g m e M tenant nm conn now ttl = (e, M, zeroL, 1) from by unfold claimS; rw [if_pos (by simp [h1, h2])])
      rw [h2] at C2
      go_enter Tryd.func23, Tryd.ntmps23
      go_wp2_with fail
      rw [← HZD.out]
      refine (C1.out _).mono ?_
      rintro e w1 ⟨rfl, q1⟩
      have U1 := U0.trans q1
      have hz1 : w1.obj z = some (blkL zeroL) := (q1.same z hzl id).trans hz
      have hzl1 := Nat.lt_of_lt_of_le hzl q1.size
      go_wp2_with fail
      refine (C2.out _).mono ?_
      rintro e w2 ⟨rfl, q2⟩
      have U2 := U1.trans q2
      have hz2 : w2.obj z = some (blkL zeroL) := (q2.same z hzl1 id).trans hz1
      have hzl2 := Nat.lt_of_lt_of_le hzl1 q2.size
      have hzn : w2.obj z = some (blkL zeroL) := hz2
      have HN := Keep.mk (And.intro (set_lease (y := zeroL) hzn) (set_upd (y := zeroL) (g := z) U2 (.inr hzr)))
      go_wp2_with (refine wpList_store_row rfl 34 _ _ rfl z (cellsL zeroL) rfl rfl 34 _ hzn (sizeL zeroL) rfl (oneL zeroL) ?_)
      refine bodyPost_ret (struct_ret rfl rfl rfl HN.out.1) rfl ?_
      unfold ClaimEnds
      rw [FIN.out]
      exact ⟨rfl, book_keep HM.out HN.out.2⟩
    | true =>
      rw [h2] at C2
      cases h3 : clockB now with
      | false =>
        have FIN := Keep.mk (show claimS g m e M tenant nm conn now ttl = (e, M, zeroL, 1) from by unfold claimS; rw [if_pos (by simp [h1, h2, h3])])
        rw [h3] at C3
        go_enter Tryd.func23, Tryd.ntmps23
        go_wp2_with fail
        rw [← HZD.out]
        refine (C1.out _).mono ?_
        rintro e w1 ⟨rfl, q1⟩
        have U1 := U0.trans q1
        have hz1 : w1.obj z = some (blkL zeroL) := (q1.same z hzl id).trans hz
        have hzl1 := Nat.lt_of_lt_of_le hzl q1.size
        go_wp2_with fail
        refine (C2.out _).mono ?_
        rintro e w2 ⟨rfl, q2⟩
        have U2 := U1.trans q2
        have hz2 : w2.obj z = some (blkL zeroL) := (q2.same z hzl1 id).trans hz1
        have hzl2 := Nat.lt_of_lt_of_le hzl1 q2.size
        go_wp2_with fail
        refine (C3.out _).mono ?_
        rintro e w' ⟨rfl, rfl⟩
        have hzn : w2.obj z = some (blkL zeroL) := hz2
        have HN := Keep.mk (And.intro (set_lease (y := zeroL) hzn) (set_upd (y := zeroL) (g := z) U2 (.inr hzr)))
        go_wp2_with (refine wpList_store_row rfl 34 _ _ rfl z (cellsL zeroL) rfl rfl 34 _ hzn (sizeL zeroL) rfl (oneL zeroL) ?_)
        refine bodyPost_ret (struct_ret rfl rfl rfl HN.out.1) rfl ?_
        unfold ClaimEnds
        rw [FIN.out]
        exact ⟨rfl, book_keep HM.out HN.out.2⟩
      | true =>
        rw [h3] at C3
        cases h4 : timeB ttl with
        | false =>
          have FIN := Keep.mk (show claimS g m e M tenant nm conn now ttl = (e, M, zeroL, 1) from by unfold claimS; rw [if_pos (by simp [h1, h2, h3, h4])])
          rw [h4] at C4
          go_enter Tryd.func23, Tryd.ntmps23
          go_wp2_with fail
          rw [← HZD.out]
          refine (C1.out _).mono ?_
          rintro e w1 ⟨rfl, q1⟩
          have U1 := U0.trans q1
          have hz1 : w1.obj z = some (blkL zeroL) := (q1.same z hzl id).trans hz
          have hzl1 := Nat.lt_of_lt_of_le hzl q1.size
          go_wp2_with fail
          refine (C2.out _).mono ?_
          rintro e w2 ⟨rfl, q2⟩
          have U2 := U1.trans q2
          have hz2 : w2.obj z = some (blkL zeroL) := (q2.same z hzl1 id).trans hz1
          have hzl2 := Nat.lt_of_lt_of_le hzl1 q2.size
          go_wp2_with fail
          refine (C3.out _).mono ?_
          rintro e w' ⟨rfl, rfl⟩
          go_wp2_with fail
          refine (C4.out _).mono ?_
          rintro e w' ⟨rfl, rfl⟩
          have hzn : w2.obj z = some (blkL zeroL) := hz2
          have HN := Keep.mk (And.intro (set_lease (y := zeroL) hzn) (set_upd (y := zeroL) (g := z) U2 (.inr hzr)))
          go_wp2_with (refine wpList_store_row rfl 34 _ _ rfl z (cellsL zeroL) rfl rfl 34 _ hzn (sizeL zeroL) rfl (oneL zeroL) ?_)
          refine bodyPost_ret (struct_ret rfl rfl rfl HN.out.1) rfl ?_
          unfold ClaimEnds
          rw [FIN.out]
          exact ⟨rfl, book_keep HM.out HN.out.2⟩
        | true =>
          rw [h4] at C4
          have tb := timeB_iff.1 h4
          have cb0 := clockB_iff.1 h3
          obtain ⟨t0, t1⟩ := tb
          obtain ⟨n0, n1⟩ := cb0
          have HOK := Keep.mk (And.intro h1 (And.intro h2 (And.intro h3 h4)))
          clear h1 h2 h3 h4
          go_enter Tryd.func23, Tryd.ntmps23
          go_wp2_with fail
          rw [← HZD.out]
          refine (C1.out _).mono ?_
          rintro e w1 ⟨rfl, q1⟩
          have U1 := U0.trans q1
          have hz1 : w1.obj z = some (blkL zeroL) := (q1.same z hzl id).trans hz
          have hzl1 := Nat.lt_of_lt_of_le hzl q1.size
          go_wp2_with fail
          refine (C2.out _).mono ?_
          rintro e w2 ⟨rfl, q2⟩
          have U2 := U1.trans q2
          have hz2 : w2.obj z = some (blkL zeroL) := (q2.same z hzl1 id).trans hz1
          have hzl2 := Nat.lt_of_lt_of_le hzl1 q2.size
          go_wp2_with fail
          refine (C3.out _).mono ?_
          rintro e w' ⟨rfl, rfl⟩
          go_wp2_with fail
          refine (C4.out _).mono ?_
          rintro e w' ⟨rfl, rfl⟩
          have hM2 := (bookT b g m e M).frame HM.out U2 fun _ _ h => h
          have hsz2 := U2.size
          generalize hWW : w2 = wk at *
          clear hWW q1 q2 U1 U0 hz hzl hz1 hzl1 C1 C2 C3 C4
          have el : wrap64 (e + 1) = e + 1 := by first | (unfold wrap64; omega)
          have hmin0 : 1 ≤ min ttl m := by omega
          have hmin1 : min ttl m ≤ 1073741824 := by omega
          obtain ⟨mb, k0, k1, k2, k3, hb, hmb, hf, hFb, hFm, ⟨hn, hl⟩ | ⟨cb, x, Fi, hs, hl, hC, hsub, _⟩⟩ := book_open hM2 nm
          · have C := Keep.mk (at_none k3 hl now)
            have HL := Keep.mk (book_len hM2 k3)
            clear hl
            by_cases h64 : M.length = 64
            · have e64 : ((M.length : Int) == 64) = true := by simp; omega
              have hlen := HL.out
              have FIN := Keep.mk (show claimS g m e M tenant nm conn now ttl = (e, M, zeroL, 2) from by obtain ⟨h1, h2, h3, h4⟩ := HOK.out; unfold claimS; rw [if_neg (by simp [h1, h2, h3, h4]), hn]; simp only; rw [if_pos h64])
              clear h64
              go_wp2_with fail
              refine C.out.mono ?_
              rintro e w' ⟨rfl, rfl⟩
              have hzn : wk.obj z = some (blkL zeroL) := hz2
              have HN := Keep.mk (And.intro (set_lease (y := zeroL) hzn) (set_upd (y := zeroL) (g := z) U2 (.inr hzr)))
              go_wp2_with (refine wpList_store_row rfl 34 _ _ rfl z (cellsL zeroL) rfl rfl 34 _ hzn (sizeL zeroL) rfl (oneL zeroL) ?_)
              refine bodyPost_ret (struct_ret rfl rfl rfl HN.out.1) rfl ?_
              unfold ClaimEnds
              rw [FIN.out]
              exact ⟨rfl, book_keep HM.out HN.out.2⟩
            · have e64 : ((M.length : Int) == 64) = false := by simp; omega
              have hlen := HL.out
              have FIN := Keep.mk (show claimS g m e M tenant nm conn now ttl = (e + 1, mset M nm (newL tenant nm conn e now ttl m), newL tenant nm conn e now ttl m, 0) from by obtain ⟨h1, h2, h3, h4⟩ := HOK.out; unfold claimS; rw [if_neg (by simp [h1, h2, h3, h4]), hn]; simp only; rw [if_neg h64])
              clear h64
              go_wp2_with fail
              refine C.out.mono ?_
              rintro e w' ⟨rfl, rfl⟩
              -- the name is written
              obtain ⟨O, hput, hfin⟩ := book_put hM2 k3 nm (newL tenant nm conn e now ttl m) (e + 1)
              obtain ⟨F5, hM5, U5, _⟩ := hfin 1 _ rfl
              have hbm := book_ne hM2 k3
              have hrun := hput wk.heap.size (((wk.setCell ⟨b, 2, none⟩ (.int .i64 (e + 1))).drewN 1).alloc (blkL (newL tenant nm conn e now ttl m))) (by rw [obj_alloc_lt (by simpa [World.drewN, World.size_setCell] using hmb)]; exact obj_setCell_ne (fun h => hbm h.symm))
              have hpo : (((wk.setCell ⟨b, 2, none⟩ (.int .i64 (e + 1))).drewN 1).alloc (blkL (newL tenant nm conn e now ttl m))).obj wk.heap.size = some (blkL (newL tenant nm conn e now ttl m)) := obj_alloc_at (by simp [World.drewN, World.size_setCell])
              have hbz : b ≠ z := fun h => hFz (h ▸ hFb)
              have hmz : mb ≠ z := fun h => hFz (h ▸ hFm)
              have hzo : (((wk.setCell ⟨b, 2, none⟩ (.int .i64 (e + 1))).drewN 1).alloc (blkL (newL tenant nm conn e now ttl m))).obj z = some (blkL zeroL) := by
                rw [obj_alloc_lt (by simpa [World.drewN, World.size_setCell] using hzl2)]
                exact (obj_setCell_ne (fun h => hbz h.symm)).trans hz2
              have hbl : b < wk.heap.size := hb
              have cset : ∀ (j : Nat), (wk.setCell ⟨b, 2, none⟩ (.int .i64 (e + 1))).cell? ⟨b, j, none⟩ = if j = 2 then some (.int .i64 (e + 1)) else wk.cell? ⟨b, j, none⟩ := fun j => set_cell2 hM2 (e + 1) j
              have s0 : (wk.setCell ⟨b, 2, none⟩ (.int .i64 (e + 1))).drew.cell? ⟨b, 2, none⟩ = some (.int .i64 (e + 1)) ∧ (wk.setCell ⟨b, 2, none⟩ (.int .i64 (e + 1))).drew.cell? ⟨b, 1, none⟩ = some (.int .i64 m) := ⟨by show (wk.setCell ⟨b, 2, none⟩ (.int .i64 (e + 1))).cell? _ = _; rw [cset]; rfl, by show (wk.setCell ⟨b, 2, none⟩ (.int .i64 (e + 1))).cell? _ = _; rw [cset]; exact k1⟩
              have c3 : (((wk.setCell ⟨b, 2, none⟩ (.int .i64 (e + 1))).drewN 1).alloc (blkL (newL tenant nm conn e now ttl m))).cell? ⟨b, 3, none⟩ = some (.map (some mb)) := by
                rw [World.cell?_alloc_lt _ _ _ (by simpa [World.drewN, World.size_setCell] using hbl)]
                show (wk.setCell ⟨b, 2, none⟩ (.int .i64 (e + 1))).cell? _ = _
                rw [cset]
                exact k3
              have hpm : wk.heap.size ≠ mb := by have := hmb; omega
              have hpz : wk.heap.size ≠ z := by have := hzl2; omega
              have hkp := fun j : Nat => (blk_facts (w := setBlock (((wk.setCell ⟨b, 2, none⟩ (.int .i64 (e + 1))).drewN 1).alloc (blkL (newL tenant nm conn e now ttl m))) mb (O wk.heap.size)) (b := wk.heap.size) (c := cellsL (newL tenant nm conn e now ttl m)) (by rw [obj_setBlock_ne hpm]; exact hpo)).1 j
              have kp0 := hkp 0
              have kp1 := hkp 1
              have kp2 := hkp 2
              have kp3 := hkp 3
              have kp4 := hkp 4
              have kp5 := hkp 5
              have hzn : (setBlock (((wk.setCell ⟨b, 2, none⟩ (.int .i64 (e + 1))).drewN 1).alloc (blkL (newL tenant nm conn e now ttl m))) mb (O wk.heap.size)).obj z = some (blkL zeroL) := by rw [obj_setBlock_ne hmz.symm]; exact hzo
              have UU : Upd F F5 w (setBlock (((wk.setCell ⟨b, 2, none⟩ (.int .i64 (e + 1))).drewN 1).alloc (blkL (newL tenant nm conn e now ttl m))) mb (O wk.heap.size)) := ((Upd.refl F w).thenQ U2).trans U5
              have hF5 : ¬ F5 z := fun h => (U5.fp z h).elim hFz fun h => by have := hzl2; omega
              have HN := Keep.mk (And.intro (set_lease (y := newL tenant nm conn e now ttl m) hzn) (fin_set (y := newL tenant nm conn e now ttl m) (z := z) hM5 UU hzr hF5))
              have esum : IntKind.i64.wrap (now + min ttl m) = now + min ttl m := by rw [IntKind.wrap_i64]; omega
              generalize hp : wk.heap.size = p at *
              go_wp2_with fail
              go_region_held3 (fun w' => w'.cell? ⟨b, 2, none⟩ = some (.int .i64 (e + 1)) ∧ w'.cell? ⟨b, 1, none⟩ = some (.int .i64 m)) (first | exact s0 | go_keep) (fail)
              have hwe : ((wk.setCell ⟨b, 2, none⟩ (.int .i64 (e + 1))).alloc (boxL (newL tenant nm conn e now ttl m))).drew = ((wk.setCell ⟨b, 2, none⟩ (.int .i64 (e + 1))).drewN 1).alloc (blkL (newL tenant nm conn e now ttl m)) := rfl
              rw [hwe]
              generalize ((wk.setCell ⟨b, 2, none⟩ (.int .i64 (e + 1))).drewN 1).alloc (blkL (newL tenant nm conn e now ttl m)) = w5 at *
              clear s0 cset hkp hput hfin hpo hzo hwe
              go_wp2_with (refine wpList_store_row rfl 34 _ _ rfl z (cellsL (newL tenant nm conn e now ttl m)) rfl rfl 34 _ hzn (sizeL (newL tenant nm conn e now ttl m)) rfl (oneL (newL tenant nm conn e now ttl m)) ?_)
              refine bodyPost_ret (struct_ret rfl rfl rfl HN.out.1) rfl ?_
              unfold ClaimEnds
              rw [FIN.out]
              exact ⟨rfl, F5, HN.out.2⟩
          · have htx := ht _ (mget_mem hs)
            obtain ⟨hcb, hcf, hcl⟩ := blk_facts hC.1
            have C := Keep.mk (at_some k0 k3 hl (hcb 4) (hcb 5) g0 g1 htx now)
            have q1 := hcb 1
            have hFS : claimS g m e M tenant nm conn now ttl = if 0 < statS g x now ∧ (x.tenant.toList == tenant.toList) = false then (e, M, zeroL, 131) else if statS g x now = 2 then (e, M, zeroL, 4) else (e + 1, mset M nm (newL tenant nm conn e now ttl m), newL tenant nm conn e now ttl m, 0) := by
              obtain ⟨h1, h2, h3, h4⟩ := HOK.out; unfold claimS; rw [if_neg (by simp [h1, h2, h3, h4]), hs]
            have hz3 : ∀ n, (wk.drewN n).obj z = some (blkL zeroL) := fun n => hz2
            have U3 := fun n => U2.drewN n
            clear hl hC hcf
            cases htn : (x.tenant.toList == tenant.toList) with
            | false =>
              by_cases h0 : 0 < statS g x now
              · have e0 : decide (0 < statS g x now) = true := by simpa using h0
                have FIN := Keep.mk (show claimS g m e M tenant nm conn now ttl = (e, M, zeroL, 131) from by rw [hFS, if_pos ⟨h0, htn⟩])
                generalize statS g x now = st at *
                clear h0 hFS
                go_wp2_with fail
                refine C.out.mono ?_
                rintro e w' ⟨rfl, n, rfl⟩
                have hzn : (wk.drewN n).obj z = some (blkL zeroL) := hz2
                have HN := Keep.mk (And.intro (set_lease (y := zeroL) hzn) (set_upd (y := zeroL) (g := z) (U2.drewN n) (.inr hzr)))
                go_wp2_with (refine wpList_store_row rfl 34 _ _ rfl z (cellsL zeroL) rfl rfl 34 _ hzn (sizeL zeroL) rfl (oneL zeroL) ?_)
                refine bodyPost_ret (struct_ret rfl rfl rfl HN.out.1) rfl ?_
                unfold ClaimEnds
                rw [FIN.out]
                exact ⟨rfl, book_keep HM.out HN.out.2⟩
              · have hst : statS g x now = 0 := by rcases stat_cases g x now with h | h | h <;> omega
                have FIN := Keep.mk (show claimS g m e M tenant nm conn now ttl = (e + 1, mset M nm (newL tenant nm conn e now ttl m), newL tenant nm conn e now ttl m, 0) from by rw [hFS, if_neg (fun h => h0 h.1), if_neg (by omega)])
                rw [hst] at C
                clear h0 hFS hst
                go_wp2_with fail
                refine C.out.mono ?_
                rintro e w' ⟨rfl, n, rfl⟩
                have hM3 := Asrt.drewN hM2 n
                have j3 : (wk.drewN n).cell? ⟨b, 3, none⟩ = some (.map (some mb)) := k3
                have j1 : (wk.drewN n).cell? ⟨b, 1, none⟩ = some (.int .i64 m) := k1
                have j2 : (wk.drewN n).cell? ⟨b, 2, none⟩ = some (.int .i64 e) := k2
                have jb : b < (wk.drewN n).heap.size := hb
                have jm : mb < (wk.drewN n).heap.size := hmb
                have jz := hz3 n
                have jU := U3 n
                have jzl : z < (wk.drewN n).heap.size := hzl2
                have jf : ∀ j, (wk.drewN n).frozen? ⟨b, j, none⟩ = false := hf
                clear U2 hzl2 k0 k1 k2 k3 hb hmb hz2 hz3 U3 hM2 hf hcb
                have U2 := jU
                have hzl2 := jzl
                have hz2 := jz
                have hf := jf
                generalize wk.drewN n = wd at *
                -- the name is written
                obtain ⟨O, hput, hfin⟩ := book_put hM3 j3 nm (newL tenant nm conn e now ttl m) (e + 1)
                obtain ⟨F5, hM5, U5, _⟩ := hfin 1 _ rfl
                have hbm := book_ne hM3 j3
                have hrun := hput wd.heap.size (((wd.setCell ⟨b, 2, none⟩ (.int .i64 (e + 1))).drewN 1).alloc (blkL (newL tenant nm conn e now ttl m))) (by rw [obj_alloc_lt (by simpa [World.drewN, World.size_setCell] using jm)]; exact obj_setCell_ne (fun h => hbm h.symm))
                have hpo : (((wd.setCell ⟨b, 2, none⟩ (.int .i64 (e + 1))).drewN 1).alloc (blkL (newL tenant nm conn e now ttl m))).obj wd.heap.size = some (blkL (newL tenant nm conn e now ttl m)) := obj_alloc_at (by simp [World.drewN, World.size_setCell])
                have hbz : b ≠ z := fun h => hFz (h ▸ hFb)
                have hmz : mb ≠ z := fun h => hFz (h ▸ hFm)
                have hzo : (((wd.setCell ⟨b, 2, none⟩ (.int .i64 (e + 1))).drewN 1).alloc (blkL (newL tenant nm conn e now ttl m))).obj z = some (blkL zeroL) := by
                  rw [obj_alloc_lt (by simpa [World.drewN, World.size_setCell] using hzl2)]
                  exact (obj_setCell_ne (fun h => hbz h.symm)).trans hz2
                have hbl : b < wd.heap.size := jb
                have cset : ∀ (j : Nat), (wd.setCell ⟨b, 2, none⟩ (.int .i64 (e + 1))).cell? ⟨b, j, none⟩ = if j = 2 then some (.int .i64 (e + 1)) else wd.cell? ⟨b, j, none⟩ := fun j => set_cell2 hM3 (e + 1) j
                have s0 : (wd.setCell ⟨b, 2, none⟩ (.int .i64 (e + 1))).drew.cell? ⟨b, 2, none⟩ = some (.int .i64 (e + 1)) ∧ (wd.setCell ⟨b, 2, none⟩ (.int .i64 (e + 1))).drew.cell? ⟨b, 1, none⟩ = some (.int .i64 m) := ⟨by show (wd.setCell ⟨b, 2, none⟩ (.int .i64 (e + 1))).cell? _ = _; rw [cset]; rfl, by show (wd.setCell ⟨b, 2, none⟩ (.int .i64 (e + 1))).cell? _ = _; rw [cset]; exact j1⟩
                have c3 : (((wd.setCell ⟨b, 2, none⟩ (.int .i64 (e + 1))).drewN 1).alloc (blkL (newL tenant nm conn e now ttl m))).cell? ⟨b, 3, none⟩ = some (.map (some mb)) := by
                  rw [World.cell?_alloc_lt _ _ _ (by simpa [World.drewN, World.size_setCell] using hbl)]
                  show (wd.setCell ⟨b, 2, none⟩ (.int .i64 (e + 1))).cell? _ = _
                  rw [cset]
                  exact j3
                have hpm : wd.heap.size ≠ mb := by have := jm; omega
                have hpz : wd.heap.size ≠ z := by have := hzl2; omega
                have hkp := fun j : Nat => (blk_facts (w := setBlock (((wd.setCell ⟨b, 2, none⟩ (.int .i64 (e + 1))).drewN 1).alloc (blkL (newL tenant nm conn e now ttl m))) mb (O wd.heap.size)) (b := wd.heap.size) (c := cellsL (newL tenant nm conn e now ttl m)) (by rw [obj_setBlock_ne hpm]; exact hpo)).1 j
                have kp0 := hkp 0
                have kp1 := hkp 1
                have kp2 := hkp 2
                have kp3 := hkp 3
                have kp4 := hkp 4
                have kp5 := hkp 5
                have hzn : (setBlock (((wd.setCell ⟨b, 2, none⟩ (.int .i64 (e + 1))).drewN 1).alloc (blkL (newL tenant nm conn e now ttl m))) mb (O wd.heap.size)).obj z = some (blkL zeroL) := by rw [obj_setBlock_ne hmz.symm]; exact hzo
                have UU : Upd F F5 w (setBlock (((wd.setCell ⟨b, 2, none⟩ (.int .i64 (e + 1))).drewN 1).alloc (blkL (newL tenant nm conn e now ttl m))) mb (O wd.heap.size)) := ((Upd.refl F w).thenQ U2).trans U5
                have hF5 : ¬ F5 z := fun h => (U5.fp z h).elim hFz fun h => by have := hzl2; omega
                have HN := Keep.mk (And.intro (set_lease (y := newL tenant nm conn e now ttl m) hzn) (fin_set (y := newL tenant nm conn e now ttl m) (z := z) hM5 UU hzr hF5))
                have esum : IntKind.i64.wrap (now + min ttl m) = now + min ttl m := by rw [IntKind.wrap_i64]; omega
                generalize hp : wd.heap.size = p at *
                go_wp2_with fail
                go_region_held3 (fun w' => w'.cell? ⟨b, 2, none⟩ = some (.int .i64 (e + 1)) ∧ w'.cell? ⟨b, 1, none⟩ = some (.int .i64 m)) (first | exact s0 | go_keep) (fail)
                have hwe : ((wd.setCell ⟨b, 2, none⟩ (.int .i64 (e + 1))).alloc (boxL (newL tenant nm conn e now ttl m))).drew = ((wd.setCell ⟨b, 2, none⟩ (.int .i64 (e + 1))).drewN 1).alloc (blkL (newL tenant nm conn e now ttl m)) := rfl
                rw [hwe]
                generalize ((wd.setCell ⟨b, 2, none⟩ (.int .i64 (e + 1))).drewN 1).alloc (blkL (newL tenant nm conn e now ttl m)) = w5 at *
                clear s0 cset hkp hput hfin hpo hzo hwe
                go_wp2_with (refine wpList_store_row rfl 34 _ _ rfl z (cellsL (newL tenant nm conn e now ttl m)) rfl rfl 34 _ hzn (sizeL (newL tenant nm conn e now ttl m)) rfl (oneL (newL tenant nm conn e now ttl m)) ?_)
                refine bodyPost_ret (struct_ret rfl rfl rfl HN.out.1) rfl ?_
                unfold ClaimEnds
                rw [FIN.out]
                exact ⟨rfl, F5, HN.out.2⟩
            | true =>
              rcases stat_cases g x now with hst | hst | hst
              · have FIN := Keep.mk (show claimS g m e M tenant nm conn now ttl = (e + 1, mset M nm (newL tenant nm conn e now ttl m), newL tenant nm conn e now ttl m, 0) from by rw [hFS, if_neg (fun h => by rw [htn] at h; exact absurd h.2 (by simp)), if_neg (by omega)])
                rw [hst] at C
                clear hFS hst
                go_wp2_with fail
                refine C.out.mono ?_
                rintro e w' ⟨rfl, n, rfl⟩
                have hM3 := Asrt.drewN hM2 n
                have j3 : (wk.drewN n).cell? ⟨b, 3, none⟩ = some (.map (some mb)) := k3
                have j1 : (wk.drewN n).cell? ⟨b, 1, none⟩ = some (.int .i64 m) := k1
                have j2 : (wk.drewN n).cell? ⟨b, 2, none⟩ = some (.int .i64 e) := k2
                have jq : (wk.drewN n).cell? ⟨cb, 1, none⟩ = some (.string x.tenant) := q1
                have jb : b < (wk.drewN n).heap.size := hb
                have jm : mb < (wk.drewN n).heap.size := hmb
                have jz := hz3 n
                have jU := U3 n
                have jzl : z < (wk.drewN n).heap.size := hzl2
                have jf : ∀ j, (wk.drewN n).frozen? ⟨b, j, none⟩ = false := hf
                clear U2 hzl2 k0 k1 k2 k3 hb hmb hz2 hz3 U3 hM2 hf hcb q1
                have U2 := jU
                have hzl2 := jzl
                have hz2 := jz
                have hf := jf
                generalize wk.drewN n = wd at *
                -- the name is written
                obtain ⟨O, hput, hfin⟩ := book_put hM3 j3 nm (newL tenant nm conn e now ttl m) (e + 1)
                obtain ⟨F5, hM5, U5, _⟩ := hfin 1 _ rfl
                have hbm := book_ne hM3 j3
                have hrun := hput wd.heap.size (((wd.setCell ⟨b, 2, none⟩ (.int .i64 (e + 1))).drewN 1).alloc (blkL (newL tenant nm conn e now ttl m))) (by rw [obj_alloc_lt (by simpa [World.drewN, World.size_setCell] using jm)]; exact obj_setCell_ne (fun h => hbm h.symm))
                have hpo : (((wd.setCell ⟨b, 2, none⟩ (.int .i64 (e + 1))).drewN 1).alloc (blkL (newL tenant nm conn e now ttl m))).obj wd.heap.size = some (blkL (newL tenant nm conn e now ttl m)) := obj_alloc_at (by simp [World.drewN, World.size_setCell])
                have hbz : b ≠ z := fun h => hFz (h ▸ hFb)
                have hmz : mb ≠ z := fun h => hFz (h ▸ hFm)
                have hzo : (((wd.setCell ⟨b, 2, none⟩ (.int .i64 (e + 1))).drewN 1).alloc (blkL (newL tenant nm conn e now ttl m))).obj z = some (blkL zeroL) := by
                  rw [obj_alloc_lt (by simpa [World.drewN, World.size_setCell] using hzl2)]
                  exact (obj_setCell_ne (fun h => hbz h.symm)).trans hz2
                have hbl : b < wd.heap.size := jb
                have cset : ∀ (j : Nat), (wd.setCell ⟨b, 2, none⟩ (.int .i64 (e + 1))).cell? ⟨b, j, none⟩ = if j = 2 then some (.int .i64 (e + 1)) else wd.cell? ⟨b, j, none⟩ := fun j => set_cell2 hM3 (e + 1) j
                have s0 : (wd.setCell ⟨b, 2, none⟩ (.int .i64 (e + 1))).drew.cell? ⟨b, 2, none⟩ = some (.int .i64 (e + 1)) ∧ (wd.setCell ⟨b, 2, none⟩ (.int .i64 (e + 1))).drew.cell? ⟨b, 1, none⟩ = some (.int .i64 m) := ⟨by show (wd.setCell ⟨b, 2, none⟩ (.int .i64 (e + 1))).cell? _ = _; rw [cset]; rfl, by show (wd.setCell ⟨b, 2, none⟩ (.int .i64 (e + 1))).cell? _ = _; rw [cset]; exact j1⟩
                have c3 : (((wd.setCell ⟨b, 2, none⟩ (.int .i64 (e + 1))).drewN 1).alloc (blkL (newL tenant nm conn e now ttl m))).cell? ⟨b, 3, none⟩ = some (.map (some mb)) := by
                  rw [World.cell?_alloc_lt _ _ _ (by simpa [World.drewN, World.size_setCell] using hbl)]
                  show (wd.setCell ⟨b, 2, none⟩ (.int .i64 (e + 1))).cell? _ = _
                  rw [cset]
                  exact j3
                have hpm : wd.heap.size ≠ mb := by have := jm; omega
                have hpz : wd.heap.size ≠ z := by have := hzl2; omega
                have hkp := fun j : Nat => (blk_facts (w := setBlock (((wd.setCell ⟨b, 2, none⟩ (.int .i64 (e + 1))).drewN 1).alloc (blkL (newL tenant nm conn e now ttl m))) mb (O wd.heap.size)) (b := wd.heap.size) (c := cellsL (newL tenant nm conn e now ttl m)) (by rw [obj_setBlock_ne hpm]; exact hpo)).1 j
                have kp0 := hkp 0
                have kp1 := hkp 1
                have kp2 := hkp 2
                have kp3 := hkp 3
                have kp4 := hkp 4
                have kp5 := hkp 5
                have hzn : (setBlock (((wd.setCell ⟨b, 2, none⟩ (.int .i64 (e + 1))).drewN 1).alloc (blkL (newL tenant nm conn e now ttl m))) mb (O wd.heap.size)).obj z = some (blkL zeroL) := by rw [obj_setBlock_ne hmz.symm]; exact hzo
                have UU : Upd F F5 w (setBlock (((wd.setCell ⟨b, 2, none⟩ (.int .i64 (e + 1))).drewN 1).alloc (blkL (newL tenant nm conn e now ttl m))) mb (O wd.heap.size)) := ((Upd.refl F w).thenQ U2).trans U5
                have hF5 : ¬ F5 z := fun h => (U5.fp z h).elim hFz fun h => by have := hzl2; omega
                have HN := Keep.mk (And.intro (set_lease (y := newL tenant nm conn e now ttl m) hzn) (fin_set (y := newL tenant nm conn e now ttl m) (z := z) hM5 UU hzr hF5))
                have esum : IntKind.i64.wrap (now + min ttl m) = now + min ttl m := by rw [IntKind.wrap_i64]; omega
                generalize hp : wd.heap.size = p at *
                go_wp2_with fail
                go_region_held3 (fun w' => w'.cell? ⟨b, 2, none⟩ = some (.int .i64 (e + 1)) ∧ w'.cell? ⟨b, 1, none⟩ = some (.int .i64 m)) (first | exact s0 | go_keep) (fail)
                have hwe : ((wd.setCell ⟨b, 2, none⟩ (.int .i64 (e + 1))).alloc (boxL (newL tenant nm conn e now ttl m))).drew = ((wd.setCell ⟨b, 2, none⟩ (.int .i64 (e + 1))).drewN 1).alloc (blkL (newL tenant nm conn e now ttl m)) := rfl
                rw [hwe]
                generalize ((wd.setCell ⟨b, 2, none⟩ (.int .i64 (e + 1))).drewN 1).alloc (blkL (newL tenant nm conn e now ttl m)) = w5 at *
                clear s0 cset hkp hput hfin hpo hzo hwe
                go_wp2_with (refine wpList_store_row rfl 34 _ _ rfl z (cellsL (newL tenant nm conn e now ttl m)) rfl rfl 34 _ hzn (sizeL (newL tenant nm conn e now ttl m)) rfl (oneL (newL tenant nm conn e now ttl m)) ?_)
                refine bodyPost_ret (struct_ret rfl rfl rfl HN.out.1) rfl ?_
                unfold ClaimEnds
                rw [FIN.out]
                exact ⟨rfl, F5, HN.out.2⟩
              · have FIN := Keep.mk (show claimS g m e M tenant nm conn now ttl = (e + 1, mset M nm (newL tenant nm conn e now ttl m), newL tenant nm conn e now ttl m, 0) from by rw [hFS, if_neg (fun h => by rw [htn] at h; exact absurd h.2 (by simp)), if_neg (by omega)])
                rw [hst] at C
                clear hFS hst
                go_wp2_with fail
                refine C.out.mono ?_
                rintro e w' ⟨rfl, n, rfl⟩
                have hM3 := Asrt.drewN hM2 n
                have j3 : (wk.drewN n).cell? ⟨b, 3, none⟩ = some (.map (some mb)) := k3
                have j1 : (wk.drewN n).cell? ⟨b, 1, none⟩ = some (.int .i64 m) := k1
                have j2 : (wk.drewN n).cell? ⟨b, 2, none⟩ = some (.int .i64 e) := k2
                have jq : (wk.drewN n).cell? ⟨cb, 1, none⟩ = some (.string x.tenant) := q1
                have jb : b < (wk.drewN n).heap.size := hb
                have jm : mb < (wk.drewN n).heap.size := hmb
                have jz := hz3 n
                have jU := U3 n
                have jzl : z < (wk.drewN n).heap.size := hzl2
                have jf : ∀ j, (wk.drewN n).frozen? ⟨b, j, none⟩ = false := hf
                clear U2 hzl2 k0 k1 k2 k3 hb hmb hz2 hz3 U3 hM2 hf hcb q1
                have U2 := jU
                have hzl2 := jzl
                have hz2 := jz
                have hf := jf
                generalize wk.drewN n = wd at *
                -- the name is written
                obtain ⟨O, hput, hfin⟩ := book_put hM3 j3 nm (newL tenant nm conn e now ttl m) (e + 1)
                obtain ⟨F5, hM5, U5, _⟩ := hfin 1 _ rfl
                have hbm := book_ne hM3 j3
                have hrun := hput wd.heap.size (((wd.setCell ⟨b, 2, none⟩ (.int .i64 (e + 1))).drewN 1).alloc (blkL (newL tenant nm conn e now ttl m))) (by rw [obj_alloc_lt (by simpa [World.drewN, World.size_setCell] using jm)]; exact obj_setCell_ne (fun h => hbm h.symm))
                have hpo : (((wd.setCell ⟨b, 2, none⟩ (.int .i64 (e + 1))).drewN 1).alloc (blkL (newL tenant nm conn e now ttl m))).obj wd.heap.size = some (blkL (newL tenant nm conn e now ttl m)) := obj_alloc_at (by simp [World.drewN, World.size_setCell])
                have hbz : b ≠ z := fun h => hFz (h ▸ hFb)
                have hmz : mb ≠ z := fun h => hFz (h ▸ hFm)
                have hzo : (((wd.setCell ⟨b, 2, none⟩ (.int .i64 (e + 1))).drewN 1).alloc (blkL (newL tenant nm conn e now ttl m))).obj z = some (blkL zeroL) := by
                  rw [obj_alloc_lt (by simpa [World.drewN, World.size_setCell] using hzl2)]
                  exact (obj_setCell_ne (fun h => hbz h.symm)).trans hz2
                have hbl : b < wd.heap.size := jb
                have cset : ∀ (j : Nat), (wd.setCell ⟨b, 2, none⟩ (.int .i64 (e + 1))).cell? ⟨b, j, none⟩ = if j = 2 then some (.int .i64 (e + 1)) else wd.cell? ⟨b, j, none⟩ := fun j => set_cell2 hM3 (e + 1) j
                have s0 : (wd.setCell ⟨b, 2, none⟩ (.int .i64 (e + 1))).drew.cell? ⟨b, 2, none⟩ = some (.int .i64 (e + 1)) ∧ (wd.setCell ⟨b, 2, none⟩ (.int .i64 (e + 1))).drew.cell? ⟨b, 1, none⟩ = some (.int .i64 m) := ⟨by show (wd.setCell ⟨b, 2, none⟩ (.int .i64 (e + 1))).cell? _ = _; rw [cset]; rfl, by show (wd.setCell ⟨b, 2, none⟩ (.int .i64 (e + 1))).cell? _ = _; rw [cset]; exact j1⟩
                have c3 : (((wd.setCell ⟨b, 2, none⟩ (.int .i64 (e + 1))).drewN 1).alloc (blkL (newL tenant nm conn e now ttl m))).cell? ⟨b, 3, none⟩ = some (.map (some mb)) := by
                  rw [World.cell?_alloc_lt _ _ _ (by simpa [World.drewN, World.size_setCell] using hbl)]
                  show (wd.setCell ⟨b, 2, none⟩ (.int .i64 (e + 1))).cell? _ = _
                  rw [cset]
                  exact j3
                have hpm : wd.heap.size ≠ mb := by have := jm; omega
                have hpz : wd.heap.size ≠ z := by have := hzl2; omega
                have hkp := fun j : Nat => (blk_facts (w := setBlock (((wd.setCell ⟨b, 2, none⟩ (.int .i64 (e + 1))).drewN 1).alloc (blkL (newL tenant nm conn e now ttl m))) mb (O wd.heap.size)) (b := wd.heap.size) (c := cellsL (newL tenant nm conn e now ttl m)) (by rw [obj_setBlock_ne hpm]; exact hpo)).1 j
                have kp0 := hkp 0
                have kp1 := hkp 1
                have kp2 := hkp 2
                have kp3 := hkp 3
                have kp4 := hkp 4
                have kp5 := hkp 5
                have hzn : (setBlock (((wd.setCell ⟨b, 2, none⟩ (.int .i64 (e + 1))).drewN 1).alloc (blkL (newL tenant nm conn e now ttl m))) mb (O wd.heap.size)).obj z = some (blkL zeroL) := by rw [obj_setBlock_ne hmz.symm]; exact hzo
                have UU : Upd F F5 w (setBlock (((wd.setCell ⟨b, 2, none⟩ (.int .i64 (e + 1))).drewN 1).alloc (blkL (newL tenant nm conn e now ttl m))) mb (O wd.heap.size)) := ((Upd.refl F w).thenQ U2).trans U5
                have hF5 : ¬ F5 z := fun h => (U5.fp z h).elim hFz fun h => by have := hzl2; omega
                have HN := Keep.mk (And.intro (set_lease (y := newL tenant nm conn e now ttl m) hzn) (fin_set (y := newL tenant nm conn e now ttl m) (z := z) hM5 UU hzr hF5))
                have esum : IntKind.i64.wrap (now + min ttl m) = now + min ttl m := by rw [IntKind.wrap_i64]; omega
                generalize hp : wd.heap.size = p at *
                go_wp2_with fail
                go_region_held3 (fun w' => w'.cell? ⟨b, 2, none⟩ = some (.int .i64 (e + 1)) ∧ w'.cell? ⟨b, 1, none⟩ = some (.int .i64 m)) (first | exact s0 | go_keep) (fail)
                have hwe : ((wd.setCell ⟨b, 2, none⟩ (.int .i64 (e + 1))).alloc (boxL (newL tenant nm conn e now ttl m))).drew = ((wd.setCell ⟨b, 2, none⟩ (.int .i64 (e + 1))).drewN 1).alloc (blkL (newL tenant nm conn e now ttl m)) := rfl
                rw [hwe]
                generalize ((wd.setCell ⟨b, 2, none⟩ (.int .i64 (e + 1))).drewN 1).alloc (blkL (newL tenant nm conn e now ttl m)) = w5 at *
                clear s0 cset hkp hput hfin hpo hzo hwe
                go_wp2_with (refine wpList_store_row rfl 34 _ _ rfl z (cellsL (newL tenant nm conn e now ttl m)) rfl rfl 34 _ hzn (sizeL (newL tenant nm conn e now ttl m)) rfl (oneL (newL tenant nm conn e now ttl m)) ?_)
                refine bodyPost_ret (struct_ret rfl rfl rfl HN.out.1) rfl ?_
                unfold ClaimEnds
                rw [FIN.out]
                exact ⟨rfl, F5, HN.out.2⟩
              · have FIN := Keep.mk (show claimS g m e M tenant nm conn now ttl = (e, M, zeroL, 4) from by rw [hFS, if_neg (fun h => by rw [htn] at h; exact absurd h.2 (by simp)), if_pos hst])
                rw [hst] at C
                clear hFS hst
                go_wp2_with fail
                refine C.out.mono ?_
                rintro e w' ⟨rfl, n, rfl⟩
                have hzn : (wk.drewN n).obj z = some (blkL zeroL) := hz2
                have HN := Keep.mk (And.intro (set_lease (y := zeroL) hzn) (set_upd (y := zeroL) (g := z) (U2.drewN n) (.inr hzr)))
                go_wp2_with (refine wpList_store_row rfl 34 _ _ rfl z (cellsL zeroL) rfl rfl 34 _ hzn (sizeL zeroL) rfl (oneL zeroL) ?_)
                refine bodyPost_ret (struct_ret rfl rfl rfl HN.out.1) rfl ?_
                unfold ClaimEnds
                rw [FIN.out]
                exact ⟨rfl, book_keep HM.out HN.out.2⟩
end Go.Proofs.YtpjfakmalhenjaaDoor
