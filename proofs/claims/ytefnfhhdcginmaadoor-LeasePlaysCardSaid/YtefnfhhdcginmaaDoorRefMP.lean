/- LeasePlays: its walk. -/
import Derived.Test.YtefnfhhdcginmaaDoorMRefB
set_option linter.unusedVariables false
set_option linter.unusedSimpArgs false
namespace Go.Proofs.YtefnfhhdcginmaaDoor
open Go.ChangeShapes Go.WideShapes Go.ChangeAt Go.RowKit Go.Sub Go.ChangeMaps
namespace leasePlays
open LzRel
theorem p_all {b : Nat} {g m e : Int} {M : LT} (I : InvB e M) :
    ∀ (w : World) (F : Fp), (bookT b g m e M).on w F → Calls Tryd.prog 14 (#[.pointer (some ⟨b, 0, none⟩)] : Array Value) w fun en w' => ∃ v, Ret v (fun w' => ∃ F', (Asrt.stars [bookT b g m e M, rowL v (allS M)]).on w' F' ∧ Upd F F' w w') en w' :=
  fun w F h => all_c h I.nd I.sz (Nat.le_trans I.len (by decide))
theorem stars_in {α : Type} (A : α → Asrt) {l : List Asrt} {w : World} {F : Fp} (i : Nat) (x : α) (hi : l[i]? = some (A x)) (hS : (Asrt.stars l).on w F) : ∃ F', (Asrt.stars (l.set i (.ex A))).on w F' ∧ ∀ k, F' k → F k := by
  obtain ⟨Fi, hx, hsub, hgo⟩ := Asrt.stars_upd l i _ hi hS
  obtain ⟨F', h', u'⟩ := hgo w Fi (.ex A) ⟨x, hx⟩ (Upd.refl Fi w)
  refine ⟨F', h', fun k hk => ?_⟩
  rcases u'.fp k hk with h | h
  · exact h
  · have := (Asrt.stars _).lt h' k hk
    omega
theorem stars_last {b b2 O V U : Nat} {g m e n : Int} {M : LT} {L : List Lz} {vA vR : Value} {x y z : Obj} {r q : Obj} {w : World} {F : Fp}
    (h : (Asrt.stars [rowL vA L, bookT b g m e M, .blk V x, .blk U y, .stars [.blk b2 (refO vR g m n), rowL vR L], .blk O z, .blk (O + 1) r, .blk (O + 1 + 1) q]).on w F) :
    ∃ F', (Asrt.stars [bookT b g m e M, refT b2 g m n L]).on w F' ∧ ∀ k, F' k → F k := by
  have h := Asrt.stars_order 8 [0, 2, 3, 5, 6, 7, 1, 4] (by decide) rfl h
  obtain ⟨F1, h, s1⟩ := Asrt.stars_drop h
  obtain ⟨F2, h, s2⟩ := Asrt.stars_drop h
  obtain ⟨F3, h, s3⟩ := Asrt.stars_drop h
  obtain ⟨F4, h, s4⟩ := Asrt.stars_drop h
  obtain ⟨F5, h, s5⟩ := Asrt.stars_drop h
  obtain ⟨F6, h, s6⟩ := Asrt.stars_drop h
  obtain ⟨F7, h, s7⟩ := stars_in (fun v : Value => .stars [.blk b2 (refO v g m n), rowL v L]) 1 vR rfl h
  exact ⟨F7, h, fun k hk => s1 k (s2 k (s3 k (s4 k (s5 k (s6 k (s7 k hk))))))⟩
set_option maxHeartbeats 16000000 in
set_option maxRecDepth 100000 in
theorem walk {W : World} (grace most : Int) (v : Value) (L : List LO) (hL : ReadsLO W v L) (hmax : L.length ≤ maxLen) :
    Calls Tryd.prog 4 #[.int .i64 grace, .int .i64 most, v] W (Ret (.bool true) fun W' => Quiet W W') := by
  by_cases hgm : (timeB grace && timeB most) = true
  · obtain ⟨hg, hm⟩ := (Bool.and_eq_true ..).mp hgm
    obtain ⟨g0, g1⟩ := timeB_iff.1 hg
    obtain ⟨m0, m1⟩ := timeB_iff.1 hm
    have NB := Keep.mk (fun w : World => new_yes (w := w) hg hm)
    have NR := Keep.mk (fun w : World => rnew_yes (w := w) hg hm)
    clear hgm hg hm
    go_enter Tryd.func4, Tryd.ntmps4
    go_wp2_with fail
    refine head_c.mono ?_
    rintro e w1 ⟨rfl, u1⟩
    go_wp2_with fail
    refine (NB.out _).mono ?_
    rintro e w2 ⟨b, rfl, F2, t2, u2⟩
    have U2 := Upd.trans (Upd.re u1 (F'' := none') (fun _ h => h.elim)) u2
    go_wp2_with fail
    refine (NR.out _).mono ?_
    rintro e w3 ⟨b2, rfl, F3, t3, u3⟩
    obtain ⟨F4, S4, u4⟩ := Asrt.stars_new (Asrt.stars_one t2) t3 u3
    have S4 := Asrt.stars_order 2 [1, 0] (by decide) rfl S4
    have U4 := U2.trans u4
    have hL2 : ReadsLO w3 v L := ⟨hL.1.upd U4 fun _ _ h => h, hL.2⟩
    have GC := Keep.mk (great_c hL2 hmax)
    clear t2 t3 u1 u2 u3 u4 U2 hL2
    go_wp2_with fail
    refine GC.out.mono ?_
    rintro e w5 ⟨r, rfl, ⟨n5, rfl⟩, hr⟩
    have S4 := Asrt.drewN S4 n5
    have U4 := U4.drewN n5
    cases r with
    | true =>
      clear hr
      go_wp2_with fail
      go_ret
      exact ⟨rfl, U4.quiet⟩
    | false =>
      have hfine := hr rfl
      unfold Fine at hfine
      obtain ⟨⟨a, cap, rfl, ha⟩, hok⟩ := hL
      have HA := Keep.mk ha
      have HO := Keep.mk hok
      clear hr ha hok GC
      generalize w3.drewN n5 = w4 at *
      go_wp2_with fail
      go_loopw [10] (fun i wr => ∃ (k : Nat) (e : Int) (M : LT) (F : Fp), k ≤ L.length ∧ i = .int .i64 (k : Nat) ∧ (Asrt.stars [bookT b grace most e M, refT b2 grace most (e + 1) (allS M)]).on wr F ∧ Upd none' F W wr ∧ InvB e M ∧ e ≤ k) (fun i _ => L.length - (intOf i).toNat)
      case atStart => exact ⟨0, 0, [], F4, by omega, rfl, by rw [allS_nil]; exact S4, U4, InvB.new, by omega⟩
      case round =>
        obtain ⟨k, e, M, F, hk, rfl, S5, U5, hI, hek⟩ := hrel
        clear S4 U4
        by_cases hlt : k < L.length
        · obtain ⟨g, off, rfl, hgl, hc⟩ := HA.out k L[k] (List.getElem?_eq_getElem hlt)
          have hoo := HO.out L[k] (List.getElem_mem hlt)
          have HLT := Keep.mk hlt
          generalize L[k] = op at *
          have e0 := hI.e0
          have hkc : e ≤ 300 := by omega
          have HI := Keep.mk hI
          have hts := hI.tils
          obtain ⟨op0, op1, op2, op3, op4, op5, op6⟩ := op
          obtain ⟨ok1, ok2, ok3, ok4, ok5⟩ := hoo
          simp only at ok1 ok2 ok3 ok4 ok5
          have k0 : wr.cell? ⟨g, off + k * 7, none⟩ = some (.int .i64 op0) := by rw [U5.cell hgl fun h => h]; exact hc 0 _ rfl
          have k1 : wr.cell? ⟨g, off + k * 7 + 1, none⟩ = some (.string op1) := by rw [U5.cell hgl fun h => h]; exact hc 1 _ rfl
          have k2 : wr.cell? ⟨g, off + k * 7 + 2, none⟩ = some (.string op2) := by rw [U5.cell hgl fun h => h]; exact hc 2 _ rfl
          have k3 : wr.cell? ⟨g, off + k * 7 + 3, none⟩ = some (.int .i64 op3) := by rw [U5.cell hgl fun h => h]; exact hc 3 _ rfl
          have k4 : wr.cell? ⟨g, off + k * 7 + 4, none⟩ = some (.int .i64 op4) := by rw [U5.cell hgl fun h => h]; exact hc 4 _ rfl
          have k5 : wr.cell? ⟨g, off + k * 7 + 5, none⟩ = some (.int .i64 op5) := by rw [U5.cell hgl fun h => h]; exact hc 5 _ rfl
          have k6 : wr.cell? ⟨g, off + k * 7 + 6, none⟩ = some (.int .i64 op6) := by rw [U5.cell hgl fun h => h]; exact hc 6 _ rfl
          obtain ⟨F6, S6, u6⟩ := Asrt.stars_box3 S5 (opB ⟨op0, op1, op2, op3, op4, op5, op6⟩)
          obtain ⟨F7, S7, u7⟩ := new_blk S6 (lzB zeroL)
          obtain ⟨F8, S8, u8⟩ := new_blk S7 (lzB zeroL)
          have U8 := ((U5.trans u6).trans u7).trans u8
          have S8 := Asrt.stars_order 5 [2, 3, 4, 1, 0] (by decide) rfl S8
          rw [size_alloc', size_alloc'] at S8
          generalize hO : wr.heap.size = O at *
          clear hc S6 S7 u6 u7 u8 S5 hI
          go_upto_block 2 with fail
          go_cut [14, 15] (fun ea fa wx => ∃ (er : Int) (r : Lz) (e2 : Int) (M2 : LT) (F' : Fp), ea = .int .i64 er ∧ fa = .int .i64 er ∧ Mid W b b2 grace most O ⟨op0, op1, op2, op3, op4, op5, op6⟩ e r e2 M2 wx F')
          case first =>
            by_cases h2 : op0 = 2
            · subst h2
              as_aux_lemma =>
                obtain ⟨⟨M2, r, er⟩, hrr⟩ : ∃ rr, rr = renewS grace most M op1 op2 op4 op5 op6 := ⟨_, rfl⟩
                have I2 := Keep.mk (show InvB e M2 from by have h9 := renew_inv (g := grace) HI.out m0 m1 op1 op2 op4 op5 op6; rw [← hrr] at h9; exact h9)
                have PC := Keep.mk (p_renew (b := b) HI.out (by omega) g1 m0 m1 (by omega) (t := op1) (n := op2) (co := op3) (ep := op4) (now := op5) (ttl := op6) ok1 ok2 hrr)
                have RC := Keep.mk (r_renew (b := b2) HI.out (by omega) g1 m0 m1 (by omega) (t := op1) (n := op2) (co := op3) (ep := op4) (now := op5) (ttl := op6) ok1 ok2 hrr)
                have HLE := Keep.mk (show e ≤ e + 1 from by omega)
                clear hrr
                go_wp2_with fail
                refine (on_idx 0 rfl S8 (fun Fi h _ => PC.out _ _ h)).mono ?_
                rintro en w1 ⟨rfl, F1, S1, u1⟩
                have V1 := U8.trans u1
                obtain ⟨kc, _, klk⟩ := box_cell (i := 2) S1 rfl
                have k0 := kc 0
                have k1 := kc 1
                have k2 := kc 2
                have k3 := kc 3
                have k4 := kc 4
                have k5 := kc 5
                have k6 := kc 6
                try simp only [List.getElem?_toArray, List.getElem?_cons_zero, List.getElem?_cons_succ] at k0 k1 k2 k3 k4 k5 k6
                clear kc klk
                go_wp2_with ((with_reducible refine is_store ?_); refine store_new S1 rfl 26 _ _ rfl (cellsL r) rfl rfl (sizeL zeroL) rfl (oneL r) ?_; intro w2 F2 S2 u2 q2; clear q2 k0 k1 k2 k3 k4 k5 k6; obtain ⟨kc, _, _⟩ := box_cell (i := 3) S2 rfl; have k0 := kc 0; have k1 := kc 1; have k2 := kc 2; have k3 := kc 3; have k4 := kc 4; have k5 := kc 5; have k6 := kc 6; simp only [List.getElem?_toArray, List.getElem?_cons_zero, List.getElem?_cons_succ] at k0 k1 k2 k3 k4 k5 k6; clear kc)
                have V2 := V1.trans u2
                clear S1 V1
                refine (on_idx 2 rfl S2 (fun Fi h _ => RC.out _ _ h)).mono ?_
                rintro en w3 ⟨rfl, F3, S3, u3⟩
                have V3 := V2.trans u3
                clear k0 k1 k2 k3 k4 k5 k6 S2 V2
                obtain ⟨kc, _, klc⟩ := box_cell (i := 1) S3 rfl
                have c0 := kc 0
                have c1 := kc 1
                have c2 := kc 2
                have c3 := kc 3
                have c4 := kc 4
                have c5 := kc 5
                try simp only [List.getElem?_toArray, List.getElem?_cons_zero, List.getElem?_cons_succ] at c0 c1 c2 c3 c4 c5
                clear kc klc
                go_wp2_with (first | ((with_reducible refine is_store ?_); refine store_new S3 rfl 26 _ _ rfl (cellsL r) rfl rfl (sizeL zeroL) rfl (oneL r) ?_; intro w4 F4 S4 u4 q4; have c0 := q4 0; clear c0; obtain ⟨kc, _, _⟩ := box_cell (i := 2) S4 rfl; have a0 := kc 0; have a1 := kc 1; have a2 := kc 2; have a3 := kc 3; have a4 := kc 4; have a5 := kc 5; simp only [List.getElem?_toArray, List.getElem?_cons_zero, List.getElem?_cons_succ] at a0 a1 a2 a3 a4 a5; clear kc) | ((with_reducible refine is_store ?_); refine store_at S4 5 rfl rfl 26 _ _ rfl (cellsL r) rfl rfl (sizeL zeroL) rfl (oneL r) ?_; intro w5 F5 S5 u5 q5; clear q4 a0 a1 a2 a3 a4 a5; obtain ⟨kc, _, _⟩ := box_cell (i := 1) S5 rfl; have d0 := kc 0; have d1 := kc 1; have d2 := kc 2; have d3 := kc 3; have d4 := kc 4; have d5 := kc 5; simp only [List.getElem?_toArray, List.getElem?_cons_zero, List.getElem?_cons_succ] at d0 d1 d2 d3 d4 d5; clear kc) | ((with_reducible refine is_store ?_); refine store_at S5 6 rfl rfl 26 _ _ rfl (cellsL r) rfl rfl (sizeL zeroL) rfl (oneL r) ?_; intro w6 F6 S6 u6 q6))
                go_meet
                obtain ⟨F9, HM⟩ := mid_of S6 (((V3.trans u4).trans u5).trans u6) I2.out HLE.out
                exact ⟨er, r, e, M2, F9, rfl, rfl, HM⟩
            by_cases h3 : op0 = 3
            · subst h3
              as_aux_lemma =>
                obtain ⟨⟨M2, er⟩, hrr⟩ : ∃ rr, rr = releaseS grace M op1 op2 op4 op5 := ⟨_, rfl⟩
                have I2 := Keep.mk (show InvB e M2 from by have h9 := release_inv (g := grace) HI.out (by omega) g1 op1 op2 op4 op5; rw [← hrr] at h9; exact h9)
                have PC := Keep.mk (p_release (b := b) HI.out (by omega) g1 m0 m1 (by omega) (t := op1) (n := op2) (co := op3) (ep := op4) (now := op5) (ttl := op6) ok1 ok2 hrr)
                have RC := Keep.mk (r_release (b := b2) HI.out (by omega) g1 m0 m1 (by omega) (t := op1) (n := op2) (co := op3) (ep := op4) (now := op5) (ttl := op6) ok1 ok2 hrr)
                have HLE := Keep.mk (show e ≤ e + 1 from by omega)
                clear hrr
                go_wp2_with fail
                refine (on_idx 0 rfl S8 (fun Fi h _ => PC.out _ _ h)).mono ?_
                rintro en w1 ⟨rfl, F1, S1, u1⟩
                have V1 := U8.trans u1
                clear u1
                obtain ⟨kc, _, klk⟩ := box_cell (i := 2) S1 rfl
                have k0 := kc 0
                have k1 := kc 1
                have k2 := kc 2
                have k3 := kc 3
                have k4 := kc 4
                have k5 := kc 5
                have k6 := kc 6
                try simp only [List.getElem?_toArray, List.getElem?_cons_zero, List.getElem?_cons_succ] at k0 k1 k2 k3 k4 k5 k6
                clear kc klk
                go_wp2_with fail
                refine (on_idx 1 rfl S1 (fun Fi h _ => RC.out _ _ h)).mono ?_
                rintro en w2 ⟨rfl, F2, S2, u2⟩
                have V2 := V1.trans u2
                clear S1 V1 u2 k0 k1 k2 k3 k4 k5 k6
                go_wp2_with fail
                go_meet
                exact ⟨er, zeroL, e, M2, F2, rfl, rfl, S2, V2, I2.out, HLE.out⟩
            by_cases h4 : op0 = 4
            · subst h4
              as_aux_lemma =>
                obtain ⟨⟨M2, r, is⟩, hrr⟩ : ∃ rr, rr = evictS grace M op2 op5 := ⟨_, rfl⟩
                have I2 := Keep.mk (show InvB e M2 from by have h9 := evict_inv (g := grace) HI.out op2 op5; rw [← hrr] at h9; exact h9)
                have PC := Keep.mk (p_evict (b := b) HI.out (by omega) g1 m0 m1 (by omega) (t := op1) (n := op2) (co := op3) (ep := op4) (now := op5) (ttl := op6) ok1 ok2 hrr)
                have RC := Keep.mk (r_evict (b := b2) HI.out (by omega) g1 m0 m1 (by omega) (t := op1) (n := op2) (co := op3) (ep := op4) (now := op5) (ttl := op6) ok1 ok2 hrr)
                have HLE := Keep.mk (show e ≤ e + 1 from by omega)
                clear hrr
                go_wp2_with fail
                refine (on_idx 0 rfl S8 (fun Fi h _ => PC.out _ _ h)).mono ?_
                rintro en w1 ⟨rfl, F1, S1, u1⟩
                have V1 := U8.trans u1
                obtain ⟨kc, _, klk⟩ := box_cell (i := 2) S1 rfl
                have k0 := kc 0
                have k1 := kc 1
                have k2 := kc 2
                have k3 := kc 3
                have k4 := kc 4
                have k5 := kc 5
                have k6 := kc 6
                try simp only [List.getElem?_toArray, List.getElem?_cons_zero, List.getElem?_cons_succ] at k0 k1 k2 k3 k4 k5 k6
                clear kc klk
                go_wp2_with ((with_reducible refine is_store ?_); refine store_new S1 rfl 26 _ _ rfl (cellsL r) rfl rfl (sizeL zeroL) rfl (oneL r) ?_; intro w2 F2 S2 u2 q2; clear q2 k0 k1 k2 k3 k4 k5 k6; obtain ⟨kc, _, _⟩ := box_cell (i := 3) S2 rfl; have k0 := kc 0; have k1 := kc 1; have k2 := kc 2; have k3 := kc 3; have k4 := kc 4; have k5 := kc 5; have k6 := kc 6; simp only [List.getElem?_toArray, List.getElem?_cons_zero, List.getElem?_cons_succ] at k0 k1 k2 k3 k4 k5 k6; clear kc)
                have V2 := V1.trans u2
                clear S1 V1
                refine (on_idx 2 rfl S2 (fun Fi h _ => RC.out _ _ h)).mono ?_
                rintro en w3 ⟨rfl, F3, S3, u3⟩
                have V3 := V2.trans u3
                clear k0 k1 k2 k3 k4 k5 k6 S2 V2
                obtain ⟨kc, _, klc⟩ := box_cell (i := 1) S3 rfl
                have c0 := kc 0
                have c1 := kc 1
                have c2 := kc 2
                have c3 := kc 3
                have c4 := kc 4
                have c5 := kc 5
                try simp only [List.getElem?_toArray, List.getElem?_cons_zero, List.getElem?_cons_succ] at c0 c1 c2 c3 c4 c5
                clear kc klc
                go_wp2_with (first | ((with_reducible refine is_store ?_); refine store_new S3 rfl 26 _ _ rfl (cellsL r) rfl rfl (sizeL zeroL) rfl (oneL r) ?_; intro w4 F4 S4 u4 q4; have c0 := q4 0; clear c0; obtain ⟨kc, _, _⟩ := box_cell (i := 2) S4 rfl; have a0 := kc 0; have a1 := kc 1; have a2 := kc 2; have a3 := kc 3; have a4 := kc 4; have a5 := kc 5; simp only [List.getElem?_toArray, List.getElem?_cons_zero, List.getElem?_cons_succ] at a0 a1 a2 a3 a4 a5; clear kc) | ((with_reducible refine is_store ?_); refine store_at S4 5 rfl rfl 26 _ _ rfl (cellsL r) rfl rfl (sizeL zeroL) rfl (oneL r) ?_; intro w5 F5 S5 u5 q5; clear q4 a0 a1 a2 a3 a4 a5; obtain ⟨kc, _, _⟩ := box_cell (i := 1) S5 rfl; have d0 := kc 0; have d1 := kc 1; have d2 := kc 2; have d3 := kc 3; have d4 := kc 4; have d5 := kc 5; simp only [List.getElem?_toArray, List.getElem?_cons_zero, List.getElem?_cons_succ] at d0 d1 d2 d3 d4 d5; clear kc) | ((with_reducible refine is_store ?_); refine store_at S5 6 rfl rfl 26 _ _ rfl (cellsL r) rfl rfl (sizeL zeroL) rfl (oneL r) ?_; intro w6 F6 S6 u6 q6))
                go_meet
                obtain ⟨F9, HM⟩ := mid_of S6 (((V3.trans u4).trans u5).trans u6) I2.out HLE.out
                exact ⟨0, r, e, M2, F9, rfl, rfl, HM⟩
            by_cases h5 : op0 = 5
            · subst h5
              as_aux_lemma =>
                obtain ⟨⟨M2, out⟩, hrr⟩ : ∃ rr, rr = leaveS grace M op3 op5 := ⟨_, rfl⟩
                have I2 := Keep.mk (show InvB e M2 from by have h9 := leave_inv HI.out (by omega) g1 op3 op5; rw [← hrr] at h9; exact h9)
                have PC := Keep.mk (p_leave (b := b) (m := most) HI.out (by omega) g1 hrr)
                have RC := Keep.mk (r_leave (b := b2) (m := most) HI.out (by omega) g1 hrr)
                have HLE := Keep.mk (show e ≤ e + 1 from by omega)
                have HOL := Keep.mk (out_few HI.out hrr)
                clear hrr
                have S8d := Asrt.drew S8
                have U8d := U8.drew
                go_wp2_with fail
                go_region_held3 (fun w' => w'.cell? ⟨O, 3, none⟩ = some (.int .i64 op3) ∧ w'.cell? ⟨O, 5, none⟩ = some (.int .i64 op5)) (first | exact ⟨(box_cell (i := 2) S8d rfl).1 3, (box_cell (i := 2) S8d rfl).1 5⟩ | exact ⟨(box_cell (i := 3) S1 rfl).1 3, (box_cell (i := 3) S1 rfl).1 5⟩ | exact ⟨(box_cell (i := 4) S2 rfl).1 3, (box_cell (i := 4) S2 rfl).1 5⟩ | exact ⟨kk3, kk5⟩ )
                  (first
                    | (go_at_call 24; refine (on_idx_row 0 rfl (by simp) S8d (fun Fi h => PC.out _ _ h)).mono ?_; rintro en w1 ⟨v1, rfl, F1, S1, u1⟩)
                    | (go_at_call 25; refine (on_idx_row 2 rfl (by simp) S1 (fun Fi h => RC.out _ _ h)).mono ?_; rintro en w2 ⟨v2, rfl, F2, S2, u2⟩; obtain ⟨_, q1, _⟩ := Asrt.stars_get S2 1 rfl; obtain ⟨_, q2, _⟩ := Asrt.stars_get S2 0 rfl; have r1 := (row_reads (enc := encL) (fun _ => rfl) q1).1; have r2 := (row_reads (enc := encL) (fun _ => rfl) q2).1; obtain ⟨kc, _, _⟩ := box_cell (i := 4) S2 rfl; have kk3 := kc 3; have kk5 := kc 5)
                    | (go_at_call 23; refine (same_c r1 r2 HOL.out).mono ?_; rintro en w3 ⟨rfl, n3, rfl⟩))
                all_goals
                  have S3 := Asrt.drewN S2 n3
                  have V3 := ((U8d.trans u1).trans u2).drewN n3
                  obtain ⟨F4, S4, s4⟩ := Asrt.stars_drop S3
                  obtain ⟨F5, S5, s5⟩ := Asrt.stars_drop S4
                  have HE := Keep.mk (Mid.mk (op := ⟨5, op1, op2, op3, op4, op5, op6⟩) (r := zeroL) (e := e) S5 (V3.re fun k hk => V3.fp k (s4 k (s5 k hk))) I2.out HLE.out)
                  clear S1 S2 S3 S4 S5 u1 u2 V3 S8d U8d s4 s5
                  go_wp2_with fail
                  go_meet
                  exact ⟨0, zeroL, e, M2, F5, rfl, rfl, HE.out⟩
            by_cases h6 : op0 = 6
            · subst h6
              as_aux_lemma =>
                obtain ⟨⟨M2, out⟩, hrr⟩ : ∃ rr, rr = lapseS grace M op5 := ⟨_, rfl⟩
                have I2 := Keep.mk (show InvB e M2 from by have h9 := lapse_inv HI.out (by omega) g1 op5; rw [← hrr] at h9; exact h9)
                have PC := Keep.mk (p_lapse (co := 0) (b := b) (m := most) HI.out (by omega) g1 hrr)
                have RC := Keep.mk (r_lapse (co := 0) (b := b2) (m := most) HI.out (by omega) g1 hrr)
                have HLE := Keep.mk (show e ≤ e + 1 from by omega)
                have HOL := Keep.mk (out_few2 HI.out hrr)
                clear hrr
                have S8d := Asrt.drew S8
                have U8d := U8.drew
                go_wp2_with fail
                go_region_held3 (fun w' => w'.cell? ⟨O, 5, none⟩ = some (.int .i64 op5)) (first | exact ((box_cell (i := 2) S8d rfl).1 5) | exact ((box_cell (i := 3) S1 rfl).1 5) | exact ((box_cell (i := 4) S2 rfl).1 5) | exact (kk5) )
                  (first
                    | (go_at_call 26; refine (on_idx_row 0 rfl (by simp) S8d (fun Fi h => PC.out _ _ h)).mono ?_; rintro en w1 ⟨v1, rfl, F1, S1, u1⟩)
                    | (go_at_call 27; refine (on_idx_row 2 rfl (by simp) S1 (fun Fi h => RC.out _ _ h)).mono ?_; rintro en w2 ⟨v2, rfl, F2, S2, u2⟩; obtain ⟨_, q1, _⟩ := Asrt.stars_get S2 1 rfl; obtain ⟨_, q2, _⟩ := Asrt.stars_get S2 0 rfl; have r1 := (row_reads (enc := encL) (fun _ => rfl) q1).1; have r2 := (row_reads (enc := encL) (fun _ => rfl) q2).1; obtain ⟨kc, _, _⟩ := box_cell (i := 4) S2 rfl; have kk5 := kc 5)
                    | (go_at_call 23; refine (same_c r1 r2 HOL.out).mono ?_; rintro en w3 ⟨rfl, n3, rfl⟩))
                all_goals
                  have S3 := Asrt.drewN S2 n3
                  have V3 := ((U8d.trans u1).trans u2).drewN n3
                  obtain ⟨F4, S4, s4⟩ := Asrt.stars_drop S3
                  obtain ⟨F5, S5, s5⟩ := Asrt.stars_drop S4
                  have HE := Keep.mk (Mid.mk (op := ⟨6, op1, op2, op3, op4, op5, op6⟩) (r := zeroL) (e := e) S5 (V3.re fun k hk => V3.fp k (s4 k (s5 k hk))) I2.out HLE.out)
                  clear S1 S2 S3 S4 S5 u1 u2 V3 S8d U8d s4 s5
                  go_wp2_with fail
                  go_meet
                  exact ⟨0, zeroL, e, M2, F5, rfl, rfl, HE.out⟩
            have p2 : (op0 == 2) = false := by simp [h2]
            have p3 : (op0 == 3) = false := by simp [h3]
            have p4 : (op0 == 4) = false := by simp [h4]
            have p5 : (op0 == 5) = false := by simp [h5]
            have p6 : (op0 == 6) = false := by simp [h6]
            clear h2 h3 h4 h5 h6
            as_aux_lemma =>
              obtain ⟨⟨e2, M2, r, er⟩, hrr⟩ : ∃ rr, rr = claimS grace most e M op1 op2 op3 op5 op6 := ⟨_, rfl⟩
              have I2 := Keep.mk (show InvB e2 M2 from by have h9 := (claim_inv (g := grace) HI.out (by omega) g1 m0 m1 op1 op2 ok2 op3 op5 op6).1; rw [← hrr] at h9; exact h9)
              have hle : e2 ≤ e + 1 := by have h9 := (claim_inv (g := grace) HI.out (by omega) g1 m0 m1 op1 op2 ok2 op3 op5 op6).2.2; rw [← hrr] at h9; exact h9
              have PC := Keep.mk (p_claim (b := b) HI.out (by omega) g1 m0 m1 (by omega) (t := op1) (n := op2) (co := op3) (ep := op4) (now := op5) (ttl := op6) ok1 ok2 hrr)
              have RC := Keep.mk (r_claim (b := b2) HI.out (by omega) g1 m0 m1 (by omega) (t := op1) (n := op2) (co := op3) (ep := op4) (now := op5) (ttl := op6) ok1 ok2 hrr)
              have HLE := Keep.mk (show e2 ≤ e + 1 from hle)
              clear hrr
              go_wp2_with fail
              refine (on_idx 0 rfl S8 (fun Fi h _ => PC.out _ _ h)).mono ?_
              rintro en w1 ⟨rfl, F1, S1, u1⟩
              have V1 := U8.trans u1
              obtain ⟨kc, _, klk⟩ := box_cell (i := 2) S1 rfl
              have k0 := kc 0
              have k1 := kc 1
              have k2 := kc 2
              have k3 := kc 3
              have k4 := kc 4
              have k5 := kc 5
              have k6 := kc 6
              try simp only [List.getElem?_toArray, List.getElem?_cons_zero, List.getElem?_cons_succ] at k0 k1 k2 k3 k4 k5 k6
              clear kc klk
              go_wp2_with ((with_reducible refine is_store ?_); refine store_new S1 rfl 26 _ _ rfl (cellsL r) rfl rfl (sizeL zeroL) rfl (oneL r) ?_; intro w2 F2 S2 u2 q2; clear q2 k0 k1 k2 k3 k4 k5 k6; obtain ⟨kc, _, _⟩ := box_cell (i := 3) S2 rfl; have k0 := kc 0; have k1 := kc 1; have k2 := kc 2; have k3 := kc 3; have k4 := kc 4; have k5 := kc 5; have k6 := kc 6; simp only [List.getElem?_toArray, List.getElem?_cons_zero, List.getElem?_cons_succ] at k0 k1 k2 k3 k4 k5 k6; clear kc)
              have V2 := V1.trans u2
              clear S1 V1
              refine (on_idx 2 rfl S2 (fun Fi h _ => RC.out _ _ h)).mono ?_
              rintro en w3 ⟨rfl, F3, S3, u3⟩
              have V3 := V2.trans u3
              clear k0 k1 k2 k3 k4 k5 k6 S2 V2
              obtain ⟨kc, _, klc⟩ := box_cell (i := 1) S3 rfl
              have c0 := kc 0
              have c1 := kc 1
              have c2 := kc 2
              have c3 := kc 3
              have c4 := kc 4
              have c5 := kc 5
              try simp only [List.getElem?_toArray, List.getElem?_cons_zero, List.getElem?_cons_succ] at c0 c1 c2 c3 c4 c5
              clear kc klc
              go_wp2_with (first | ((with_reducible refine is_store ?_); refine store_new S3 rfl 26 _ _ rfl (cellsL r) rfl rfl (sizeL zeroL) rfl (oneL r) ?_; intro w4 F4 S4 u4 q4; have c0 := q4 0; clear c0; obtain ⟨kc, _, _⟩ := box_cell (i := 2) S4 rfl; have a0 := kc 0; have a1 := kc 1; have a2 := kc 2; have a3 := kc 3; have a4 := kc 4; have a5 := kc 5; simp only [List.getElem?_toArray, List.getElem?_cons_zero, List.getElem?_cons_succ] at a0 a1 a2 a3 a4 a5; clear kc) | ((with_reducible refine is_store ?_); refine store_at S4 5 rfl rfl 26 _ _ rfl (cellsL r) rfl rfl (sizeL zeroL) rfl (oneL r) ?_; intro w5 F5 S5 u5 q5; clear q4 a0 a1 a2 a3 a4 a5; obtain ⟨kc, _, _⟩ := box_cell (i := 1) S5 rfl; have d0 := kc 0; have d1 := kc 1; have d2 := kc 2; have d3 := kc 3; have d4 := kc 4; have d5 := kc 5; simp only [List.getElem?_toArray, List.getElem?_cons_zero, List.getElem?_cons_succ] at d0 d1 d2 d3 d4 d5; clear kc) | ((with_reducible refine is_store ?_); refine store_at S5 6 rfl rfl 26 _ _ rfl (cellsL r) rfl rfl (sizeL zeroL) rfl (oneL r) ?_; intro w6 F6 S6 u6 q6))
              go_meet
              obtain ⟨F9, HM⟩ := mid_of S6 (((V3.trans u4).trans u5).trans u6) I2.out HLE.out
              exact ⟨er, r, e2, M2, F9, rfl, rfl, HM⟩
          case rest =>
            as_aux_lemma =>
              obtain ⟨er, r, e2, M2, F9, rfl, rfl, ⟨S9, U9, I2, hle⟩⟩ := hcut
              have hlen2 : (allS M2).length ≤ 64 := by rw [all_size I2]; exact I2.len
              have HI2 := Keep.mk I2
              obtain ⟨⟨hx, hb⟩, hhh⟩ : ∃ rr, rr = holdS grace M2 op2 op5 := ⟨_, rfl⟩
              have HP := Keep.mk (fun (w : World) (F : Fp) (h : (bookT b grace most e2 M2).on w F) => holder_c h (by omega) g1 I2.tils op2 op5)
              have HR := Keep.mk (fun (w : World) (F : Fp) (h : (refT b2 grace most (e2 + 1) (allS M2)).on w F) => rholder_t h (by omega) op2 op5)
              rw [hold_eq I2 grace, ← hhh] at HR
              rw [← hhh] at HP
              simp only at HP HR
              clear hhh S8 U8 hO k0 k1 k2 k3 k4 k5 k6 hts I2
              obtain ⟨kc, _, klk⟩ := box_cell (i := 2) S9 rfl
              have k0 := kc 0
              have k1 := kc 1
              have k2 := kc 2
              have k3 := kc 3
              have k4 := kc 4
              have k5 := kc 5
              have k6 := kc 6
              try simp only [List.getElem?_toArray, List.getElem?_cons_zero, List.getElem?_cons_succ] at k0 k1 k2 k3 k4 k5 k6
              clear kc klk
              go_wp2_with fail
              refine (on_idx_quiet 0 rfl S9 (fun Fi h => HP.out _ _ h)).mono ?_
              rintro en v1 ⟨rfl, S10, U10⟩
              have V10 := U9.trans U10
              clear S9 U9 U10 k0 k1 k2 k3 k4 k5 k6
              go_wp2_with ((with_reducible refine is_store ?_); refine store_new S10 rfl 26 _ _ rfl (cellsL hx) rfl rfl (sizeL zeroL) rfl (oneL hx) ?_; intro v2 F11 S11 u11 q11; clear q11; obtain ⟨kc, _, _⟩ := box_cell (i := 3) S11 rfl; have k0 := kc 0; have k1 := kc 1; have k2 := kc 2; have k3 := kc 3; have k4 := kc 4; have k5 := kc 5; have k6 := kc 6; simp only [List.getElem?_toArray, List.getElem?_cons_zero, List.getElem?_cons_succ] at k0 k1 k2 k3 k4 k5 k6; clear kc)
              have V11 := V10.trans u11
              clear S10 V10
              refine (on_idx_quiet 2 rfl S11 (fun Fi h => HR.out _ _ h)).mono ?_
              rintro en v3 ⟨rfl, S12, U12⟩
              have V12 := V11.trans U12
              clear S11 V11 U12 k0 k1 k2 k3 k4 k5 k6
              go_wp2_with ((with_reducible refine is_store ?_); refine store_new S12 rfl 26 _ _ rfl (cellsL hx) rfl rfl (sizeL zeroL) rfl (oneL hx) ?_; intro v4 F13 S13 u13 q13)
              have V13 := V12.trans u13
              clear q13 S12 V12 u13
              obtain ⟨vR, F14, S14, s14⟩ := stars_ex 3 rfl S13
              have V14 := V13.re fun k hk => V13.fp k (s14 k hk)
              clear S13 V13 s14
              generalize v3.heap.size = V at *
              generalize v1.heap.size = U at *
              have S14 : (Asrt.stars [bookT b grace most e2 M2, .blk V (lzB hx), .blk U (lzB hx), .stars [.blk b2 (refO vR grace most (e2 + 1)), rowL vR (allS M2)], .blk O (opB ⟨op0, op1, op2, op3, op4, op5, op6⟩), .blk (O + 1) (lzB r), .blk (O + 1 + 1) (lzB r)]).on v4 F14 := S14
              obtain ⟨_, hq3, _⟩ := Asrt.stars_get S14 3 rfl
              obtain ⟨_, hrow, _⟩ := Asrt.stars_get hq3 1 rfl
              obtain ⟨aR, cR, rfl, _⟩ := row_form hrow
              clear hq3 hrow
              have S14 := Asrt.drew S14
              have V14 := V14.drew
              have HA := Keep.mk (p_all (b := b) (g := grace) (m := most) HI2.out)
              obtain ⟨kc, _, _⟩ := box_cell (i := 5) S14 rfl
              have mx0 := kc 0
              have mx1 := kc 1
              have mx2 := kc 2
              have mx3 := kc 3
              have mx4 := kc 4
              have mx5 := kc 5
              simp only [List.getElem?_toArray, List.getElem?_cons_zero, List.getElem?_cons_succ] at mx0 mx1 mx2 mx3 mx4 mx5
              clear kc
              obtain ⟨kc, _, _⟩ := box_cell (i := 6) S14 rfl
              have my0 := kc 0
              have my1 := kc 1
              have my2 := kc 2
              have my3 := kc 3
              have my4 := kc 4
              have my5 := kc 5
              simp only [List.getElem?_toArray, List.getElem?_cons_zero, List.getElem?_cons_succ] at my0 my1 my2 my3 my4 my5
              clear kc
              obtain ⟨kc, _, _⟩ := box_cell (i := 2) S14 rfl
              have mu0 := kc 0
              have mu1 := kc 1
              have mu2 := kc 2
              have mu3 := kc 3
              have mu4 := kc 4
              have mu5 := kc 5
              simp only [List.getElem?_toArray, List.getElem?_cons_zero, List.getElem?_cons_succ] at mu0 mu1 mu2 mu3 mu4 mu5
              clear kc
              obtain ⟨kc, _, _⟩ := box_cell (i := 1) S14 rfl
              have mv0 := kc 0
              have mv1 := kc 1
              have mv2 := kc 2
              have mv3 := kc 3
              have mv4 := kc 4
              have mv5 := kc 5
              simp only [List.getElem?_toArray, List.getElem?_cons_zero, List.getElem?_cons_succ] at mv0 mv1 mv2 mv3 mv4 mv5
              clear kc
              obtain ⟨_, hq, _⟩ := Asrt.stars_get S14 3 rfl
              obtain ⟨kc, _, _⟩ := box_cell (i := 0) hq rfl
              have mr := kc 0
              simp only [List.getElem?_toArray, List.getElem?_cons_zero] at mr
              clear kc
              clear hq
              go_region_held3 (fun w' => w'.cell? ⟨O + 1, 0, none⟩ = some (.string r.name) ∧ w'.cell? ⟨O + 1, 1, none⟩ = some (.string r.tenant) ∧ w'.cell? ⟨O + 1, 2, none⟩ = some (.int .i64 r.conn) ∧ w'.cell? ⟨O + 1, 3, none⟩ = some (.int .i64 r.epoch) ∧ w'.cell? ⟨O + 1, 4, none⟩ = some (.int .i64 r.til) ∧ w'.cell? ⟨O + 1, 5, none⟩ = some (.bool r.held) ∧ w'.cell? ⟨O + 1 + 1, 0, none⟩ = some (.string r.name) ∧ w'.cell? ⟨O + 1 + 1, 1, none⟩ = some (.string r.tenant) ∧ w'.cell? ⟨O + 1 + 1, 2, none⟩ = some (.int .i64 r.conn) ∧ w'.cell? ⟨O + 1 + 1, 3, none⟩ = some (.int .i64 r.epoch) ∧ w'.cell? ⟨O + 1 + 1, 4, none⟩ = some (.int .i64 r.til) ∧ w'.cell? ⟨O + 1 + 1, 5, none⟩ = some (.bool r.held) ∧ w'.cell? ⟨U, 0, none⟩ = some (.string hx.name) ∧ w'.cell? ⟨U, 1, none⟩ = some (.string hx.tenant) ∧ w'.cell? ⟨U, 2, none⟩ = some (.int .i64 hx.conn) ∧ w'.cell? ⟨U, 3, none⟩ = some (.int .i64 hx.epoch) ∧ w'.cell? ⟨U, 4, none⟩ = some (.int .i64 hx.til) ∧ w'.cell? ⟨U, 5, none⟩ = some (.bool hx.held) ∧ w'.cell? ⟨V, 0, none⟩ = some (.string hx.name) ∧ w'.cell? ⟨V, 1, none⟩ = some (.string hx.tenant) ∧ w'.cell? ⟨V, 2, none⟩ = some (.int .i64 hx.conn) ∧ w'.cell? ⟨V, 3, none⟩ = some (.int .i64 hx.epoch) ∧ w'.cell? ⟨V, 4, none⟩ = some (.int .i64 hx.til) ∧ w'.cell? ⟨V, 5, none⟩ = some (.bool hx.held) ∧ w'.cell? ⟨b2, 0, none⟩ = some (.slice aR (allS M2).length cR)) (first | exact ⟨mx0, mx1, mx2, mx3, mx4, mx5, my0, my1, my2, my3, my4, my5, mu0, mu1, mu2, mu3, mu4, mu5, mv0, mv1, mv2, mv3, mv4, mv5, mr⟩ | exact ⟨nx0, nx1, nx2, nx3, nx4, nx5, ny0, ny1, ny2, ny3, ny4, ny5, nu0, nu1, nu2, nu3, nu4, nu5, nv0, nv1, nv2, nv3, nv4, nv5, nr⟩)
                (first
                  | (go_at_call 14; refine (on_idx_row 0 rfl (by simp) S14 (fun Fi h => HA.out _ _ h)).mono ?_; rintro en v5 ⟨vA, rfl, F15, S15, U15⟩; obtain ⟨kc, _, _⟩ := box_cell (i := 6) S15 rfl; have nx0 := kc 0; have nx1 := kc 1; have nx2 := kc 2; have nx3 := kc 3; have nx4 := kc 4; have nx5 := kc 5; simp only [List.getElem?_toArray, List.getElem?_cons_zero, List.getElem?_cons_succ] at nx0 nx1 nx2 nx3 nx4 nx5; clear kc; obtain ⟨kc, _, _⟩ := box_cell (i := 7) S15 rfl; have ny0 := kc 0; have ny1 := kc 1; have ny2 := kc 2; have ny3 := kc 3; have ny4 := kc 4; have ny5 := kc 5; simp only [List.getElem?_toArray, List.getElem?_cons_zero, List.getElem?_cons_succ] at ny0 ny1 ny2 ny3 ny4 ny5; clear kc; obtain ⟨kc, _, _⟩ := box_cell (i := 3) S15 rfl; have nu0 := kc 0; have nu1 := kc 1; have nu2 := kc 2; have nu3 := kc 3; have nu4 := kc 4; have nu5 := kc 5; simp only [List.getElem?_toArray, List.getElem?_cons_zero, List.getElem?_cons_succ] at nu0 nu1 nu2 nu3 nu4 nu5; clear kc; obtain ⟨kc, _, _⟩ := box_cell (i := 2) S15 rfl; have nv0 := kc 0; have nv1 := kc 1; have nv2 := kc 2; have nv3 := kc 3; have nv4 := kc 4; have nv5 := kc 5; simp only [List.getElem?_toArray, List.getElem?_cons_zero, List.getElem?_cons_succ] at nv0 nv1 nv2 nv3 nv4 nv5; clear kc; obtain ⟨_, hq, _⟩ := Asrt.stars_get S15 4 rfl; obtain ⟨kc, _, _⟩ := box_cell (i := 0) hq rfl; have nr := kc 0; simp only [List.getElem?_toArray, List.getElem?_cons_zero] at nr; clear kc; obtain ⟨_, q3, _⟩ := Asrt.stars_get hq 1 rfl; obtain ⟨_, q1, _⟩ := Asrt.stars_get S15 0 rfl; have r1 := (row_reads (enc := encL) (fun _ => rfl) q1).1; have r2 := (row_reads (enc := encL) (fun _ => rfl) q3).1; clear hq q1 q3)
                  | (go_at_call 23; refine (same_c r1 r2 (by omega)).mono ?_; rintro en v6 ⟨rfl, n6, rfl⟩))
              all_goals
                have S16 := Asrt.drewN S15 n6
                have V16 := (V14.trans U15).drewN n6
                clear S15 V14 U15 S14
                obtain ⟨F17, S17, s17⟩ := stars_last S16
                have HE := Keep.mk (show (Asrt.stars [bookT b grace most e2 M2, refT b2 grace most (e2 + 1) (allS M2)]).on (v5.drewN n6) F17 ∧ Upd none' F17 W (v5.drewN n6) from ⟨S17, V16.re fun k hk => V16.fp k (s17 k hk)⟩)
                clear S16 V16 S17 s17 r1 r2 nx0 nx1 nx2 nx3 nx4 nx5 ny0 ny1 ny2 ny3 ny4 ny5 nu0 nu1 nu2 nu3 nu4 nu5 nv0 nv1 nv2 nv3 nv4 nv5 nr
                go_wp2_with fail
                go_roundw
                case rel => exact ⟨k + 1, e2, M2, F17, HLT.out, by go_num, HE.out.1, HE.out.2, HI2.out, by omega⟩
                case measure => have := HLT.out; simp [intOf]; omega
        · obtain rfl : k = L.length := by omega
          have HQ := Keep.mk U5.quiet
          clear S5 U5 hI
          go_wp2_with fail
          go_ret
          exact ⟨rfl, HQ.out⟩
  · have hno : (timeB grace && timeB most) = false := by simpa using hgm
    have NB := Keep.mk (fun w : World => new_no (w := w) hno)
    have NR := Keep.mk (fun w : World => rnew_no (w := w) hno)
    clear hgm hno hL hmax
    go_enter Tryd.func4, Tryd.ntmps4
    go_wp2_with fail
    refine head_c.mono ?_
    rintro e w1 ⟨rfl, u1⟩
    go_wp2_with fail
    refine (NB.out _).mono ?_
    rintro e w2 ⟨rfl, rfl⟩
    go_wp2_with fail
    refine (NR.out _).mono ?_
    rintro e w3 ⟨rfl, rfl⟩
    go_wp2_with fail
    go_ret
    exact ⟨rfl, u1⟩
end leasePlays
end Go.Proofs.YtefnfhhdcginmaaDoor
