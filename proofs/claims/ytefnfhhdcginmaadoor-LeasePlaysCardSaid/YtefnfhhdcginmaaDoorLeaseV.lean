/- The statement LeaseOne. -/
import Derived.Test.YtefnfhhdcginmaaDoorLeaseT
import Derived.Deep.RegionHeld3
set_option linter.unusedVariables false
namespace Go.Proofs.YtefnfhhdcginmaaDoor
open Go.ChangeShapes Go.WideShapes Go.ChangeAt Go.RowKit Go.Sub Go.ChangeMaps
theorem allS_names {M : LT} (hn : ∀ p ∈ M, p.2.name = p.1) : (allS M).map (·.name) = keysOf (M.map (·.1)) := by
  unfold allS outL
  have h : ∀ ns : List ByteArray, (∀ k ∈ ns, k ∈ M.map (·.1)) → (ns.filterMap fun nm => (mget M nm).filter fun _ => true).map (·.name) = ns := by
    intro ns
    induction ns with
    | nil => intro _; rfl
    | cons n ns ih =>
      intro hk
      obtain ⟨x, hx⟩ := mget_of_mem (hk n (by simp))
      have h1 : (n :: ns).filterMap (fun nm => (mget M nm).filter fun _ => true) = x :: ns.filterMap (fun nm => (mget M nm).filter fun _ => true) := by
        rw [List.filterMap_cons, hx]; rfl
      rw [h1, List.map_cons, ih fun k h => hk k (by simp [h]), hn _ (mget_mem hx)]
  exact h _ fun k hk => (keysOf_perm _).mem_iff.1 hk
theorem keysOf_rise (l : List ByteArray) (h : l.Nodup) : (keysOf l).Pairwise fun x y => Op.bytesLess x.toList y.toList = true := by
  have h1 : (keysOf l).Pairwise fun x y => x.data.toList ≤ y.data.toList := by
    unfold keysOf
    rw [List.pairwise_map]
    have := List.pairwise_mergeSort (le := fun x y : List UInt8 => decide (x ≤ y)) (fun a b c => by simpa using List.le_trans) (fun a b => by simpa using List.le_total a b) (l.map fun x => x.data.toList)
    exact this.imp fun h => by simpa using h
  have h2 : (keysOf l).Nodup := (keysOf_perm l).nodup_iff.2 h
  exact (h1.and h2).imp fun {a b} ⟨h, hn⟩ => by
    rw [Go.Proofs.bytesLess_eq, ByteArray.toList_eq, ByteArray.toList_eq, decide_eq_true_eq]
    exact Classical.byContradiction fun hlt => hn (WideShapes.bytes_inj (List.le_antisymm h (List.not_lt.1 hlt)))
theorem allS_rise {e : Int} {M : LT} (I : InvB e M) : (allS M).Pairwise fun x y => Op.bytesLess x.name.toList y.name.toList = true := by
  have := keysOf_rise _ I.nd
  rw [← allS_names I.nm, List.pairwise_map] at this
  exact this
theorem allS_len {e : Int} {M : LT} (I : InvB e M) : (allS M).length ≤ 64 := by
  have h := congrArg List.length (allS_names I.nm)
  rw [List.length_map, (keysOf_perm _).length_eq, List.length_map] at h
  rw [h]; exact I.len
/-- what is refused changes nothing; what is granted is new, and held -/
theorem claim_says {g m e : Int} {M : LT} (m0 : 1 ≤ m) (tenant nm : ByteArray) (conn now ttl : Int) :
    (∃ er, er ≠ 0 ∧ claimS g m e M tenant nm conn now ttl = (e, M, zeroL, er)) ∨
    (claimS g m e M tenant nm conn now ttl = (e + 1, mset M nm (newL tenant nm conn e now ttl m), newL tenant nm conn e now ttl m, 0) ∧ clockB now = true ∧ timeB ttl = true ∧ (holdS g M nm now).2 = false) := by
  unfold claimS holdS
  split
  · exact .inl ⟨1, by decide, rfl⟩
  · rename_i hok
    have hck : (nameB tenant.data.toList && (nameB nm.data.toList && (clockB now && timeB ttl))) = true := by simpa only [Bool.not_eq_false] using hok
    simp only [Bool.and_eq_true] at hck
    split
    · rename_i hn
      split
      · exact .inl ⟨2, by decide, rfl⟩
      · exact .inr ⟨rfl, hck.2.2.1, hck.2.2.2, by first | rfl | (rw [hn])⟩
    · rename_i x hx
      split
      · exact .inl ⟨131, by decide, rfl⟩
      · split
        · exact .inl ⟨4, by decide, rfl⟩
        · rename_i hs
          exact .inr ⟨rfl, hck.2.2.1, hck.2.2.2, by first | (rw [if_neg hs]) | (simp only [hx]; rw [if_neg hs])⟩
theorem hold_new {g m e : Int} {M : LT} (m0 : 1 ≤ m) (tenant nm : ByteArray) (conn : Int) {now ttl at' : Int} (h1 : 1 ≤ ttl) (ha : now ≤ at') : holdS g (mset M nm (newL tenant nm conn e now ttl m)) nm at' = if at' < now + min ttl m then (newL tenant nm conn e now ttl m, true) else (zeroL, false) := by
  unfold holdS
  rw [mget_mset, if_pos rfl]
  simp only
  unfold statS
  simp only [if_true]
  by_cases h : at' < now + min ttl m
  · rw [if_pos h, if_pos rfl, if_pos h]
  · rw [if_neg h, if_neg h]
    rw [if_neg]
    split <;> decide
theorem all_on {b : Nat} {g m e : Int} {M : LT} {l : List Asrt} {w : World} {F : Fp} (I : InvB e M) (hS : (Asrt.stars (bookT b g m e M :: l)).on w F) {A : List Lz} (hA : allS M = A) :
    Calls Tryd.prog 14 #[.pointer (some ⟨b, 0, none⟩)] w fun e' w' => ∃ v, Ret v (fun w' => ∃ F', (Asrt.stars (bookT b g m e M :: row 26 6 encL v A :: l)).on w' F' ∧ Upd F F' w w') e' w' :=
  on_head_new (T := fun v => v) hS fun Fi h _ => (all_c h I.nd I.sz (by have := I.len; omega)).mono (by
    rw [hA]
    rintro e1 w1 ⟨v, rfl, F1, S1, U1⟩
    exact ⟨v, rfl, F1, two_of (swap2 S1), U1⟩)
theorem same_on {l : List Asrt} {w : World} {F : Fp} (hS : (Asrt.stars l).on w F) {v v' : Value} {A : List Lz} (i j : Nat) (hi : l[i]? = some (row 26 6 encL v A)) (hj : l[j]? = some (row 26 6 encL v' A)) (hl : A.length ≤ 64) :
    Calls Tryd.prog 23 #[v, v'] w (Ret (.bool true) fun w' => ∃ n, w' = w.drewN n) := by
  obtain ⟨_, h1, _⟩ := Asrt.stars_get hS i hi
  obtain ⟨_, h2, _⟩ := Asrt.stars_get hS j hj
  exact same_c (row_reads (enc := encL) (fun _ => rfl) h1).1 (row_reads (enc := encL) (fun _ => rfl) h2).1 (by omega)
namespace leaseOne
set_option maxHeartbeats 16000000 in
set_option maxRecDepth 100000 in
theorem walk {W : World} (v : Value) (L : List LO) (hL : ReadsLO W v L) (hmax : L.length ≤ maxLen) (tenant : ByteArray) (hts : tenant.size ≤ maxLen) (name : ByteArray) (hns : name.size ≤ maxLen) (now : Int) (hnw : (Lit.int .i64 now).wf = true) (ttl : Int) (htw : (Lit.int .i64 ttl).wf = true) :
    Calls Tryd.prog 5 #[v, .string tenant, .string name, .int .i64 now, .int .i64 ttl] W (Ret (.bool true) fun W' => Quiet W W') := by
  obtain ⟨a, cap, rfl, ha⟩ := hL.1
  have HL := Keep.mk hL
  have HN := Keep.mk (fun w : World => new_yes (w := w) (g := 5) (m := 50) (by decide) (by decide))
  have HT := Keep.mk (And.intro hts hns)
  clear hL hts hns hnw htw
  go_enter Tryd.func5, Tryd.ntmps5
  go_wp2_with fail
  refine (head_c).mono ?_
  rintro e0 w0 ⟨rfl, q0⟩
  go_wp2_with fail
  refine (HN.out _).mono ?_
  rintro e0 w1 ⟨b, rfl, F1, h1, u1⟩
  have u1 := q0.trans u1
  have hR1 := HL.out.1.upd (u1.quiet) fun _ _ h => h
  have GC := Keep.mk (great_c (⟨hR1, HL.out.2⟩ : ReadsLO w1 _ L) hmax)
  have H1 := Keep.mk (And.intro h1 u1)
  clear h1 u1 q0 hR1
  go_wp2_with fail
  refine GC.out.mono ?_
  rintro e0 w2 ⟨r, rfl, ⟨n, rfl⟩, hr⟩
  cases r with
  | true =>
    go_wp2_with fail
    go_ret
    exact ⟨rfl, (H1.out.2.drewN n).quiet⟩
  | false =>
    have hF : L.length ≤ 300 := hr rfl
    have I0 := fun k => runB_inv (g := 5) (m := 50) (by decide) (by decide) (by decide) (by decide) (L.take k) (fun o ho => HL.out.2 o (List.mem_of_mem_take ho))
    have I1 := Keep.mk (fun k => And.intro (I0 k).1 (Int.le_trans (I0 k).2 (show (((L.take k).length : Nat) : Int) ≤ 300 by rw [List.length_take]; omega)))
    clear hr I0
    cases hz : decide ((1000 : Int) < wrap64 ((tenant.size : Int) + (name.size : Int))) with
    | true =>
      go_wp2_with fail
      go_ret
      exact ⟨rfl, (H1.out.2.drewN n).quiet⟩
    | false =>
      go_wp2_with fail
      go_loopw [13] (fun i wr => ∃ (k : Nat) (F' : Fp), k ≤ L.length ∧ i = .int .i64 k ∧ (bookT b 5 50 (runB 5 50 (L.take k)).1 (runB 5 50 (L.take k)).2).on wr F' ∧ Upd none' F' W wr) (fun i _ => L.length - (RowKit.intOf i).toNat)
      case atStart => exact ⟨0, F1, by omega, rfl, Asrt.drewN H1.out.1 n, H1.out.2.drewN n⟩
      case round =>
        obtain ⟨k, F', hk, rfl, hB, hU⟩ := hrel
        by_cases hlt : k < L.length
        · obtain ⟨g, off, rfl, hg, hc⟩ := ha k L[k] (List.getElem?_eq_getElem hlt)
          have UU := fun j u h => (hU.quiet.cell (a := ⟨g, j, none⟩) hg id).trans (h : W.cell? ⟨g, j, none⟩ = some u)
          have k0 := UU _ _ (hc 0 _ rfl)
          have k1 := UU _ _ (hc 1 _ rfl)
          have k2 := UU _ _ (hc 2 _ rfl)
          have k3 := UU _ _ (hc 3 _ rfl)
          have k4 := UU _ _ (hc 4 _ rfl)
          have k5 := UU _ _ (hc 5 _ rfl)
          have k6 := UU _ _ (hc 6 _ rfl)
          have hok := HL.out.2 L[k] (List.getElem_mem hlt)
          have hsn := runB_snoc 5 50 (L.take k) L[k]
          rw [← List.take_succ_eq_append_getElem hlt] at hsn
          obtain ⟨IV, hle⟩ := I1.out k
          have D := does_c hB IV (by omega) (by decide) (by decide) (by decide) (by decide) L[k] hok.1 hok.2.1
          generalize runB 5 50 (L.take k) = S at *
          obtain ⟨e, M⟩ := S
          have HS := Keep.mk hsn
          generalize L[k] = o at *
          simp only at D HS
          obtain ⟨wh, tenant', name', conn, epoch, now', ttl'⟩ := o
          simp only [Nat.add_zero] at k0 k1 k2 k3 k4 k5 k6
          have HU := Keep.mk (fun {w' : World} {F'' : Fp} (u : Upd F' F'' wr w') => hU.trans u)
          clear hsn UU hB hok IV hle hU hc
          have C := D
          unfold DoEnds at C
          generalize hD : doesS 5 50 e M ⟨wh, tenant', name', conn, epoch, now', ttl'⟩ = R at *
          obtain ⟨e', M', x', er⟩ := R
          simp only at C HS
          clear hD D
          replace C := Keep.mk C
          go_wp2_with fail
          refine C.out.mono ?_
          rintro e0 w3 ⟨rfl, F3, h3, u3⟩
          go_wp2_with fail
          go_roundw
          case rel => exact ⟨k + 1, F3, by omega, by go_num, by rw [HS.out]; exact h3, HU.out u3⟩
          case measure => simp [RowKit.intOf]; omega
        · obtain rfl : k = L.length := by omega
          obtain ⟨IV, hle⟩ := I1.out L.length
          generalize runB 5 50 (L.take L.length) = S at *
          obtain ⟨e, M⟩ := S
          simp only at hB IV hle
          have hrise := allS_rise IV
          have hlen := allS_len IV
          have HC := Keep.mk (fun (w : World) (F : Fp) (h : (bookT b 5 50 e M).on w F) => holder_c h (by decide) (by decide) IV.tils name now)
          have CC := Keep.mk (fun (w : World) (F : Fp) (h : (bookT b 5 50 e M).on w F) => claim_c h (by decide) (by decide) (by decide) (by decide) IV.e0 (by omega) IV.tils tenant name HT.out.1 HT.out.2 99 now ttl)
          have CI := (claim_inv (g := 5) (m := 50) IV (by decide) (by decide) (by decide) (by decide) tenant name HT.out.2 99 now ttl).1
          have HB := Keep.mk (And.intro hB hU)
          have CS := claim_says (g := 5) (m := 50) (e := e) (M := M) (by decide) tenant name 99 now ttl
          clear hB hU I1 ha hle
          generalize hAll : allS M = A at *
          have AC := Keep.mk (fun (w : World) (F : Fp) (l : List Asrt) (h : (Asrt.stars (bookT b 5 50 e M :: l)).on w F) => all_on IV h hAll)
          clear IV
          have HA := Keep.mk hAll
          clear hAll
          go_wp2_with fail
          refine (AC.out _ _ [] (Asrt.stars_one HB.out.1)).mono ?_
          rintro e0 w3 ⟨va, rfl, F3, S3, u3⟩
          have U3 := HB.out.2.trans u3
          obtain ⟨_, hra, _⟩ := Asrt.stars_get S3 1 rfl
          obtain ⟨aa, ca, rfl, hca⟩ := (row_reads (enc := encL) (fun _ => rfl) hra).1
          have HS3 := Keep.mk S3
          clear S3 hra u3
          go_wp2_with fail
          go_loopw [15] (fun i wr => ∃ k n : Nat, 1 ≤ k ∧ (k ≤ A.length ∨ k = 1) ∧ i = .int .i64 k ∧ wr = w3.drewN n) (fun i _ => A.length - (RowKit.intOf i).toNat)
          case atStart => exact ⟨1, 0, by omega, by omega, rfl, rfl⟩
          case round =>
            obtain ⟨k, n, hk1, hk2, rfl, rfl⟩ := hrel
            by_cases hlt : k < A.length
            · obtain ⟨k, rfl⟩ : ∃ j, k = j + 1 := ⟨k - 1, by omega⟩
              have hlt0 : k < A.length := by omega
              have hlt1 : k + 1 < A.length := by omega
              have hle := List.pairwise_iff_getElem.1 hrise k (k + 1) hlt0 hlt1 (by omega)
              obtain ⟨g, off, rfl, hg, hc⟩ := hca k A[k] (List.getElem?_eq_getElem hlt0)
              obtain ⟨g', off', ea, hg', hc'⟩ := hca (k + 1) A[k + 1] (List.getElem?_eq_getElem hlt1)
              cases ea
              have j0 : w3.cell? ⟨g, off + k * 6, none⟩ = some (.string A[k].name) := hc 0 _ rfl
              have j1 : w3.cell? ⟨g, off + (k + 1) * 6, none⟩ = some (.string A[k + 1].name) := hc' 0 _ rfl
              have ek : wrap64 (((k + 1 : Nat) : Int) - 1) = (k : Int) := by go_arith
              generalize A[k].name = xa at *
              generalize A[k + 1].name = xb at *
              clear hc hc'
              go_wp2_with fail
              go_quiet (fail)
              go_wp2_with fail
              go_roundw
              case rel => exact ⟨k + 1 + 1, _, by omega, by omega, by go_num, rfl⟩
              case measure => simp [RowKit.intOf]; omega
            · have S4 := Keep.mk (Asrt.drewN HS3.out n)
              have U4 := Keep.mk (U3.drewN n)
              clear hk2 hrise
              -- Holder
              go_wp2_with fail
              refine (on_head_same S4.out fun Fi h _ => HC.out _ _ h).mono ?_
              rintro e0 w5 ⟨rfl, F5, S5, u5⟩
              have U5 := U4.out.trans u5
              generalize hH : holdS 5 M name now = H at *
              obtain ⟨x, is⟩ := H
              simp only at CS
              have HH := Keep.mk hH
              clear hH
              go_wp2_with (refine store_new S5 rfl 26 _ _ rfl (cellsL x) rfl rfl (sizeL zeroL) rfl (oneL x) ?_; intro w6 F6 S6 u6 q6; clear q6)
              have U6 := U5.trans u6
              rcases CS with ⟨er, her, hCS⟩ | ⟨hCS, hck, htm, his⟩
              · -- refused
                refine (on_head S6 (A' := bookT b 5 50 e M) (v := .tuple #[aggL zeroL, .int .i64 er]) fun Fi h _ => by have := CC.out _ _ h; unfold ClaimEnds at this; rw [hCS] at this; exact this).mono ?_
                rintro e0 w7 ⟨rfl, F7, S7, u7⟩
                have U7 := U6.trans u7
                have ne : (er != 0) = true := by simp [her]
                have ne2 : (er == 0) = false := by simp [her]
                have HE := Keep.mk her
                clear her hCS
                go_wp2_with (refine store_new S7 rfl 26 _ _ rfl (cellsL zeroL) rfl rfl (sizeL zeroL) rfl (oneL zeroL) ?_; intro w8 F8 S8 u8 q8; clear q8)
                have U8 := U7.trans u8
                refine (on_head_same S8 fun Fi h _ => HC.out _ _ h).mono ?_
                rintro e0 w9 ⟨rfl, F9, S9, u9⟩
                have U9 := U8.trans u9
                obtain ⟨x0, x1, x2, x3, x4, x5⟩ := x
                cases is with
                | false =>
                  go_wp2_with (refine store_new S9 rfl 26 _ _ rfl (cellsL ⟨x0, x1, x2, x3, x4, x5⟩) rfl rfl (sizeL zeroL) rfl (oneL ⟨x0, x1, x2, x3, x4, x5⟩) ?_; intro w10 F10 S10 u10 q10)
                  have U10 := U9.trans u10
                  refine (AC.out _ _ _ S10).mono ?_
                  rintro e0 w11 ⟨v11, rfl, F11, S11, u11⟩
                  go_wp2_with fail
                  refine (same_on S11 1 5 rfl rfl hlen).mono ?_
                  rintro e0 w11' ⟨rfl, n11, rfl⟩
                  have S11' := Asrt.drewN S11 n11
                  go_wp2_with fail
                  go_ret
                  exact ⟨rfl, ((U10.trans u11).drewN n11).quiet⟩
                | true =>
                  go_wp2_with (refine store_new S9 rfl 26 _ _ rfl (cellsL ⟨x0, x1, x2, x3, x4, x5⟩) rfl rfl (sizeL zeroL) rfl (oneL ⟨x0, x1, x2, x3, x4, x5⟩) ?_; intro w10 F10 S10 u10 q10; have j5 := (box_cell (i := 3) S10 rfl).1)
                  have U10 := U9.trans u10
                  refine (AC.out _ _ _ S10).mono ?_
                  rintro e0 w11 ⟨v11, rfl, F11, S11, u11⟩
                  go_wp2_with fail
                  refine (same_on S11 1 5 rfl rfl hlen).mono ?_
                  rintro e0 w11' ⟨rfl, n11, rfl⟩
                  have S11' := Asrt.drewN S11 n11
                  go_wp2_with fail
                  refine (AC.out _ _ _ S11').mono ?_
                  rintro e0 w12 ⟨v12, rfl, F12, S12, u12⟩
                  go_wp2_with fail
                  refine (same_on S12 1 6 rfl rfl hlen).mono ?_
                  rintro e0 w12' ⟨rfl, n12, rfl⟩
                  have S12' := Asrt.drewN S12 n12
                  go_wp2_with fail
                  go_ret
                  exact ⟨rfl, ((((U10.trans u11).drewN n11).trans u12).drewN n12).quiet⟩
              · -- granted
                subst his
                obtain ⟨t0, t1⟩ := timeB_iff.1 htm
                have HN2 : holdS 5 (mset M name (newL tenant name 99 e now ttl 50)) name now = (newL tenant name 99 e now ttl 50, true) := by rw [hold_new (by decide) tenant name 99 t0 (Int.le_refl _), if_pos (by omega)]
                obtain ⟨tl, htl⟩ : ∃ tl, tl = now + min ttl 50 := ⟨_, rfl⟩
                obtain ⟨e', he'⟩ : ∃ e', e' = e + 1 := ⟨_, rfl⟩
                have hX : newL tenant name 99 e now ttl 50 = ⟨name, tenant, 99, e', tl, true⟩ := by rw [htl, he']
                rw [hX, ← he'] at hCS
                rw [hX] at HN2
                rw [hCS] at CI
                simp only at CI
                have HC2 := Keep.mk (fun (w : World) (F : Fp) (h : (bookT b 5 50 e' (mset M name ⟨name, tenant, 99, e', tl, true⟩)).on w F) => by have := holder_c h (by decide) (by decide) CI.tils name now; rw [HN2] at this; exact this)
                clear HN2 hX
                generalize mset M name ⟨name, tenant, 99, e', tl, true⟩ = M' at *
                refine (on_head S6 (A' := bookT b 5 50 e' M') (v := .tuple #[aggL ⟨name, tenant, 99, e', tl, true⟩, .int .i64 0]) fun Fi h _ => by have := CC.out _ _ h; unfold ClaimEnds at this; rw [hCS] at this; exact this).mono ?_
                rintro e0 w7 ⟨rfl, F7, S7, u7⟩
                have U7 := U6.trans u7
                clear htl he'
                clear hCS CI
                go_wp2_with (refine store_new S7 rfl 26 _ _ rfl (cellsL ⟨name, tenant, 99, e', tl, true⟩) rfl rfl (sizeL zeroL) rfl (oneL ⟨name, tenant, 99, e', tl, true⟩) ?_; intro w8 F8 S8 u8 q8; clear q8)
                have U8 := U7.trans u8
                refine (on_head_same S8 fun Fi h _ => HC2.out _ _ h).mono ?_
                rintro e0 w9 ⟨rfl, F9, S9, u9⟩
                have U9 := U8.trans u9
                have et : (tenant.toList == tenant.toList) = true := by simp
                go_wp2_with (refine store_new S9 rfl 26 _ _ rfl (cellsL ⟨name, tenant, 99, e', tl, true⟩) rfl rfl (sizeL zeroL) rfl (oneL ⟨name, tenant, 99, e', tl, true⟩) ?_; intro w10 F10 S10 u10 q10)
                have U10 := U9.trans u10
                go_ret
                exact ⟨rfl, U10.quiet⟩
end leaseOne
end Go.Proofs.YtefnfhhdcginmaaDoor
