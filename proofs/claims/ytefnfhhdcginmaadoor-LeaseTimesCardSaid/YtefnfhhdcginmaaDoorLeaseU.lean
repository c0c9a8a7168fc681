/- The statement LeaseEpochs. -/
import Derived.Test.YtefnfhhdcginmaaDoorLeaseT
import Derived.Deep.RegionHeld3
set_option linter.unusedVariables false
namespace Go.Proofs.YtefnfhhdcginmaaDoor
open Go.ChangeShapes Go.WideShapes Go.ChangeAt Go.RowKit Go.Sub Go.ChangeMaps
/-- what a call can come to -/
inductive DoKind (e : Int) (M : LT) (o : LO) : Int × LT × Lz × Int → Prop where
  | bad (er : Int) (h : er ≠ 0) : DoKind e M o (e, M, zeroL, er)
  | silent (M' : LT) (h : o.what ≠ 2) : DoKind e M o (e, M', zeroL, 0)
  | renew (M' : LT) (x : Lz) (h : o.what = 2) (hx : x.epoch = o.epoch) (h1 : 1 ≤ x.epoch) (h2 : x.epoch ≤ e) : DoKind e M o (e, M', x, 0)
  | claim (M' : LT) (x : Lz) (h : o.what ≠ 2) (hx : x.epoch = e + 1) (h1 : x.held = true) (h2 : o.now < x.til) : DoKind e M o (e + 1, M', x, 0)
theorem ownErr_cases {g : Int} {M : LT} {tenant nm : ByteArray} {epoch now : Int} (h : ownErr g M tenant nm epoch now ≠ 0) : True := trivial
theorem does_kind {g m e : Int} {M : LT} (I : InvB e M) (m0 : 1 ≤ m) (o : LO) : DoKind e M o (doesS g m e M o) := by
  unfold doesS
  by_cases h2 : o.what = 2
  · rw [if_pos h2]
    unfold renewS
    split
    · exact .bad 1 (by decide)
    · split
      · rename_i ho
        obtain ⟨hn, x, hx, _, _, hep⟩ := own_found ho
        rw [hx]
        obtain ⟨_, _, h3, _⟩ := I.get hx
        exact .renew _ _ h2 hep h3.1 h3.2
      · rename_i ho
        exact .bad _ ho
  rw [if_neg h2]
  split
  · unfold releaseS
    split
    · exact .silent _ h2
    · rename_i ho
      exact .bad _ ho
  split
  · exact .silent _ h2
  split
  · exact .silent _ h2
  split
  · exact .silent _ h2
  unfold claimS
  split
  · exact .bad 1 (by decide)
  · rename_i hok
    have hck : (nameB o.tenant.data.toList && (nameB o.name.data.toList && (clockB o.now && timeB o.ttl))) = true := by simpa only [Bool.not_eq_false] using hok
    simp only [Bool.and_eq_true] at hck
    obtain ⟨a, b⟩ := timeB_iff.1 hck.2.2.2
    split
    · split
      · exact .bad 2 (by decide)
      · exact .claim _ _ h2 rfl rfl (by simp only; omega)
    · split
      · exact .bad 131 (by decide)
      · split
        · exact .bad 4 (by decide)
        · exact .claim _ _ h2 rfl rfl (by simp only; omega)
namespace leaseEpochs
set_option maxHeartbeats 8000000 in
set_option maxRecDepth 100000 in
theorem walk {W : World} (v : Value) (L : List LO) (hL : ReadsLO W v L) (hmax : L.length ≤ maxLen) :
    Calls Tryd.prog 6 #[v] W (Ret (.bool true) fun W' => Quiet W W') := by
  obtain ⟨a, cap, rfl, ha⟩ := hL.1
  have HL := Keep.mk hL
  have HN := Keep.mk (fun w : World => new_yes (w := w) (g := 5) (m := 50) (by decide) (by decide))
  clear hL
  go_enter Tryd.func6, Tryd.ntmps6
  go_wp2_with fail
  refine (head_c).mono ?_
  rintro e0 w0 ⟨rfl, q0⟩
  go_wp2_with fail
  refine (HN.out _).mono ?_
  rintro e0 w1 ⟨b, rfl, F1, h1, u1⟩
  have u1 := q0.trans u1
  have hR1 := HL.out.1.upd (u1.quiet) fun _ _ h => h
  have GC := Keep.mk (great_c (⟨hR1, HL.out.2⟩ : ReadsLO w1 _ L) hmax)
  have H1 := Keep.mk (And.intro h1 u1)
  clear h1 u1 q0 hR1
  go_wp2_with fail
  refine GC.out.mono ?_
  rintro e0 w2 ⟨r, rfl, ⟨n, rfl⟩, hr⟩
  cases r with
  | true =>
    go_wp2_with fail
    go_ret
    exact ⟨rfl, (H1.out.2.drewN n).quiet⟩
  | false =>
    have hF : L.length ≤ 300 := hr rfl
    have I0 := fun k => runB_inv (g := 5) (m := 50) (by decide) (by decide) (by decide) (by decide) (L.take k) (fun o ho => HL.out.2 o (List.mem_of_mem_take ho))
    have I1 := Keep.mk (fun k => And.intro (I0 k).1 (Int.le_trans (I0 k).2 (show (((L.take k).length : Nat) : Int) ≤ 300 by rw [List.length_take]; omega)))
    clear hr I0
    go_wp2_with fail
    go_loopw [5, 6] (fun la i wr => ∃ (k : Nat) (F' : Fp), k ≤ L.length ∧ i = .int .i64 k ∧ la = .int .i64 (runB 5 50 (L.take k)).1 ∧ (bookT b 5 50 (runB 5 50 (L.take k)).1 (runB 5 50 (L.take k)).2).on wr F' ∧ Upd none' F' W wr) (fun _ i _ => L.length - (RowKit.intOf i).toNat)
    case atStart => exact ⟨0, F1, by omega, rfl, rfl, Asrt.drewN H1.out.1 n, H1.out.2.drewN n⟩
    case round =>
      obtain ⟨k, F', hk, rfl, rfl, hB, hU⟩ := hrel
      by_cases hlt : k < L.length
      · obtain ⟨g, off, rfl, hg, hc⟩ := ha k L[k] (List.getElem?_eq_getElem hlt)
        have UU := fun j u h => (hU.quiet.cell (a := ⟨g, j, none⟩) hg id).trans (h : W.cell? ⟨g, j, none⟩ = some u)
        have k0 := UU _ _ (hc 0 _ rfl)
        have k1 := UU _ _ (hc 1 _ rfl)
        have k2 := UU _ _ (hc 2 _ rfl)
        have k3 := UU _ _ (hc 3 _ rfl)
        have k4 := UU _ _ (hc 4 _ rfl)
        have k5 := UU _ _ (hc 5 _ rfl)
        have k6 := UU _ _ (hc 6 _ rfl)
        have hok := HL.out.2 L[k] (List.getElem_mem hlt)
        have hsn := runB_snoc 5 50 (L.take k) L[k]
        rw [← List.take_succ_eq_append_getElem hlt] at hsn
        obtain ⟨IV, hle⟩ := I1.out k
        have hkind := does_kind (g := 5) (m := 50) IV (by decide) L[k]
        have D := does_c hB IV (by omega) (by decide) (by decide) (by decide) (by decide) L[k] hok.1 hok.2.1
        have e0' := IV.e0
        generalize runB 5 50 (L.take k) = S at *
        obtain ⟨e, M⟩ := S
        have HS := Keep.mk hsn
        generalize L[k] = o at *
        simp only at hkind D HS hle e0'
        have C := Keep.mk D
        obtain ⟨wh, tenant, name, conn, epoch, now, ttl⟩ := o
        simp only [Nat.add_zero] at k0 k1 k2 k3 k4 k5 k6
        have HU := Keep.mk (fun {w' : World} {F'' : Fp} (u : Upd F' F'' wr w') => hU.trans u)
        have KC := Keep.mk (fun {w' : World} {F'' : Fp} (u : Upd F' F'' wr w') => (fun j u' h => ((hU.trans u).quiet.cell (a := ⟨g, j, none⟩) hg id).trans (h : W.cell? ⟨g, j, none⟩ = some u') : ∀ j u', W.cell? ⟨g, j, none⟩ = some u' → w'.cell? ⟨g, j, none⟩ = some u'))
        have hc := Keep.mk hc
        clear hsn D UU hB hok IV hle hU
        have C := C.out
        unfold DoEnds at C
        generalize hD : doesS 5 50 e M ⟨wh, tenant, name, conn, epoch, now, ttl⟩ = R at *
        clear hD
        replace C := Keep.mk C
        cases hkind with
        | bad er her =>
          have ne : (er != 0) = true := by simp [her]
          have her := Keep.mk her
          simp only at C
          go_wp2_with fail
          refine C.out.mono ?_
          rintro e0 w3 ⟨rfl, F3, h3, u3⟩
          have S3 := Asrt.stars_one h3
          go_wp2_with (refine store_new S3 rfl 26 _ _ rfl (cellsL zeroL) rfl rfl (sizeL zeroL) rfl (oneL zeroL) ?_; intro w4 F4 S4 U4 q4; clear q4)
          have h4 := does_end S4 (HU.out (u3.trans U4))
          clear S4 U4 u3 h3 S3
          obtain ⟨F5, h5, u5⟩ := h4
          go_roundw
          case rel => exact ⟨k + 1, F5, by omega, by go_num, by rw [HS.out], by rw [HS.out]; exact h5, u5⟩
          case measure => simp [RowKit.intOf]; omega
        | silent M' hw =>
          simp only at C
          go_wp2_with fail
          refine C.out.mono ?_
          rintro e0 w3 ⟨rfl, F3, h3, u3⟩
          have S3 := Asrt.stars_one h3
          go_wp2_with (refine store_new S3 rfl 26 _ _ rfl (cellsL zeroL) rfl rfl (sizeL zeroL) rfl (oneL zeroL) ?_; intro w4 F4 S4 U4 q4)
          have h4 := does_end S4 (HU.out (u3.trans U4))
          clear S4 U4 u3 h3 S3
          obtain ⟨F5, h5, u5⟩ := h4
          go_roundw
          case rel => exact ⟨k + 1, F5, by omega, by go_num, by rw [HS.out], by rw [HS.out]; exact h5, u5⟩
          case measure => simp [RowKit.intOf]; omega
        | renew M' x hw hx hx1 hx2 =>
          obtain ⟨x0, x1, x2, x3, x4, x5⟩ := x
          simp only at hw hx hx1 hx2
          subst hw
          subst hx
          have z3 : (x3 == 0) = false := by simp; omega
          have g3 : decide (e < x3) = false := by simp; omega
          have HX := Keep.mk (And.intro hx1 hx2)
          clear hx1 hx2
          simp only at C
          go_wp2_with fail
          refine C.out.mono ?_
          rintro e0 w3 ⟨rfl, F3, h3, u3⟩
          have S3 := Asrt.stars_one h3
          go_wp2_with (refine store_new S3 rfl 26 _ _ rfl (cellsL ⟨x0, x1, x2, x3, x4, x5⟩) rfl rfl (sizeL zeroL) rfl (oneL ⟨x0, x1, x2, x3, x4, x5⟩) ?_; intro w4 F4 S4 U4 q4; have j0 := KC.out (u3.trans U4) _ _ (hc.out 0 _ rfl); have j4 := KC.out (u3.trans U4) _ _ (hc.out 4 _ rfl); have j5 := KC.out (u3.trans U4) _ _ (hc.out 5 _ rfl); simp only [Nat.add_zero] at j0 j4 j5)
          have h4 := does_end S4 (HU.out (u3.trans U4))
          clear S4 U4 u3 h3 S3
          go_quiet (fail)
          go_wp2_with fail
          obtain ⟨F5, h5, u5⟩ := h4
          go_roundw
          case rel => exact ⟨k + 1, F5, by omega, by go_num, by rw [HS.out], by rw [HS.out]; exact Asrt.drewN h5 _, u5.drewN _⟩
          case measure => simp [RowKit.intOf]; omega
        | claim M' x hw hx hx1 hx2 =>
          obtain ⟨x0, x1, x2, x3, x4, x5⟩ := x
          simp only at hw hx hx1 hx2
          subst hx1
          subst hx
          have n2 : (wh == 2) = false := by simp [hw]
          have z3 : (e + 1 == 0) = false := by simp; omega
          have g3 : decide (e + 1 ≤ e) = false := decide_eq_false (by omega)
          have g4 : decide (x4 ≤ now) = false := by simp; omega
          have HX := Keep.mk (And.intro hw hx2)
          clear hw hx2
          simp only at C
          go_wp2_with fail
          refine C.out.mono ?_
          rintro e0 w3 ⟨rfl, F3, h3, u3⟩
          have S3 := Asrt.stars_one h3
          go_wp2_with (refine store_new S3 rfl 26 _ _ rfl (cellsL ⟨x0, x1, x2, e + 1, x4, true⟩) rfl rfl (sizeL zeroL) rfl (oneL ⟨x0, x1, x2, e + 1, x4, true⟩) ?_; intro w4 F4 S4 U4 q4; have j0 := KC.out (u3.trans U4) _ _ (hc.out 0 _ rfl); have j4 := KC.out (u3.trans U4) _ _ (hc.out 4 _ rfl); have j5 := KC.out (u3.trans U4) _ _ (hc.out 5 _ rfl); simp only [Nat.add_zero] at j0 j4 j5)
          have h4 := does_end S4 (HU.out (u3.trans U4))
          clear S4 U4 u3 h3 S3
          go_quiet (fail)
          go_wp2_with fail
          obtain ⟨F5, h5, u5⟩ := h4
          go_roundw
          case rel => exact ⟨k + 1, F5, by omega, by go_num, by rw [HS.out], by rw [HS.out]; exact Asrt.drewN h5 _, u5.drewN _⟩
          case measure => simp [RowKit.intOf]; omega
      · go_wp2_with fail
        go_ret
        exact ⟨rfl, hU.quiet⟩
end leaseEpochs
end Go.Proofs.YtefnfhhdcginmaaDoor
