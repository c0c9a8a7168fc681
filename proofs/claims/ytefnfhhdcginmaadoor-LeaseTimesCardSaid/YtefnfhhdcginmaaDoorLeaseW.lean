/- The statement LeaseTimes. -/
import Derived.Test.YtefnfhhdcginmaaDoorLeaseV
import Derived.Test.YtefnfhhdcginmaaDoorLeaseU
import Derived.Test.YtefnfhhdcginmaaDoorSynB
set_option linter.unusedVariables false
namespace Go.Proofs.YtefnfhhdcginmaaDoor
open Go.ChangeShapes Go.WideShapes Go.ChangeAt Go.RowKit Go.Sub Go.ChangeMaps
theorem claim_err1 {g m e : Int} {M : LT} {tenant nm : ByteArray} {conn now ttl : Int} (h : (claimS g m e M tenant nm conn now ttl).2.2.2 = 1) : (nameB tenant.data.toList && (nameB nm.data.toList && (clockB now && timeB ttl))) = false := by
  unfold claimS at h
  split at h
  · assumption
  · split at h
    · split at h <;> simp at h
    · split at h
      · simp at h
      · split at h <;> simp at h
namespace leaseTimes
/-- behind the loop -/
def AfterW (W : World) (L : List LO) (b : Nat) (wr : World) : Prop := ∃ F', (bookT b 5 50 (runB 5 50 L).1 (runB 5 50 L).2).on wr F' ∧ Upd none' F' W wr
set_option maxHeartbeats 16000000 in
set_option maxRecDepth 100000 in
theorem walk {W : World} (v : Value) (L : List LO) (hL : ReadsLO W v L) (hmax : L.length ≤ maxLen) (tenant : ByteArray) (hts : tenant.size ≤ maxLen) (name : ByteArray) (hns : name.size ≤ maxLen) (now : Int) (hnw : (Lit.int .i64 now).wf = true) (ttl : Int) (htw : (Lit.int .i64 ttl).wf = true) (more : Int) (hmw : (Lit.int .u16 more).wf = true) :
    Calls Tryd.prog 8 #[v, .string tenant, .string name, .int .i64 now, .int .i64 ttl, .int .u16 more] W (Ret (.bool true) fun W' => Quiet W W') := by
  have hmm : 0 ≤ more ∧ more ≤ 65535 := by simpa [Lit.wf, IntKind.min, IntKind.max, IntKind.signed, IntKind.bits] using hmw
  obtain ⟨mm0, mm1⟩ := hmm
  obtain ⟨a, cap, rfl, ha⟩ := hL.1
  have HL := Keep.mk hL
  have HN := Keep.mk (fun w : World => new_yes (w := w) (g := 5) (m := 50) (by decide) (by decide))
  have HT := Keep.mk (And.intro hts hns)
  clear hL hts hns hnw htw hmw
  go_enter Tryd.func8, Tryd.ntmps8
  go_wp2_with fail
  refine (head_c).mono ?_
  rintro e0 w0 ⟨rfl, q0⟩
  go_wp2_with fail
  refine (HN.out _).mono ?_
  rintro e0 w1 ⟨b, rfl, F1, h1, u1⟩
  have u1 := q0.trans u1
  have hR1 := HL.out.1.upd (u1.quiet) fun _ _ h => h
  have GC := Keep.mk (great_c (⟨hR1, HL.out.2⟩ : ReadsLO w1 _ L) hmax)
  have H1 := Keep.mk (And.intro h1 u1)
  clear h1 u1 q0 hR1
  go_wp2_with fail
  refine GC.out.mono ?_
  rintro e0 w2 ⟨r, rfl, ⟨n, rfl⟩, hr⟩
  cases r with
  | true =>
    go_wp2_with fail
    go_ret
    exact ⟨rfl, (H1.out.2.drewN n).quiet⟩
  | false =>
    have hF : L.length ≤ 300 := hr rfl
    have I0 := fun k => runB_inv (g := 5) (m := 50) (by decide) (by decide) (by decide) (by decide) (L.take k) (fun o ho => HL.out.2 o (List.mem_of_mem_take ho))
    have I1 := Keep.mk (fun k => And.intro (I0 k).1 (Int.le_trans (I0 k).2 (show (((L.take k).length : Nat) : Int) ≤ 300 by rw [List.length_take]; omega)))
    clear hr I0
    cases hz : decide ((1000 : Int) < wrap64 ((tenant.size : Int) + (name.size : Int))) with
    | true =>
      go_wp2_with fail
      go_ret
      exact ⟨rfl, (H1.out.2.drewN n).quiet⟩
    | false =>
      go_wp2_with fail
      go_loopw [15] (fun i wr => ∃ (k : Nat) (F' : Fp), k ≤ L.length ∧ i = .int .i64 k ∧ (bookT b 5 50 (runB 5 50 (L.take k)).1 (runB 5 50 (L.take k)).2).on wr F' ∧ Upd none' F' W wr) (fun i _ => L.length - (RowKit.intOf i).toNat)
      case atStart => exact ⟨0, F1, by omega, rfl, Asrt.drewN H1.out.1 n, H1.out.2.drewN n⟩
      case round =>
        obtain ⟨k, F', hk, rfl, hB, hU⟩ := hrel
        by_cases hlt : k < L.length
        · obtain ⟨g, off, rfl, hg, hc⟩ := ha k L[k] (List.getElem?_eq_getElem hlt)
          have hok := HL.out.2 L[k] (List.getElem_mem hlt)
          have hsn := runB_snoc 5 50 (L.take k) L[k]
          rw [← List.take_succ_eq_append_getElem hlt] at hsn
          obtain ⟨IV, hle⟩ := I1.out k
          have hkind := does_kind (g := 5) (m := 50) IV (by decide) L[k]
          have D := fun (w : World) (F : Fp) (h : (bookT b 5 50 (runB 5 50 (L.take k)).1 (runB 5 50 (L.take k)).2).on w F) => does_c h IV (by omega) (by decide) (by decide) (by decide) (by decide) L[k] hok.1 hok.2.1
          generalize runB 5 50 (L.take k) = S at *
          obtain ⟨e, M⟩ := S
          have HS := Keep.mk hsn
          simp only at IV hB hle
          have hlen := allS_len IV
          have AC := Keep.mk (fun (w : World) (F : Fp) (l : List Asrt) (h : (Asrt.stars (bookT b 5 50 e M :: l)).on w F) => all_on IV h rfl)
          generalize L[k] = o at *
          simp only at D HS hkind
          obtain ⟨wh, tenant', name', conn, epoch, now', ttl'⟩ := o
          have KC := Keep.mk (fun {w' : World} {F'' : Fp} (u : Upd none' F'' W w') => (fun j u' h => (u.quiet.cell (a := ⟨g, j, none⟩) hg id).trans (h : W.cell? ⟨g, j, none⟩ = some u') : ∀ j u', W.cell? ⟨g, j, none⟩ = some u' → w'.cell? ⟨g, j, none⟩ = some u'))
          have hc := Keep.mk hc
          clear hsn hok IV hle
          unfold DoEnds at D
          generalize hD : doesS 5 50 e M ⟨wh, tenant', name', conn, epoch, now', ttl'⟩ = R at *
          clear hD
          replace D := Keep.mk D
          generalize allS M = A at *
          have HB := Keep.mk (And.intro hB hU)
          clear hB hU
          go_wp2_with fail
          refine (AC.out _ _ [] (Asrt.stars_one HB.out.1)).mono ?_
          rintro e0 w3 ⟨va, rfl, F3, S3, u3⟩
          have U3 := HB.out.2.trans u3
          have k0 := KC.out U3 _ _ (hc.out 0 _ rfl)
          have k1 := KC.out U3 _ _ (hc.out 1 _ rfl)
          have k2 := KC.out U3 _ _ (hc.out 2 _ rfl)
          have k3 := KC.out U3 _ _ (hc.out 3 _ rfl)
          have k4 := KC.out U3 _ _ (hc.out 4 _ rfl)
          have k5 := KC.out U3 _ _ (hc.out 5 _ rfl)
          have k6 := KC.out U3 _ _ (hc.out 6 _ rfl)
          simp only [Nat.add_zero] at k0 k1 k2 k3 k4 k5 k6
          go_wp2_with fail
          cases hkind with
          | bad er her =>
            have ne : (er != 0) = true := by simp [her]
            have her := Keep.mk her
            refine (on_head S3 (A' := bookT b 5 50 e M) (v := .tuple #[aggL zeroL, .int .i64 er]) fun Fi h _ => D.out _ _ h).mono ?_
            rintro e0 w4 ⟨rfl, F4, S4, u4⟩
            have U4 := U3.trans u4
            clear k0 k1 k2 k3 k4 k5 k6
            go_wp2_with (refine store_new S4 rfl 26 _ _ rfl (cellsL zeroL) rfl rfl (sizeL zeroL) rfl (oneL zeroL) ?_; intro w5 F5 S5 u5 q5)
            have U5 := U4.trans u5
            refine (AC.out _ _ _ S5).mono ?_
            rintro e0 w6 ⟨vb, rfl, F6, S6, u6⟩
            have U6 := U5.trans u6
            have q6 := (box_cell (i := 2) S6 rfl).1
            clear q5
            go_wp2_with fail
            refine (same_on S6 1 3 rfl rfl hlen).mono ?_
            rintro e0 w7 ⟨rfl, n7, rfl⟩
            have S7 := does_end (Asrt.drewN S6 n7) (U6.drewN n7)
            have ee0 : ((⟨#[]⟩ : ByteArray).toList == (⟨#[]⟩ : ByteArray).toList) = true := by simp
            go_wp2_with fail
            obtain ⟨F8, h8, u8⟩ := S7
            go_roundw
            case rel => exact ⟨k + 1, F8, by omega, by go_num, by rw [HS.out]; exact h8, u8⟩
            case measure => simp [RowKit.intOf]; omega
          | silent M' hw =>
            refine (on_head S3 (A' := bookT b 5 50 e M') (v := .tuple #[aggL zeroL, .int .i64 0]) fun Fi h _ => D.out _ _ h).mono ?_
            rintro e0 w4 ⟨rfl, F4, S4, u4⟩
            have U4 := U3.trans u4
            clear k0 k1 k2 k3 k4 k5 k6
            go_wp2_with (refine store_new S4 rfl 26 _ _ rfl (cellsL zeroL) rfl rfl (sizeL zeroL) rfl (oneL zeroL) ?_; intro w5 F5 S5 u5 q5; clear q5)
            have S7 := does_end S5 (U4.trans u5)
            obtain ⟨F8, h8, u8⟩ := S7
            go_roundw
            case rel => exact ⟨k + 1, F8, by omega, by go_num, by rw [HS.out]; exact h8, u8⟩
            case measure => simp [RowKit.intOf]; omega
          | renew M' x hw hx hx1 hx2 =>
            refine (on_head S3 (A' := bookT b 5 50 e M') (v := .tuple #[aggL x, .int .i64 0]) fun Fi h _ => D.out _ _ h).mono ?_
            rintro e0 w4 ⟨rfl, F4, S4, u4⟩
            have U4 := U3.trans u4
            clear k0 k1 k2 k3 k4 k5 k6
            go_wp2_with (refine store_new S4 rfl 26 _ _ rfl (cellsL x) rfl rfl (sizeL zeroL) rfl (oneL x) ?_; intro w5 F5 S5 u5 q5; clear q5)
            have S7 := does_end S5 (U4.trans u5)
            obtain ⟨F8, h8, u8⟩ := S7
            go_roundw
            case rel => exact ⟨k + 1, F8, by omega, by go_num, by rw [HS.out]; exact h8, u8⟩
            case measure => simp [RowKit.intOf]; omega
          | claim M' x hw hx hx1 hx2 =>
            refine (on_head S3 (A' := bookT b 5 50 (e + 1) M') (v := .tuple #[aggL x, .int .i64 0]) fun Fi h _ => D.out _ _ h).mono ?_
            rintro e0 w4 ⟨rfl, F4, S4, u4⟩
            have U4 := U3.trans u4
            clear k0 k1 k2 k3 k4 k5 k6
            go_wp2_with (refine store_new S4 rfl 26 _ _ rfl (cellsL x) rfl rfl (sizeL zeroL) rfl (oneL x) ?_; intro w5 F5 S5 u5 q5; clear q5)
            have S7 := does_end S5 (U4.trans u5)
            obtain ⟨F8, h8, u8⟩ := S7
            go_roundw
            case rel => exact ⟨k + 1, F8, by omega, by go_num, by rw [HS.out]; exact h8, u8⟩
            case measure => simp [RowKit.intOf]; omega
        · obtain rfl : k = L.length := by omega
          obtain ⟨IV, hle⟩ := I1.out L.length
          generalize runB 5 50 (L.take L.length) = S at *
          obtain ⟨e, M⟩ := S
          simp only at hB IV hle
          have CC := Keep.mk (fun (w : World) (F : Fp) (h : (bookT b 5 50 e M).on w F) => claim_c h (by decide) (by decide) (by decide) (by decide) IV.e0 (by omega) IV.tils tenant name HT.out.1 HT.out.2 7 now ttl)
          have CI := (claim_inv (g := 5) (m := 50) IV (by decide) (by decide) (by decide) (by decide) tenant name HT.out.2 7 now ttl).1
          have C1 := Keep.mk (claim_err1 (g := 5) (m := 50) (e := e) (M := M) (tenant := tenant) (nm := name) (conn := 7) (now := now) (ttl := ttl))
          have HB := Keep.mk (And.intro hB hU)
          have CS := claim_says (g := 5) (m := 50) (e := e) (M := M) (by decide) tenant name 7 now ttl
          have NR1 := Keep.mk (fun w : World => nref_c (w := w) tenant HT.out.1)
          have NR2 := Keep.mk (fun w : World => nref_c (w := w) name HT.out.2)
          clear hB hU I1 IV ha hle
          rcases CS with ⟨er, her, hCS⟩ | ⟨hCS, hck, htm, his⟩
          · -- refused
            have CX := Keep.mk (fun (w : World) (F : Fp) (h : (bookT b 5 50 e M).on w F) => by have := CC.out w F h; unfold ClaimEnds at this; rw [hCS] at this; exact this)
            rw [hCS] at C1
            have ne : (er != 0) = true := by simp [her]
            clear hCS CI CC
            by_cases h1 : er = 1
            · subst h1
              have hbad := C1.out rfl
              clear C1 ne her
              go_wp2_with fail
              refine (CX.out _ _ HB.out.1).mono ?_
              rintro e0 w3 ⟨rfl, F3, h3, u3⟩
              have U3 := HB.out.2.trans u3
              go_wp2_with (refine store_new (Asrt.stars_one h3) rfl 26 _ _ rfl (cellsL zeroL) rfl rfl (sizeL zeroL) rfl (oneL zeroL) ?_; intro w5 F5 S5 u5 q5; clear q5)
              have U5 := Keep.mk (U3.trans u5).quiet
              refine (NR1.out _).mono ?_
              rintro e0 w6 ⟨rfl, rfl⟩
              cases t1 : nameB tenant.data.toList with
              | false =>
                go_wp2_with fail
                go_ret
                exact ⟨rfl, U5.out⟩
              | true =>
                go_wp2_with fail
                refine (NR2.out _).mono ?_
                rintro e0 w6 ⟨rfl, rfl⟩
                cases t2 : nameB name.data.toList with
                | false =>
                  go_wp2_with fail
                  go_ret
                  exact ⟨rfl, U5.out⟩
                | true =>
                  rw [t1, t2] at hbad
                  simp only [Bool.true_and] at hbad
                  cases d0 : decide (now < 0) with
                  | true =>
                    clear hbad
                    go_wp2_with fail
                    go_ret
                    exact ⟨rfl, U5.out⟩
                  | false =>
                    cases d1 : decide (1099511627776 < now) with
                    | true =>
                      clear hbad
                      go_wp2_with fail
                      go_ret
                      exact ⟨rfl, U5.out⟩
                    | false =>
                      cases d2 : decide (ttl < 1) with
                      | true =>
                        clear hbad
                        go_wp2_with fail
                        go_ret
                        exact ⟨rfl, U5.out⟩
                      | false =>
                        have d3 : decide (1073741824 < ttl) = true := by
                          unfold clockB timeB at hbad
                          simp only [Bool.and_eq_false_iff, decide_eq_false_iff_not, decide_eq_true_eq] at hbad d0 d1 d2 ⊢
                          omega
                        clear hbad
                        go_wp2_with fail
                        go_ret
                        exact ⟨rfl, U5.out⟩
            · have ne1 : (er != 1) = true := by simp [h1]
              have her := Keep.mk (And.intro her h1)
              clear h1
              go_wp2_with fail
              refine (CX.out _ _ HB.out.1).mono ?_
              rintro e0 w3 ⟨rfl, F3, h3, u3⟩
              have U3 := HB.out.2.trans u3
              go_wp2_with (refine store_new (Asrt.stars_one h3) rfl 26 _ _ rfl (cellsL zeroL) rfl rfl (sizeL zeroL) rfl (oneL zeroL) ?_; intro w5 F5 S5 u5 q5; clear q5)
              have U5 := Keep.mk (U3.trans u5).quiet
              go_ret
              exact ⟨rfl, U5.out⟩
          · -- granted
            obtain ⟨t0, t1⟩ := timeB_iff.1 htm
            obtain ⟨n0, n1⟩ := clockB_iff.1 hck
            have HN2 := hold_new (g := 5) (m := 50) (e := e) (M := M) (by decide) tenant name 7 t0 (show now ≤ now + more by omega)
            obtain ⟨tl, htl⟩ : ∃ tl, tl = now + min ttl 50 := ⟨_, rfl⟩
            obtain ⟨e', he'⟩ : ∃ e', e' = e + 1 := ⟨_, rfl⟩
            have hX : newL tenant name 7 e now ttl 50 = ⟨name, tenant, 7, e', tl, true⟩ := by rw [htl, he']
            rw [hX, ← he'] at hCS
            rw [hX, ← htl] at HN2
            rw [hCS] at CI
            simp only at CI
            have HC2 := Keep.mk (fun (w : World) (F : Fp) (h : (bookT b 5 50 e' (mset M name ⟨name, tenant, 7, e', tl, true⟩)).on w F) => by have := holder_c h (by decide) (by decide) CI.tils name (now + more); rw [HN2] at this; exact this)
            have CX := Keep.mk (fun (w : World) (F : Fp) (h : (bookT b 5 50 e M).on w F) => by have := CC.out w F h; unfold ClaimEnds at this; rw [hCS] at this; exact this)
            have esum : wrap64 (now + min ttl 50) = tl := by rw [htl]; go_arith
            have em : wrap64 more = more := by go_arith
            obtain ⟨at', hat⟩ : ∃ at', at' = now + more := ⟨_, rfl⟩
            have eat : wrap64 (now + more) = at' := by rw [hat]; go_arith
            have HE := Keep.mk (And.intro em (And.intro eat esum))
            clear em eat esum
            clear HN2 hX CC CI hCS
            generalize mset M name ⟨name, tenant, 7, e', tl, true⟩ = M' at *
            rw [← hat] at HC2
            clear hat
            have et : (tenant.toList == tenant.toList) = true := by simp
            have et2 : (name.toList == name.toList) = true := by simp
            cases hlt2 : decide (at' < tl) with
            | true =>
              have hlt3 : at' < tl := by simpa using hlt2
              simp only [if_pos hlt3] at HC2
              clear htl he' hlt3 n0 n1 t0 t1 mm0 mm1
              go_wp2_with fail
              refine (CX.out _ _ HB.out.1).mono ?_
              rintro e0 w3 ⟨rfl, F3, h3, u3⟩
              have U3 := HB.out.2.trans u3
              go_wp2_with (refine store_new (Asrt.stars_one h3) rfl 26 _ _ rfl (cellsL ⟨name, tenant, 7, e', tl, true⟩) rfl rfl (sizeL zeroL) rfl (oneL ⟨name, tenant, 7, e', tl, true⟩) ?_; intro w5 F5 S5 u5 q5; clear q5)
              have U5 := U3.trans u5
              rw [HE.out.1, HE.out.2.1]
              refine (on_head_same S5 fun Fi h _ => HC2.out _ _ h).mono ?_
              rintro e0 w6 ⟨rfl, F6, S6, u6⟩
              have U6 := U5.trans u6
              have hesum := HE.out.2.2
              go_wp2_with (refine store_new S6 rfl 26 _ _ rfl (cellsL ⟨name, tenant, 7, e', tl, true⟩) rfl rfl (sizeL zeroL) rfl (oneL ⟨name, tenant, 7, e', tl, true⟩) ?_; intro w7 F7 S7 u7 q7; have j5 := (box_cell (i := 2) S7 rfl).1)
              go_ret
              exact ⟨rfl, (U6.trans u7).quiet⟩
            | false =>
              have hlt3 : ¬ at' < tl := by simpa using hlt2
              simp only [if_neg hlt3] at HC2
              clear htl he' hlt3 n0 n1 t0 t1 mm0 mm1
              go_wp2_with fail
              refine (CX.out _ _ HB.out.1).mono ?_
              rintro e0 w3 ⟨rfl, F3, h3, u3⟩
              have U3 := HB.out.2.trans u3
              go_wp2_with (refine store_new (Asrt.stars_one h3) rfl 26 _ _ rfl (cellsL ⟨name, tenant, 7, e', tl, true⟩) rfl rfl (sizeL zeroL) rfl (oneL ⟨name, tenant, 7, e', tl, true⟩) ?_; intro w5 F5 S5 u5 q5; clear q5)
              have U5 := U3.trans u5
              rw [HE.out.1, HE.out.2.1]
              refine (on_head_same S5 fun Fi h _ => HC2.out _ _ h).mono ?_
              rintro e0 w6 ⟨rfl, F6, S6, u6⟩
              have U6 := U5.trans u6
              have hesum := HE.out.2.2
              go_wp2_with (refine store_new S6 rfl 26 _ _ rfl (cellsL zeroL) rfl rfl (sizeL zeroL) rfl (oneL zeroL) ?_; intro w7 F7 S7 u7 q7; have j5 := (box_cell (i := 2) S7 rfl).1)
              go_ret
              exact ⟨rfl, (U6.trans u7).quiet⟩
end leaseTimes
end Go.Proofs.YtefnfhhdcginmaaDoor
