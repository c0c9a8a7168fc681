/- PortsClaims: its walk. -/
import Derived.Test.YtpjfakmalhenjaaDoorPortsP
import Derived.Test.YtpjfakmalhenjaaDoorSubY
import Derived.Deep.RegionHeld3
import Derived.Deep.CutBlock
import Derived.Deep.DeepCutAuto
import Derived.StillTailTactics
set_option linter.unusedVariables false
set_option linter.unusedSimpArgs false
namespace Go.Proofs.YtpjfakmalhenjaaDoor
open Go.RowKit Go.Sub Go.Shelf Go.Sort Go.ChangeMaps
namespace portsClaims
theorem name_small {p : Int} (h0 : 20000 ≤ p) (h1 : p ≤ 20063) : (strB (nameS p)).size ≤ maxLen := by
  rw [strB_size]
  have := (nameB_iff _).1 (name_port h0 h1)
  unfold maxLen; omega
theorem ann_ok : nameB sAnn.data.toList = true ∧ sAnn.size ≤ maxLen := ⟨by decide, by decide⟩
theorem bob_ok : nameB sBob.data.toList = true ∧ sBob.size ≤ maxLen := ⟨by decide, by decide⟩
set_option maxHeartbeats 16000000 in
set_option maxRecDepth 100000 in
theorem walk {W : World} (ht : Tab10 W) (v : Value) (who : List UInt8) (hb : Bytes W v who) (hwl : who.length ≤ maxLen) (tenant : ByteArray) (hts : tenant.size ≤ maxLen) (now : Int) (hnw : (Lit.int .u8 now).wf = true) :
    Calls Tryd.prog 7 #[v, .string tenant, .int .u8 now] W (Ret (.bool true) fun W' => Quiet W W') := by
  obtain ⟨n0, n1⟩ : 0 ≤ now ∧ now ≤ 255 := by simpa [Lit.wf, IntKind.min, IntKind.max, IntKind.signed, IntKind.bits] using hnw
  obtain ⟨a, cap, rfl, hcap⟩ := hb.slice
  have HT := Keep.mk ht
  have HB := Keep.mk hb
  clear hnw ht hb hcap
  go_enter Tryd.func7, Tryd.ntmps7
  go_wp2_with fail
  refine (head_c HT.out).mono ?_
  rintro e w1 ⟨rfl, q1⟩
  go_wp2_with fail
  refine (new_b q1).mono ?_
  rintro e w2 ⟨b, rfl, B2⟩
  have B2 := Keep.mk B2
  clear q1
  cases hz : decide ((100 : Int) < (who.length : Int)) with
  | true =>
    go_wp2_with fail
    go_ret
    exact ⟨rfl, B2.out.fin⟩
  | false =>
    have hlen : who.length ≤ 100 := by have := of_decide_eq_false hz; omega
    have CN := Keep.mk (sname_c (w := w2) tenant hts)
    cases hnm : nameB tenant.data.toList with
    | false =>
      rw [hnm] at CN
      go_wp2_with fail
      refine CN.out.mono ?_
      rintro e w3 ⟨rfl, q3⟩
      go_wp2_with fail
      go_ret
      exact ⟨rfl, (B2.out.quiet q3).fin⟩
    | true =>
      rw [hnm] at CN
      go_wp2_with fail
      refine CN.out.mono ?_
      rintro e w3 ⟨rfl, q3⟩
      have B3 := Keep.mk (B2.out.quiet q3)
      clear q3 B2 CN
      go_wp2_with fail
      go_loopw [9, 10] (fun av i wr => ∃ (k : Nat) (a1 e : Int) (M : LT), k ≤ who.length ∧ i = .int .i64 k ∧ av = .int .i64 a1 ∧ 0 ≤ a1 ∧ a1 ≤ k ∧ e ≤ k ∧ InvB e M ∧ PNames M ∧ Bs W b e M [] wr) (fun _ i _ => who.length - (RowKit.intOf i).toNat)
      case atStart => exact ⟨0, 0, 0, [], by omega, rfl, rfl, by omega, by omega, by omega, InvB.new, (fun p h => by cases h), B3.out⟩
      case round =>
        obtain ⟨k, a1, e, M, hk, rfl, rfl, ha0, ha1, he, hI, hP, hB⟩ := hrel
        have I := Keep.mk (And.intro hI hP)
        have B := Keep.mk hB
        clear hI hP hB B3
        by_cases hlt : k < who.length
        · as_aux_lemma =>
          obtain ⟨g, off, rfl, hg, hc0⟩ := (HB.out).at' k hlt
          have KB : ∀ {l : List Asrt} {e : Int} {M : LT} {w : World}, Bs W b e M l w → w.cell? ⟨g, off + k, none⟩ = some (.int .u8 (who[k].toNat : Int)) := fun h => by
            obtain ⟨g', off', he, _, hc⟩ := (h.bytes HB.out).at' k hlt
            cases he
            exact hc
          have hc1 : (who[k].toNat : Int) ≤ 255 := by have := who[k].toNat_lt; omega
          have hc2 : 0 ≤ (who[k].toNat : Int) := by omega
          generalize (who[k].toNat : Int) = c at *
          have k0 := KB B.out
          have KB := Keep.mk @KB
          clear hc0
          go_upto_if 54 with fail
          go_cut [11] (fun tv wx => ∃ bt : ByteArray, tv = .string bt ∧ (nameB bt.data.toList = true ∧ bt.size ≤ maxLen) ∧ wx = wr)
          case first =>
            go_wp2_with fail
            all_goals
              go_meet
              first | exact ⟨sBob, rfl, bob_ok, rfl⟩ | exact ⟨sAnn, rfl, ann_ok, rfl⟩
          case rest =>
            obtain ⟨bt, rfl, hbt, rfl⟩ := hcut
            go_upto_if 60 with fail
            go_cut [9] (fun av wx => ∃ a2 : Int, av = .int .i64 a2 ∧ (0 ≤ a2 ∧ a2 ≤ k + 1) ∧ wx = wc)
            case first =>
              go_wp2_with fail
              all_goals
                go_meet
                first | exact ⟨a1, rfl, by omega, rfl⟩ | exact ⟨a1 + 1, rfl, by omega, rfl⟩
            case rest =>
              obtain ⟨a2, rfl, ha2, rfl⟩ := hcut
              go_wp2_with fail
              · refine (B.out.all I.out.1).mono ?_
                rintro e1 w4 ⟨va, rfl, B4, R4⟩
                have HL := allS_le I.out.1
                obtain ⟨aa, ca, rfl, hca⟩ := R4
                cases hA : allS M with
                | nil =>
                  rw [hA] at hca HL
                  clear hca HL
                  go_wp2_with fail
                  go_roundw
                  case rel => exact ⟨k + 1, a2, e, M, by omega, by go_num, rfl, by omega, by omega, by omega, I.out.1, I.out.2, B4⟩
                  case measure => simp [RowKit.intOf]; omega
                | cons y A' =>
                  rw [hA] at hca HL
                  obtain ⟨g2, off2, rfl, hg2, hc⟩ := hca 0 y rfl
                  have y0 : w4.cell? ⟨g2, off2, none⟩ = some (.string y.name) := by simpa using hc 0 _ rfl
                  have y1 : w4.cell? ⟨g2, off2 + 1, none⟩ = some (.string y.tenant) := by simpa using hc 1 _ rfl
                  have y3 : w4.cell? ⟨g2, off2 + 3, none⟩ = some (.int .i64 y.epoch) := by simpa using hc 3 _ rfl
                  have B4 := Keep.mk B4
                  obtain ⟨n, hn⟩ : ∃ n, (y :: A').length = n := ⟨_, rfl⟩
                  have hn0 : 0 < n := by rw [← hn]; simp
                  rw [hn] at *
                  clear hc hca hn
                  obtain ⟨M', er, hR⟩ : ∃ M' er, releaseS 4 M y.tenant y.name y.epoch a2 = (M', er) := ⟨_, _, rfl⟩
                  have I' : InvB e M' ∧ PNames M' := by
                    have h1 := release_inv (g := 4) I.out.1 (by decide) (by decide) y.tenant y.name y.epoch a2
                    have h2 := pnames_release (g := 4) I.out.2 y.tenant y.name y.epoch a2
                    rw [hR] at h1 h2
                    exact ⟨h1, h2⟩
                  have C := Keep.mk (B4.out.drew.release I.out.1 y.tenant y.name y.epoch a2 hR)
                  have I' := Keep.mk I'
                  clear hR hA
                  generalize y.name = yn at *
                  generalize y.tenant = yt at *
                  generalize y.epoch = ye at *
                  go_wp2_with fail
                  go_still_tail 14, (by kernel_rfl)
                  go_wp2_with fail
                  refine C.out.mono ?_
                  rintro e1 w5 ⟨rfl, B5⟩
                  go_wp2_with fail
                  go_roundw
                  case rel => exact ⟨k + 1, a2, e, M', by omega, by go_num, rfl, by omega, by omega, by omega, I'.out.1, I'.out.2, B5⟩
                  case measure => simp [RowKit.intOf]; omega
              · refine (B.out.all I.out.1).mono ?_
                rintro e1 w4 ⟨va, rfl, B4, R4⟩
                have C := Keep.mk (pnext_c (B4.tab HT.out) va (allS M) R4 (by have := allS_le I.out.1; omega) (allS_small I.out.1) 4 bt a2)
                unfold PNextEnds at C
                clear R4
                go_wp2_with fail
                refine C.out.mono ?_
                rintro e1 w5 ⟨rfl, q5⟩
                have B5 := Keep.mk (B4.quiet q5)
                clear C q5 B4
                cases hnx : nextP 4 bt a2 (allS M) with
                | none =>
                  go_wp2_with fail
                  go_roundw
                  case rel => exact ⟨k + 1, a2, e, M, by omega, by go_num, rfl, by omega, by omega, by omega, I.out.1, I.out.2, B5.out⟩
                  case measure => simp [RowKit.intOf]; omega
                | some p =>
                  have hp := nextP_bd hnx
                  have hck : clockB a2 = true := clockB_iff.2 (by omega)
                  have htl : timeB (IntKind.i64.wrap (1 + IntKind.i64.wrap (c.tmod 20))) = true := timeB_iff.2 (by rw [Int.tmod_eq_emod_of_nonneg hc2, IntKind.wrap_i64, IntKind.wrap_i64]; omega)
                  have hR := claim_next (m := 100) I.out.1 I.out.2 hbt.1 hck htl hnx 1
                  have I' := claim_inv (g := 4) (m := 100) I.out.1 (by decide) (by decide) (by decide) (by decide) bt (strB (nameS p)) (name_small hp.1 hp.2) 1 a2 (IntKind.i64.wrap (1 + IntKind.i64.wrap (c.tmod 20)))
                  rw [hR] at I'
                  have P' := pnames_set I.out.2 (nm := strB (nameS p)) (x := newL bt (strB (nameS p)) 1 e a2 (IntKind.i64.wrap (1 + IntKind.i64.wrap (c.tmod 20))) 100) ⟨p, port_name hp.1 hp.2⟩
                  generalize newL bt (strB (nameS p)) 1 e a2 (IntKind.i64.wrap (1 + IntKind.i64.wrap (c.tmod 20))) 100 = y at *
                  generalize mset M (strB (nameS p)) y = M' at *
                  have I' := Keep.mk (And.intro I'.1 P')
                  have CC := Keep.mk (fun {l : List Asrt} {w' : World} (h : Bs W b e M l w') => h.claim I.out.1 (by omega) bt (strB (nameS p)) hbt.2 (name_small hp.1 hp.2) 1 a2 (IntKind.i64.wrap (1 + IntKind.i64.wrap (c.tmod 20))) hR)
                  have NC := Keep.mk (fun {l : List Asrt} {w' : World} (h : Bs W b e M l w') => name_c (h.tab HT.out) p)
                  clear hnx hR P' hck htl
                  have s0 := KB.out B5.out.drew
                  go_upto_region 20 with fail
                  go_cut [16] (fun ev wx => ev = .int .i64 0 ∧ Bs W b (e + 1) M' [] wx)
                  case first =>
                    clear HB ha0 ha1 he hg hlen hz hnm hts hwl n0 n1 hbt ha2 hp
                    go_region_held3 (fun w' => w'.cell? ⟨g, off + k, none⟩ = some (.int .u8 c)) (first | with_reducible exact K6.out _ _ _ _ _ _ | with_reducible exact s0 | with_reducible exact KB.out BC | with_reducible exact KB.out BN | with_reducible exact KB.out BC.box | with_reducible exact KB.out (BC.boxx y) | with_reducible exact KB.out BN.box | with_reducible exact KB.out B5.out.box.drew | go_keep)
                      (first | (go_at_call 17; (with_reducible refine (NC.out B5.out.drew).mono ?_); rintro e wN ⟨rfl, qN⟩; have BN := Bs.quiet B5.out.drew qN) | (go_at_call 17; (with_reducible refine (NC.out B5.out.box.drew).mono ?_); rintro e wN ⟨rfl, qN⟩; have BN := Bs.quiet B5.out.box.drew qN) | (go_at_call 23; (with_reducible refine (CC.out BN).mono ?_); rintro e wC ⟨rfl, BC⟩; have BX := Bx.of BC; obtain ⟨zc, zf⟩ := BC.boxed; have z0 := zc 0; have f0 := zf 0; have z1 := zc 1; have f1 := zf 1; have z2 := zc 2; have f2 := zf 2; have z3 := zc 3; have f3 := zf 3; have z4 := zc 4; have f4 := zf 4; have z5 := zc 5; have f5 := zf 5; clear zc zf; have K6 := fun u0 u1 u2 u3 u4 u5 => KB.out (Bx.less (Bx.set (Bx.set (Bx.set (Bx.set (Bx.set (Bx.set BX 0 u0) 1 u1) 2 u2) 3 u3) 4 u4) 5 u5)); have B6 := fun u0 u1 u2 u3 u4 u5 => (Bx.less (Bx.set (Bx.set (Bx.set (Bx.set (Bx.set (Bx.set BX 0 u0) 1 u1) 2 u2) 3 u3) 4 u4) 5 u5)); clear BX; have K6 := Keep.mk K6; have B6 := Keep.mk B6) | (go_at_call 23; (with_reducible refine (CC.out BN.box).mono ?_); rintro e wC ⟨rfl, BC⟩; have BX := Bx.of BC; obtain ⟨zc, zf⟩ := BC.boxed; have z0 := zc 0; have f0 := zf 0; have z1 := zc 1; have f1 := zf 1; have z2 := zc 2; have f2 := zf 2; have z3 := zc 3; have f3 := zf 3; have z4 := zc 4; have f4 := zf 4; have z5 := zc 5; have f5 := zf 5; clear zc zf; have K6 := fun u0 u1 u2 u3 u4 u5 => KB.out (Bx.less (Bx.set (Bx.set (Bx.set (Bx.set (Bx.set (Bx.set BX 0 u0) 1 u1) 2 u2) 3 u3) 4 u4) 5 u5)); have B6 := fun u0 u1 u2 u3 u4 u5 => (Bx.less (Bx.set (Bx.set (Bx.set (Bx.set (Bx.set (Bx.set BX 0 u0) 1 u1) 2 u2) 3 u3) 4 u4) 5 u5)); clear BX; have K6 := Keep.mk K6; have B6 := Keep.mk B6) | (go_at_call 23; (with_reducible refine (CC.out BN).mono ?_); rintro e wC ⟨rfl, BC⟩))
                    all_goals
                      (try go_wp2_with fail)
                      go_meet
                      refine ⟨rfl, ?_⟩; first | with_reducible exact B6.out _ _ _ _ _ _ | with_reducible exact (BC.boxx y).less
                  case rest =>
                    obtain ⟨rfl, BS⟩ := hcut
                    go_wp2_with fail
                    go_roundw
                    case rel => exact ⟨k + 1, a2, e + 1, M', by omega, by go_num, rfl, by omega, by omega, by omega, I'.out.1, I'.out.2, BS⟩
                    case measure => simp [RowKit.intOf]; omega
        · obtain rfl : k = who.length := by omega
          as_aux_lemma =>
          have hA3 : 0 ≤ (a1 + now % 8) ∧ (a1 + now % 8) ≤ 200 := by omega
          have hck : clockB (a1 + now % 8) = true := clockB_iff.2 (by omega)
          clear hA3 hlt
          go_wp2_with fail
          generalize (a1 + now % 8) = a3 at *
          refine (B.out.all I.out.1).mono ?_
          rintro e1 w4 ⟨va, rfl, B4, R4⟩
          have C := Keep.mk (pnext_c (B4.tab HT.out) va (allS M) R4 (by have := allS_le I.out.1; omega) (allS_small I.out.1) 4 tenant a3)
          unfold PNextEnds at C
          clear R4
          go_wp2_with fail
          (with_reducible refine C.out.mono ?_)
          rintro e1 w5 ⟨rfl, q5⟩
          have B5 := Keep.mk (B4.quiet q5)
          clear C q5 B4 B
          have CL := Keep.mk (fun {q : Int} (h0 : 20000 ≤ q) (h1 : q ≤ 20063) (h : ∀ p, nextP 4 tenant a3 (allS M) = some p → q < p) => claim_less (m := 100) I.out.1 hnm hck (show timeB 5 = true by decide) h0 h1 h 2)
          have CC := Keep.mk (fun {l : List Asrt} {w' : World} {q : Int} (h0 : 20000 ≤ q) (h1 : q ≤ 20063) {e' : Int} {M' : LT} {y : Lz} {er : Int} (hR : claimS 4 100 e M tenant (strB (nameS q)) 2 a3 5 = (e', M', y, er)) (h : Bs W b e M l w') => h.claim I.out.1 (by omega) tenant (strB (nameS q)) hts (name_small h0 h1) 2 a3 5 hR)
          have NC := Keep.mk (fun {l : List Asrt} {w' : World} (q : Int) (h : Bs W b e M l w') => name_c (h.tab HT.out) q)
          have CX := Keep.mk (fun {p : Int} (h : nextP 4 tenant a3 (allS M) = some p) => claim_next (m := 100) I.out.1 I.out.2 hnm hck (show timeB 5 = true by decide) h 2)
          clear hz hnm hck I HB hk he ha0 ha1 hlen
          cases hnx : nextP 4 tenant a3 (allS M) with
          | none =>
            as_aux_lemma =>
            rw [hnx] at CL
            clear CX
            go_wp2_with fail
            go_loopw [19] (fun qv wr => ∃ j : Nat, j ≤ 64 ∧ qv = .int .i64 (20000 + (j : Int)) ∧ Bs W b e M [] wr) (fun qv _ => (20064 - RowKit.intOf qv).toNat)
            case atStart => exact ⟨0, by omega, rfl, B5.out⟩
            case round =>
              obtain ⟨j, hj, rfl, hB⟩ := hrel
              have B := Keep.mk hB
              clear hB B5
              by_cases hlt : j < 64
              · obtain ⟨er, hne, hR⟩ := CL.out (q := 20000 + (j : Int)) (by omega) (by omega) (fun p h => by cases h)
                have hne : (er == 0) = false := by simpa using hne
                have CC := Keep.mk (fun {l : List Asrt} {w' : World} (h : Bs W b e M l w') => CC.out (by omega) (by omega) hR h)
                clear hR CL
                go_wp2_with fail
                (with_reducible refine (NC.out _ B.out).mono ?_)
                rintro e1 w6 ⟨rfl, q6⟩
                have B6 := B.out.quiet q6
                go_wp2_with fail
                (with_reducible refine (CC.out B6).mono ?_)
                rintro e1 w7 ⟨rfl, F7, S7, U7⟩
                go_wp2_with (refine store_new S7 rfl 34 _ _ rfl (cellsL zeroL) rfl rfl (sizeL zeroL) rfl (oneL zeroL) ?_; intro w8 F8 S8 U8 q8)
                have B8 : Bs W b e M [] w8 := Bs.less ⟨F8, S8, U7.trans U8⟩
                go_roundw
                case rel => exact ⟨j + 1, by omega, by go_num, B8⟩
                case measure => simp [RowKit.intOf]; omega
              · obtain rfl : j = 64 := by omega
                go_wp2_with fail
                go_ret
                exact ⟨rfl, B.out.fin⟩
          | some p =>
            as_aux_lemma =>
            have hp := nextP_bd hnx
            have hR := CX.out hnx
            have hCL := Keep.mk (fun {q : Int} (h0 : 20000 ≤ q) (h : q < p) => CL.out h0 (by omega) (fun p' h' => by rw [hnx] at h'; cases h'; exact h))
            have CF := Keep.mk (fun {l : List Asrt} {w' : World} (h : Bs W b e M l w') => CC.out hp.1 hp.2 hR h)
            clear CX CL hR
            generalize hy : newL tenant (strB (nameS p)) 2 e a3 5 100 = y at *
            have hyt : y.tenant = tenant := by rw [← hy]
            generalize mset M (strB (nameS p)) y = M' at *
            clear hy
            go_wp2_with fail
            go_loopw [19] (fun qv wr => ∃ j : Nat, 20000 + (j : Int) ≤ p ∧ qv = .int .i64 (20000 + (j : Int)) ∧ Bs W b e M [] wr) (fun qv _ => (20064 - RowKit.intOf qv).toNat)
            case atStart => exact ⟨0, by omega, rfl, B5.out⟩
            case round =>
              obtain ⟨j, hj, rfl, hB⟩ := hrel
              have B := Keep.mk hB
              clear hB B5
              by_cases hlt : 20000 + (j : Int) < p
              · as_aux_lemma =>
                obtain ⟨er, hne, hR⟩ := hCL.out (q := 20000 + (j : Int)) (by omega) hlt
                have hne : (er == 0) = false := by simpa using hne
                have CC := Keep.mk (fun {l : List Asrt} {w' : World} (h : Bs W b e M l w') => CC.out (by omega) (by omega) hR h)
                clear hR hCL CF hyt
                have e1 : decide (20000 + (j : Int) ≤ 20063) = true := by simp; omega
                have e2 : decide (20000 + (j : Int) < p) = true := by simpa using hlt
                go_wp2_with fail
                (with_reducible refine (NC.out _ B.out).mono ?_)
                rintro e1 w6 ⟨rfl, q6⟩
                have B6 := B.out.quiet q6
                go_wp2_with fail
                (with_reducible refine (CC.out B6).mono ?_)
                rintro e1 w7 ⟨rfl, F7, S7, U7⟩
                go_wp2_with (refine store_new S7 rfl 34 _ _ rfl (cellsL zeroL) rfl rfl (sizeL zeroL) rfl (oneL zeroL) ?_; intro w8 F8 S8 U8 q8)
                have B8 : Bs W b e M [] w8 := Bs.less ⟨F8, S8, U7.trans U8⟩
                go_roundw
                case rel => exact ⟨j + 1, by omega, by go_num, B8⟩
                case measure => simp [RowKit.intOf]; omega
              · have hjp : 20000 + (j : Int) = p := by omega
                as_aux_lemma =>
                clear hlt hj hCL
                go_wp2_with fail
                (with_reducible refine (NC.out _ B.out).mono ?_)
                rintro e1 w6 ⟨rfl, q6⟩
                have B6 := B.out.quiet q6
                go_wp2_with fail
                (with_reducible refine (CF.out B6).mono ?_)
                rintro e1 w7 ⟨rfl, F7, S7, U7⟩
                go_wp2_with (refine store_new S7 rfl 34 _ _ rfl (cellsL y) rfl rfl (sizeL zeroL) rfl (oneL y) ?_; intro w8 F8 S8 U8 q8; have z1 : w8.cell? ⟨w7.heap.size, 1, none⟩ = some (.string y.tenant) := q8 1; rw [hyt] at z1)
                have B8 := Bs.less (l := []) ⟨F8, S8, U7.trans U8⟩
                go_ret
                exact ⟨rfl, B8.fin⟩
end portsClaims
end Go.Proofs.YtpjfakmalhenjaaDoor
