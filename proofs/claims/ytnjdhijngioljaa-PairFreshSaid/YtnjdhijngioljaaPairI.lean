/- PairFresh: its walk. -/
import Derived.Test.YtnjdhijngioljaaPairJ
import Derived.Deep.QuietTactic
import Derived.BigQuiet
namespace Go.Proofs.Ytnjdhijngioljaa.pairFresh
open Go.RowKit Go.Sub Go.ChangeMaps Go.Proofs.Ytnjdhijngioljaa.pairs
set_option maxHeartbeats 4000000 in
set_option maxRecDepth 100000 in
theorem walk {W : World} (v : Value) (L : List (Int × Int × Int)) (hL : Reads W 3 encOp v L) (_ : L.length ≤ maxLen) (a0 : Int) (w0 : (Lit.int .u16 a0).wf = true) (b0 : Int) (w1 : (Lit.int .u16 b0).wf = true) : Calls Try.prog 7 #[v, .int .u16 a0, .int .u16 b0] W (Ret (.bool true) fun W' => Quiet W W') := by
  obtain ⟨a, cap, rfl, ha⟩ := hL
  have ba : 0 ≤ a0 ∧ a0 ≤ 65535 := bounds_u16 w0
  have bb : 0 ≤ b0 ∧ b0 ≤ 65535 := bounds_u16 w1
  obtain ⟨ba1, ba2⟩ := ba
  obtain ⟨bb1, bb2⟩ := bb
  clear w0 w1
  by_cases hbig : 300 < L.length
  · go_enter Try.func7, Try.ntmps7
    go_wp2_with fail
    refine (head_c _).mono ?_
    rintro e w1 ⟨rfl, u1⟩
    go_wp2_with fail
    refine (new_c _).mono ?_
    rintro e w2 ⟨b, rfl, F, t, u2⟩
    go_wp2_with fail
    go_ret
    exact ⟨rfl, (Upd.trans u1 u2).quiet⟩
  · have e0 : decide (300 < (L.length : Int)) = false := by simp; omega
    have hsz : L.length ≤ 300 := by omega
    clear hbig
    go_enter Try.func7, Try.ntmps7
    go_wp2_with fail
    refine (head_c _).mono ?_
    rintro e w1 ⟨rfl, u1⟩
    go_wp2_with fail
    refine (new_c _).mono ?_
    rintro e w2 ⟨b, rfl, F, t, u2⟩
    go_wp2_with fail
    go_loopw [9] (fun i wr => ∃ k T F, k ≤ L.length ∧ i = .int .i64 (k : Nat) ∧ At W b k wr T F) (fun i _ => L.length - (intOf i).toNat)
    case atStart =>
      exact ⟨0, ⟨[], []⟩, F, by omega, rfl, ⟨t, Upd.trans u1 u2, inv_nil, by simp⟩⟩
    case round =>
      obtain ⟨k, T, F, hk, rfl, hA⟩ := hrel
      by_cases hlt : k < L.length
      · obtain ⟨g, off, rfl, hg, hc⟩ := ha k L[k] (List.getElem?_eq_getElem hlt)
        generalize hx : L[k] = x at *
        obtain ⟨x0, x1, x2⟩ := x
        have k0 : wr.cell? ⟨g, off + k * 3, none⟩ = some (.int .i64 x0) := by rw [hA.upd.cell hg id]; exact hc 0 _ rfl
        have k1 : wr.cell? ⟨g, off + k * 3 + 1, none⟩ = some (.int .i64 x1) := by rw [hA.upd.cell hg id]; exact hc 1 _ rfl
        have k2 : wr.cell? ⟨g, off + k * 3 + 2, none⟩ = some (.int .i64 x2) := by rw [hA.upd.cell hg id]; exact hc 2 _ rfl
        clear hx ha
        by_cases hx0 : x0 = 2
        · subst hx0
          go_wp2_with fail
          refine (part_c hA.mem x1).mono ?_
          rintro e w3 ⟨rfl, F3, hT3, hu3⟩
          go_wp2_with fail
          go_roundw
          case rel =>
            have q1 := hA.short
            have q2 := ends_part hA.inv x1
            exact ⟨k + 1, T.part x1, F3, by omega, by go_num, ⟨hT3, hA.upd.trans hu3, inv_part hA.inv x1, by omega⟩⟩
          case measure => simp [intOf]; omega
        · have e1 : (x0 == 2) = false := by simp [hx0]
          go_wp2_with fail
          go_still_tail 11, (by kernel_rfl)
          go_wp2_with fail
          refine (join_c (Asrt.drew hA.mem) x1 x2).mono ?_
          rintro e w3 ⟨rfl, F3, hT3, hu3⟩
          go_wp2_with fail
          go_roundw
          case rel =>
            have q1 := hA.short
            have q2 := ends_join hA.inv x1 x2
            exact ⟨k + 1, (T.join x1 x2).1, F3, by omega, by go_num, ⟨hT3, hA.upd.drew.trans hu3, inv_join hA.inv x1 x2, by omega⟩⟩
          case measure => simp [intOf]; omega
      · have q6 : T.ends.length ≤ 1000000 := by have := hA.short; omega
        have hT := hA.mem
        have cx := was_c hT (1 + a0)
        have cy := was_c hT (1 + b0)
        cases qx : T.was (1 + a0)
        · cases qy : T.was (1 + b0)
          · by_cases hxy : a0 = b0
            · subst hxy
              rw [qx] at cx
              have CX := Keep.mk cx
              clear cx cy qx qy
              go_wp2_with fail
              refine CX.out.mono ?_
              rintro e w3 ⟨rfl, rfl⟩
              go_wp2_with fail
              refine CX.out.mono ?_
              rintro e w3 ⟨rfl, rfl⟩
              go_wp2_with fail
              go_ret
              exact ⟨rfl, hA.upd.quiet⟩
            · have hj : (T.join (1 + a0) (1 + b0)).2 = 0 := by rw [join_code, if_neg (by omega), if_neg (by simp [qx, qy])]
              have hv' := vis_join hA.inv hj
              have hI' := inv_join hA.inv (1 + a0) (1 + b0)
              have hw' := join_was hA.inv hj
              have hs' := ends_join hA.inv (1 + a0) (1 + b0)
              have jc := fun (w : World) (F : Fp) (h : (pairT b T).on w F) => join_c h (1 + a0) (1 + b0)
              rw [hj] at jc
              rw [qx] at cx
              rw [qy] at cy
              have e3 : (1 + a0 == 1 + b0) = false := by simp; omega
              generalize (T.join (1 + a0) (1 + b0)).1 = T' at hv' hI' hw' hs' jc
              have wx := hw' (1 + a0)
              have wy := hw' (1 + b0)
              simp only [decide_true, Bool.or_true, Bool.true_or] at wx wy
              have q6' : T'.ends.length ≤ 1000000 := by have := hA.short; omega
              have CX := Keep.mk cx
              have CY := Keep.mk cy
              have JC := Keep.mk jc
              have HV := Keep.mk hv'
              have WX : Keep (∀ w F, (pairT b T').on w F → Calls Try.prog 18 #[.pointer (some ⟨b, 0, none⟩), .int .i64 (1 + a0)] w (Ret (.bool true) fun w' => w = w')) := ⟨fun w F h => wx ▸ was_c h (1 + a0)⟩
              have WY : Keep (∀ w F, (pairT b T').on w F → Calls Try.prog 18 #[.pointer (some ⟨b, 0, none⟩), .int .i64 (1 + b0)] w (Ret (.bool true) fun w' => w = w')) := ⟨fun w F h => wy ▸ was_c h (1 + b0)⟩
              clear cx cy jc hv' hw' wx wy qx qy hj
              go_wp2_with fail
              refine CX.out.mono ?_
              rintro e w3 ⟨rfl, rfl⟩
              go_wp2_with fail
              refine CY.out.mono ?_
              rintro e w3 ⟨rfl, rfl⟩
              go_wp2_with fail
              refine (all_c hT q6).mono ?_
              rintro e w3 ⟨v3, rfl, F3, M1, hM1, hu3, hA1⟩
              obtain ⟨a3, c3, rfl, _⟩ := (row_reads (enc := encP) (fun _ => rfl) hM1).1
              have hT3 := Asrt.frame _ hT hu3 (fun _ _ h => h)
              have l1 := hA1.perm.length_eq
              have l1' : M1.length ≤ 1000 := by
                have h2 : (vis T.ends).length ≤ T.ends.length := List.length_filterMap_le _ _
                have := hA.short
                omega
              have L1 := Keep.mk l1
              clear l1
              go_wp2_with fail
              refine (JC.out _ _ hT3).mono ?_
              rintro e w4 ⟨rfl, F4, hT4, hu4⟩
              go_wp2_with fail
              refine (all_c hT4 q6').mono ?_
              rintro e w5 ⟨v5, rfl, F5, M2, hM2, hu5, hA2⟩
              obtain ⟨a5, c5, rfl, hR5⟩ := (row_reads (enc := encP) (fun _ => rfl) hM2).1
              have hT5 := Asrt.frame _ hT4 hu5 (fun _ _ h => h)
              have hW5 := ((hA.upd.thenQ hu3).trans hu4).thenQ hu5
              have l2 : M2.length = M1.length + 1 := by
                have h1 := hA2.perm.length_eq
                rw [HV.out] at h1
                have h2 := L1.out
                simp at h1
                omega
              have hin : (1 + a0, 1 + b0) ∈ M2 := hA2.perm.mem_iff.2 (by rw [HV.out]; simp)
              have hst := all_strict hI' hA2
              have e5 : ((M2.length : Int) == (M1.length : Int) + 1) = true := by rw [beq_iff_eq]; omega
              have l2' : M2.length ≤ 1001 := by omega
              have HS := Keep.mk hst
              have HIN := Keep.mk hin
              clear hst hin l2 hA1 hA2 hu3 hu4 hu5
              go_wp2_with fail
              go_loopw [15, 16] (fun th i wr => ∃ (j : Nat) (bb : Bool), j ≤ M2.length ∧ i = .int .i64 j ∧ th = .bool bb ∧ bb = decide ((1 + a0, 1 + b0) ∈ M2.take j) ∧ Quiet w5 wr) (fun _ i _ => M2.length - (intOf i).toNat)
              case atStart => exact ⟨0, false, by omega, rfl, rfl, by simp, Upd.refl _ _⟩
              case round =>
                obtain ⟨j, bb, hj, rfl, rfl, hbb, hq⟩ := hrel
                by_cases hj2 : j < M2.length
                · obtain ⟨g, off, rfl, hg, hc⟩ := hR5 j M2[j] (List.getElem?_eq_getElem hj2)
                  have hcj : ∀ i (hi : i < M2.length), w5.cell? ⟨g, off + i * 2, none⟩ = some (.int .i64 M2[i].1) ∧ w5.cell? ⟨g, off + i * 2 + 1, none⟩ = some (.int .i64 M2[i].2) := fun i hi => by
                    obtain ⟨g', off', he, _, hc'⟩ := hR5 i M2[i] (List.getElem?_eq_getElem hi)
                    simp only [Option.some.injEq, Addr.mk.injEq, and_true] at he
                    obtain ⟨rfl, rfl⟩ := he
                    exact ⟨hc' 0 _ rfl, hc' 1 _ rfl⟩
                  have k0 : wr.cell? ⟨g, off + j * 2, none⟩ = some (.int .i64 M2[j].1) := by rw [hq.cell hg id]; exact (hcj j hj2).1
                  have k1 : wr.cell? ⟨g, off + j * 2 + 1, none⟩ = some (.int .i64 M2[j].2) := by rw [hq.cell hg id]; exact (hcj j hj2).2
                  have hnb : decide ((1 + a0, 1 + b0) ∈ M2.take (j + 1)) = (bb || (M2[j].1 == 1 + a0 && M2[j].2 == 1 + b0)) := by
                    rw [List.take_add_one, List.getElem?_eq_getElem hj2, hbb]
                    simp only [Option.toList_some, List.mem_append, List.mem_singleton, Bool.decide_or]
                    congr 1
                    rw [Bool.eq_iff_iff]
                    simp only [decide_eq_true_eq, Bool.and_eq_true, beq_iff_eq]
                    constructor
                    · intro h; rw [← h]; exact ⟨rfl, rfl⟩
                    · rintro ⟨h1, h2⟩; exact Prod.ext h1.symm h2.symm
                  have heq := fun w => eqP M2[j] (1 + a0, 1 + b0) w
                  generalize (M2[j].1 == 1 + a0 && M2[j].2 == 1 + b0) = be at hnb heq
                  have hlast : 0 < j → (M2[j - 1]'(by omega)).1 < M2[j].1 := fun h0 => List.pairwise_iff_getElem.1 HS.out (j - 1) j (by omega) hj2 (by omega)
                  have HC := Keep.mk hcj
                  have HN := Keep.mk hnb
                  have HL := Keep.mk hlast
                  clear hcj hnb hlast hc hR5 hbb
                  generalize hMj : M2[j] = p at *
                  obtain ⟨v, c⟩ := p
                  have hq0 : (0 : Int) ≤ (j : Int) := by omega
                  have hqM : (j : Int) < (M2.length : Int) := by omega
                  by_cases hj0 : j = 0
                  · have e4 : decide (0 < (j : Int)) = false := by simp; omega
                    have e4n : decide (0 < j) = false := by simp; omega
                    clear hj0
                    cases bb
                    all_goals
                      go_wp2_with fail
                      go_quiet (fail)
                      go_wp2_with fail
                      go_roundw
                      case rel => exact ⟨j + 1, _, by omega, by go_num, rfl, by rw [HN.out]; rfl, hq.drewN _⟩
                      case measure => simp [intOf]; omega
                  · have e4 : decide (0 < (j : Int)) = true := by simp; omega
                    have e4n : decide (0 < j) = true := by simp; omega
                    have hp : wr.cell? ⟨g, off + (j - 1) * 2, none⟩ = some (.int .i64 (M2[j - 1]'(by omega)).1) := by rw [hq.cell hg id]; exact (HC.out (j - 1) (by omega)).1
                    have hlt := HL.out (by omega)
                    generalize (M2[j - 1]'(by omega)).1 = v' at hp hlt
                    have e5 : decide (v ≤ v') = false := by simp; simpa using hlt
                    have e6 : IntKind.i64.wrap ((j : Int) - 1) = (j : Int) - 1 := IntWalk.i64_in _ (by omega)
                    have e7 : ((j : Int) - 1).toNat = j - 1 := by omega
                    have e8 : 0 ≤ (j : Int) - 1 := by omega
                    cases bb
                    all_goals
                      go_wp2_with fail
                      go_quiet (fail)
                      go_wp2_with fail
                      go_roundw
                      case rel => exact ⟨j + 1, _, by omega, by go_num, rfl, by rw [HN.out]; rfl, hq.drewN _⟩
                      case measure => simp [intOf]; omega
                · have hbt : bb = true := by
                    rw [hbb, List.take_of_length_le (by omega), decide_eq_true_iff]
                    exact HIN.out
                  subst hbt
                  have hT6 := Asrt.frame _ hT5 hq (fun _ _ h => h)
                  clear hbb
                  go_wp2_with fail
                  refine (WX.out _ _ hT6).mono ?_
                  rintro e w6 ⟨rfl, rfl⟩
                  go_wp2_with fail
                  refine (WY.out _ _ hT6).mono ?_
                  rintro e w6 ⟨rfl, rfl⟩
                  go_wp2_with fail
                  go_ret
                  exact ⟨rfl, (hW5.thenQ hq).quiet⟩
          · rw [qx] at cx
            rw [qy] at cy
            have CX := Keep.mk cx
            have CY := Keep.mk cy
            clear cx cy qx qy
            go_wp2_with fail
            refine CX.out.mono ?_
            rintro e w3 ⟨rfl, rfl⟩
            go_wp2_with fail
            refine CY.out.mono ?_
            rintro e w3 ⟨rfl, rfl⟩
            go_wp2_with fail
            go_ret
            exact ⟨rfl, hA.upd.quiet⟩
        · rw [qx] at cx
          have CX := Keep.mk cx
          clear cx cy qx
          go_wp2_with fail
          refine CX.out.mono ?_
          rintro e w3 ⟨rfl, rfl⟩
          go_wp2_with fail
          go_ret
          exact ⟨rfl, hA.upd.quiet⟩
end Go.Proofs.Ytnjdhijngioljaa.pairFresh
