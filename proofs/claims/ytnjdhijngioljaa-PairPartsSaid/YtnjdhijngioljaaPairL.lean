/- PairParts: its walk. -/
import Derived.Test.YtnjdhijngioljaaPairJ
import Derived.Test.YtnjdhijngioljaaPairK
namespace Go.Proofs.Ytnjdhijngioljaa.pairParts
open Go.RowKit Go.Sub Go.ChangeMaps Go.Proofs.Ytnjdhijngioljaa.pairs
/-- what Part leaves, and what All hands out then -/
theorem parts_facts {T : Tab} (hI : Inv T) (id : Int) : (∀ M M', AllOf T M → AllOf (T.part id) M' → M' = M.filter (fun p => p.1 != id && p.2 != id) ∧ M.length = M'.length + (if (T.other id).2 = true then 1 else 0)) ∧
    ((T.part id).other id).2 = false ∧ ((T.other id).2 = true → ((T.part id).other (T.other id).1).2 = false) ∧ ((T.other id).2 = false → (T.other id).1 = 0) := by
  have hI' := inv_part hI id
  have free : ∀ M', AllOf (T.part id) M' → ∀ p ∈ M', p.1 ≠ id ∧ p.2 ≠ id := fun M' h p hp => by
    have h1 := (mem_vis hI').1 (h.perm.mem_iff.1 hp)
    obtain ⟨h2, _⟩ := hI'.back _ _ _ h1
    have hn : mget (T.part id).ends id = none := by
      cases hg : mget T.ends id with
      | none => simp [Tab.part, hg]
      | some q => obtain ⟨o, s⟩ := q; rw [part_get hI hg]; simp
    refine ⟨fun e => ?_, fun e => ?_⟩
    · rw [e, hn] at h1; cases h1
    · rw [e, hn] at h2; cases h2
  cases hg : mget T.ends id with
  | none =>
    have e1 : T.part id = T := by simp [Tab.part, hg]
    refine ⟨fun M M' hM hM' => ?_, ?_, ?_, ?_⟩
    · have h1 := free M' hM'
      rw [e1] at hM'
      have h2 : M' = M := all_unique hI hM (hM'.perm.trans hM.perm.symm) (all_strict hI hM')
      subst h2
      refine ⟨(List.filter_eq_self.2 fun p hp => ?_).symm, by simp [Tab.other, hg]⟩
      have := h1 p hp
      simp [this.1, this.2]
    · rw [e1]; simp [Tab.other, hg]
    · simp [Tab.other, hg]
    · simp [Tab.other, hg]
  | some q =>
    obtain ⟨o, s⟩ := q
    have hp := vis_part hI hg
    refine ⟨fun M M' hM hM' => ?_, ?_, ?_, ?_⟩
    · have h1 := free M' hM'
      have hperm : M.Perm ((if s = true then (id, o) else (o, id)) :: M') := hM.perm.trans (hp.trans (hM'.perm.symm.cons _))
      have hf : (M.filter (fun p => p.1 != id && p.2 != id)).Perm M' := by
        refine (hperm.filter _).trans ?_
        have h3 : M'.filter (fun p => p.1 != id && p.2 != id) = M' := List.filter_eq_self.2 fun p hp => by
          have := h1 p hp
          simp [this.1, this.2]
        rw [List.filter_cons, h3]
        cases s <;> simp
      refine ⟨(all_unique hI' hM' hf ((all_strict hI hM).sublist List.filter_sublist)).symm, ?_⟩
      have := hperm.length_eq
      simp [Tab.other, hg]
      simpa using this
    · simp [Tab.other, part_get hI hg]
    · simp [Tab.other, hg, part_get hI hg]
    · simp [Tab.other, hg]
set_option maxHeartbeats 4000000 in
set_option maxRecDepth 100000 in
theorem walk {W : World} (v : Value) (L : List (Int × Int × Int)) (hL : Reads W 3 encOp v L) (_ : L.length ≤ maxLen) (n : Int) (_ : (Lit.int .i64 n).wf = true) : Calls Try.prog 6 #[v, .int .i64 n] W (Ret (.bool true) fun W' => Quiet W W') := by
  obtain ⟨a, cap, rfl, ha⟩ := hL
  obtain ⟨i43, hi, hz0, hz1, hz2⟩ := info_parts info43
  by_cases hbig : 300 < L.length
  · go_enter Try.func6, Try.ntmps6
    go_wp2_with fail
    refine (head_c _).mono ?_
    rintro e w1 ⟨rfl, u1⟩
    go_wp2_with fail
    refine (new_c _).mono ?_
    rintro e w2 ⟨b, rfl, F, t, u2⟩
    go_wp2_with fail
    go_ret
    exact ⟨rfl, (Upd.trans u1 u2).quiet⟩
  · have e0 : decide (300 < (L.length : Int)) = false := by simp; omega
    have hsz : L.length ≤ 300 := by omega
    clear hbig
    go_enter Try.func6, Try.ntmps6
    go_wp2_with fail
    refine (head_c _).mono ?_
    rintro e w1 ⟨rfl, u1⟩
    go_wp2_with fail
    refine (new_c _).mono ?_
    rintro e w2 ⟨b, rfl, F, t, u2⟩
    go_wp2_with fail
    go_loopw [7] (fun i wr => ∃ k T F, k ≤ L.length ∧ i = .int .i64 (k : Nat) ∧ At W b k wr T F) (fun i _ => L.length - (intOf i).toNat)
    case atStart =>
      exact ⟨0, ⟨[], []⟩, F, by omega, rfl, ⟨t, Upd.trans u1 u2, inv_nil, by simp⟩⟩
    case round =>
      obtain ⟨k, T, F, hk, rfl, hA⟩ := hrel
      by_cases hlt : k < L.length
      · obtain ⟨g, off, rfl, hg, hc⟩ := ha k L[k] (List.getElem?_eq_getElem hlt)
        generalize hx : L[k] = x at *
        obtain ⟨x0, x1, x2⟩ := x
        have k0 : wr.cell? ⟨g, off + k * 3, none⟩ = some (.int .i64 x0) := by rw [hA.upd.cell hg id]; exact hc 0 _ rfl
        have k1 : wr.cell? ⟨g, off + k * 3 + 1, none⟩ = some (.int .i64 x1) := by rw [hA.upd.cell hg id]; exact hc 1 _ rfl
        have k2 : wr.cell? ⟨g, off + k * 3 + 2, none⟩ = some (.int .i64 x2) := by rw [hA.upd.cell hg id]; exact hc 2 _ rfl
        clear hx ha
        go_wp2_with fail
        go_still_tail 11, (by kernel_rfl)
        go_wp2_with fail
        refine (join_c (Asrt.drew hA.mem) x1 x2).mono ?_
        rintro e w3 ⟨rfl, F3, hT3, hu3⟩
        go_wp2_with fail
        go_roundw
        case rel =>
          have q1 := hA.short
          have q2 := ends_join hA.inv x1 x2
          exact ⟨k + 1, (T.join x1 x2).1, F3, by omega, by go_num, ⟨hT3, hA.upd.drew.trans hu3, inv_join hA.inv x1 x2, by omega⟩⟩
        case measure => simp [intOf]; omega
      · have q6 : T.ends.length ≤ 1000000 := by have := hA.short; omega
        have hT := hA.mem
        have hI := hA.inv
        have co := fun (w : World) (F : Fp) (h : (pairT b T).on w F) => other_c h n
        have cp := fun (w : World) (F : Fp) (h : (pairT b T).on w F) => part_c h n
        have hI' := inv_part hI n
        have hs' := ends_part hI n
        obtain ⟨g1, g2, g3, g4⟩ := parts_facts hI n
        have co2 := fun (w : World) (F : Fp) (h : (pairT b (T.part n)).on w F) => other_c h n
        have co3 := fun (w : World) (F : Fp) (h : (pairT b (T.part n)).on w F) => other_c h (T.other n).1
        rw [g2] at co2
        generalize ((T.part n).other n).1 = y1 at co2
        generalize ((T.part n).other (T.other n).1).1 = y2 at co3
        generalize ((T.part n).other (T.other n).1).2 = s2 at co3 g3
        generalize T.part n = T' at *
        generalize (T.other n).1 = x at *
        generalize (T.other n).2 = it at *
        have CO := Keep.mk co
        have CP := Keep.mk cp
        have CO2 := Keep.mk co2
        have CO3 := Keep.mk co3
        have G1 := Keep.mk g1
        clear co cp co2 co3 g1 g2
        have q6' : T'.ends.length ≤ 1000000 := by omega
        go_wp2_with fail
        refine (all_c hT q6).mono ?_
        rintro e w3 ⟨v3, rfl, F3, M, hM3, hu3, hM⟩
        obtain ⟨a3, c3, rfl, hR3⟩ := (row_reads (enc := encP) (fun _ => rfl) hM3).1
        have q7 : M.length ≤ 1000 := by
          have h1 := hM.perm.length_eq
          have h2 : (vis T.ends).length ≤ T.ends.length := List.length_filterMap_le _ _
          have := hA.short
          omega
        have hT3 := Asrt.frame _ hT hu3 (fun _ _ h => h)
        have d3 := (pairT b T).new_apart hT hu3
        go_wp2_with fail
        refine (CO.out _ _ hT3).mono ?_
        rintro e w4 ⟨rfl, hq4⟩
        have hT4 := Asrt.frame _ hT3 hq4 (fun _ _ h => h)
        obtain ⟨hM4, _⟩ := Asrt.frame2 _ hM3 hq4 (fun _ _ h => h)
        go_wp2_with fail
        refine (CP.out _ _ hT4).mono ?_
        rintro e w5 ⟨rfl, F5, hT5, hu5⟩
        obtain ⟨hM5, _⟩ := Asrt.frame2 _ hM4 hu5 d3
        have hW5 := ((hA.upd.thenQ hu3).thenQ hq4).trans hu5
        obtain ⟨a5, c5, he5, hR5⟩ := (row_reads (enc := encP) (fun _ => rfl) hM5).1
        simp only [Value.slice.injEq] at he5
        obtain ⟨rfl, _, rfl⟩ := he5
        obtain ⟨wo, rfl⟩ : ∃ wo, wo = wr := ⟨_, rfl⟩
        clear hR3 CO CP hu3 hq4 hu5 hM3 hM4 hT3 hT4
        cases it
        · obtain rfl := g4 rfl
          go_wp2_with fail
          go_loopw [13, 14] (fun wv i wr => ∃ (j : Nat) (Fw : Fp), j ≤ M.length ∧ i = .int .i64 j ∧ (row 43 2 encP wv ((M.take j).filter fun p => p.1 != n && p.2 != n)).on wr Fw ∧ Upd none' Fw w5 wr) (fun _ i _ => M.length - (intOf i).toNat)
          case atStart => exact ⟨0, none', by omega, rfl, by simpa using row_nil w5 43 2 encP, Upd.refl _ _⟩
          case round =>
            obtain ⟨j, Fw, hj, rfl, hrow, hU⟩ := hrel
            by_cases hj2 : j < M.length
            · obtain ⟨g, off, rfl, hg, hc⟩ := hR5 j M[j] (List.getElem?_eq_getElem hj2)
              have k0 : wr.cell? ⟨g, off + j * 2, none⟩ = some (.int .i64 M[j].1) := by rw [hU.cell hg id]; exact hc 0 _ rfl
              have k1 : wr.cell? ⟨g, off + j * 2 + 1, none⟩ = some (.int .i64 M[j].2) := by rw [hU.cell hg id]; exact hc 1 _ rfl
              have hstep : (M.take (j + 1)).filter (fun p => p.1 != n && p.2 != n) = (M.take j).filter (fun p => p.1 != n && p.2 != n) ++ (if (M[j].1 != n && M[j].2 != n) = true then [M[j]] else []) := by
                rw [List.take_add_one, List.getElem?_eq_getElem hj2, List.filter_append]
                congr 1
                simp [List.filter_cons]
              have hsz : ((M.take j).filter fun p => p.1 != n && p.2 != n).length ≤ 1000 := by
                have h1 := List.length_filter_le (fun p : Int × Int => p.1 != n && p.2 != n) (M.take j)
                have h2 : (M.take j).length ≤ j := List.length_take_le _ _
                omega
              generalize M[j] = p at *
              obtain ⟨p1, p2⟩ := p
              have HS := Keep.mk hstep
              clear hstep hc hR5
              generalize e1 : (p1 != n) = b1 at HS
              generalize e2 : (p2 != n) = b2 at HS
              cases b1
              · go_wp2_with fail
                go_roundw
                case rel =>
                  have hs := HS.out
                  simp at hs
                  exact ⟨j + 1, Fw, by omega, by go_num, by rw [hs]; exact hrow, hU⟩
                case measure => simp [intOf]; omega
              · cases b2
                · go_wp2_with fail
                  go_roundw
                  case rel =>
                    have hs := HS.out
                    simp at hs
                    exact ⟨j + 1, Fw, by omega, by go_num, by rw [hs]; exact hrow, hU⟩
                  case measure => simp [intOf]; omega
                · go_wp2_with (at_builtin; refine at_append_row encP 2 16 rfl (.tmp 106) (.tmp 111) 36 rfl 43 i43 _ Try.underlying36 hi hz0 hz1 hz2 rfl (by decide) u13 _ (p1, p2) Fw rfl (Asrt.alloc hrow _) ⟨wr.heap.size, 0, none⟩ 1 rfl rfl (cells_new wr (encP (p1, p2)) _) ?hone ?h63 ?hby ?next)
                  case hone => exact ⟨rfl, rfl⟩
                  case h63 => unfold maxLen; omega
                  case hby => omega
                  case next =>
                    intro v' w6 Fw' hrow' hU'
                    go_wp2_with fail
                    go_roundw
                    case rel =>
                      have hs := HS.out
                      simp at hs
                      exact ⟨j + 1, Fw', by omega, by go_num, by rw [hs]; exact hrow', (hU.trans ((Upd.refl _ _).alloc _)).trans hU'⟩
                    case measure => simp [intOf]; omega
            · have hfin : (M.take j).filter (fun p => p.1 != n && p.2 != n) = M.filter fun p => p.1 != n && p.2 != n := by rw [List.take_of_length_le (by omega)]
              rw [hfin] at hrow
              have hT6 := Asrt.frame _ hT5 hU (fun _ _ h => h)
              have d6 := (pairT b T').new_apart hT5 hU
              generalize hN : (M.filter fun p => p.1 != n && p.2 != n) = N at *
              clear hfin
              go_wp2_with fail
              refine (CO2.out _ _ hT6).mono ?_
              rintro e w7 ⟨rfl, hq7⟩
              have hT7 := Asrt.frame _ hT6 hq7 (fun _ _ h => h)
              obtain ⟨hN7, _⟩ := Asrt.frame2 _ hrow hq7 (fun _ _ h => h)
              go_wp2_with fail
              refine (CO3.out _ _ hT7).mono ?_
              rintro e w8 ⟨rfl, hq8⟩
              have hT8 := Asrt.frame _ hT7 hq8 (fun _ _ h => h)
              obtain ⟨hN8, _⟩ := Asrt.frame2 _ hN7 hq8 (fun _ _ h => h)
              go_wp2_with fail
              refine (all_c hT8 q6').mono ?_
              rintro e w9 ⟨v9, rfl, F9, M', hM9, hu9, hA9⟩
              obtain ⟨f1, f2⟩ := G1.out M M' hM hA9
              rw [hN] at f1
              subst f1
              simp only [Bool.false_eq_true, if_false] at f2
              obtain ⟨hN9, _⟩ := Asrt.frame2 _ hN8 hu9 (fun _ _ h => h)
              have rN := (row_reads (enc := encP) (fun _ => rfl) hN9).1
              have rM := (row_reads (enc := encP) (fun _ => rfl) hM9).1
              obtain ⟨aN, cN, rfl, _⟩ := id rN
              obtain ⟨a9, c9, rfl, _⟩ := id rM
              have hsame := same_c rM rN (by omega) (by omega)
              simp only [decide_true] at hsame
              have HS := Keep.mk hsame
              have hQ := (((hW5.thenQ hU).thenQ hq7).thenQ hq8).thenQ hu9
              have F2 := Keep.mk f2
              have e3 : IntKind.i64.wrap ((M.length : Int) - (M'.length : Int)) = 0 := by rw [IntWalk.i64_in _ (by omega)]; omega
              have e4 : (M.length : Int) - (M'.length : Int) = 0 := by omega
              clear hsame f2 hN9 hM9 rN rM hN7 hN8 hrow hA9 hM
              go_wp2_with fail
              refine HS.out.mono ?_
              rintro e w10 ⟨rfl, hq10⟩
              go_wp2_with fail
              go_ret
              exact ⟨rfl, (hQ.thenQ hq10).quiet⟩
        · obtain rfl := g3 rfl
          go_wp2_with fail
          go_loopw [13, 14] (fun wv i wr => ∃ (j : Nat) (Fw : Fp), j ≤ M.length ∧ i = .int .i64 j ∧ (row 43 2 encP wv ((M.take j).filter fun p => p.1 != n && p.2 != n)).on wr Fw ∧ Upd none' Fw w5 wr) (fun _ i _ => M.length - (intOf i).toNat)
          case atStart => exact ⟨0, none', by omega, rfl, by simpa using row_nil w5 43 2 encP, Upd.refl _ _⟩
          case round =>
            obtain ⟨j, Fw, hj, rfl, hrow, hU⟩ := hrel
            by_cases hj2 : j < M.length
            · obtain ⟨g, off, rfl, hg, hc⟩ := hR5 j M[j] (List.getElem?_eq_getElem hj2)
              have k0 : wr.cell? ⟨g, off + j * 2, none⟩ = some (.int .i64 M[j].1) := by rw [hU.cell hg id]; exact hc 0 _ rfl
              have k1 : wr.cell? ⟨g, off + j * 2 + 1, none⟩ = some (.int .i64 M[j].2) := by rw [hU.cell hg id]; exact hc 1 _ rfl
              have hstep : (M.take (j + 1)).filter (fun p => p.1 != n && p.2 != n) = (M.take j).filter (fun p => p.1 != n && p.2 != n) ++ (if (M[j].1 != n && M[j].2 != n) = true then [M[j]] else []) := by
                rw [List.take_add_one, List.getElem?_eq_getElem hj2, List.filter_append]
                congr 1
                simp [List.filter_cons]
              have hsz : ((M.take j).filter fun p => p.1 != n && p.2 != n).length ≤ 1000 := by
                have h1 := List.length_filter_le (fun p : Int × Int => p.1 != n && p.2 != n) (M.take j)
                have h2 : (M.take j).length ≤ j := List.length_take_le _ _
                omega
              generalize M[j] = p at *
              obtain ⟨p1, p2⟩ := p
              have HS := Keep.mk hstep
              clear hstep hc hR5
              generalize e1 : (p1 != n) = b1 at HS
              generalize e2 : (p2 != n) = b2 at HS
              cases b1
              · go_wp2_with fail
                go_roundw
                case rel =>
                  have hs := HS.out
                  simp at hs
                  exact ⟨j + 1, Fw, by omega, by go_num, by rw [hs]; exact hrow, hU⟩
                case measure => simp [intOf]; omega
              · cases b2
                · go_wp2_with fail
                  go_roundw
                  case rel =>
                    have hs := HS.out
                    simp at hs
                    exact ⟨j + 1, Fw, by omega, by go_num, by rw [hs]; exact hrow, hU⟩
                  case measure => simp [intOf]; omega
                · go_wp2_with (at_builtin; refine at_append_row encP 2 16 rfl (.tmp 106) (.tmp 111) 36 rfl 43 i43 _ Try.underlying36 hi hz0 hz1 hz2 rfl (by decide) u13 _ (p1, p2) Fw rfl (Asrt.alloc hrow _) ⟨wr.heap.size, 0, none⟩ 1 rfl rfl (cells_new wr (encP (p1, p2)) _) ?hone ?h63 ?hby ?next)
                  case hone => exact ⟨rfl, rfl⟩
                  case h63 => unfold maxLen; omega
                  case hby => omega
                  case next =>
                    intro v' w6 Fw' hrow' hU'
                    go_wp2_with fail
                    go_roundw
                    case rel =>
                      have hs := HS.out
                      simp at hs
                      exact ⟨j + 1, Fw', by omega, by go_num, by rw [hs]; exact hrow', (hU.trans ((Upd.refl _ _).alloc _)).trans hU'⟩
                    case measure => simp [intOf]; omega
            · have hfin : (M.take j).filter (fun p => p.1 != n && p.2 != n) = M.filter fun p => p.1 != n && p.2 != n := by rw [List.take_of_length_le (by omega)]
              rw [hfin] at hrow
              have hT6 := Asrt.frame _ hT5 hU (fun _ _ h => h)
              have d6 := (pairT b T').new_apart hT5 hU
              generalize hN : (M.filter fun p => p.1 != n && p.2 != n) = N at *
              clear hfin
              go_wp2_with fail
              refine (CO2.out _ _ hT6).mono ?_
              rintro e w7 ⟨rfl, hq7⟩
              have hT7 := Asrt.frame _ hT6 hq7 (fun _ _ h => h)
              obtain ⟨hN7, _⟩ := Asrt.frame2 _ hrow hq7 (fun _ _ h => h)
              go_wp2_with fail
              refine (CO3.out _ _ hT7).mono ?_
              rintro e w8 ⟨rfl, hq8⟩
              have hT8 := Asrt.frame _ hT7 hq8 (fun _ _ h => h)
              obtain ⟨hN8, _⟩ := Asrt.frame2 _ hN7 hq8 (fun _ _ h => h)
              go_wp2_with fail
              refine (all_c hT8 q6').mono ?_
              rintro e w9 ⟨v9, rfl, F9, M', hM9, hu9, hA9⟩
              obtain ⟨f1, f2⟩ := G1.out M M' hM hA9
              rw [hN] at f1
              subst f1
              simp only [if_true] at f2
              obtain ⟨hN9, _⟩ := Asrt.frame2 _ hN8 hu9 (fun _ _ h => h)
              have rN := (row_reads (enc := encP) (fun _ => rfl) hN9).1
              have rM := (row_reads (enc := encP) (fun _ => rfl) hM9).1
              obtain ⟨aN, cN, rfl, _⟩ := id rN
              obtain ⟨a9, c9, rfl, _⟩ := id rM
              have hsame := same_c rM rN (by omega) (by omega)
              simp only [decide_true] at hsame
              have HS := Keep.mk hsame
              have hQ := (((hW5.thenQ hU).thenQ hq7).thenQ hq8).thenQ hu9
              have F2 := Keep.mk f2
              have e3 : IntKind.i64.wrap ((M.length : Int) - (M'.length : Int)) = 1 := by rw [IntWalk.i64_in _ (by omega)]; omega
              have e4 : (M.length : Int) - (M'.length : Int) = 1 := by omega
              clear hsame f2 hN9 hM9 rN rM hN7 hN8 hrow hA9 hM
              go_wp2_with fail
              refine HS.out.mono ?_
              rintro e w10 ⟨rfl, hq10⟩
              go_wp2_with fail
              go_ret
              exact ⟨rfl, (hQ.thenQ hq10).quiet⟩
end Go.Proofs.Ytnjdhijngioljaa.pairParts
