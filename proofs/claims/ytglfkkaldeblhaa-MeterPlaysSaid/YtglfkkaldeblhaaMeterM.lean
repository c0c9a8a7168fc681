/- MeterApart: its walk. -/
import Derived.Test.YtglfkkaldeblhaaMeterL
import Derived.Sort.Walk0
import Derived.Test.YtglfkkaldeblhaaSubH
namespace Go.Proofs.Ytglfkkaldeblhaa
open Go.RowKit Go.Sub Go.ChangeMaps
/-- two meters, beside each other -/
structure Two (W : World) (b d : Nat) (w : World) (M N : List Cnt) (F : Fp) : Prop where
  mem : (Asrt.stars [meterT b M, meterT d N]).on w F
  upd : Upd none' F W w
  inv : MInv M
  inv' : MInv N
/-- the second one has heard what the first one has, of this tenant -/
structure Alike (t : ByteArray) (k : Nat) (M N : List Cnt) : Prop where
  same : (M.find? fun c => c.t = t) = N.find? fun c => c.t = t
  m : M.length ≤ k
  n : N.length ≤ k
theorem alike_other {t : ByteArray} {k : Nat} {M N : List Cnt} (h : Alike t k M N) {x : MOp} (hx : x.2.1 ≠ t) : Alike t (k + 1) (doStep M x).1 N := by
  have hs := doStep_is M x
  exact ⟨by rw [hs.other t fun e => hx e.symm]; exact h.same, by have := hs.len; have := h.m; omega, by have := h.n; omega⟩
theorem alike_same {t : ByteArray} {k : Nat} {M N : List Cnt} (h : Alike t k M N) (hk : k < 60) {x : MOp} (hx : x.2.1 = t) : Alike t (k + 1) (doStep M x).1 (doStep N x).1 ∧ (doStep M x).2 = (doStep N x).2 := by
  have hs := doStep_is M x
  have hs' := doStep_is N x
  have hm := h.m
  have hn := h.n
  subst hx
  refine ⟨⟨?_, by have := hs.len; omega, by have := hs'.len; omega⟩, ?_⟩
  · rw [hs.found (by omega), hs'.found (by omega), h.same, cof_congr h.same]
  · rw [hs.room (by omega), hs'.room (by omega)]
theorem keysOf_rise (l : List ByteArray) (h : l.Nodup) : (keysOf l).Pairwise fun x y => Op.bytesLess x.toList y.toList = true := by
  have h1 : (keysOf l).Pairwise fun x y => x.data.toList ≤ y.data.toList := by
    unfold keysOf
    rw [List.pairwise_map]
    have := List.pairwise_mergeSort (le := fun x y : List UInt8 => decide (x ≤ y)) (fun a b c => by simpa using List.le_trans) (fun a b => by simpa using List.le_total a b) (l.map fun x => x.data.toList)
    exact this.imp fun h => by simpa using h
  have h2 : (keysOf l).Nodup := (keysOf_perm l).nodup_iff.2 h
  exact (h1.and h2).imp fun {a b} ⟨h, hn⟩ => by
    rw [Go.Proofs.bytesLess_eq, ByteArray.toList_eq, ByteArray.toList_eq, decide_eq_true_eq]
    exact Classical.byContradiction fun hlt => hn (WideShapes.bytes_inj (List.le_antisymm h (List.not_lt.1 hlt)))
theorem allOf_t {M : List Cnt} : (allOf M).map (·.t) = keysOf (M.map (·.t)) := by
  rw [allOf, List.map_map]
  exact (List.map_congr_left (g := id) fun t _ => cof_t M t).trans (List.map_id _)
theorem allOf_rise {M : List Cnt} (h : (M.map (·.t)).Nodup) : (allOf M).Pairwise fun x y => Op.bytesLess x.t.toList y.t.toList = true := by
  have := keysOf_rise _ h
  rw [← allOf_t, List.pairwise_map] at this
  exact this
theorem allOf_of {M : List Cnt} (h : (M.map (·.t)).Nodup) {c : Cnt} (hc : c ∈ allOf M) : cof M c.t = c := cof_mem h ((allOf_perm h).mem_iff.1 hc)
namespace meterApart
set_option maxHeartbeats 8000000 in
set_option maxRecDepth 100000 in
theorem walk {W : World} (v : Value) (L : List MOp) (hL : Reads W 3 encOp v L) (hmax : L.length ≤ maxLen) (t : ByteArray) (ht : t.size ≤ maxLen) : Calls Try.prog 6 #[v, .string t] W (Ret (.bool true) fun W' => Quiet W W') := by
  unfold maxLen at ht
  go_enter Try.func6, Try.ntmps6
  go_wp2_with fail
  refine (head_c _).mono ?_
  rintro e w1 ⟨rfl, u1⟩
  go_wp2_with fail
  refine (new_c _).mono ?_
  rintro e w2 ⟨b, rfl, F1, t1, u2⟩
  go_wp2_with fail
  refine (new_c _).mono ?_
  rintro e w2' ⟨d, rfl, F2, t2, u2'⟩
  have U1 := Upd.trans u1 u2
  obtain ⟨F, hS, v2⟩ := Asrt.stars_new (Asrt.stars_one t1) t2 u2'
  have U2 := U1.trans v2
  have hS := Asrt.stars_perm (List.Perm.swap ..) hS
  have hL2 := hL.upd U2 fun _ _ h => h
  clear u1 u2 u2' t1 t2 v2 U1
  go_wp2_with fail
  refine (great_c hL2 hmax).mono ?_
  rintro e w3 ⟨r, rfl, rfl, hr⟩
  cases r with
  | true =>
    clear hr
    go_wp2_with fail
    go_ret
    exact ⟨rfl, U2.quiet⟩
  | false =>
    obtain ⟨hn, hs⟩ := hr rfl
    clear hr hL2
    obtain ⟨a, cap, rfl, ha⟩ := hL
    have HS := Keep.mk hs
    clear hs
    by_cases h60 : 60 < L.length
    · have e6 : decide ((60 : Int) < (L.length : Int)) = true := by simp; omega
      clear h60 hn ha
      go_wp2_with fail
      go_ret
      exact ⟨rfl, U2.quiet⟩
    have e6 : decide ((60 : Int) < (L.length : Int)) = false := by simp; omega
    by_cases h1000 : 1000 < t.size
    · have e0 : decide ((1000 : Int) < (t.size : Int)) = true := by simp; omega
      clear h60 hn h1000 ha
      go_wp2_with fail
      go_ret
      exact ⟨rfl, U2.quiet⟩
    have e0 : decide ((1000 : Int) < (t.size : Int)) = false := by simp; omega
    have hlen : L.length ≤ 60 := by omega
    clear h60 h1000 hn
    go_wp2_with fail
    go_loopw [8] (fun i wr => ∃ k M N F, k ≤ L.length ∧ i = .int .i64 (k : Nat) ∧ Alike t k M N ∧ Two W b d wr M N F) (fun i _ => L.length - (intOf i).toNat)
    case atStart => exact ⟨0, [], [], F, by omega, rfl, ⟨rfl, by simp, by simp⟩, hS, U2, minv_nil, minv_nil⟩
    case round =>
      obtain ⟨k, M, N, F, hk, rfl, hA, hT⟩ := hrel
      clear hS U2
      by_cases hlt : k < L.length
      · obtain ⟨g, off, rfl, hg, hc⟩ := ha k L[k] (List.getElem?_eq_getElem hlt)
        have hsz := HS.out L[k] (List.getElem_mem hlt)
        generalize hx : L[k] = x at *
        obtain ⟨x0, x1, x2⟩ := x
        have k0 : wr.cell? ⟨g, off + k * 3, none⟩ = some (.int .i64 x0) := by rw [hT.upd.cell hg id]; exact hc 0 _ rfl
        have k1 : wr.cell? ⟨g, off + k * 3 + 1, none⟩ = some (.string x1) := by rw [hT.upd.cell hg id]; exact hc 1 _ rfl
        have k2 : wr.cell? ⟨g, off + k * 3 + 2, none⟩ = some (.int .i64 x2) := by rw [hT.upd.cell hg id]; exact hc 2 _ rfl
        clear hx ha
        have hI : MInv (doStep M (x0, x1, x2)).1 := inv_cstep hT.inv hsz
        have hJ : MInv (doStep N (x0, x1, x2)).1 := inv_cstep hT.inv' hsz
        have CD := fun (w : World) (F : Fp) (h : (meterT b M).on w F) => does_c h hT.inv.ok (x0, x1, x2)
        have CE := fun (w : World) (F : Fp) (h : (meterT d N).on w F) => does_c h hT.inv'.ok (x0, x1, x2)
        have hO := fun (h : x1 ≠ t) => alike_other hA (x := (x0, x1, x2)) h
        have hY := fun (h : x1 = t) => alike_same hA (by omega) (x := (x0, x1, x2)) h
        obtain ⟨_, m1, _, go1⟩ := Asrt.stars_upd _ 0 _ rfl hT.mem
        generalize doStep M (x0, x1, x2) = S at *
        generalize doStep N (x0, x1, x2) = S' at *
        obtain ⟨M', r⟩ := S
        obtain ⟨N', r'⟩ := S'
        have CD := Keep.mk CD
        have CE := Keep.mk CE
        have HI := Keep.mk hI
        have HJ := Keep.mk hJ
        have HO := Keep.mk hO
        have HY := Keep.mk hY
        clear hI hJ hO hY
        go_wp2_with fail
        refine (CD.out _ _ m1).mono ?_
        rintro e w4 ⟨rfl, F4, m4, u4⟩
        obtain ⟨F5, S5, v5⟩ := go1 _ _ _ m4 u4
        have V5 := hT.upd.trans v5
        have k0 : w4.cell? ⟨g, off + k * 3, none⟩ = some (.int .i64 x0) := by rw [V5.cell hg id]; exact hc 0 _ rfl
        have k1 : w4.cell? ⟨g, off + k * 3 + 1, none⟩ = some (.string x1) := by rw [V5.cell hg id]; exact hc 1 _ rfl
        have k2 : w4.cell? ⟨g, off + k * 3 + 2, none⟩ = some (.int .i64 x2) := by rw [V5.cell hg id]; exact hc 2 _ rfl
        have hg4 : g < w4.heap.size := Nat.lt_of_lt_of_le hg V5.size
        clear go1 m1 m4 u4 v5
        by_cases ht' : x1 = t
        · subst ht'
          obtain ⟨hal, hrr⟩ := HY.out rfl
          have hrr : r = r' := hrr
          subst hrr
          have hco : cof N' x1 = cof M' x1 := (cof_congr hal.same).symm
          obtain ⟨_, m6, _, go6⟩ := Asrt.stars_upd _ 1 _ rfl S5
          clear S5
          go_wp2_with fail
          refine (CE.out _ _ m6).mono ?_
          rintro e w7 ⟨rfl, F7, m7, u7⟩
          obtain ⟨F8, S8, v8⟩ := go6 _ _ _ m7 u7
          have V8 := V5.trans v8
          obtain ⟨_, n1, _⟩ := Asrt.stars_get S8 0 rfl
          clear go6 m6 m7 u7 k0 k1 k2 hc
          go_wp2_with fail
          refine (of_c n1 x1).mono ?_
          rintro e w9 ⟨rfl, q9⟩
          obtain ⟨S9, v9⟩ := Asrt.stars_same S8 q9
          obtain ⟨_, n2, _⟩ := Asrt.stars_get S9 1 rfl
          clear n1 q9 S8 v8
          go_wp2_with fail
          refine (of_c n2 x1).mono ?_
          rintro e w10 ⟨rfl, q10⟩
          obtain ⟨S10, v10⟩ := Asrt.stars_same S9 q10
          have V10 := (V8.trans v9).trans v10
          rw [hco]
          have NE := neqC (cof M' x1) (cof M' x1)
          rw [ceq_refl] at NE
          have HAL := Keep.mk hal
          clear hal hco n2 q10 S9 V8 v9 v10 V5
          generalize cof M' x1 = C at *
          simp only [aggC] at NE
          go_wp2_with fail
          go_roundw
          case rel => exact ⟨k + 1, M', N', _, by omega, by go_num, HAL.out, S10, V10, HI.out, HJ.out⟩
          case measure => simp [intOf]; omega
        · have e1 : (x1.toList == t.toList) = false := by rw [lbeq, decide_eq_false ht']
          have hal := HO.out ht'
          have hco : cof N t = cof M' t := (cof_congr hal.same).symm
          obtain ⟨_, n1, _⟩ := Asrt.stars_get S5 0 rfl
          have HAL := Keep.mk hal
          have hJ := hT.inv'
          clear ht' hal hA hT hc
          go_wp2_with fail
          refine (of_c n1 t).mono ?_
          rintro e w9 ⟨rfl, q9⟩
          obtain ⟨S9, v9⟩ := Asrt.stars_same S5 q9
          obtain ⟨_, n2, _⟩ := Asrt.stars_get S9 1 rfl
          clear n1 q9 S5
          go_wp2_with fail
          refine (of_c n2 t).mono ?_
          rintro e w10 ⟨rfl, q10⟩
          obtain ⟨S10, v10⟩ := Asrt.stars_same S9 q10
          have V10 := (V5.trans v9).trans v10
          rw [hco]
          have NE := neqC (cof M' t) (cof M' t)
          rw [ceq_refl] at NE
          clear hco n2 q10 S9 V5 v9 v10
          generalize cof M' t = C at *
          simp only [aggC] at NE
          go_wp2_with fail
          go_roundw
          case rel => exact ⟨k + 1, M', N, _, by omega, by go_num, HAL.out, S10, V10, HI.out, hJ⟩
          case measure => simp [intOf]; omega
      · clear ha
        have hI := hT.inv
        obtain ⟨_, n1, _⟩ := Asrt.stars_get hT.mem 0 rfl
        have V0 := hT.upd
        clear hT hA
        obtain ⟨wo, rfl⟩ : ∃ wo : World, wo = wr := ⟨_, rfl⟩
        go_wp2_with fail
        refine (all_c n1 hI.once (fun c hc => by have := hI.size c hc; unfold maxLen; omega) (by have := hI.few; omega)).mono ?_
        rintro e w5 ⟨va, rfl, Fa, hrow, u5⟩
        obtain ⟨G, S5, v5⟩ := Asrt.stars_new (Asrt.stars_one n1) hrow u5
        have V5 := V0.trans (u5.quiet.weaken (G := F) (F'' := none') (fun _ h => h.elim) fun _ h => h.elim)
        obtain ⟨aa, ca, rfl⟩ := (row_at hrow).slice
        have hrise := allOf_rise hI.once
        have hof := fun c (hc : c ∈ allOf M) => allOf_of hI.once hc
        have hAl : (allOf M).length ≤ 64 := by rw [(allOf_perm hI.once).length_eq]; exact hI.few
        generalize allOf M = A at *
        have HR := Keep.mk (List.pairwise_iff_getElem.1 hrise)
        have HO := Keep.mk hof
        clear hrise hof u5 n1 hrow v5 V0
        go_wp2_with fail
        go_loopw [11] (fun i wr => ∃ k, k ≤ A.length ∧ i = .int .i64 (k : Nat) ∧ (Asrt.stars [row 36 4 encC (.slice aa A.length ca) A, meterT b M]).on wr G ∧ Upd none' none' W wr) (fun i _ => A.length - (intOf i).toNat)
        case atStart => exact ⟨0, by omega, rfl, S5, V5⟩
        case round =>
          clear S5 V5
          obtain ⟨i, hi, rfl, hSt, hU⟩ := hrel
          by_cases hlt : i < A.length
          · obtain ⟨_, hrow, _⟩ := Asrt.stars_get hSt 0 rfl
            obtain ⟨g, off, rfl, hg, c0, c1, c2, c3⟩ := (row_at hrow).at.2 i hlt
            have hof := HO.out A[i] (List.getElem_mem hlt)
            obtain ⟨_, m1, _⟩ := Asrt.stars_get hSt 1 rfl
            have CO := of_c (Asrt.drew m1) A[i].t
            rw [hof] at CO
            have NE := neqC A[i] A[i]
            rw [ceq_refl] at NE
            rcases Nat.eq_zero_or_pos i with rfl | hpos
            · rw [show ((0 : Nat) : Int) = 0 from rfl]
              have e0 : decide ((0 : Int) < 0) = false := by decide
              generalize A[0] = x at *
              simp only [Nat.zero_mul, Nat.add_zero] at c0 c1 c2 c3
              have c0 := in_cell c0 hg
              have c1 := in_cell c1 hg
              have c2 := in_cell c2 hg
              have c3 := in_cell c3 hg
              simp only [aggC] at NE
              have S1 := Keep.mk hSt
              have CI : ∀ w, Quiet wr w → Calls Try.prog 16 #[.pointer (some ⟨b, 0, none⟩), .string x.t] w (Ret (aggC x) fun w' => Quiet wr w') := fun w hq => by
                have h := of_c ((meterT b M).frame m1 hq fun _ _ h => h) x.t
                rw [hof] at h
                exact h.mono fun e w' ⟨he, hw⟩ => ⟨he, Upd.trans hq hw⟩
              clear hrow hof m1
              go_wp2_with fail
              have hne : Nonempty (In (Quiet wr)) := ⟨⟨wr, Upd.refl _ _⟩⟩
              refine wp_region_class (I := Quiet wr) (by kernel_rfl) (by kernel_rfl) (Upd.refl _ _).drew ?_
              repeat (go_big_quiet_step ((go_at_call 16; exact class_call CI _)))
              refine wpQuiet_nil ?_
              rintro _ ⟨⟨w9, q9⟩, rfl⟩
              go_wp2_with fail
              obtain ⟨S2, v2⟩ := Asrt.stars_same S1.out q9
              go_roundw
              case rel => exact ⟨1, by omega, by go_num, S2, hU.thenQ q9⟩
              case measure => simp [intOf]; omega
            · obtain ⟨j, rfl⟩ : ∃ j, i = j + 1 := ⟨i - 1, by omega⟩
              obtain ⟨g', off', he, _, d0, _⟩ := (row_at hrow).at.2 j (by omega)
              cases he
              have hb := HR.out j (j + 1) (by omega) hlt (by omega)
              generalize A[j + 1] = x at *
              generalize A[j] = y at *
              have e0 : decide ((0 : Int) < (j : Int) + 1) = true := by rw [decide_eq_true_eq]; omega
              have e9 : IntKind.i64.wrap ((j : Int) + 1 - 1) = (j : Int) := by first | (rw [IntKind.wrap_i64]; omega) | rw [IntKind.wrap_i64]
              simp only [aggC] at NE
              have S1 := Keep.mk (Asrt.drew hSt)
              have c0 := in_cell c0 hg
              have c1 := in_cell c1 hg
              have c2 := in_cell c2 hg
              have c3 := in_cell c3 hg
              have d0 := in_cell d0 hg
              try simp only [aggC] at NE
              have S1 := Keep.mk hSt
              have CI : ∀ w, Quiet wr w → Calls Try.prog 16 #[.pointer (some ⟨b, 0, none⟩), .string x.t] w (Ret (aggC x) fun w' => Quiet wr w') := fun w hq => by
                have h := of_c ((meterT b M).frame m1 hq fun _ _ h => h) x.t
                rw [hof] at h
                exact h.mono fun e w' ⟨he, hw⟩ => ⟨he, Upd.trans hq hw⟩
              clear hrow hof m1 hpos
              go_wp2_with fail
              have hne : Nonempty (In (Quiet wr)) := ⟨⟨wr, Upd.refl _ _⟩⟩
              refine wp_region_class (I := Quiet wr) (by kernel_rfl) (by kernel_rfl) (Upd.refl _ _).drew ?_
              repeat (go_big_quiet_step ((go_at_call 16; exact class_call CI _)))
              refine wpQuiet_nil ?_
              rintro _ ⟨⟨w9, q9⟩, rfl⟩
              go_wp2_with fail
              obtain ⟨S2, v2⟩ := Asrt.stars_same S1.out q9
              go_roundw
              case rel => exact ⟨j + 2, by omega, by go_num, S2, hU.thenQ q9⟩
              case measure => simp [intOf]; omega
          · go_wp2_with fail
            go_ret
            exact ⟨rfl, hU⟩
end meterApart
end Go.Proofs.Ytglfkkaldeblhaa
