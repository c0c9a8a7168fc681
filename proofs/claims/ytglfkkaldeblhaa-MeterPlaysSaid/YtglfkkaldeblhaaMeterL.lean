/- MeterNever: its walk. -/
import Derived.Test.YtglfkkaldeblhaaMeterK
namespace Go.Proofs.Ytglfkkaldeblhaa
open Go.RowKit Go.Sub Go.ChangeMaps
theorem bump_up {j : Nat} {n : Int} {c : Cnt} (h : Ok c) (hn : 0 ≤ n) : c.d ≤ (bump j n c).d ∧ c.u ≤ (bump j n c).u ∧ c.p ≤ (bump j n c).p := by
  have h1 := cap_in h.d0 h.d1 hn
  have h2 := cap_in h.u0 h.u1 hn
  have h3 := cap_in h.p0 h.p1 hn
  unfold bump
  split
  · exact ⟨h1.2.2, Int.le_refl _, Int.le_refl _⟩
  · exact ⟨Int.le_refl _, h2.2.2, Int.le_refl _⟩
  · exact ⟨Int.le_refl _, Int.le_refl _, h3.2.2⟩
/-- a count after a call, beside what it was -/
structure Up (c c' : Cnt) : Prop where
  d : decide (c'.d < c.d) = false
  u : decide (c'.u < c.u) = false
  p : decide (c'.p < c.p) = false
  md : decide ((1099511627776 : Int) < c'.d) = false
  mu : decide ((1099511627776 : Int) < c'.u) = false
theorem _root_.Go.Sub.Asrt.stars_blk {l : List Asrt} {w : World} {F : Fp} (hS : (Asrt.stars l).on w F) (i : Nat) {b : Nat} {c : Array Value} {t : TypeId} (h : l[i]? = some (.blk b (.cells c t (0, 0)))) :
    (∀ j, w.cell? ⟨b, j, none⟩ = c[j]?) ∧ b < w.heap.size := by
  obtain ⟨_, h1, _⟩ := Asrt.stars_get hS i h
  exact ⟨(blk_facts h1.1).1, (blk_facts h1.1).2.2⟩
theorem up_step {M : List Cnt} {t : ByteArray} {j : Nat} {n : Int} {S : List Cnt × Int} (h : CStep M t j n S) (hok : ∀ c ∈ M, Ok c) : Up (cof M t) (cof S.1 t) := by
  have h0 := cof_ok hok t
  have key : (cof M t).d ≤ (cof S.1 t).d ∧ (cof M t).u ≤ (cof S.1 t).u ∧ (cof M t).p ≤ (cof S.1 t).p ∧ Ok (cof S.1 t) := by
    by_cases hr : S.2 = 0
    · rw [h.here hr]
      obtain ⟨a, b, c⟩ := bump_up (j := j) h0 (h.pos hr)
      exact ⟨a, b, c, bump_ok h0 (h.pos hr)⟩
    · rw [h.bad hr]
      exact ⟨Int.le_refl _, Int.le_refl _, Int.le_refl _, h0⟩
  obtain ⟨a, b, c, d⟩ := key
  have := d.d1
  have := d.u1
  unfold most at *
  exact ⟨by simp; omega, by simp; omega, by simp; omega, by simp; omega, by simp; omega⟩
/-- why a call was refused, as the statement asks -/
theorem full_of {M : List Cnt} {x : MOp} {S : List Cnt × Int} (h : CStep M x.2.1 (jn x).1 (jn x).2 S) (hr : S.2 ≠ 0) (h0 : 0 ≤ x.1) (h2 : x.1 < 2) (hn : 0 ≤ x.2.2) : M.length = 64 := by
  have hj : (jn x).2 = x.2.2 := by
    unfold jn
    by_cases e : x.1 = 0
    · rw [if_pos e]
    · rw [if_neg e, if_pos (by omega)]
  rcases h.why hr with h | h
  · rw [hj] at h; omega
  · exact h
abbrev opB (x0 : Int) (x1 : ByteArray) (x2 : Int) : Obj := .cells #[.int .i64 x0, .string x1, .int .i64 x2] 30 (0, 0)
abbrev cB (c : Cnt) : Obj := .cells c.cells 36 (0, 0)
namespace meterNever
set_option maxHeartbeats 8000000 in
set_option maxRecDepth 100000 in
theorem walk {W : World} (v : Value) (L : List MOp) (hL : Reads W 3 encOp v L) (hmax : L.length ≤ maxLen) : Calls Try.prog 5 #[v] W (Ret (.bool true) fun W' => Quiet W W') := by
  go_enter Try.func5, Try.ntmps5
  go_wp2_with fail
  refine (head_c _).mono ?_
  rintro e w1 ⟨rfl, u1⟩
  go_wp2_with fail
  refine (new_c _).mono ?_
  rintro e w2 ⟨b, rfl, F, t, u2⟩
  have hL2 := hL.upd (Upd.trans u1 u2) fun _ _ h => h
  go_wp2_with fail
  refine (great_c hL2 hmax).mono ?_
  rintro e w3 ⟨r, rfl, rfl, hr⟩
  have U2 := Upd.trans u1 u2
  cases r with
  | true =>
    clear hr
    go_wp2_with fail
    go_ret
    exact ⟨rfl, U2.quiet⟩
  | false =>
    obtain ⟨hn, hs⟩ := hr rfl
    clear hr hL2
    have hlen : L.length ≤ 400 := hn
    obtain ⟨a, cap, rfl, ha⟩ := hL
    have HS := Keep.mk hs
    clear hs hn
    go_wp2_with fail
    go_loopw [5] (fun i wr => ∃ k M F, k ≤ L.length ∧ i = .int .i64 (k : Nat) ∧ MAt W b wr M F) (fun i _ => L.length - (intOf i).toNat)
    case atStart => exact ⟨0, [], F, by omega, rfl, t, U2, minv_nil⟩
    case round =>
      obtain ⟨k, M, F, hk, rfl, hA⟩ := hrel
      by_cases hlt : k < L.length
      · obtain ⟨g, off, rfl, hg, hc⟩ := ha k L[k] (List.getElem?_eq_getElem hlt)
        have hsz := HS.out L[k] (List.getElem_mem hlt)
        generalize hx : L[k] = x at *
        obtain ⟨x0, x1, x2⟩ := x
        have k0 : wr.cell? ⟨g, off + k * 3, none⟩ = some (.int .i64 x0) := by rw [hA.upd.cell hg id]; exact hc 0 _ rfl
        have k1 : wr.cell? ⟨g, off + k * 3 + 1, none⟩ = some (.string x1) := by rw [hA.upd.cell hg id]; exact hc 1 _ rfl
        have k2 : wr.cell? ⟨g, off + k * 3 + 2, none⟩ = some (.int .i64 x2) := by rw [hA.upd.cell hg id]; exact hc 2 _ rfl
        clear hx ha
        have hI : MInv (doStep M (x0, x1, x2)).1 := inv_cstep hA.inv hsz
        have hStep := doStep_is M (x0, x1, x2)
        have hUp := up_step hStep hA.inv.ok
        have hAl : (allOf M).length = M.length := (allOf_perm hA.inv.once).length_eq
        have CD := fun (w : World) (F : Fp) (h : (meterT b M).on w F) => does_c h hA.inv.ok (x0, x1, x2)
        have CO := fun (w : World) (F : Fp) (h : (meterT b M).on w F) => of_c h x1
        have CA := fun (w : World) (F : Fp) (h : (meterT b M).on w F) => all_c h hA.inv.once (fun c hc => by have := hA.inv.size c hc; unfold maxLen; omega) (by have := hA.inv.few; omega)
        generalize doStep M (x0, x1, x2) = S at *
        obtain ⟨M', r⟩ := S
        have hI : MInv M' := hI
        have CO' := fun (w : World) (F : Fp) (h : (meterT b M').on w F) => of_c h x1
        have CA' := fun (w : World) (F : Fp) (h : (meterT b M').on w F) => all_c h hI.once (fun c hc => by have := hI.size c hc; unfold maxLen; omega) (by have := hI.few; omega)
        have hAl' : (allOf M').length ≤ 64 := by rw [(allOf_perm hI.once).length_eq]; exact hI.few
        have hAA : r ≠ 0 → allOf M' = allOf M := fun h => by rw [show M' = M from hStep.bad h]
        have hfull : r ≠ 0 → 0 ≤ x0 → x0 < 2 → 0 ≤ x2 → (allOf M).length = 64 := fun h a b c => by rw [hAl]; exact full_of hStep h a b c
        have hAl0 : (allOf M).length ≤ 64 := by rw [hAl]; exact hA.inv.few
        generalize cof M x1 = C0 at *
        generalize cof M' x1 = C1 at *
        generalize allOf M = A0 at *
        generalize allOf M' = A1 at *
        have HS0 := Asrt.stars_one hA.mem
        have HI := Keep.mk hI
        have HUp := Keep.mk hUp
        have HF := Keep.mk hfull
        have HAA := Keep.mk hAA
        clear hI hStep hUp hfull hAA hAl
        obtain ⟨F1, S1, v1⟩ := new_blk HS0 (opB x0 x1 x2)
        -- Of
        obtain ⟨_, m1, _⟩ := Asrt.stars_get S1 1 rfl
        go_wp2_with fail
        refine (CO _ _ m1).mono ?_
        rintro e w2' ⟨rfl, q2⟩
        obtain ⟨S2, v2⟩ := Asrt.stars_same S1 q2
        obtain ⟨F3, S3, v3⟩ := new_blk S2 (cB C0)
        obtain ⟨_, m3, _⟩ := Asrt.stars_get S3 2 rfl
        clear S1 m1 q2
        go_wp2_with fail
        refine (CA _ _ m3).mono ?_
        rintro e w4 ⟨va, rfl, Fa, hrow, u4⟩
        obtain ⟨F4, S4, v4⟩ := Asrt.stars_new S3 hrow u4
        obtain ⟨aa, ca, rfl⟩ := (row_at hrow).slice
        have k4 := (blk_facts (Asrt.stars_get S4 2 rfl).choose_spec.1.1).1
        have l4 := (blk_facts (Asrt.stars_get S4 2 rfl).choose_spec.1.1).2.2
        obtain ⟨_, m4, _, go4⟩ := Asrt.stars_upd _ 3 _ rfl S4
        clear m3 u4 hrow S3 S2
        go_wp2_with fail
        refine (CD _ _ m4).mono ?_
        rintro e w5 ⟨rfl, F5', m5, u5⟩
        obtain ⟨F5, S5, v5⟩ := go4 _ _ _ m5 u5
        have k5 := (blk_facts (Asrt.stars_get S5 2 rfl).choose_spec.1.1).1
        have l5 := (blk_facts (Asrt.stars_get S5 2 rfl).choose_spec.1.1).2.2
        clear go4 m4 k4 l4 S4 u5
        go_wp2_with fail
        refine (CO' _ _ m5).mono ?_
        rintro e w6 ⟨rfl, q6⟩
        obtain ⟨S6, v6⟩ := Asrt.stars_same S5 q6
        obtain ⟨F7, S7, v7⟩ := new_blk S6 (cB C1)
        clear q6 S5 m5 k5 l5 S6
        have V7 := ((((((hA.upd.trans v1).trans v2).trans v3).trans v4).trans v5).trans v6).trans v7
        obtain ⟨kn, ln⟩ := Asrt.stars_blk S7 0 rfl
        obtain ⟨kw, lw⟩ := Asrt.stars_blk S7 2 rfl
        obtain ⟨ko, lo⟩ := Asrt.stars_blk S7 3 rfl
        obtain ⟨_, m7, _⟩ := Asrt.stars_get S7 4 rfl
        obtain ⟨du, uu, pu, mdu, muu⟩ := HUp.out
        clear v1 v2 v3 v4 v5 v6 v7
        by_cases hr : r = 0
        · subst hr
          go_wp2_with fail
          refine (CA' _ _ m7).mono ?_
          rintro e w10 ⟨va', rfl, Fb, hrow', u10⟩
          obtain ⟨F10, S10, v10⟩ := Asrt.stars_new S7 hrow' u10
          obtain ⟨_, m10, s10⟩ := Asrt.stars_get S10 5 rfl
          obtain ⟨a10, c10, rfl⟩ := (row_at hrow').slice
          have e64 : decide ((64 : Int) < (A1.length : Int)) = false := by simp; omega
          have V10 := V7.trans v10
          clear hrow' u10
          go_wp2_with fail
          go_roundw
          case rel => exact ⟨k + 1, M', _, by omega, by go_num, m10, V10.re fun k hk => V10.fp k (s10 k hk), HI.out⟩
          case measure => simp [intOf]; omega
        · have e1 : (r != 0) = true := by simpa using hr
          have hAA := HAA.out hr
          have hF := HF.out hr
          subst hAA
          have HF' := Keep.mk hF
          clear hr hF
          go_wp2_with fail
          refine (CA' _ _ m7).mono ?_
          rintro e w8 ⟨vb, rfl, Fb, hrowb, u8⟩
          obtain ⟨F8, S8, v8⟩ := Asrt.stars_new S7 hrowb u8
          obtain ⟨ab, cb, rfl⟩ := (row_at hrowb).slice
          obtain ⟨_, r1, _⟩ := Asrt.stars_get S8 2 rfl
          have SC := same_c (row_at hrowb) (row_at r1) (by omega) (by omega)
          rw [sameL_iff.2 rfl] at SC
          have V8 := V7.trans v8
          clear u8 hrowb r1 kn ln kw lw ko lo S7 m7 V7 v8
          go_wp2_with fail
          refine SC.mono ?_
          rintro e w9 ⟨rfl, nq, rfl⟩
          clear SC
          have S9 := Asrt.drewN S8 nq
          obtain ⟨kn, ln⟩ := Asrt.stars_blk S9 1 rfl
          obtain ⟨kw, lw⟩ := Asrt.stars_blk S9 3 rfl
          obtain ⟨ko, lo⟩ := Asrt.stars_blk S9 4 rfl
          obtain ⟨_, m9, _⟩ := Asrt.stars_get S9 5 rfl
          have V9 := V8.drewN nq
          clear S8 V8
          have fin : ∀ p q z : Bool, p = decide (x0 < 2) → q = decide (0 ≤ x0) → z = decide (0 ≤ x2) → (p && q && z) = true → decide ((A1.length : Int) < 64) = false := by
            rintro p q z rfl rfl rfl h
            simp at h
            have := HF'.out h.1.2 h.1.1 h.2
            simp; omega
          have FIN := Keep.mk fin
          clear fin
          have T := Keep.mk (True.intro)
          by_cases c1 : x0 < 2
          · have d1 : decide (x0 < 2) = true := by simpa using c1
            by_cases c2 : 0 ≤ x0
            · have d2 : decide (0 ≤ x0) = true := by simpa using c2
              by_cases c3 : 0 ≤ x2
              · have d3 : decide (0 ≤ x2) = true := by simpa using c3
                have d4 := FIN.out _ _ _ d1.symm d2.symm d3.symm rfl
                clear c1 c2 c3
                go_wp2_with fail
                refine (CA' _ _ m9).mono ?_
                rintro e w10 ⟨va', rfl, Fb, hrow', u10⟩
                obtain ⟨F10, S10, v10⟩ := Asrt.stars_new S9 hrow' u10
                obtain ⟨_, m10, s10⟩ := Asrt.stars_get S10 6 rfl
                obtain ⟨a10, c10, rfl⟩ := (row_at hrow').slice
                have e64 : decide ((64 : Int) < (A1.length : Int)) = false := by simp; omega
                have V10 := V9.trans v10
                clear hrow' u10
                go_wp2_with fail
                go_roundw
                case rel => exact ⟨k + 1, M', _, by omega, by go_num, m10, V10.re fun k hk => V10.fp k (s10 k hk), HI.out⟩
                case measure => simp [intOf]; omega
              · have d3 : decide (0 ≤ x2) = false := by simpa using c3
                clear c1 c2 c3
                go_wp2_with fail
                refine (CA' _ _ m9).mono ?_
                rintro e w10 ⟨va', rfl, Fb, hrow', u10⟩
                obtain ⟨F10, S10, v10⟩ := Asrt.stars_new S9 hrow' u10
                obtain ⟨_, m10, s10⟩ := Asrt.stars_get S10 6 rfl
                obtain ⟨a10, c10, rfl⟩ := (row_at hrow').slice
                have e64 : decide ((64 : Int) < (A1.length : Int)) = false := by simp; omega
                have V10 := V9.trans v10
                clear hrow' u10
                go_wp2_with fail
                go_roundw
                case rel => exact ⟨k + 1, M', _, by omega, by go_num, m10, V10.re fun k hk => V10.fp k (s10 k hk), HI.out⟩
                case measure => simp [intOf]; omega
            · have d2 : decide (0 ≤ x0) = false := by simpa using c2
              clear c1 c2
              go_wp2_with fail
              refine (CA' _ _ m9).mono ?_
              rintro e w10 ⟨va', rfl, Fb, hrow', u10⟩
              obtain ⟨F10, S10, v10⟩ := Asrt.stars_new S9 hrow' u10
              obtain ⟨_, m10, s10⟩ := Asrt.stars_get S10 6 rfl
              obtain ⟨a10, c10, rfl⟩ := (row_at hrow').slice
              have e64 : decide ((64 : Int) < (A1.length : Int)) = false := by simp; omega
              have V10 := V9.trans v10
              clear hrow' u10
              go_wp2_with fail
              go_roundw
              case rel => exact ⟨k + 1, M', _, by omega, by go_num, m10, V10.re fun k hk => V10.fp k (s10 k hk), HI.out⟩
              case measure => simp [intOf]; omega
          · have d1 : decide (x0 < 2) = false := by simpa using c1
            clear c1
            go_wp2_with fail
            refine (CA' _ _ m9).mono ?_
            rintro e w10 ⟨va', rfl, Fb, hrow', u10⟩
            obtain ⟨F10, S10, v10⟩ := Asrt.stars_new S9 hrow' u10
            obtain ⟨_, m10, s10⟩ := Asrt.stars_get S10 6 rfl
            obtain ⟨a10, c10, rfl⟩ := (row_at hrow').slice
            have e64 : decide ((64 : Int) < (A1.length : Int)) = false := by simp; omega
            have V10 := V9.trans v10
            clear hrow' u10
            go_wp2_with fail
            go_roundw
            case rel => exact ⟨k + 1, M', _, by omega, by go_num, m10, V10.re fun k hk => V10.fp k (s10 k hk), HI.out⟩
            case measure => simp [intOf]; omega
      · clear ha
        go_wp2_with fail
        go_ret
        exact ⟨rfl, hA.upd.quiet⟩
end meterNever
end Go.Proofs.Ytglfkkaldeblhaa
