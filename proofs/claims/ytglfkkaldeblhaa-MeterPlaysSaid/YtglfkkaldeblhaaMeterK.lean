/- MeterSums: its walk. -/
import Derived.Test.YtglfkkaldeblhaaMeterH
import Derived.Test.YtglfkkaldeblhaaMeterI
import Derived.Test.YtglfkkaldeblhaaMeterP
namespace Go.Proofs.Ytglfkkaldeblhaa
open Go.RowKit Go.Sub Go.ChangeMaps
/-- what the statement has counted so far -/
structure Told (t : ByteArray) (k : Nat) (D U P : Int) (M : List Cnt) : Prop where
  d0 : 0 ≤ D
  d1 : D ≤ 2 * most
  u0 : 0 ≤ U
  u1 : U ≤ 2 * most
  p0 : 0 ≤ P
  p1 : P ≤ k
  is : cof M t = ⟨t, min D most, min U most, P⟩
theorem told_nil (t : ByteArray) : Told t 0 0 0 0 [] := ⟨by omega, by unfold most; omega, by omega, by unfold most; omega, by omega, by omega, rfl⟩
theorem told_same {t : ByteArray} {k : Nat} {D U P : Int} {M M' : List Cnt} (h : Told t k D U P M) (e : cof M' t = cof M t) : Told t (k + 1) D U P M' :=
  ⟨h.d0, h.d1, h.u0, h.u1, h.p0, by have := h.p1; omega, by rw [e]; exact h.is⟩
theorem told_d {t : ByteArray} {k : Nat} {D U P n : Int} {M M' : List Cnt} (h : Told t k D U P M) (hn : 0 ≤ n) (e : cof M' t = bump 1 n (cof M t)) : Told t (k + 1) (min D most + min n most) U P M' := by
  have := h.d0
  refine ⟨by unfold most; omega, by unfold most at *; omega, h.u0, h.u1, h.p0, by have := h.p1; omega, ?_⟩
  rw [e, h.is]
  simp only [bump, cap, Cnt.mk.injEq, and_true, true_and]
  unfold most at *
  omega
theorem told_u {t : ByteArray} {k : Nat} {D U P n : Int} {M M' : List Cnt} (h : Told t k D U P M) (hn : 0 ≤ n) (e : cof M' t = bump 2 n (cof M t)) : Told t (k + 1) D (min U most + min n most) P M' := by
  have := h.u0
  refine ⟨h.d0, h.d1, by unfold most; omega, by unfold most at *; omega, h.p0, by have := h.p1; omega, ?_⟩
  rw [e, h.is]
  simp only [bump, cap, Cnt.mk.injEq, and_true, true_and]
  unfold most at *
  omega
theorem told_p {t : ByteArray} {k : Nat} {D U P : Int} {M M' : List Cnt} (h : Told t k D U P M) (hk : k ≤ 400) (e : cof M' t = bump 3 1 (cof M t)) : Told t (k + 1) D U (P + 1) M' := by
  have := h.p0
  have := h.p1
  refine ⟨h.d0, h.d1, h.u0, h.u1, by omega, by omega, ?_⟩
  rw [e, h.is]
  simp only [bump, cap, Cnt.mk.injEq, and_true, true_and]
  unfold most at *
  omega
theorem MAt.alloc {W : World} {b : Nat} {w : World} {M : List Cnt} {F : Fp} (h : MAt W b w M F) (o : Obj) : MAt W b (w.alloc o) M F := ⟨Asrt.alloc h.mem o, h.upd.alloc o, h.inv⟩
/-- what a call turns, as the statement sees it -/
theorem doStep_is (M : List Cnt) (o : MOp) : CStep M o.2.1 (jn o).1 (jn o).2 (doStep M o) := cstep_is ..
namespace meterSums
set_option maxHeartbeats 4000000 in
set_option maxRecDepth 100000 in
theorem walk {W : World} (v : Value) (L : List MOp) (hL : Reads W 3 encOp v L) (hmax : L.length ≤ maxLen) (t : ByteArray) (ht : t.size ≤ maxLen) : Calls Try.prog 4 #[v, .string t] W (Ret (.bool true) fun W' => Quiet W W') := by
  unfold maxLen at ht
  go_enter Try.func4, Try.ntmps4
  go_wp2_with fail
  refine (head_c _).mono ?_
  rintro e w1 ⟨rfl, u1⟩
  go_wp2_with fail
  refine (new_c _).mono ?_
  rintro e w2 ⟨b, rfl, F, tm, u2⟩
  have hL2 := hL.upd (Upd.trans u1 u2) fun _ _ h => h
  go_wp2_with fail
  refine (great_c hL2 hmax).mono ?_
  rintro e w3 ⟨r, rfl, rfl, hr⟩
  have U2 := Upd.trans u1 u2
  cases r with
  | true =>
    clear hr
    go_wp2_with fail
    go_ret
    exact ⟨rfl, U2.quiet⟩
  | false =>
    by_cases h1000 : 1000 < t.size
    · have e0 : decide ((1000 : Int) < (t.size : Int)) = true := by simp; omega
      clear hr
      go_wp2_with fail
      go_ret
      exact ⟨rfl, U2.quiet⟩
    have e0 : decide ((1000 : Int) < (t.size : Int)) = false := by simp; omega
    obtain ⟨hn, hs⟩ := hr rfl
    clear hr hL2 h1000
    have hlen : L.length ≤ 400 := hn
    obtain ⟨a, cap, rfl, ha⟩ := hL
    have HS := Keep.mk hs
    clear hs hn
    go_wp2_with fail
    go_loopw [7, 8, 9, 10] (fun d u p i wr => ∃ k D U P M F, k ≤ L.length ∧ d = .int .i64 D ∧ u = .int .i64 U ∧ p = .int .i64 P ∧ i = .int .i64 (k : Nat) ∧ Told t k D U P M ∧ MAt W b wr M F) (fun _ _ _ i _ => L.length - (intOf i).toNat)
    case atStart => exact ⟨0, 0, 0, 0, [], F, by omega, rfl, rfl, rfl, rfl, told_nil t, tm, U2, minv_nil⟩
    case round =>
      obtain ⟨k, D, U, P, M, F, hk, rfl, rfl, rfl, rfl, hT, hA⟩ := hrel
      by_cases hlt : k < L.length
      · obtain ⟨g, off, rfl, hg, hc⟩ := ha k L[k] (List.getElem?_eq_getElem hlt)
        have hsz := HS.out L[k] (List.getElem_mem hlt)
        generalize hx : L[k] = x at *
        obtain ⟨x0, x1, x2⟩ := x
        have k0 : wr.cell? ⟨g, off + k * 3, none⟩ = some (.int .i64 x0) := by rw [hA.upd.cell hg id]; exact hc 0 _ rfl
        have k1 : wr.cell? ⟨g, off + k * 3 + 1, none⟩ = some (.string x1) := by rw [hA.upd.cell hg id]; exact hc 1 _ rfl
        have k2 : wr.cell? ⟨g, off + k * 3 + 2, none⟩ = some (.int .i64 x2) := by rw [hA.upd.cell hg id]; exact hc 2 _ rfl
        clear hx ha
        have hAa := hA.alloc (.cells #[.int .i64 x0, .string x1, .int .i64 x2] 30)
        have CD := does_c hAa.mem hA.inv.ok (x0, x1, x2)
        have hI : MInv (doStep M (x0, x1, x2)).1 := inv_cstep hA.inv hsz
        have hSt := doStep_is M (x0, x1, x2)
        have hd0 := hT.d0
        have hd1 := hT.d1
        have hu0 := hT.u0
        have hu1 := hT.u1
        have hp0 := hT.p0
        have hp1 := hT.p1
        unfold most at hd1 hu1
        generalize doStep M (x0, x1, x2) = S at *
        obtain ⟨M', r⟩ := S
        obtain ⟨wb, hwb⟩ : ∃ wb, wb = wr.alloc (.cells #[.int .i64 x0, .string x1, .int .i64 x2] 30) := ⟨_, rfl⟩
        have HW := Keep.mk hwb
        have CD := Keep.mk CD
        have HI := Keep.mk hI
        have HT := Keep.mk hT
        have HSt := Keep.mk hSt
        clear hI hwb hT hSt
        go_wp2_with fail
        refine CD.out.mono ?_
        rintro e w4 ⟨rfl, F4, h4, u4⟩
        have hA4 : MAt W b w4 M' F4 := ⟨h4, hAa.upd.trans u4, HI.out⟩
        have hg4 : g < w4.heap.size := Nat.lt_of_lt_of_le hg hA4.upd.size
        have hbs : wr.heap.size < w4.heap.size := by
          have := u4.size
          rw [size_alloc'] at this
          omega
        have kc : ∀ i, w4.cell? ⟨wr.heap.size, i, none⟩ = (#[Value.int .i64 x0, .string x1, .int .i64 x2])[i]? := fun i => by
          rw [u4.cell (a := ⟨wr.heap.size, i, none⟩) (by rw [size_alloc']; exact Nat.lt_succ_self _) (Asrt.not_new hA.mem (Nat.le_refl _))]
          exact (blk_facts (obj_alloc_at rfl)).1 i
        clear u4 h4
        by_cases hr : r = 0
        · subst hr
          by_cases ht' : x1 = t
          · subst ht'
            have e1 : (x1.toList == x1.toList) = true := by simp
            have hn0 := HSt.out.pos rfl
            have hee := HSt.out.here rfl
            by_cases h0 : x0 = 0
            · subst h0
              have hn0 : 0 ≤ x2 := hn0
              have HT' := Keep.mk (told_d HT.out hn0 hee)
              have b1 : (0 : Int) ≤ min D most := by unfold most; omega
              have ew : IntKind.i64.wrap (min D 1099511627776 + min x2 1099511627776) = min D 1099511627776 + min x2 1099511627776 := by rw [IntKind.wrap_i64]; omega
              clear hee b1
              go_wp2_with fail
              go_roundw
              case rel => exact ⟨k + 1, _, U, P, M', F4, by omega, rfl, rfl, rfl, by go_num, HT'.out, hA4⟩
              case measure => simp [intOf]; omega
            · have e2 : (x0 == 0) = false := by simp [h0]
              by_cases h1 : x0 = 1
              · subst h1
                have hn0 : 0 ≤ x2 := hn0
                have HT' := Keep.mk (told_u HT.out hn0 hee)
                have ew : IntKind.i64.wrap (min U 1099511627776 + min x2 1099511627776) = min U 1099511627776 + min x2 1099511627776 := by rw [IntKind.wrap_i64]; omega
                clear hee
                go_wp2_with fail
                go_roundw
                case rel => exact ⟨k + 1, D, _, P, M', F4, by omega, rfl, rfl, rfl, by go_num, HT'.out, hA4⟩
                case measure => simp [intOf]; omega
              · have e3 : (x0 == 1) = false := by simp [h1]
                have hee' : cof M' x1 = bump 3 1 (cof M x1) := by
                  have ej : jn (x0, x1, x2) = (3, 1) := by simp [jn, h0, h1]
                  simpa [ej] using hee
                have HT' := Keep.mk (told_p HT.out (by omega) hee')
                clear hee hee' hn0 h0 h1
                go_wp2_with fail
                go_roundw
                case rel => exact ⟨k + 1, D, U, P + 1, M', F4, by omega, rfl, rfl, rfl, by go_num, HT'.out, hA4⟩
                case measure => simp [intOf]; omega
          · have e1 : (x1.toList == t.toList) = false := by rw [lbeq, decide_eq_false ht']
            have HT' := Keep.mk (told_same HT.out (cof_congr (HSt.out.other t fun e => ht' e.symm)))
            clear ht'
            go_wp2_with fail
            go_roundw
            case rel => exact ⟨k + 1, D, U, P, M', F4, by omega, rfl, rfl, rfl, by go_num, HT'.out, hA4⟩
            case measure => simp [intOf]; omega
        · have e1 : (r != 0) = true := by simpa using hr
          have HT' := Keep.mk (told_same (M' := M') HT.out (congrArg (fun X => cof X t) (show M' = M from HSt.out.bad hr)))
          clear hr
          go_wp2_with fail
          go_roundw
          case rel => exact ⟨k + 1, D, U, P, M', F4, by omega, rfl, rfl, rfl, by go_num, HT'.out, hA4⟩
          case measure => simp [intOf]; omega
      · clear ha
        go_wp2_with fail
        refine (of_c hA.mem t).mono ?_
        rintro e w5 ⟨rfl, q5⟩
        have his := hT.is
        have hp1 := hT.p1
        rw [his]
        have EQ := eqC ⟨t, min D most, min U most, P⟩ ⟨t, min D most, min U most, P⟩
        rw [ceq_refl] at EQ
        have hUW := hA.upd.thenQ q5
        clear his hA hT
        simp only [aggC, most] at EQ
        go_wp2_with fail
        go_ret
        exact ⟨rfl, hUW.quiet.alloc _⟩
end meterSums
end Go.Proofs.Ytglfkkaldeblhaa
