/- PortsHeld: its walk. -/
import Derived.Test.YtpjfakmalhenjaaDoorPortsI
set_option linter.unusedVariables false
namespace Go.Proofs.YtpjfakmalhenjaaDoor
open Go.RowKit Go.Sub Go.Shelf Go.Sort Go.ChangeMaps Go.Lib
namespace portsHeld
def dl (c : List Int) : List Nat := (List.range 64).filter fun i => decide (0 < c.getD i 0)
theorem held_dl (c : List Int) : heldI c 64 = (dl c).map fun i : Nat => 20000 + (i : Int) := rfl
theorem held_ith {c : List Int} {i : Nat} (hi : i < (heldI c 64).length) : ∃ j : Nat, j < 64 ∧ 0 < c.getD j 0 ∧ (heldI c 64)[i] = 20000 + (j : Int) := by
  have hd : i < (dl c).length := by simpa [held_dl] using hi
  have hm := List.getElem_mem hd
  obtain ⟨h1, h2⟩ := List.mem_filter.1 hm
  exact ⟨(dl c)[i], List.mem_range.1 h1, by simpa using h2, by simp [held_dl]⟩
theorem held_rise {c : List Int} {i : Nat} (hi : i + 1 < (heldI c 64).length) : (heldI c 64)[i]'(by omega) < (heldI c 64)[i + 1] := by
  have hd : i + 1 < (dl c).length := by simpa [held_dl] using hi
  have hp : (dl c).Pairwise (· < ·) := (List.pairwise_lt_range (n := 64)).sublist List.filter_sublist
  have := List.pairwise_iff_getElem.1 hp i (i + 1) (by omega) hd (by omega)
  simp only [held_dl, List.getElem_map]
  omega
theorem held_ith' {c : List Int} {i : Nat} {x : Int} (hx : (heldI c 64)[i]? = some x) : ∃ j : Nat, j < 64 ∧ 0 < c.getD j 0 ∧ x = 20000 + (j : Int) := by
  obtain ⟨hi, rfl⟩ := List.getElem?_eq_some_iff.1 hx
  exact held_ith hi
theorem held_rise' {c : List Int} {i : Nat} {x y : Int} (hx : (heldI c 64)[i]? = some x) (hy : (heldI c 64)[i + 1]? = some y) : x < y := by
  obtain ⟨hi, rfl⟩ := List.getElem?_eq_some_iff.1 hx
  obtain ⟨hj, rfl⟩ := List.getElem?_eq_some_iff.1 hy
  exact held_rise hj
theorem never_next {grace : Int} {tenant other : ByteArray} {now : Int} {L : List Lz} {j : Nat} (hL : ∀ x ∈ L, x.til ≤ 2199023255552) (n0 : 0 ≤ now) (hj : j < 64) (h : 0 < (markS (soHeld tenant now) L).getD j 0) : (markS (soNext grace other now) L).getD j 0 ≠ 0 := by
  intro h0
  have hz := (markS_zero _ L hj).1 h0
  have : (markS (soHeld tenant now) L).getD j 0 = 0 := (markS_zero _ L hj).2 fun x hx => by
    have h1 := hz x hx
    have h2 := hL x hx
    cases hs : soHeld tenant now x with
    | false => simp [isPort, hs]
    | true =>
      simp only [soHeld, Bool.and_eq_true, decide_eq_true_eq] at hs
      obtain ⟨_, h3, h4⟩ := hs
      have : soNext grace other now x = true := by
        unfold soNext
        rw [if_neg (by omega), if_pos h3, if_pos h4]
      simp only [isPort, this, Bool.and_true] at h1
      simp only [isPort, h1, Bool.false_and]
  omega
theorem nextI_zero {c : List Int} {k : Nat} (h : nextI c = some k) : c.getD k 0 = 0 := by
  unfold nextI at h
  have := List.find?_some h
  simpa using this
theorem next_apart {grace : Int} {tenant other : ByteArray} {now : Int} {L : List Lz} {j : Nat} (hL : ∀ x ∈ L, x.til ≤ 2199023255552) (n0 : 0 ≤ now) (hj : j < 64) (h : 0 < (markS (soHeld tenant now) L).getD j 0) {n : Int} (hn : nextP grace other now L = some n) : 20000 + (j : Int) ≠ n := by
  intro e
  unfold nextP at hn
  split at hn
  · cases hn
  · obtain ⟨k, hk, rfl⟩ := Option.map_eq_some_iff.1 hn
    have : j = k := by omega
    subst this
    exact never_next hL n0 hj h (nextI_zero hk)
theorem next_nil {grace : Int} {tenant : ByteArray} {now : Int} (g0 : 1 ≤ grace) (g1 : grace ≤ 1073741824) (n0 : 0 ≤ now) (n1 : now ≤ 1099511627776) : nextP grace tenant now [] = some 20000 := by
  unfold nextP
  rw [if_neg (by omega)]
  rfl
theorem held_nil (tenant : ByteArray) (now : Int) : heldP tenant now [] = [] := rfl
def flt (L : List Lz) : List Lz := L.filter fun x => decide (x.til ≤ 2199023255552)
theorem flt_yes {L : List Lz} {k : Nat} (hk : k < L.length) (h : L[k].til ≤ 2199023255552) : flt (L.take (k + 1)) = flt (L.take k) ++ [L[k]] := by
  unfold flt
  rw [List.take_succ_eq_append_getElem hk, List.filter_append, List.filter_cons, if_pos (by simpa using h)]
  rfl
theorem flt_no {L : List Lz} {k : Nat} (hk : k < L.length) (h : ¬ L[k].til ≤ 2199023255552) : flt (L.take (k + 1)) = flt (L.take k) := by
  unfold flt
  rw [List.take_succ_eq_append_getElem hk, List.filter_append, List.filter_cons, if_neg (by simpa using h)]
  simp
theorem flt_len (L : List Lz) : (flt L).length ≤ L.length := List.length_filter_le ..
set_option maxHeartbeats 16000000 in
set_option maxRecDepth 100000 in
theorem walk {W : World} (ht : Tab10 W) (v : Value) (L : List Lz) (hL : Reads W 6 encL v L ∧ ∀ x ∈ L, x.name.size ≤ maxLen) (hmax : L.length ≤ maxLen) (grace : Int) (hg : (Lit.int .i64 grace).wf = true) (tenant : ByteArray) (hts : tenant.size ≤ maxLen) (other : ByteArray) (hos : other.size ≤ maxLen) (now : Int) (hnw : (Lit.int .i64 now).wf = true) :
    Calls Tryd.prog 4 #[v, .int .i64 grace, .string tenant, .string other, .int .i64 now] W (Ret (.bool true) fun W' => Quiet W W') := by
  obtain ⟨hR, hN⟩ := hL
  obtain ⟨a, cap, rfl, ha⟩ := id hR
  have HN := Keep.mk hN
  have HR := Keep.mk hR
  have HT := Keep.mk ht
  have HA := Keep.mk ha
  obtain ⟨iL, hi, hz0, hz1, hz2⟩ := info_parts infoL
  have hI := Keep.mk (And.intro hi (And.intro hz0 (And.intro hz1 hz2)))
  clear hN ha hR ht hi hz0 hz1 hz2
  go_enter Tryd.func4, Tryd.ntmps4
  go_wp2_with fail
  refine (head_c HT.out).mono ?_
  rintro e w1 ⟨rfl, q1⟩
  go_wp2_with fail
  refine (great_c (HR.out.upd q1 fun _ _ h => h) hmax).mono ?_
  rintro e w2 ⟨r, rfl, ⟨n2, rfl⟩, hr⟩
  have Q2 := Keep.mk (q1.drewN n2)
  clear q1
  generalize w1.drewN n2 = w2 at *
  cases r with
  | true =>
    clear hr
    go_wp2_with fail
    go_ret
    exact ⟨rfl, Q2.out⟩
  | false =>
    have hlen := hr rfl
    clear hr
    cases hz : decide ((1000 : Int) < wrap64 ((tenant.size : Int) + (other.size : Int))) with
    | true =>
      go_wp2_with fail
      go_ret
      exact ⟨rfl, Q2.out⟩
    | false =>
      cases c0 : decide (grace < 1) with
      | true =>
        go_wp2_with fail
        go_ret
        exact ⟨rfl, Q2.out⟩
      | false =>
        cases c1 : decide (1073741824 < grace) with
        | true =>
          go_wp2_with fail
          go_ret
          exact ⟨rfl, Q2.out⟩
        | false =>
          cases c2 : decide (now < 0) with
          | true =>
            go_wp2_with fail
            go_ret
            exact ⟨rfl, Q2.out⟩
          | false =>
            cases c3 : decide (1099511627776 < now) with
            | true =>
              go_wp2_with fail
              go_ret
              exact ⟨rfl, Q2.out⟩
            | false =>
              have b0 : 1 ≤ grace := by simpa using c0
              have b1 : grace ≤ 1073741824 := by simpa using c1
              have b2 : 0 ≤ now := by simpa using c2
              have b3 : now ≤ 1099511627776 := by simpa using c3
              have S0 := Asrt.stars_one (row_nil w2 34 6 encL)
              have U0 := Q2.out
              go_wp2_with fail
              go_loopw [12, 13] (fun vf i wr => ∃ (k : Nat) (F : Fp) (ao : Option Addr) (co : Nat), k ≤ L.length ∧ i = .int .i64 (k : Nat) ∧ vf = .slice ao (flt (L.take k)).length co ∧ (Asrt.stars [row 34 6 encL (.slice ao (flt (L.take k)).length co) (flt (L.take k))]).on wr F ∧ Upd none' F W wr) (fun _ i _ => L.length - (RowKit.intOf i).toNat)
              case atStart => exact ⟨0, none', none, 0, by omega, rfl, rfl, S0, U0⟩
              case round =>
                obtain ⟨k, F, ao, co, hk, rfl, rfl, S, U⟩ := hrel
                clear S0 U0
                by_cases hlt : k < L.length
                · obtain ⟨g, off, rfl, hgl, hc⟩ := HA.out k L[k] (List.getElem?_eq_getElem hlt)
                  have hfl := flt_len (L.take k)
                  have hyes := Keep.mk (fun h => flt_yes hlt h)
                  have hno := Keep.mk (fun h => flt_no hlt h)
                  have htk : (L.take k).length = k := by simp; omega
                  rw [htk] at hfl
                  have hcl : ∀ j u, (encL L[k])[j]? = some u → wr.cell? ⟨g, off + k * 6 + j, none⟩ = some u := fun j u hu => by rw [U.cell hgl fun h => h]; exact hc j u hu
                  generalize hf : flt (L.take k) = q at *
                  generalize L[k] = x at *
                  obtain ⟨x0, x1, x2, x3, til, held⟩ := x
                  have k0 : wr.cell? ⟨g, off + k * 6, none⟩ = some (.string x0) := hcl 0 _ rfl
                  have k1 : wr.cell? ⟨g, off + k * 6 + 1, none⟩ = some (.string x1) := hcl 1 _ rfl
                  have k2 : wr.cell? ⟨g, off + k * 6 + 2, none⟩ = some (.int .i64 x2) := hcl 2 _ rfl
                  have k3 : wr.cell? ⟨g, off + k * 6 + 3, none⟩ = some (.int .i64 x3) := hcl 3 _ rfl
                  have k4 : wr.cell? ⟨g, off + k * 6 + 4, none⟩ = some (.int .i64 til) := hcl 4 _ rfl
                  have k5 : wr.cell? ⟨g, off + k * 6 + 5, none⟩ = some (.bool held) := hcl 5 _ rfl
                  clear hc hcl hf
                  by_cases hc : til ≤ 2199023255552
                  · have et : decide (til ≤ 2199023255552) = true := by simpa using hc
                    have hy := Keep.mk (hyes.out hc)
                    obtain ⟨Fo, hrow, _, hgo⟩ := Asrt.stars_upd _ 0 _ rfl S
                    obtain ⟨hi, hz0, hz1, hz2⟩ := hI.out
                    clear hc
                    go_wp2_with (at_builtin; refine at_append_row encL 6 64 rfl (.tmp 60) (.tmp 65) 22 rfl 34 iL _ Tryd.underlying22 hi hz0 hz1 hz2 rfl (by decide) (.slice ao q.length co) q ⟨x0, x1, x2, x3, til, held⟩ Fo rfl (Asrt.alloc hrow _) ⟨wr.heap.size, 0, none⟩ 1 rfl rfl (cells_new wr (encL ⟨x0, x1, x2, x3, til, held⟩) _) (hone_L _) ?h63 ?hby ?next)
                    case h63 => unfold maxLen; omega
                    case hby => omega
                    case next =>
                      intro v' w8 F8 hr8 u8
                      obtain ⟨F9, S9, u9⟩ := hgo w8 F8 _ hr8 (((Upd.refl Fo wr).alloc _).trans u8)
                      have U9 := U.trans u9
                      obtain ⟨a', c', rfl, _⟩ := (row_reads (enc := encL) (fun _ => rfl) hr8).1
                      simp only [List.set_cons_zero] at S9
                      clear S U hr8 u8 u9 hi hz0 hz1 hz2 hgo hrow
                      go_wp2_with fail
                      go_roundw
                      case rel => exact ⟨k + 1, F9, a', c', by omega, by go_num, by rw [hy.out], by rw [hy.out]; exact S9, U9⟩
                      case measure => simp [RowKit.intOf]; omega
                  · have et : decide (til ≤ 2199023255552) = false := by simpa using hc
                    have hy := Keep.mk (hno.out hc)
                    clear hc
                    go_wp2_with fail
                    go_roundw
                    case rel => exact ⟨k + 1, F, ao, co, by omega, by go_num, by rw [hy.out], by rw [hy.out]; exact S, U⟩
                    case measure => simp [RowKit.intOf]; omega
                · obtain rfl : k = L.length := by omega
                  rw [List.take_length] at S ⊢
                  have hfl := flt_len L
                  have hfN : ∀ x ∈ flt L, x.name.size ≤ maxLen := fun x hx => HN.out x (List.mem_filter.1 hx).1
                  have hfT : ∀ x ∈ flt L, x.til ≤ 2199023255552 := fun x hx => by simpa using (List.mem_filter.1 hx).2
                  obtain ⟨_, hrow, _⟩ := Asrt.stars_get S 0 rfl
                  have RF := Keep.mk (row_reads (enc := encL) (fun _ => rfl) hrow).1
                  have QU := Keep.mk U.quiet
                  have C1 := Keep.mk (pheld_c (tab_upd HT.out U.quiet) (.slice ao (flt L).length co) (flt L) RF.out (by omega) hfN tenant now)
                  have C2 := Keep.mk (fun (w' : World) (hq : Quiet wr w') => pnext_c (tab_upd HT.out (U.quiet.trans hq)) (.slice ao (flt L).length co) (flt L) (RF.out.upd hq fun _ _ h => h) (by omega) hfN grace other now)
                  have C3 := Keep.mk (fun (w' : World) (hq : Quiet W w') => by have := pnext_c (tab_upd HT.out hq) (.slice none 0 0) [] ⟨none, 0, rfl, fun i x hx => by simp at hx⟩ (by decide) (fun x hx => by cases hx) grace tenant now; unfold PNextEnds at this; rw [next_nil b0 b1 b2 b3] at this; exact this)
                  have C4 := Keep.mk (fun (w' : World) (hq : Quiet W w') => by have := pheld_c (tab_upd HT.out hq) (.slice none 0 0) [] ⟨none, 0, rfl, fun i x hx => by simp at hx⟩ (by decide) (fun x hx => by cases hx) tenant now; unfold PHeldEnds at this; rw [held_nil] at this; exact this)
                  unfold PHeldEnds heldP at C1
                  unfold PNextEnds at C2
                  have HI := Keep.mk (fun (i : Nat) (x : Int) (hx : (heldI (markS (soHeld tenant now) (flt L)) 64)[i]? = some x) => held_ith' hx)
                  have HJ := Keep.mk (fun (i : Nat) (x y : Int) (hx : (heldI (markS (soHeld tenant now) (flt L)) 64)[i]? = some x) (hy : (heldI (markS (soHeld tenant now) (flt L)) 64)[i + 1]? = some y) => held_rise' hx hy)
                  have HX := Keep.mk (fun (j : Nat) (hj : j < 64) (h : 0 < (markS (soHeld tenant now) (flt L)).getD j 0) (n : Int) (hn : nextP grace other now (flt L) = some n) => next_apart hfT b2 hj h hn)
                  have hhl := heldI_len (markS (soHeld tenant now) (flt L)) 64
                  have hNP : ∀ n, nextP grace other now (flt L) = some n → (nextP grace other now (flt L)).getD 0 = n := fun n h => by rw [h]; rfl
                  generalize heldI (markS (soHeld tenant now) (flt L)) 64 = X at *
                  generalize hnp : nextP grace other now (flt L) = np at *
                  clear S U hrow hfN hfT HR HA HT HN hnp c0 c1 c2 c3
                  go_wp2_with fail
                  refine C1.out.mono ?_
                  rintro e w5 ⟨v5, rfl, F5, h5, u5⟩
                  have Q5 := Keep.mk u5.quiet
                  have R5 := Keep.mk (row_readsI h5)
                  obtain ⟨a5, c5, rfl⟩ := R5.out.slice
                  clear h5 u5
                  go_wp2_with fail
                  refine (C2.out _ Q5.out).mono ?_
                  rintro e w6 ⟨rfl, q6⟩
                  have R6 := Keep.mk (R5.out.quiet q6)
                  have Q6 := Keep.mk ((QU.out.trans Q5.out).trans q6)
                  have HX2 : Keep (np.isSome = true → ∀ (j : Nat), j < 64 → 0 < (markS (soHeld tenant now) (flt L)).getD j 0 → ((20000 + (j : Int)) == np.getD 0) = false) := Keep.mk (fun hs j hj h => by
                    obtain ⟨n, rfl⟩ := Option.isSome_iff_exists.1 hs
                    have := HX.out j hj h n rfl
                    simpa using this)
                  generalize np.getD 0 = nn at *
                  generalize np.isSome = nb at *
                  clear q6 R5 Q5 QU C1 C2 HX RF hNP
                  go_wp2_with fail
                  have U6 := Upd.refl none' w6
                  go_loopw [17] (fun i wr => ∃ k : Nat, k ≤ X.length ∧ i = .int .i64 (k : Nat) ∧ Quiet w6 wr) (fun i _ => X.length - (RowKit.intOf i).toNat)
                  case atStart => exact ⟨0, by omega, rfl, U6⟩
                  case round =>
                    obtain ⟨k, hk, rfl, hq⟩ := hrel
                    clear U6
                    by_cases hlt : k < X.length
                    · obtain ⟨j, hj, hp, ex⟩ := HI.out k X[k] (List.getElem?_eq_getElem hlt)
                      obtain ⟨_, hgt⟩ := (R6.out.quiet hq).at
                      obtain ⟨g, og, rfl, hgl, hcx⟩ := hgt k hlt
                      have x0 : decide (20000 + (j : Int) < 20000) = false := by simp; omega
                      have x1 : decide (20063 < 20000 + (j : Int)) = false := by simp; omega
                      have x2 : nb = true → ((20000 + (j : Int)) == nn) = false := fun h => HX2.out h j hj hp
                      rw [ex] at hcx
                      have c0 := in_cell hcx hgl
                      have hne : Nonempty (In (Quiet wr)) := ⟨⟨wr, Upd.refl _ _⟩⟩
                      rcases Nat.eq_zero_or_pos k with rfl | hpos
                      · have e0 : decide ((0 : Int) < 0) = false := by decide
                        rw [show ((0 : Nat) : Int) = 0 from rfl] at *
                        simp only [Nat.add_zero] at c0
                        generalize 20000 + (j : Int) = y at *
                        clear hgt hcx ex
                        cases nb with
                        | false =>
                          clear x2
                          go_wp2_with fail
                          refine wp_region_class (I := Quiet wr) (by kernel_rfl) (by kernel_rfl) (Upd.refl _ _).drew ?_
                          repeat (go_big_quiet_step (fail))
                          refine wpQuiet_nil ?_
                          rintro _ ⟨⟨w9, q9⟩, rfl⟩
                          go_wp2_with fail
                          go_roundw
                          case rel => exact ⟨1, by omega, by go_num, hq.trans q9⟩
                          case measure => simp [RowKit.intOf]; omega
                        | true =>
                          have x3 := x2 rfl
                          clear x2
                          go_wp2_with fail
                          refine wp_region_class (I := Quiet wr) (by kernel_rfl) (by kernel_rfl) (Upd.refl _ _).drew ?_
                          repeat (go_big_quiet_step (fail))
                          refine wpQuiet_nil ?_
                          rintro _ ⟨⟨w9, q9⟩, rfl⟩
                          go_wp2_with fail
                          go_roundw
                          case rel => exact ⟨1, by omega, by go_num, hq.trans q9⟩
                          case measure => simp [RowKit.intOf]; omega
                      · obtain ⟨i, rfl⟩ : ∃ i, k = i + 1 := ⟨k - 1, by omega⟩
                        obtain ⟨g', og', he, _, hcy⟩ := hgt i (by omega)
                        cases he
                        have d0 := in_cell hcy hgl
                        have hrise := HJ.out i X[i] X[i + 1] (List.getElem?_eq_getElem (by omega)) (List.getElem?_eq_getElem hlt)
                        rw [ex] at hrise
                        generalize X[i] = z at *
                        generalize 20000 + (j : Int) = y at *
                        have x4 : decide (y ≤ z) = false := by simp; omega
                        have e0 : decide ((0 : Int) < (i : Int) + 1) = true := by rw [decide_eq_true_eq]; omega
                        clear hgt hcx ex hcy hrise hpos
                        cases nb with
                        | false =>
                          clear x2
                          go_wp2_with fail
                          refine wp_region_class (I := Quiet wr) (by kernel_rfl) (by kernel_rfl) (Upd.refl _ _).drew ?_
                          repeat (go_big_quiet_step (fail))
                          refine wpQuiet_nil ?_
                          rintro _ ⟨⟨w9, q9⟩, rfl⟩
                          go_wp2_with fail
                          go_roundw
                          case rel => exact ⟨i + 2, by omega, by go_num, hq.trans q9⟩
                          case measure => simp [RowKit.intOf]; omega
                        | true =>
                          have x3 := x2 rfl
                          clear x2
                          go_wp2_with fail
                          refine wp_region_class (I := Quiet wr) (by kernel_rfl) (by kernel_rfl) (Upd.refl _ _).drew ?_
                          repeat (go_big_quiet_step (fail))
                          refine wpQuiet_nil ?_
                          rintro _ ⟨⟨w9, q9⟩, rfl⟩
                          go_wp2_with fail
                          go_roundw
                          case rel => exact ⟨i + 2, by omega, by go_num, hq.trans q9⟩
                          case measure => simp [RowKit.intOf]; omega
                    · have Q7 := Keep.mk (Q6.out.trans hq)
                      go_wp2_with fail
                      refine (C3.out _ Q7.out).mono ?_
                      rintro e w7 ⟨rfl, q7⟩
                      simp only [Option.getD, Option.isSome]
                      have Q8 := Keep.mk (Q7.out.trans q7)
                      go_wp2_with fail
                      refine (C4.out _ Q8.out).mono ?_
                      rintro e w8 ⟨v8, rfl, F8, h8, u8⟩
                      have Q9 := Keep.mk (Q8.out.trans u8.quiet)
                      obtain ⟨a8, c8, rfl⟩ := (row_readsI h8).slice
                      clear h8 u8
                      go_wp2_with fail
                      go_ret
                      exact ⟨rfl, Q9.out⟩
end portsHeld
end Go.Proofs.YtpjfakmalhenjaaDoor
