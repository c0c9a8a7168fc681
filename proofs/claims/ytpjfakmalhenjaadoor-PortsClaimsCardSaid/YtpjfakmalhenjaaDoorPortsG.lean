/- The document's ports: Held. -/
import Derived.Test.YtpjfakmalhenjaaDoorPortsF
set_option linter.unusedVariables false
namespace Go.Proofs.YtpjfakmalhenjaaDoor
open Go.RowKit Go.Sub Go.Shelf Go.Sort Go.ChangeMaps
theorem any_step {f : Lz → Bool} {L : List Lz} {k : Nat} (hk : k < L.length) : (L.take (k + 1)).any f = ((L.take k).any f || f L[k]) := by
  rw [List.take_succ_eq_append_getElem hk, List.any_append]; simp
theorem held_step {tenant : ByteArray} {now : Int} {L : List Lz} {k : Nat} (hk : k < 64) (b : Bool) (h : L.any (hitS (strB (nameS (20000 + (k : Int)))) (soHeld tenant now)) = b) :
    heldI (markS (soHeld tenant now) L) (k + 1) = heldI (markS (soHeld tenant now) L) k ++ (if b = true then [20000 + (k : Int)] else []) := by
  have hb := markS_bd (soHeld tenant now) L hk
  cases b with
  | true =>
    have := (hit_port _ _ hk).1 h
    rw [if_pos rfl, heldI_yes (by omega)]
  | false =>
    have : (markS (soHeld tenant now) L).getD k 0 = 0 := Classical.byContradiction fun hn => by
      have := (hit_port _ _ hk).2 hn
      rw [h] at this; cases this
    rw [if_neg (by simp), List.append_nil, heldI_no (by omega)]
set_option maxHeartbeats 16000000 in
set_option maxRecDepth 100000 in
theorem held22_c {w : World} (v : Value) (L : List Lz) (hv : Reads w 6 encL v L) (hl : L.length ≤ 1000000) (tenant : ByteArray) (now : Int) :
    Calls Tryd.prog 16 #[v, .string tenant, .int .i64 now] w (PHeldEnds tenant now L w) := by
  obtain ⟨a, cap, rfl, ha⟩ := hv
  unfold PHeldEnds heldP
  obtain ⟨i3, hi, hz0, hz1, hz2⟩ := info_parts infoI8
  have hI := Keep.mk (And.intro hi (And.intro hz0 (And.intro hz1 hz2)))
  have HA := Keep.mk ha
  clear ha hi hz0 hz1 hz2
  have S0 := Asrt.stars_one (row_nil w 3 1 encIL)
  have U0 := Upd.refl none' w
  go_enter Tryd.func16, Tryd.ntmps16
  go_wp2_with fail
  go_loopw [7, 8] (fun vo i wr => ∃ (k : Nat) (F : Fp) (ao : Option Addr) (co : Nat), k ≤ 64 ∧ i = .int .i64 (20000 + (k : Nat)) ∧ vo = .slice ao (heldI (markS (soHeld tenant now) L) k).length co ∧ (Asrt.stars [row 3 1 encIL (.slice ao (heldI (markS (soHeld tenant now) L) k).length co) (heldI (markS (soHeld tenant now) L) k)]).on wr F ∧ Upd none' F w wr) (fun _ i _ => 20064 - (intOf i).toNat)
  case atStart => exact ⟨0, none', none, 0, by omega, rfl, rfl, S0, U0⟩
  case round =>
    obtain ⟨p, F, ao, co, hp, rfl, rfl, S, U⟩ := hrel
    clear S0 U0
    obtain ⟨wo, rfl⟩ : ∃ wo : World, wo = wr := ⟨_, rfl⟩
    have hhl := heldI_len (markS (soHeld tenant now) L) p
    by_cases hlp : p < 64
    · have elp : decide (20000 + (p : Int) ≤ 20063) = true := by simp; omega
      have HST := Keep.mk (fun b => held_step (tenant := tenant) (now := now) (L := L) hlp b)
      have hnm := fun w' : World => name22_c (w := w') (20000 + (p : Int))
      generalize strB (nameS (20000 + (p : Int))) = nm at *
      generalize hq : heldI (markS (soHeld tenant now) L) p = q at *
      replace HNM := Keep.mk hnm
      clear hnm hq
      go_wp2_with fail
      go_loopw [9, 10] (fun vb i wr => ∃ (B : Bool) (k : Nat), vb = .bool B ∧ k ≤ L.length ∧ i = .int .i64 (k : Nat) ∧ B = (L.take k).any (hitS nm (soHeld tenant now)) ∧ (Asrt.stars [row 3 1 encIL (.slice ao q.length co) q]).on wr F ∧ Upd none' F w wr) (fun _ i _ => L.length - (intOf i).toNat)
      case atStart => exact ⟨false, 0, rfl, by omega, rfl, by simp, S, U⟩
      case round =>
        obtain ⟨B, k, rfl, hk, rfl, hB, Sq, Uq⟩ := hrel
        clear S U
        by_cases hlt : k < L.length
        · obtain ⟨g, off, rfl, hg, hc⟩ := HA.out k L[k] (List.getElem?_eq_getElem hlt)
          have hst := any_step (f := hitS nm (soHeld tenant now)) hlt
          rw [← hB] at hst
          have hgw : g < wr.heap.size := Nat.lt_of_lt_of_le hg Uq.size
          have hcl : ∀ j u, (encL L[k])[j]? = some u → wr.cell? ⟨g, off + k * 6 + j, none⟩ = some u := fun j u hu => by rw [Uq.cell hg fun h => h]; exact hc j u hu
          generalize L[k] = x at *
          obtain ⟨x0, x1, x2, x3, til, held⟩ := x
          have k0 : wr.cell? ⟨g, off + k * 6, none⟩ = some (.string x0) := hcl 0 _ rfl
          have k1 : wr.cell? ⟨g, off + k * 6 + 1, none⟩ = some (.string x1) := hcl 1 _ rfl
          have k4 : wr.cell? ⟨g, off + k * 6 + 4, none⟩ = some (.int .i64 til) := hcl 4 _ rfl
          have k5 : wr.cell? ⟨g, off + k * 6 + 5, none⟩ = some (.bool held) := hcl 5 _ rfl
          have c0 := in_cell k0 hgw
          have c1 := in_cell k1 hgw
          have c4 := in_cell k4 hgw
          have c5 := in_cell k5 hgw
          have CI : ∀ w', Quiet wr w' → Calls Tryd.prog 18 #[.int .i64 (20000 + (p : Int))] w' (Ret (.string nm) fun w'' => Quiet wr w'') := fun w' hq => (HNM.out w').mono fun e w'' ⟨he, hw⟩ => ⟨he, Upd.trans hq hw⟩
          have hne : Nonempty (In (Quiet wr)) := ⟨⟨wr, Upd.refl _ _⟩⟩
          clear hc hcl hB k0 k1 k4 k5
          cases B with
          | true =>
            have hh : Keep ((L.take (k + 1)).any (hitS nm (soHeld tenant now)) = true) := Keep.mk (by rw [hst]; simp [hitS, soHeld])
            clear hst
            go_wp2_with fail
            refine wp_region_class (I := Quiet wr) (by kernel_rfl) (by kernel_rfl) (Upd.refl _ _).drew ?_
            repeat (go_big_quiet_step ((go_at_call 18; exact class_call CI _)))
            refine wpQuiet_nil ?_
            rintro _ ⟨⟨w9, q9⟩, rfl⟩
            go_wp2_with fail
            obtain ⟨S2, v2⟩ := Asrt.stars_same Sq q9
            go_roundw
            case rel => exact ⟨true, k + 1, rfl, by omega, by go_num, hh.out.symm, S2, Uq.thenQ q9⟩
            case measure => simp [intOf]; omega
          | false =>
            cases hn0 : (x0.toList == nm.toList) with
            | false =>
              have hh : Keep ((L.take (k + 1)).any (hitS nm (soHeld tenant now)) = false) := Keep.mk (by rw [hst]; simp [hitS, soHeld, hn0])
              clear hst
              go_wp2_with fail
              refine wp_region_class (I := Quiet wr) (by kernel_rfl) (by kernel_rfl) (Upd.refl _ _).drew ?_
              repeat (go_big_quiet_step ((go_at_call 18; exact class_call CI _)))
              refine wpQuiet_nil ?_
              rintro _ ⟨⟨w9, q9⟩, rfl⟩
              go_wp2_with fail
              obtain ⟨S2, v2⟩ := Asrt.stars_same Sq q9
              go_roundw
              case rel => exact ⟨false, k + 1, rfl, by omega, by go_num, hh.out.symm, S2, Uq.thenQ q9⟩
              case measure => simp [intOf]; omega
            | true =>
              cases hn1 : (x1.toList == tenant.toList) with
              | false =>
                have hh : Keep ((L.take (k + 1)).any (hitS nm (soHeld tenant now)) = false) := Keep.mk (by rw [hst]; simp [hitS, soHeld, hn0, hn1])
                clear hst
                go_wp2_with fail
                refine wp_region_class (I := Quiet wr) (by kernel_rfl) (by kernel_rfl) (Upd.refl _ _).drew ?_
                repeat (go_big_quiet_step ((go_at_call 18; exact class_call CI _)))
                refine wpQuiet_nil ?_
                rintro _ ⟨⟨w9, q9⟩, rfl⟩
                go_wp2_with fail
                obtain ⟨S2, v2⟩ := Asrt.stars_same Sq q9
                go_roundw
                case rel => exact ⟨false, k + 1, rfl, by omega, by go_num, hh.out.symm, S2, Uq.thenQ q9⟩
                case measure => simp [intOf]; omega
              | true =>
                cases held with
                | false =>
                  have hh : Keep ((L.take (k + 1)).any (hitS nm (soHeld tenant now)) = false) := Keep.mk (by rw [hst]; simp [hitS, soHeld, hn0, hn1])
                  clear hst
                  go_wp2_with fail
                  refine wp_region_class (I := Quiet wr) (by kernel_rfl) (by kernel_rfl) (Upd.refl _ _).drew ?_
                  repeat (go_big_quiet_step ((go_at_call 18; exact class_call CI _)))
                  refine wpQuiet_nil ?_
                  rintro _ ⟨⟨w9, q9⟩, rfl⟩
                  go_wp2_with fail
                  obtain ⟨S2, v2⟩ := Asrt.stars_same Sq q9
                  go_roundw
                  case rel => exact ⟨false, k + 1, rfl, by omega, by go_num, hh.out.symm, S2, Uq.thenQ q9⟩
                  case measure => simp [intOf]; omega
                | true =>
                  cases hn2 : decide (now < til) with
                  | false =>
                    have hh : Keep ((L.take (k + 1)).any (hitS nm (soHeld tenant now)) = false) := Keep.mk (by rw [hst]; simp [hitS, soHeld, hn0, hn1, hn2])
                    clear hst
                    go_wp2_with fail
                    refine wp_region_class (I := Quiet wr) (by kernel_rfl) (by kernel_rfl) (Upd.refl _ _).drew ?_
                    repeat (go_big_quiet_step ((go_at_call 18; exact class_call CI _)))
                    refine wpQuiet_nil ?_
                    rintro _ ⟨⟨w9, q9⟩, rfl⟩
                    go_wp2_with fail
                    obtain ⟨S2, v2⟩ := Asrt.stars_same Sq q9
                    go_roundw
                    case rel => exact ⟨false, k + 1, rfl, by omega, by go_num, hh.out.symm, S2, Uq.thenQ q9⟩
                    case measure => simp [intOf]; omega
                  | true =>
                    have hh : Keep ((L.take (k + 1)).any (hitS nm (soHeld tenant now)) = true) := Keep.mk (by rw [hst]; simp [hitS, soHeld, hn0, hn1, hn2])
                    clear hst
                    go_wp2_with fail
                    refine wp_region_class (I := Quiet wr) (by kernel_rfl) (by kernel_rfl) (Upd.refl _ _).drew ?_
                    repeat (go_big_quiet_step ((go_at_call 18; exact class_call CI _)))
                    refine wpQuiet_nil ?_
                    rintro _ ⟨⟨w9, q9⟩, rfl⟩
                    go_wp2_with fail
                    obtain ⟨S2, v2⟩ := Asrt.stars_same Sq q9
                    go_roundw
                    case rel => exact ⟨true, k + 1, rfl, by omega, by go_num, hh.out.symm, S2, Uq.thenQ q9⟩
                    case measure => simp [intOf]; omega
        · obtain rfl : k = L.length := by omega
          rw [List.take_length] at hB
          have hh := Keep.mk (HST.out B hB.symm)
          clear hB
          cases B with
          | false =>
            have hh2 := hh.out
            rw [if_neg (by simp), List.append_nil] at hh2
            replace hh2 := Keep.mk hh2
            go_wp2_with fail
            go_roundw
            case rel => exact ⟨p + 1, F, ao, co, by omega, by go_num, by rw [hh2.out], by rw [hh2.out]; exact Sq, Uq⟩
            case measure => simp [intOf]; omega
          | true =>
            have hh2 := hh.out
            rw [if_pos rfl] at hh2
            replace hh2 := Keep.mk hh2
            obtain ⟨Fo, hrow, _, hgo⟩ := Asrt.stars_upd _ 0 _ rfl Sq
            obtain ⟨hi, hz0, hz1, hz2⟩ := hI.out
            clear hh
            go_wp2_with (at_builtin; refine at_append_row encIL 1 8 rfl (.tmp 58) (.tmp 60) 29 rfl 3 i3 _ Tryd.underlying29 hi hz0 hz1 hz2 rfl (by decide) (.slice ao q.length co) q (20000 + (p : Int)) Fo rfl (Asrt.alloc hrow _) ⟨wr.heap.size, 0, none⟩ 1 rfl rfl (cells_new wr (encIL (20000 + (p : Int))) _) ?hone ?h63 ?hby ?next)
            case hone => intro u hu; exact one_cell_int _ u hu
            case h63 => unfold maxLen; omega
            case hby => omega
            case next =>
              intro v' w8 F8 hr8 u8
              obtain ⟨F9, S9, u9⟩ := hgo w8 F8 _ hr8 (((Upd.refl Fo wr).alloc _).trans u8)
              have U9 := Uq.trans u9
              obtain ⟨a', c', rfl⟩ := (row_readsI hr8).slice
              simp only [List.set_cons_zero] at S9
              clear Sq Uq hr8 u8 u9 hi hz0 hz1 hz2 hgo hrow
              go_wp2_with fail
              go_roundw
              case rel => exact ⟨p + 1, F9, a', c', by omega, by go_num, by rw [hh2.out], by rw [hh2.out]; exact S9, U9⟩
              case measure => simp [intOf]; omega
    · obtain rfl : p = 64 := by omega
      go_wp2_with fail
      go_ret
      obtain ⟨Fz, hz, sz⟩ := Asrt.stars_get S 0 rfl
      exact ⟨_, rfl, Fz, hz, U.re fun k hk => U.fp k (sz k hk)⟩
end Go.Proofs.YtpjfakmalhenjaaDoor
