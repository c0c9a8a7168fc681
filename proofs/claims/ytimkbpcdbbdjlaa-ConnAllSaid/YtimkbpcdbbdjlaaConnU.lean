/- ConnAll: its walk. -/
import Derived.Test.YtimkbpcdbbdjlaaConnT
import Derived.Deep.QuietTactic
import Derived.BigQuiet
namespace Go.Proofs.Ytimkbpcdbbdjlaa
open Go.RowKit Go.Sub Go.ChangeMaps
namespace connAll
theorem infoB : (Try.prog.info? 4).map (fun i => (i.zero, i.size, i.bytes)) = some (some (.bool false), 1, 1) := by kernel_rfl
theorem decU32 {H : Type} {enc : TypeId × Value → H} {w : World} {base : Nat} {spare : Nat → Bool} {held : Bool} : ∀ n cs y, DataW.trod enc Try.prog w base spare held n 29 cs = some y → ∃ a : Int, cs = [.int .u32 a] ∧ True := by
  intro n cs y h
  obtain ⟨m, rfl, _, _⟩ := DataW.trod_int Try.underlying29 h
  exact ⟨m, rfl, trivial⟩
abbrev encU32 (x : Int) : List Value := [.int .u32 x]
abbrev boolsB (G : List Bool) : Obj := .cells (G.map Value.bool).toArray 4 (0, 0)
theorem bools_set (w : World) (g : Nat) (G : List Bool) (i : Nat) (hg : w.obj g = some (boolsB G)) : (w.setCell ⟨g, i, none⟩ (.bool true)).obj g = some (boolsB (G.set i true)) := by
  rw [obj_setCell_at hg]
  congr 2
  apply Array.ext'
  simp [List.map_set]
set_option maxHeartbeats 16000000 in
set_option maxRecDepth 100000 in
theorem walk {W : World} (va : Value) (ad : List Int) (ha : Reads W 1 encU32 va ad) (hal : ad.length ≤ maxLen) (vc : Value) (cl : List UInt8) (hc : Bytes W vc cl) (hcl : cl.length ≤ maxLen) :
    Calls Try.prog 4 #[va, vc] W (Ret (.bool true) fun W' => Quiet W W') := by
  obtain ⟨i3, hi, hz0, hz1, hz2⟩ := info_parts infoI
  obtain ⟨aa, ca, rfl, ha⟩ := ha
  obtain ⟨ac, cc, rfl, hcc⟩ := hc.slice
  unfold maxLen at hal hcl
  have hI := Keep.mk (And.intro hi (And.intro hz0 (And.intro hz1 hz2)))
  have HA := Keep.mk ha
  have HC := Keep.mk hc
  clear hi hz0 hz1 hz2 ha hc
  go_enter Try.func4, Try.ntmps4
  go_wp2_with fail
  refine (head_c _).mono ?_
  rintro e w1 ⟨rfl, u1⟩
  go_wp2_with fail
  refine (connnew_c _).mono ?_
  rintro e w2 ⟨b, rfl, F2, t2, u2⟩
  have U2 := Upd.trans u1 u2
  clear u1 u2
  by_cases h1 : 60 < ad.length
  · have e1 : decide ((60 : Int) < (ad.length : Int)) = true := by simp; omega
    clear h1
    go_wp2_with fail
    go_ret
    exact ⟨rfl, U2.quiet⟩
  have e1 : decide ((60 : Int) < (ad.length : Int)) = false := by simp; omega
  by_cases h2 : 60 < cl.length
  · have e2 : decide ((60 : Int) < (cl.length : Int)) = true := by simp; omega
    clear h1 h2
    go_wp2_with fail
    go_ret
    exact ⟨rfl, U2.quiet⟩
  have e2 : decide ((60 : Int) < (cl.length : Int)) = false := by simp; omega
  have l1 : ad.length ≤ 60 := by omega
  have l2 : cl.length ≤ 60 := by omega
  clear h1 h2
  have S2 := Asrt.stars_one t2
  clear t2
  go_wp2_with fail
  go_loopw [7] (fun i wr => ∃ (k : Nat) (F : Fp), k ≤ ad.length ∧ i = .int .i64 (k : Nat) ∧ (Asrt.stars [tabT b k (opened ad k)]).on wr F ∧ Upd none' F W wr) (fun i _ => ad.length - (intOf i).toNat)
  case atStart => exact ⟨0, F2, by omega, rfl, S2, U2⟩
  case round =>
    obtain ⟨k, F, hk, rfl, S3, U3⟩ := hrel
    clear S2 U2
    by_cases hlt : k < ad.length
    · obtain ⟨g, off, rfl, hg, hce⟩ := HA.out k ad[k] (List.getElem?_eq_getElem hlt)
      have kx : wr.cell? ⟨g, off + k, none⟩ = some (.int .u32 ad[k]) := by rw [U3.cell hg fun h => h]; have := hce 0 _ rfl; simpa using this
      obtain ⟨hI2, hop⟩ := opened_inv ad k (by omega)
      have hop := hop (by omega)
      have hgd : ad.getD k 0 = ad[k] := by simp [List.getD, hlt]
      rw [hgd] at hop
      have CO := Keep.mk (fun (w : World) (F : Fp) (h : (tabT b k (opened ad k)).on w F) => by have := open_c h hI2.none hI2.l0 (by omega) ad[k]; rw [hop] at this; exact this)
      generalize ad[k] = x at *
      clear hce hop hgd hI2
      go_wp2_with fail
      refine (on_head S3 fun Fi h _ => CO.out _ _ h).mono ?_
      rintro e w4 ⟨rfl, F4, S4, u4⟩
      go_wp2_with fail
      go_roundw
      case rel => exact ⟨k + 1, F4, by omega, by go_num, by simpa using S4, U3.trans u4⟩
      case measure => simp [intOf]; omega
    · obtain rfl : k = ad.length := by omega
      have hmk := run_make_bools (P := Try.prog) (t := 39) Try.underlying39 infoB (ad.length + 1) (by omega)
      rw [show ((ad.length + 1 : Nat) : Int) = (ad.length : Int) + 1 from by omega] at hmk
      obtain ⟨F4, S4, u4⟩ := Asrt.stars_box1 S3 (.cells ((falses (ad.length + 1)).map Value.bool).toArray 4)
      have U4 := U3.trans u4
      have CL0 := cl_start ad l1
      generalize opened ad ad.length = M0 at *
      generalize falses (ad.length + 1) = G0 at *
      generalize hB : wr.heap.size = B at *
      clear hlt u4 S3 U3 hk
      go_wp2_with fail
      go_loopw [11] (fun i wr => ∃ (k : Nat) (M : CT) (G : List Bool) (F : Fp), k ≤ cl.length ∧ i = .int .i64 (k : Nat) ∧ (Asrt.stars [tabT b ad.length M, .blk B (boolsB G)]).on wr F ∧ Upd none' F W wr ∧ Cl ad M G) (fun i _ => cl.length - (intOf i).toNat)
      case atStart => exact ⟨0, M0, G0, F4, by omega, rfl, S4, U4, CL0⟩
      case round =>
        obtain ⟨k, M, G, F, hk, rfl, S5, U5, C5⟩ := hrel
        clear S4 U4 CL0 hmk
        by_cases hlt : k < cl.length
        · obtain ⟨g, off, rfl, hg, hce⟩ := Bytes.at' HC.out k hlt
          have kx : wr.cell? ⟨g, off + k, none⟩ = some (bv cl[k]) := by rw [U5.cell hg fun h => h]; exact hce
          simp only [bv] at kx
          generalize cl[k] = c at *
          have hc8 : c.toNat < 256 := c.toNat_lt
          obtain ⟨n, hn⟩ : ∃ n : Nat, n = c.toNat % (ad.length + 1) := ⟨_, rfl⟩
          have hnl : n ≤ ad.length := by have := Nat.mod_lt c.toNat (show 0 < ad.length + 1 from by omega); omega
          have em : ((c.toNat : Int) % ((ad.length : Int) + 1)) = (n : Int) := by rw [hn]; push_cast; rfl
          have hh := C5.has hnl
          have hG := C5.len
          have hlg : n < G.length := by omega
          obtain ⟨kc, kf, kl⟩ := box_cell (i := 1) S5 rfl
          have kg : ∀ w : World, w.cell? ⟨B, n, none⟩ = (G.map Value.bool).toArray[n]? → w.cell? ⟨B, n, none⟩ = some (.bool (G.getD n false)) := fun w h => by rw [h]; simp [List.getD, hlg]
          have kg0 := kg wr (kc n)
          have CC := Keep.mk (fun (w : World) (F : Fp) (h : (tabT b ad.length M).on w F) => by have := close_c h n; rw [hh] at this; exact this)
          have C6 := Keep.mk (C5.close hnl)
          have HK := Keep.mk kg
          clear hn hh hce kc kf kg kg0 hG
          have nG : n < ad.length + 1 := by omega
          go_wp2_with fail
          refine (on_head S5 fun Fi h _ => CC.out _ _ h).mono ?_
          rintro e w6 ⟨rfl, F6, S6, u6⟩
          have U6 := U5.trans u6
          obtain ⟨kc, kf, kl⟩ := box_cell (i := 1) S6 rfl
          have kg0 := HK.out w6 (kc n)
          have kf0 := kf n
          obtain ⟨Fb, hb, _, hgo⟩ := Asrt.stars_upd _ 1 _ rfl S6
          have hset := bools_set w6 B G n hb.1
          obtain ⟨F7, S7, u7⟩ := hgo (w6.setCell ⟨B, n, none⟩ (.bool true)) Fb (.blk B (boolsB (G.set n true))) ⟨hset, hb.2⟩ ((Upd.refl Fb w6).setCell (.inl (by rw [hb.2])) _)
          have U7 := U6.trans u7
          clear kc kf u6 S5 U5 hgo hb hset
          by_cases h0 : n = 0
          · subst h0
            go_wp2_with fail
            go_roundw
            case rel => exact ⟨k + 1, _, _, F7, by omega, by go_num, S7, U7, C6.out⟩
            case measure => simp [intOf]; omega
          · have d0 : decide ((0 : Int) < (n : Int)) = true := by simp; omega
            have d1 : decide (0 < n) = true := by simp; omega
            rw [d0, Bool.true_and]
            generalize G.getD n false = gb at *
            cases gb with
            | true =>
              go_wp2_with fail
              go_roundw
              case rel => exact ⟨k + 1, _, _, F7, by omega, by go_num, S7, U7, C6.out⟩
              case measure => simp [intOf]; omega
            | false =>
              go_wp2_with fail
              go_roundw
              case rel => exact ⟨k + 1, _, _, F7, by omega, by go_num, S7, U7, C6.out⟩
              case measure => simp [intOf]; omega
        · obtain ⟨F6, S6, u6⟩ : ∃ F', (Asrt.stars [tabT b ad.length M, row 3 1 encIL (.slice none 0 0) (want G 0), .blk B (boolsB G)]).on wr F' ∧ Upd none' F' W wr :=
            ⟨F, Asrt.stars_perm (List.Perm.swap ..) (Asrt.stars_emp (row_nil wr 3 1 encIL) S5), U5⟩
          clear S5 U5
          go_wp2_with fail
          go_loopw [14, 15] (fun vw i wr => ∃ (k : Nat) (aw : Option Addr) (cw : Nat) (F : Fp), k ≤ ad.length ∧ i = .int .i64 ((k : Nat) + 1) ∧ vw = .slice aw (want G k).length cw ∧ (Asrt.stars [tabT b ad.length M, row 3 1 encIL (.slice aw (want G k).length cw) (want G k), .blk B (boolsB G)]).on wr F ∧ Upd none' F W wr) (fun _ i _ => ad.length + 1 - (intOf i).toNat)
          case atStart => exact ⟨0, none, 0, F6, by omega, rfl, rfl, S6, u6⟩
          case round =>
            obtain ⟨k, aw, cw, F, hk, rfl, rfl, S7, U7⟩ := hrel
            clear S6 u6
            have hG := C5.len
            have hwl := want_len G k
            by_cases hlt3 : k < ad.length
            · have hlg : k + 1 < G.length := by omega
              have hws := want_succ G k
              obtain ⟨kc, kf, kl⟩ := box_cell (i := 2) S7 rfl
              have kg0 : wr.cell? ⟨B, k + 1, none⟩ = some (.bool (G.getD (k + 1) false)) := by rw [kc]; simp [List.getD, hlg]
              cases hb : G.getD (k + 1) false with
              | true =>
                rw [hb] at kg0 hws
                rw [if_pos rfl, List.append_nil] at hws
                have HW := Keep.mk hws
                clear kc kf hb hws
                go_wp2_with fail
                go_roundw
                case rel => exact ⟨k + 1, aw, cw, F, by omega, by go_num, by rw [HW.out], by rw [HW.out]; exact S7, U7⟩
                case measure => simp [intOf]; omega
              | false =>
                have hca := C5.addr hlt3 hb
                rw [hb] at kg0 hws
                rw [if_neg (by simp)] at hws
                have HW := Keep.mk hws
                obtain ⟨g, off, rfl, hg, hce⟩ := HA.out k ad[k] (List.getElem?_eq_getElem hlt3)
                have hce0 := hce 0 _ rfl
                simp only [Nat.mul_one, Nat.add_zero] at hce0
                generalize ad[k] = x at *
                obtain ⟨Fo, hrow, _, hgo⟩ := Asrt.stars_upd _ 1 _ rfl S7
                obtain ⟨hi, hz0, hz1, hz2⟩ := hI.out
                clear kc kf hb hws hce
                go_wp2_with (at_builtin; refine at_append_row encIL 1 8 rfl (.tmp 105) (.tmp 107) 41 rfl 3 i3 _ Try.underlying41 hi hz0 hz1 hz2 rfl (by decide) (.slice aw (want G k).length cw) (want G k) ((k : Int) + 1) Fo rfl (Asrt.alloc hrow _) ⟨wr.heap.size, 0, none⟩ 1 rfl rfl (cells_new wr (encIL ((k : Int) + 1)) _) ?hone ?h63 ?hby ?next)
                case hone => intro u hu; exact one_cell_int _ u hu
                case h63 => unfold maxLen; omega
                case hby => omega
                case next =>
                  intro v' w8 F8 hr8 u8
                  obtain ⟨F9, S9, u9⟩ := hgo w8 F8 _ hr8 (((Upd.refl Fo wr).alloc _).trans u8)
                  have U9 := U7.trans u9
                  rw [← HW.out] at hr8 S9
                  obtain ⟨aw', cw', rfl⟩ := (row_readsI hr8).slice
                  simp only [List.set_cons_succ, List.set_cons_zero] at S9
                  have kx : w8.cell? ⟨g, off + k, none⟩ = some (.int .u32 x) := by rw [U9.cell hg fun h => h]; exact hce0
                  have CA := Keep.mk (fun q : Nat => by have := addr_c (Asrt.drewN (Asrt.tab_of S9).choose_spec q) ((k : Int) + 1); rw [hca] at this; exact this)
                  clear hgo hr8 u8 u9 hca hi hz0 hz1 hz2 hrow S7 U7
                  go_wp2_with fail
                  go_quiet ((go_at_call 19; exact Calls.quiet_of (CA.out _)))
                  go_wp2_with fail
                  go_roundw
                  case rel => exact ⟨k + 1, aw', cw', F9, by omega, by go_num, rfl, Asrt.drewN S9 _, U9.drewN _⟩
                  case measure => simp [intOf]; omega
            · obtain rfl : k = ad.length := by omega
              have CL := Keep.mk (fun (w : World) (F : Fp) (h : (tabT b ad.length M).on w F) => by have := all_c h C5.inv.nd (C5.inv.wf (by omega)) (by have := C5.inv.few; omega); rw [C5.all] at this; exact this)
              generalize want G ad.length = K at *
              go_wp2_with fail
              refine (on_head_row S7 fun Fi h => CL.out _ _ h).mono ?_
              rintro e w8 ⟨vk, rfl, F8, S8, u8⟩
              have U8 := U7.trans u8
              obtain ⟨_, r1, _⟩ := Asrt.stars_get S8 1 rfl
              obtain ⟨_, r2, _⟩ := Asrt.stars_get S8 2 rfl
              have CS := same8_c (row_readsI r1) (row_readsI r2) (by omega) (by omega)
              rw [sameI_refl] at CS
              obtain ⟨ak, ck, rfl⟩ := (row_readsI r1).slice
              clear r1 r2 S7 U7 u8
              go_wp2_with fail
              refine CS.mono ?_
              rintro e wz ⟨rfl, nz, rfl⟩
              go_wp2_with fail
              go_ret
              exact ⟨rfl, U8.quiet.drewN nz⟩
end connAll
end Go.Proofs.Ytimkbpcdbbdjlaa
