/- ConnPlays: its walk. -/
import Derived.Test.YtimkbpcdbbdjlaaCrN
set_option linter.unusedVariables false
namespace Go.Proofs.Ytimkbpcdbbdjlaa
open Go.RowKit Go.Sub Go.ChangeMaps
namespace connPlays
open Cr
set_option maxHeartbeats 16000000 in
set_option maxRecDepth 100000 in
theorem walk {W : World} (v : Value) (L : List COp) (hL : ReadsO W v L) (hmax : L.length ≤ maxLen) :
    Calls Try.prog 9 #[v] W (Ret (.bool true) fun W' => Quiet W W') := by
  go_enter Try.func9, Try.ntmps9
  go_wp2_with fail
  refine (head_c _).mono ?_
  rintro e w1 ⟨rfl, u1⟩
  go_wp2_with fail
  refine (connnew_c _).mono ?_
  rintro e w2 ⟨b, rfl, F2, t2, u2⟩
  have U2 := Upd.trans u1 u2
  go_wp2_with fail
  refine (rtnew_c _).mono ?_
  rintro e w3 ⟨b2, rfl, F3, t3, u3⟩
  obtain ⟨F4, S4, u4⟩ := Asrt.stars_new (Asrt.stars_one t2) t3 u3
  have S4 := Asrt.stars_order 2 [1, 0] (by decide) rfl S4
  have U4 := U2.trans u4
  have hL2 : ReadsO w3 v L := ⟨hL.1.upd U4 fun _ _ h => h, fun o ho => (hL.2 o ho).upd U4 fun _ _ _ h => h⟩
  clear t2 t3 u1 u2 u3 u4 U2
  go_wp2_with fail
  refine (great_c hL2 hmax).mono ?_
  rintro e w5 ⟨r, rfl, rfl, hr⟩
  cases r with
  | true =>
    clear hr
    go_wp2_with fail
    go_ret
    exact ⟨rfl, U4.quiet⟩
  | false =>
    obtain ⟨hn, hb⟩ := hr rfl
    clear hr
    have hlen : L.length ≤ 400 := hn
    clear hL2 hn
    obtain ⟨⟨a, cap, rfl, ha⟩, hOb⟩ := hL
    have HB := Keep.mk hb
    have HO := Keep.mk hOb
    have HA := Keep.mk ha
    clear hb hOb ha
    go_wp2_with fail
    go_loopw [6] (fun i wr => ∃ (k : Nat) (lt : Int) (M : CT) (F : Fp), k ≤ L.length ∧ i = .int .i64 (k : Nat) ∧ (Asrt.stars [tabT b lt M, crT b2 lt M]).on wr F ∧ Upd none' F W wr ∧ TInv lt M ∧ Rises M ∧ lt ≤ k) (fun i _ => L.length - (intOf i).toNat)
    case atStart => exact ⟨0, 0, [], F4, by omega, rfl, S4, U4, tinv_nil, by simp [Rises], by omega⟩
    case round =>
      obtain ⟨k, lt, M, F, hk, rfl, S5, U5, hI, hR, hlt⟩ := hrel
      clear S4 U4
      by_cases hlt2 : k < L.length
      · obtain ⟨g, off, rfl, hg, hc⟩ := HA.out k L[k] (List.getElem?_eq_getElem hlt2)
        have hsz := HB.out L[k] (List.getElem_mem hlt2)
        have hob := HO.out L[k] (List.getElem_mem hlt2)
        generalize hx : L[k] = x at *
        clear hx
        have K0 := Keep.mk (fun (w' : World) (F' : Fp) (q : Upd none' F' W w') => show w'.cell? ⟨g, off + k * 4, none⟩ = some (.int .i64 x.what) ∧ w'.cell? ⟨g, off + k * 4 + 1, none⟩ = some (.int .i64 x.id) ∧ w'.cell? ⟨g, off + k * 4 + 2, none⟩ = some (.int .i64 x.n) ∧ w'.cell? ⟨g, off + k * 4 + 3, none⟩ = some x.v from ⟨(q.cell (a := ⟨g, off + k * 4, none⟩) hg (fun h => h)).trans (hc 0 _ rfl), (q.cell (a := ⟨g, off + k * 4 + 1, none⟩) hg (fun h => h)).trans (hc 1 _ rfl), (q.cell (a := ⟨g, off + k * 4 + 2, none⟩) hg (fun h => h)).trans (hc 2 _ rfl), (q.cell (a := ⟨g, off + k * 4 + 3, none⟩) hg (fun h => h)).trans (hc 3 _ rfl)⟩)
        obtain ⟨x0, x1, x2, x3, x4⟩ := x
        obtain ⟨av, cv, hv3, hcv⟩ := hob.slice
        simp only at hv3 hcv hsz hob
        subst hv3
        obtain ⟨k0, k1, k2, k3⟩ := K0.out wr F U5
        simp only at k0 k1 k2 k3
        have hI2 := Keep.mk (tinv_does hI ⟨x0, x1, x2, .slice av x4.length cv, x4⟩)
        have hR2 := Keep.mk (rises_does hI hR ⟨x0, x1, x2, .slice av x4.length cv, x4⟩)
        have hl2 := last_does lt M ⟨x0, x1, x2, .slice av x4.length cv, x4⟩
        have BC := Keep.mk (both_c S5 U5 hI (by omega) (what := x0) (id := x1) (n := x2) hob (by omega))
        have hkc : k ≤ 400 := by omega
        have HLT := Keep.mk hlt2
        unfold BothEnds at BC
        generalize doesS lt M ⟨x0, x1, x2, .slice av x4.length cv, x4⟩ = rr at *
        obtain ⟨lt2, M2⟩ := rr
        simp only at hI2 hR2 hl2 BC
        clear hc S5 hI hR hob
        go_wp2_with fail
        refine BC.out.mono ?_
        rintro e w6 ⟨rfl, F6, S6, u6⟩
        have U6 := U5.trans u6
        obtain ⟨k0, k1, k2, k3⟩ := K0.out w6 F6 U6
        try simp only at k0 k1 k2 k3
        clear u6 U5 BC
        go_wp2_with fail
        refine (same_one S6 hI2.out x1).mono ?_
        rintro e w7 ⟨rfl, S7, u7⟩
        have U7 := U6.trans u7
        clear u7 U6 S6 k0 k1 k2 k3
        go_wp2_with fail
        refine (on_head_row (T := fun v => v) (X := fun v => row 3 1 encIL v (keysOf (M2.map (·.1)))) S7 fun Fi h => all_c h hI2.out.nd (hI2.out.wf (by omega)) (few6 hI2.out)).mono ?_
        rintro e w8 ⟨v8, rfl, F8, S8, u8⟩
        have U8 := U7.trans u8
        have S8 := Asrt.stars_order 3 [2, 0, 1] (by decide) rfl S8
        rw [keys_same hR2.out] at S8
        clear u8 U7 S7
        go_wp2_with fail
        refine (on_head_row (T := fun v => v) (X := fun v => row 3 1 encIL1 v (M2.map (·.1))) S8 fun Fi h => rall_c h (Nat.le_trans hI2.out.few (by decide))).mono ?_
        rintro e w9 ⟨v9, rfl, F9, S9, u9⟩
        have U9 := U8.trans u9
        obtain ⟨_, r1, _⟩ := Asrt.stars_get S9 1 rfl
        obtain ⟨_, r2, _⟩ := Asrt.stars_get S9 3 rfl
        have SM := Keep.mk (same8_c (row_readsI r2) (row_readsI r1) (by have := hI2.out.few; simp; omega) (by have := hI2.out.few; simp; omega))
        rw [sameI_refl] at SM
        have S9 := Asrt.stars_order 4 [2, 0, 1, 3] (by decide) rfl S9
        clear u9 U8 S8 r1 r2
        go_wp2_with fail
        refine SM.out.mono ?_
        rintro e w10 ⟨rfl, n10, rfl⟩
        have S10 := Asrt.drewN S9 n10
        have U10 := U9.drewN n10
        obtain ⟨Fz, Sz, hz⟩ := Asrt.stars_two S10
        have HE := Keep.mk (And.intro Sz (U10.re fun k hk => U10.fp k (hz k hk)))
        clear S9 U9 S10 U10 SM Sz hz
        go_wp2_with fail
        go_roundw
        case rel => exact ⟨k + 1, lt2, M2, Fz, HLT.out, by go_num, HE.out.1, HE.out.2, hI2.out, hR2.out, by omega⟩
        case measure => have := HLT.out; simp [intOf]; omega
      · obtain rfl : k = L.length := by omega
        have HQ := Keep.mk U5.quiet
        clear S5 U5 hI hR
        go_wp2_with fail
        go_ret
        exact ⟨rfl, HQ.out⟩
end connPlays
end Go.Proofs.Ytimkbpcdbbdjlaa
