/- The document's connections: Budget, Rest, Flush. -/
import Derived.Test.YtimkbpcdbbdjlaaCrE
set_option linter.unusedVariables false
namespace Go.Proofs.Ytimkbpcdbbdjlaa.Cr
open Go.RowKit Go.Sub Go.ChangeMaps
def RBEnds (b : Nat) (last : Int) (M' : List (Int × Con)) (s : List UInt8) (F : Fp) (w : World) (e : Ending) (w' : World) : Prop := ∃ v, Ret v (fun w' => ∃ F', (Asrt.star (row 5 1 encB v s) (crT b last M')).on w' F' ∧ Upd F F' w w') e w'
theorem none_beside {A : Asrt} {w : World} {F : Fp} (h : A.on w F) : (Asrt.star (row 5 1 encB (.slice none 0 0) []) A).on w F := ⟨none', F, row_nil w 5 1 encB, h, fun _ h _ => h, by funext k; simp [none']⟩
theorem two_star {A B : Asrt} {w : World} {F : Fp} (h : (Asrt.stars [A, B]).on w F) : (Asrt.star A B).on w F := by
  obtain ⟨Fa, _, ha, ⟨Fb, Fe, hb, he, _, rfl⟩, hd, rfl⟩ := h
  have he' : Fe = fun _ => False := he
  subst he'
  exact ⟨Fa, Fb, ha, hb, fun k a b => hd k a (.inl b), by funext k; simp⟩
theorem star_two {A B : Asrt} {w : World} {F : Fp} (h : (Asrt.star A B).on w F) : (Asrt.stars [A, B]).on w F := by
  obtain ⟨Fa, Fb, ha, hb, hd, rfl⟩ := h
  exact ⟨Fa, Fb, ha, Asrt.stars_one hb, hd, rfl⟩
theorem opened_S {b : Nat} {last : Int} {L : List RE} {i : Nat} {x : RE} {R X : Asrt} {w : World} {F : Fp} {g n ca : Nat} (h : (Asrt.star X (Opened b last (.slice (some ⟨g, 0, none⟩) n ca) L i x R)).on w F) (hi : i < L.length) :
    w.cell? ⟨b, 0, none⟩ = some (.slice (some ⟨g, 0, none⟩) n ca) ∧ w.cell? ⟨g, i * 6 + 3, none⟩ = some (.pointer (some ⟨x.ro, 0, none⟩)) ∧ w.cell? ⟨g, i * 6 + 4, none⟩ = some (.int .i64 x.c.credit) ∧ w.frozen? ⟨g, i * 6 + 4, none⟩ = false := by
  obtain ⟨Fa, Fb, ha, hb, hd, rfl⟩ := h
  obtain ⟨kc, _, _⟩ := box_cell (i := 0) hb rfl
  obtain ⟨g', ca', e, hc, _⟩ := open_cells hb hi
  simp only [Value.slice.injEq, Option.some.injEq, Addr.mk.injEq, and_true] at e
  obtain ⟨rfl, _, _⟩ := e
  exact ⟨kc 0, (hc 3 _ rfl).1, (hc 4 _ rfl).1, (hc 4 _ rfl).2⟩
theorem open_row_beside {b : Nat} {last : Int} {L : List RE} {i : Nat} {x : RE} {R X : Asrt} {w : World} {F : Fp} {g n cap : Nat} (h : (Asrt.star X (Opened b last (.slice (some ⟨g, 0, none⟩) n cap) L i x R)).on w F) (hi : i < L.length) {j : Nat} (hj : j < 6) {x' : RE} {u : Value} (he : encR x' = (encR x).set j u) (hr : ringsT x'.ri x'.ro x'.c = ringsT x.ri x.ro x.c) :
    ∃ F', (Asrt.star X (Opened b last (.slice (some ⟨g, 0, none⟩) n cap) L i x' R)).on (w.setCell ⟨g, i * 6 + j, none⟩ u) F' ∧ Upd F F' w (w.setCell ⟨g, i * 6 + j, none⟩ u) := by
  obtain ⟨Fi, hO, hsub, hgo⟩ := Asrt.stars_upd _ 1 _ rfl (star_two h)
  obtain ⟨F2, h2, u2⟩ := open_row hO hi hj he hr
  obtain ⟨F3, h3, u3⟩ := hgo _ _ _ h2 u2
  exact ⟨F3, two_star h3, u3⟩
set_option maxHeartbeats 2000000 in
theorem rbudget_c {b : Nat} {last : Int} {M : List (Int × Con)} {w : World} {F : Fp} (hM : (crT b last M).on w F) (hl : M.length ≤ 1000000) (id n : Int) (hok : ConOks M id) :
    Calls Try.prog 72 #[.pointer (some ⟨b, 0, none⟩), .int .i64 id, .int .i64 n] w (REnds b last (budgetS M id n).1 (.bool (budgetS M id n).2) F w) := by
  have HM := Keep.mk hM
  obtain ⟨v0, L, k0, k1, hb, hf, rfl, hr, h⟩ := cr_open hM id
  have hlL : L.length ≤ 1000000 := by simpa using hl
  rcases h with ⟨h1, h2⟩ | ⟨i, x, R, hi, hx, hid, h1, hbef, hO, hclose⟩
  · have C := Keep.mk (rfind_no k0 hr hlL id h2)
    have E := Keep.mk (show budgetS (L.map RE.val) id n = ((L.map RE.val), false) by unfold budgetS; rw [h1])
    have KM := Keep.mk (crT_keep HM.out (Upd.refl none' w))
    rw [E.out]
    clear hr h2 h1 hM E
    go_enter Try.func72, Try.ntmps72
    go_wp2_with fail
    refine C.out.mono ?_
    rintro e w1 ⟨rfl, rfl⟩
    go_wp2_with fail
    go_ret
    exact ⟨rfl, KM.out⟩
  · have C := Keep.mk (rfind_at k0 hr hlL id hi (by rw [hx]; exact hid) hbef)
    have hcok := hok x.c h1
    obtain ⟨g, ca, rfl, hcells, hg⟩ := open_cells hO hi
    have q1 := (hcells 1 _ rfl).1
    have q2 := (hcells 2 _ rfl).1
    have q3 := (hcells 3 _ rfl).1
    have q4 := (hcells 4 _ rfl).1
    have q5 := (hcells 5 _ rfl).1
    have f4 := (hcells 4 _ rfl).2
    have f5 := (hcells 5 _ rfl).2
    have hneg : decide ((i : Int) < 0) = false := by simp
    have hi0 : (0 : Int) ≤ (i : Int) := by simp
    have hiL : (i : Int) < (L.length : Int) := by omega
    have HCL := Keep.mk hclose
    have HO := Keep.mk hO
    have H1 := Keep.mk h1
    have HOK := Keep.mk hcok
    clear hr hM hbef hid hx hcells hclose hO hcok h1
    obtain ⟨xid, ri, ro, ⟨addr, inn, out, credit, ended⟩⟩ := x
    simp only at *
    have c0 := HOK.out.k0
    have c1 := HOK.out.k1
    simp only at c0 c1
    by_cases hn : n < 0 ∨ 1073741824 < n
    · have E := Keep.mk (show budgetS (L.map RE.val) id n = ((L.map RE.val), false) by unfold budgetS; rw [H1.out]; simp only; rw [if_pos hn])
      rw [E.out]
      have KM := Keep.mk (crT_keep HM.out (Upd.refl none' w))
      clear E
      cases hneg2 : decide (n < 0) with
      | true =>
        clear hn
        go_enter Try.func72, Try.ntmps72
        go_wp2_with fail
        refine C.out.mono ?_
        rintro e w1 ⟨rfl, rfl⟩
        go_wp2_with fail
        go_ret
        exact ⟨rfl, KM.out⟩
      | false =>
        have hbig : decide (1073741824 < n) = true := by
          have := of_decide_eq_false hneg2
          simp; omega
        clear hn
        go_enter Try.func72, Try.ntmps72
        go_wp2_with fail
        refine C.out.mono ?_
        rintro e w1 ⟨rfl, rfl⟩
        go_wp2_with fail
        go_ret
        exact ⟨rfl, KM.out⟩
    · have E := Keep.mk (show budgetS (L.map RE.val) id n = (mset (L.map RE.val) id ⟨addr, inn, out, min (credit + n) 1073741824, ended⟩, true) by unfold budgetS; rw [H1.out]; simp only; rw [if_neg hn])
      rw [E.out]
      have HE := Keep.mk (fun W (hW : Quiet w W) => open_row ((Opened b last (.slice (some ⟨g, 0, none⟩) L.length ca) L i ⟨xid, ri, ro, ⟨addr, inn, out, credit, ended⟩⟩ R).frame HO.out hW (fun _ _ h => h)) hi (j := 4) (by decide) (x' := ⟨xid, ri, ro, ⟨addr, inn, out, min (credit + n) 1073741824, ended⟩⟩) (u := .int .i64 (min (credit + n) 1073741824)) rfl rfl)
      have hn0 : 0 ≤ n := by omega
      have hn1 : n ≤ 1073741824 := by omega
      have d0 : decide (n < 0) = false := by simp; omega
      have d1 : decide (1073741824 < n) = false := by simp; omega
      clear E hn
      go_enter Try.func72, Try.ntmps72
      go_wp2_with fail
      refine C.out.mono ?_
      rintro e w1 ⟨rfl, rfl⟩
      go_wp2_with fail
      go_region
      all_goals
        go_wp2_with fail
        go_ret
        obtain ⟨F3, h3, u3⟩ := HE.out w (Upd.refl none' w)
        exact ⟨rfl, F3, Asrt.drew (HCL.out _ _ _ h3), u3.drew⟩
set_option maxHeartbeats 2000000 in
theorem rrest_c {b : Nat} {last : Int} {M : List (Int × Con)} {w : World} {F : Fp} (hM : (crT b last M).on w F) (hl : M.length ≤ 1000000) (id z : Int) (hok : ConOks M id) :
    Calls Try.prog 70 #[.pointer (some ⟨b, 0, none⟩), .int .i64 id, .int .i64 z] w (RBEnds b last (restS M id z).1 (restS M id z).2 F w) := by
  have HM := Keep.mk hM
  obtain ⟨v0, L, k0, k1, hb, hf, rfl, hr, h⟩ := cr_open hM id
  have hlL : L.length ≤ 1000000 := by simpa using hl
  rcases h with ⟨h1, h2⟩ | ⟨i, x, R, hi, hx, hid, h1, hbef, hO, hclose⟩
  · have C := Keep.mk (rfind_no k0 hr hlL id h2)
    have E := Keep.mk (show restS (L.map RE.val) id z = ((L.map RE.val), []) by unfold restS; rw [h1])
    have KM := Keep.mk (show ∃ F', (Asrt.star (row 5 1 encB (.slice none 0 0) []) (crT b last (L.map RE.val))).on w F' ∧ Upd F F' w w from ⟨F, none_beside HM.out, Upd.refl F w⟩)
    rw [E.out]
    clear hr h2 h1 hM E
    go_enter Try.func70, Try.ntmps70
    go_wp2_with fail
    refine C.out.mono ?_
    rintro e w1 ⟨rfl, rfl⟩
    go_wp2_with fail
    go_ret
    exact ⟨_, rfl, KM.out⟩
  · have C := Keep.mk (rfind_at k0 hr hlL id hi (by rw [hx]; exact hid) hbef)
    have hcok := hok x.c h1
    obtain ⟨g, ca, rfl, hcells, hg⟩ := open_cells hO hi
    have q1 := (hcells 1 _ rfl).1
    have q2 := (hcells 2 _ rfl).1
    have q3 := (hcells 3 _ rfl).1
    have q4 := (hcells 4 _ rfl).1
    have q5 := (hcells 5 _ rfl).1
    have f4 := (hcells 4 _ rfl).2
    have f5 := (hcells 5 _ rfl).2
    have hneg : decide ((i : Int) < 0) = false := by simp
    have hi0 : (0 : Int) ≤ (i : Int) := by simp
    have hiL : (i : Int) < (L.length : Int) := by omega
    have HCL := Keep.mk hclose
    have HO := Keep.mk hO
    have H1 := Keep.mk h1
    have HOK := Keep.mk hcok
    clear hr hM hbef hid hx hcells hclose hO hcok h1
    obtain ⟨xid, ri, ro, ⟨addr, inn, out, credit, ended⟩⟩ := x
    simp only at *
    have li := HOK.out.li
    simp only at li
    obtain ⟨n, hn⟩ : ∃ n, n = min z.toNat inn.length := ⟨_, rfl⟩
    have E := Keep.mk (show restS (L.map RE.val) id z = (mset (L.map RE.val) id ⟨addr, inn.drop n, out, credit, ended⟩, inn.take n) by unfold restS; rw [H1.out, hn])
    rw [E.out]
    obtain ⟨Fi, hin, hsub, hgo⟩ := open_in HO.out
    have D := Keep.mk (rtake_c hin (by simp only; omega) z hn)
    have HG := Keep.mk hgo
    clear E hin hgo hn
    go_enter Try.func70, Try.ntmps70
    go_wp2_with fail
    refine C.out.mono ?_
    rintro e w1 ⟨rfl, rfl⟩
    go_wp2_with fail
    refine D.out.mono ?_
    rintro e w2 ⟨v, rfl, F2, h2, u2⟩
    have HE := Keep.mk (HG.out w2 F2 _ _ (two_star h2) u2)
    clear h2 u2
    go_wp2_with fail
    go_ret
    obtain ⟨F3, h3, u3⟩ := HE.out
    exact ⟨v, rfl, F3, Asrt.star_imp (fun G hG => HCL.out _ _ _ hG) h3, u3⟩
set_option maxHeartbeats 2000000 in
theorem rflush_c {b : Nat} {last : Int} {M : List (Int × Con)} {w : World} {F : Fp} (hM : (crT b last M).on w F) (hl : M.length ≤ 1000000) (id : Int) (hok : ConOks M id) :
    Calls Try.prog 73 #[.pointer (some ⟨b, 0, none⟩), .int .i64 id] w (RBEnds b last (flushS M id).1 (flushS M id).2 F w) := by
  have HM := Keep.mk hM
  obtain ⟨v0, L, k0, k1, hb, hf, rfl, hr, h⟩ := cr_open hM id
  have hlL : L.length ≤ 1000000 := by simpa using hl
  rcases h with ⟨h1, h2⟩ | ⟨i, x, R, hi, hx, hid, h1, hbef, hO, hclose⟩
  · have C := Keep.mk (rfind_no k0 hr hlL id h2)
    have E := Keep.mk (show flushS (L.map RE.val) id = ((L.map RE.val), []) by unfold flushS; rw [h1])
    have KM := Keep.mk (show ∃ F', (Asrt.star (row 5 1 encB (.slice none 0 0) []) (crT b last (L.map RE.val))).on w F' ∧ Upd F F' w w from ⟨F, none_beside HM.out, Upd.refl F w⟩)
    rw [E.out]
    clear hr h2 h1 hM E
    go_enter Try.func73, Try.ntmps73
    go_wp2_with fail
    refine C.out.mono ?_
    rintro e w1 ⟨rfl, rfl⟩
    go_wp2_with fail
    go_ret
    exact ⟨_, rfl, KM.out⟩
  · have C := Keep.mk (rfind_at k0 hr hlL id hi (by rw [hx]; exact hid) hbef)
    have hcok := hok x.c h1
    obtain ⟨g, ca, rfl, hcells, hg⟩ := open_cells hO hi
    have q1 := (hcells 1 _ rfl).1
    have q2 := (hcells 2 _ rfl).1
    have q3 := (hcells 3 _ rfl).1
    have q4 := (hcells 4 _ rfl).1
    have q5 := (hcells 5 _ rfl).1
    have f4 := (hcells 4 _ rfl).2
    have f5 := (hcells 5 _ rfl).2
    have hneg : decide ((i : Int) < 0) = false := by simp
    have hi0 : (0 : Int) ≤ (i : Int) := by simp
    have hiL : (i : Int) < (L.length : Int) := by omega
    have HCL := Keep.mk hclose
    have HO := Keep.mk hO
    have H1 := Keep.mk h1
    have HOK := Keep.mk hcok
    clear hr hM hbef hid hx hcells hclose hO hcok h1
    obtain ⟨xid, ri, ro, ⟨addr, inn, out, credit, ended⟩⟩ := x
    simp only at *
    have lo := HOK.out.lo
    have c0 := HOK.out.k0
    have c1 := HOK.out.k1
    simp only at lo c0 c1
    obtain ⟨n, hn⟩ : ∃ n, n = min credit.toNat out.length := ⟨_, rfl⟩
    have E := Keep.mk (show flushS (L.map RE.val) id = (mset (L.map RE.val) id ⟨addr, inn, out.drop n, credit - (n : Nat), ended⟩, out.take n) by unfold flushS; rw [H1.out, hn])
    rw [E.out]
    obtain ⟨Fi, hin, hsub, hgo⟩ := open_out HO.out
    have hnl : n ≤ out.length := by omega
    have hnc : (n : Int) ≤ credit := by omega
    have etl : (out.take n).length = n := by simp; omega
    have ew : IntKind.i64.wrap (credit - (n : Int)) = credit - (n : Int) := by rw [IntKind.wrap_i64]; omega
    have DD := Keep.mk (fun (W : World) (q : Quiet w W) => rtake_c ((rringT ro 1024 out).frame hin q (fun _ _ h => h)) (by omega) credit hn)
    have HG := Keep.mk hgo
    have HL := Keep.mk etl
    clear E hin hgo hn etl
    go_enter Try.func73, Try.ntmps73
    go_wp2_with fail
    refine C.out.mono ?_
    rintro e w1 ⟨rfl, rfl⟩
    go_wp2_with fail
    have KK : w.cell? ⟨b, 0, none⟩ = some (.slice (some ⟨g, 0, none⟩) L.length ca) ∧ w.cell? ⟨g, i * 6 + 3, none⟩ = some (.pointer (some ⟨ro, 0, none⟩)) ∧ w.cell? ⟨g, i * 6 + 4, none⟩ = some (.int .i64 credit) ∧ w.frozen? ⟨g, i * 6 + 4, none⟩ = false := ⟨k0, q3, q4, f4⟩
    have Q0 : Quiet w w.drew := (Upd.refl none' w).drew
    have U0 : Upd Fi Fi w w.drew := (Upd.refl Fi w).drew
    go_region_held3 (fun w' => w'.cell? ⟨b, 0, none⟩ = some (.slice (some ⟨g, 0, none⟩) L.length ca) ∧ w'.cell? ⟨g, i * 6 + 3, none⟩ = some (.pointer (some ⟨ro, 0, none⟩)) ∧ w'.cell? ⟨g, i * 6 + 4, none⟩ = some (.int .i64 credit) ∧ w'.frozen? ⟨g, i * 6 + 4, none⟩ = false) (first | exact KK | exact S2)
      ((go_at_call 91; refine (DD.out _ Q0).mono ?_; rintro e w2 ⟨v, rfl, F2, h2, u2⟩; obtain ⟨a2, c2, rfl, _⟩ := row_form (Asrt.stars_get h2 0 rfl).choose_spec.1; obtain ⟨F3, h3, u3⟩ := HG.out w2 F2 _ _ (two_star h2) (U0.trans u2); have S2 := opened_S h3 hi))
    all_goals
      have HL2 := HL.out
      rw [HL2] at h3
      obtain ⟨s0, s1, s2, s3⟩ := S2
      have H3 := Keep.mk h3
      clear h2 u2 h3
      try rw [HL2]
      go_wp2_with fail
      go_region
      all_goals
        go_wp2_with fail
        go_ret
        obtain ⟨F4, h4, u4⟩ := open_row_beside H3.out hi (j := 4) (by decide) (x' := ⟨xid, ri, ro, ⟨addr, inn, out.drop n, credit - (n : Nat), ended⟩⟩) (u := .int .i64 (credit - (n : Nat))) rfl rfl
        exact ⟨_, rfl, F4, Asrt.drew (Asrt.star_imp (fun G hG => HCL.out _ _ _ hG) h4), (u3.trans u4).drew⟩
end Go.Proofs.Ytimkbpcdbbdjlaa.Cr
