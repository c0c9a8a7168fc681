/- The document's connections: Feed, Say, Half, Budget. -/
import Derived.Test.YtimkbpcdbbdjlaaCrD
set_option linter.unusedVariables false
namespace Go.Proofs.Ytimkbpcdbbdjlaa.Cr
open Go.RowKit Go.Sub Go.ChangeMaps
theorem row_congr {α : Type} {e : TypeId} {k : Nat} {enc : α → List Value} {v : Value} {L L' : List α} (h : L.map enc = L'.map enc) : row e k enc v L = row e k enc v L' := by
  have hl : L.length = L'.length := by simpa using congrArg List.length h
  have hf : L.flatMap enc = L'.flatMap enc := by rw [List.flatMap_def, List.flatMap_def, h]
  unfold row
  simp only [hl, hf]
theorem set_enc {L : List RE} {i : Nat} {x y : RE} (h : encR x = encR y) : (L.set i x).map encR = (L.set i y).map encR := by rw [List.map_set, List.map_set, h]
theorem opened_enc {b : Nat} {last : Int} {v : Value} {L : List RE} {i : Nat} {x y : RE} {R : Asrt} (h : encR x = encR y) (G : Asrt) : Asrt.stars [.blk b (tabO v last), rowR v (L.set i x), G, R] = Asrt.stars [.blk b (tabO v last), rowR v (L.set i y), G, R] := by
  rw [show rowR v (L.set i x) = rowR v (L.set i y) from row_congr (set_enc h)]
section
variable {b : Nat} {last : Int} {v : Value} {L : List RE} {i : Nat} {x : RE} {R : Asrt} {w : World} {F : Fp}
theorem open_in (h : (Opened b last v L i x R).on w F) : ∃ Fi, (rringT x.ri 512 x.c.inn).on w Fi ∧ (∀ k, Fi k → F k) ∧ ∀ w' Fi' inn' X, (Asrt.star X (rringT x.ri 512 inn')).on w' Fi' → Upd Fi Fi' w w' →
    ∃ F', (Asrt.star X (Opened b last v L i { x with c := { x.c with inn := inn' } } R)).on w' F' ∧ Upd F F' w w' := by
  obtain ⟨Fg, hg, hsub, hgo⟩ := Asrt.stars_upd _ 2 _ rfl h
  obtain ⟨Fi, hi, hsub2, hgo2⟩ := Asrt.stars_upd _ 0 _ rfl hg
  refine ⟨Fi, hi, fun k hk => hsub k (hsub2 k hk), fun w' Fi' inn' X hX hu => ?_⟩
  obtain ⟨F2, h2, u2⟩ := hgo2 w' Fi' _ hX hu
  have h3 : (Asrt.star X (ringsT x.ri x.ro { x.c with inn := inn' })).on w' F2 := Asrt.star_out [rringT x.ri 512 x.c.inn, rringT x.ro 1024 x.c.out] 0 (by simp) h2
  obtain ⟨F4, h4, u4⟩ := hgo w' F2 _ h3 u2
  refine ⟨F4, ?_, u4⟩
  have h5 := Asrt.star_out [.blk b (tabO v last), rowR v (L.set i x), ringsT x.ri x.ro x.c, R] 2 (by simp) h4
  have h6 : Opened b last v L i { x with c := { x.c with inn := inn' } } R = Asrt.stars [.blk b (tabO v last), rowR v (L.set i x), ringsT x.ri x.ro { x.c with inn := inn' }, R] := opened_enc (x := { x with c := { x.c with inn := inn' } }) (y := x) rfl _
  rw [h6]
  exact h5
theorem open_out (h : (Opened b last v L i x R).on w F) : ∃ Fi, (rringT x.ro 1024 x.c.out).on w Fi ∧ (∀ k, Fi k → F k) ∧ ∀ w' Fi' out' X, (Asrt.star X (rringT x.ro 1024 out')).on w' Fi' → Upd Fi Fi' w w' →
    ∃ F', (Asrt.star X (Opened b last v L i { x with c := { x.c with out := out' } } R)).on w' F' ∧ Upd F F' w w' := by
  obtain ⟨Fg, hg, hsub, hgo⟩ := Asrt.stars_upd _ 2 _ rfl h
  obtain ⟨Fi, hi, hsub2, hgo2⟩ := Asrt.stars_upd _ 1 _ rfl hg
  refine ⟨Fi, hi, fun k hk => hsub k (hsub2 k hk), fun w' Fi' out' X hX hu => ?_⟩
  obtain ⟨F2, h2, u2⟩ := hgo2 w' Fi' _ hX hu
  have h3 : (Asrt.star X (ringsT x.ri x.ro { x.c with out := out' })).on w' F2 := Asrt.star_out [rringT x.ri 512 x.c.inn, rringT x.ro 1024 x.c.out] 1 (by simp) h2
  obtain ⟨F4, h4, u4⟩ := hgo w' F2 _ h3 u2
  refine ⟨F4, ?_, u4⟩
  have h5 := Asrt.star_out [.blk b (tabO v last), rowR v (L.set i x), ringsT x.ri x.ro x.c, R] 2 (by simp) h4
  have h6 : Opened b last v L i { x with c := { x.c with out := out' } } R = Asrt.stars [.blk b (tabO v last), rowR v (L.set i x), ringsT x.ri x.ro { x.c with out := out' }, R] := opened_enc (x := { x with c := { x.c with out := out' } }) (y := x) rfl _
  rw [h6]
  exact h5
theorem open_row {g n cap : Nat} (h : (Opened b last (.slice (some ⟨g, 0, none⟩) n cap) L i x R).on w F) (hi : i < L.length) {j : Nat} (hj : j < 6) {x' : RE} {u : Value} (he : encR x' = (encR x).set j u) (hr : ringsT x'.ri x'.ro x'.c = ringsT x.ri x.ro x.c) :
    ∃ F', (Opened b last (.slice (some ⟨g, 0, none⟩) n cap) L i x' R).on (w.setCell ⟨g, i * 6 + j, none⟩ u) F' ∧ Upd F F' w (w.setCell ⟨g, i * 6 + j, none⟩ u) := by
  obtain ⟨Fr, hrow, hsub, hgo⟩ := Asrt.stars_upd _ 1 _ rfl h
  obtain ⟨h2, u2⟩ := row_set (enc := encR) (fun _ => rfl) hrow (i := i) (j := j) (by simpa using hi) hj (x' := x') (u := u) (by simpa using he)
  obtain ⟨F3, h3, u3⟩ := hgo _ _ _ h2 u2
  refine ⟨F3, ?_, u3⟩
  unfold Opened
  rw [hr]
  have e : (L.set i x).set i x' = L.set i x' := List.set_set ..
  rw [e] at h3
  exact h3
theorem open_cells (h : (Opened b last v L i x R).on w F) (hi : i < L.length) : ∃ g ca, v = .slice (some ⟨g, 0, none⟩) L.length ca ∧ (∀ j u, (encR x)[j]? = some u → w.cell? ⟨g, i * 6 + j, none⟩ = some u ∧ w.frozen? ⟨g, i * 6 + j, none⟩ = false) ∧ g < w.heap.size := by
  obtain ⟨Fr, hrow, hsub⟩ := Asrt.stars_get h 1 rfl
  obtain ⟨g, ca, rfl⟩ := row_some hrow (i := i) (by simpa using hi)
  refine ⟨g, ca, by simp, fun j u hu => row_cell (enc := encR) (fun _ => rfl) hrow (i := i) (by simpa using hi) (by simpa using hu), ?_⟩
  obtain ⟨cur, hg, _⟩ := row_blk hrow
  exact lt_of_heap hg
end
abbrev ConOks (M : List (Int × Con)) (id : Int) : Prop := ∀ c, mget M id = some c → ConOk c
def REnds (b : Nat) (last : Int) (M' : List (Int × Con)) (r : Value) (F : Fp) (w : World) : Ending → World → Prop := Ret r fun w' => ∃ F', (crT b last M').on w' F' ∧ Upd F F' w w'
theorem crT_keep {b : Nat} {last : Int} {M : List (Int × Con)} {w w' : World} {F : Fp} (h : (crT b last M).on w F) (q : Quiet w w') : ∃ F', (crT b last M).on w' F' ∧ Upd F F' w w' := ⟨F, (crT b last M).frame h q (fun _ _ h => h), (Upd.refl F w).thenQ q⟩
theorem drewn_quiet {w w' : World} (h : ∃ n, w' = w.drewN n) : Quiet w w' := by obtain ⟨n, rfl⟩ := h; exact (Upd.refl none' w).drewN n
set_option maxHeartbeats 2000000 in
theorem rfeed_c {b : Nat} {last : Int} {M : List (Int × Con)} {w : World} {F : Fp} (hM : (crT b last M).on w F) (hl : M.length ≤ 1000000) (id : Int) (hok : ConOks M id) {v : Value} {s : List UInt8} (hv : Bytes w v s) (hs : s.length ≤ 1000000) :
    Calls Try.prog 68 #[.pointer (some ⟨b, 0, none⟩), .int .i64 id, v] w (REnds b last (feedS M id s).1 (.int .i64 ((feedS M id s).2 : Nat)) F w) := by
  have HM := Keep.mk hM
  obtain ⟨v0, L, k0, k1, hb, hf, rfl, hr, h⟩ := cr_open hM id
  have hlL : L.length ≤ 1000000 := by simpa using hl
  rcases h with ⟨h1, h2⟩ | ⟨i, x, R, hi, hx, hid, h1, hbef, hO, hclose⟩
  · have C := Keep.mk (rfind_no k0 hr hlL id h2)
    have E := Keep.mk (show feedS (L.map RE.val) id s = ((L.map RE.val), 0) by unfold feedS; rw [h1])
    have KM := Keep.mk (crT_keep HM.out (Upd.refl none' w))
    rw [E.out]
    clear hr h2 h1 hM E
    go_enter Try.func68, Try.ntmps68
    go_wp2_with fail
    refine C.out.mono ?_
    rintro e w1 ⟨rfl, rfl⟩
    go_wp2_with fail
    go_ret
    exact ⟨rfl, KM.out⟩
  · have C := Keep.mk (rfind_at k0 hr hlL id hi (by rw [hx]; exact hid) hbef)
    have hcok := hok x.c h1
    obtain ⟨g, ca, rfl, hcells, hg⟩ := open_cells hO hi
    have q1 := (hcells 1 _ rfl).1
    have q2 := (hcells 2 _ rfl).1
    have q3 := (hcells 3 _ rfl).1
    have q4 := (hcells 4 _ rfl).1
    have q5 := (hcells 5 _ rfl).1
    have f4 := (hcells 4 _ rfl).2
    have f5 := (hcells 5 _ rfl).2
    have hneg : decide ((i : Int) < 0) = false := by simp
    have hi0 : (0 : Int) ≤ (i : Int) := by simp
    have hiL : (i : Int) < (L.length : Int) := by omega
    have HCL := Keep.mk hclose
    have HO := Keep.mk hO
    have H1 := Keep.mk h1
    have HOK := Keep.mk hcok
    clear hr hM hbef hid hx hcells hclose hO hcok h1
    obtain ⟨xid, ri, ro, ⟨addr, inn, out, credit, ended⟩⟩ := x
    simp only at *
    cases ended with
    | true =>
      have E := Keep.mk (show feedS (L.map RE.val) id s = ((L.map RE.val), 0) by unfold feedS; rw [H1.out]; rfl)
      have KM := Keep.mk (crT_keep HM.out (Upd.refl none' w))
      rw [E.out]
      clear E
      go_enter Try.func68, Try.ntmps68
      go_wp2_with fail
      refine C.out.mono ?_
      rintro e w1 ⟨rfl, rfl⟩
      go_wp2_with fail
      go_ret
      exact ⟨rfl, KM.out⟩
    | false =>
      have E := Keep.mk (show feedS (L.map RE.val) id s = (mset (L.map RE.val) id ⟨addr, inn ++ s.take (min s.length (512 - inn.length)), out, credit, false⟩, min s.length (512 - inn.length)) by unfold feedS; rw [H1.out]; rfl)
      rw [E.out]
      obtain ⟨Fi, hin, _, hgo⟩ := open_in HO.out
      have D := Keep.mk (radd_c hin HOK.out.li (by decide) hv hs)
      have HG := Keep.mk hgo
      clear E hin hgo hv
      go_enter Try.func68, Try.ntmps68
      go_wp2_with fail
      refine C.out.mono ?_
      rintro e w1 ⟨rfl, rfl⟩
      go_wp2_with fail
      refine D.out.mono ?_
      rintro e w2 ⟨rfl, F2, h2, u2⟩
      have HE := Keep.mk (HG.out w2 F2 _ .emp (Asrt.emp_star h2) u2)
      clear h2 u2
      go_wp2_with fail
      go_ret
      obtain ⟨F3, h3, u3⟩ := HE.out
      exact ⟨rfl, F3, HCL.out _ _ _ (Asrt.of_emp_star h3), u3⟩
set_option maxHeartbeats 2000000 in
theorem rhalf_c {b : Nat} {last : Int} {M : List (Int × Con)} {w : World} {F : Fp} (hM : (crT b last M).on w F) (hl : M.length ≤ 1000000) (id : Int) (hok : ConOks M id) (hsame : ∀ c, mget M id = some c → mset M id c = M) :
    Calls Try.prog 74 #[.pointer (some ⟨b, 0, none⟩), .int .i64 id] w (REnds b last (halfS M id).1 (.bool (halfS M id).2) F w) := by
  have HM := Keep.mk hM
  obtain ⟨v0, L, k0, k1, hb, hf, rfl, hr, h⟩ := cr_open hM id
  have hlL : L.length ≤ 1000000 := by simpa using hl
  rcases h with ⟨h1, h2⟩ | ⟨i, x, R, hi, hx, hid, h1, hbef, hO, hclose⟩
  · have C := Keep.mk (rfind_no k0 hr hlL id h2)
    have E := Keep.mk (show halfS (L.map RE.val) id = ((L.map RE.val), false) by unfold halfS; rw [h1])
    have KM := Keep.mk (crT_keep HM.out (Upd.refl none' w))
    rw [E.out]
    clear hr h2 h1 hM E
    go_enter Try.func74, Try.ntmps74
    go_wp2_with fail
    refine C.out.mono ?_
    rintro e w1 ⟨rfl, rfl⟩
    go_wp2_with fail
    go_ret
    exact ⟨rfl, KM.out⟩
  · have C := Keep.mk (rfind_at k0 hr hlL id hi (by rw [hx]; exact hid) hbef)
    have hcok := hok x.c h1
    obtain ⟨g, ca, rfl, hcells, hg⟩ := open_cells hO hi
    have q1 := (hcells 1 _ rfl).1
    have q2 := (hcells 2 _ rfl).1
    have q3 := (hcells 3 _ rfl).1
    have q4 := (hcells 4 _ rfl).1
    have q5 := (hcells 5 _ rfl).1
    have f4 := (hcells 4 _ rfl).2
    have f5 := (hcells 5 _ rfl).2
    have hneg : decide ((i : Int) < 0) = false := by simp
    have hi0 : (0 : Int) ≤ (i : Int) := by simp
    have hiL : (i : Int) < (L.length : Int) := by omega
    have HCL := Keep.mk hclose
    have HO := Keep.mk hO
    have H1 := Keep.mk h1
    have HOK := Keep.mk hcok
    clear hr hM hbef hid hx hcells hclose hO hcok h1
    obtain ⟨xid, ri, ro, ⟨addr, inn, out, credit, ended⟩⟩ := x
    simp only at *
    cases ended with
    | true =>
      have E := Keep.mk (show halfS (L.map RE.val) id = ((L.map RE.val), false) by unfold halfS; rw [H1.out]; exact Prod.ext (hsame _ H1.out) rfl)
      have KM := Keep.mk (crT_keep HM.out (Upd.refl none' w))
      rw [E.out]
      clear E
      go_enter Try.func74, Try.ntmps74
      go_wp2_with fail
      refine C.out.mono ?_
      rintro e w1 ⟨rfl, rfl⟩
      go_wp2_with fail
      go_ret
      exact ⟨rfl, KM.out⟩
    | false =>
      have E := Keep.mk (show halfS (L.map RE.val) id = (mset (L.map RE.val) id ⟨addr, inn, out, credit, true⟩, true) by unfold halfS; rw [H1.out]; rfl)
      rw [E.out]
      have HE := Keep.mk (open_row HO.out hi (j := 5) (by decide) (x' := ⟨xid, ri, ro, ⟨addr, inn, out, credit, true⟩⟩) (u := .bool true) rfl rfl)
      clear E
      go_enter Try.func74, Try.ntmps74
      go_wp2_with fail
      refine C.out.mono ?_
      rintro e w1 ⟨rfl, rfl⟩
      go_wp2_with fail
      go_ret
      obtain ⟨F3, h3, u3⟩ := HE.out
      exact ⟨rfl, F3, HCL.out _ _ _ h3, u3⟩
set_option maxHeartbeats 2000000 in
theorem rsay_c {b : Nat} {last : Int} {M : List (Int × Con)} {w : World} {F : Fp} (hM : (crT b last M).on w F) (hl : M.length ≤ 1000000) (id : Int) (hok : ConOks M id) {v : Value} {s : List UInt8} (hv : Bytes w v s) (hs : s.length ≤ 1000000) :
    Calls Try.prog 71 #[.pointer (some ⟨b, 0, none⟩), .int .i64 id, v] w (REnds b last (sayS M id s).1 (.bool (sayS M id s).2) F w) := by
  have HM := Keep.mk hM
  obtain ⟨v0, L, k0, k1, hb, hf, rfl, hr, h⟩ := cr_open hM id
  have hlL : L.length ≤ 1000000 := by simpa using hl
  rcases h with ⟨h1, h2⟩ | ⟨i, x, R, hi, hx, hid, h1, hbef, hO, hclose⟩
  · have C := Keep.mk (rfind_no k0 hr hlL id h2)
    have E := Keep.mk (show sayS (L.map RE.val) id s = ((L.map RE.val), false) by unfold sayS; rw [h1])
    have KM := Keep.mk (crT_keep HM.out (Upd.refl none' w))
    rw [E.out]
    clear hr h2 h1 hM E
    go_enter Try.func71, Try.ntmps71
    go_wp2_with fail
    refine C.out.mono ?_
    rintro e w1 ⟨rfl, rfl⟩
    go_wp2_with fail
    go_ret
    exact ⟨rfl, KM.out⟩
  · have C := Keep.mk (rfind_at k0 hr hlL id hi (by rw [hx]; exact hid) hbef)
    have hcok := hok x.c h1
    obtain ⟨g, ca, rfl, hcells, hg⟩ := open_cells hO hi
    have q1 := (hcells 1 _ rfl).1
    have q2 := (hcells 2 _ rfl).1
    have q3 := (hcells 3 _ rfl).1
    have q4 := (hcells 4 _ rfl).1
    have q5 := (hcells 5 _ rfl).1
    have f4 := (hcells 4 _ rfl).2
    have f5 := (hcells 5 _ rfl).2
    have hneg : decide ((i : Int) < 0) = false := by simp
    have hi0 : (0 : Int) ≤ (i : Int) := by simp
    have hiL : (i : Int) < (L.length : Int) := by omega
    have HCL := Keep.mk hclose
    have HO := Keep.mk hO
    have H1 := Keep.mk h1
    have HOK := Keep.mk hcok
    clear hr hM hbef hid hx hcells hclose hO hcok h1
    obtain ⟨xid, ri, ro, ⟨addr, inn, out, credit, ended⟩⟩ := x
    simp only at *
    have RO := Keep.mk (rroom_c HM.out hl id (fun c hc => (hok c hc).lo))
    obtain ⟨av, cv, rfl, _⟩ := hv.slice
    rw [show ofC (L.map RE.val) id 0 (fun c => ((1024 - c.out.length : Nat) : Int)) = ((1024 - out.length : Nat) : Int) by unfold ofC; rw [H1.out]] at RO
    have hlo := HOK.out.lo
    simp only at hlo
    by_cases hfit : s.length ≤ 1024 - out.length
    · have E := Keep.mk (show sayS (L.map RE.val) id s = (mset (L.map RE.val) id ⟨addr, inn, out ++ s, credit, ended⟩, true) by unfold sayS; rw [H1.out]; simp only; rw [if_pos hfit])
      rw [E.out]
      obtain ⟨Fi, hin, hsub, hgo⟩ := open_out HO.out
      have hdec : decide ((1024 - out.length : Nat) < s.length) = false := by simp; omega
      have hmin : min s.length (1024 - out.length) = s.length := by omega
      have HH := Keep.mk hin
      have HG := Keep.mk hgo
      have HV := Keep.mk hv
      clear E hin hgo hv hfit
      go_enter Try.func71, Try.ntmps71
      go_wp2_with fail
      refine C.out.mono ?_
      rintro e w1 ⟨rfl, rfl⟩
      go_wp2_with fail
      refine RO.out.mono ?_
      rintro e w2 ⟨rfl, n2, rfl⟩
      go_wp2_with fail
      have qd : Quiet w (w.drewN n2) := (Upd.refl none' w).drewN n2
      refine (radd_c ((rringT ro 1024 out).frame HH.out qd (fun _ _ h => h)) hlo (by decide) (HV.out.quiet qd) hs).mono ?_
      rintro e w3 ⟨rfl, F2, h2, u2⟩
      rw [hmin, List.take_length] at h2
      have HE := Keep.mk (HG.out w3 F2 _ .emp (Asrt.emp_star h2) (((Upd.refl Fi w).drewN n2).trans u2))
      clear h2 u2 qd
      go_wp2_with fail
      go_ret
      obtain ⟨F3, h3, u3⟩ := HE.out
      exact ⟨rfl, F3, HCL.out _ _ _ (Asrt.of_emp_star h3), u3⟩
    · have E := Keep.mk (show sayS (L.map RE.val) id s = ((L.map RE.val), false) by unfold sayS; rw [H1.out]; simp only; rw [if_neg hfit])
      rw [E.out]
      have hdec : decide ((1024 - out.length : Nat) < s.length) = true := by simp; omega
      have KM := Keep.mk HM.out
      clear E hfit
      go_enter Try.func71, Try.ntmps71
      go_wp2_with fail
      refine C.out.mono ?_
      rintro e w1 ⟨rfl, rfl⟩
      go_wp2_with fail
      refine RO.out.mono ?_
      rintro e w2 ⟨rfl, n2, rfl⟩
      go_wp2_with fail
      go_ret
      exact ⟨rfl, crT_keep KM.out ((Upd.refl none' w).drewN n2)⟩
end Go.Proofs.Ytimkbpcdbbdjlaa.Cr
