/- The document's connections: Close, All. -/
import Derived.Test.YtimkbpcdbbdjlaaCrI
set_option linter.unusedVariables false
namespace Go.Proofs.Ytimkbpcdbbdjlaa.Cr
open Go.RowKit Go.Sub Go.ChangeMaps
attribute [local go_sem ↓] Go.wp_at_zero Go.wp_at_succ
theorem sizeR : (Try.prog.info? 95).map (·.size) = some 6 := by kernel_rfl
/-- the table has another row now; a connection is gone -/
theorem close_fin {b : Nat} {last : Int} {v v' : Value} {L : List RE} {i : Nat} {w w' : World} {F Fr : Fp}
    (hO : (Asrt.stars (.blk b (tabO v last) :: rowR v L :: L.map RE.asrt)).on w F) (hi : i < L.length) (hr : (rowR v' (L.eraseIdx i)).on w' Fr) (hu : Upd none' Fr w w') :
    ∃ F', (crT b last ((L.eraseIdx i).map RE.val)).on (w'.setCell ⟨b, 0, none⟩ v') F' ∧ Upd F F' w (w'.setCell ⟨b, 0, none⟩ v') := by
  obtain ⟨F1, h1, u1⟩ := Asrt.stars_new hO hr hu
  obtain ⟨Fb, hb, hsub, hgo⟩ := Asrt.stars_upd _ 1 _ rfl h1
  obtain ⟨hob, rfl⟩ := hb
  obtain ⟨F2, h2, u2⟩ := hgo (w'.setCell ⟨b, 0, none⟩ v') (fun k => k = b) (.blk b (tabO v' last)) ⟨obj_setCell_at hob 0 v', rfl⟩ ((Upd.refl (fun k => k = b) w').setCell (a := ⟨b, 0, none⟩) (.inl rfl) _)
  have hp := stars_app (l := L.map RE.asrt) (i := i) (A := L[i].asrt) (by simp [hi])
  have h3 : (Asrt.stars (rowR v L :: L[i].asrt :: .blk b (tabO v' last) :: rowR v' (L.eraseIdx i) ::(L.map RE.asrt).eraseIdx i)).on (w'.setCell ⟨b, 0, none⟩ v') F2 := by
    refine Asrt.stars_perm ?_ h2
    refine (List.Perm.cons _ (List.Perm.cons _ (List.Perm.cons _ hp))).trans ?_
    exact (List.perm_append_comm (l₁ := [rowR v' (L.eraseIdx i), .blk b (tabO v' last)]) (l₂ := [rowR v L, L[i].asrt])).append_right _ |>.trans (List.Perm.cons _ (List.Perm.cons _ (List.Perm.swap _ _ _)))
  obtain ⟨F3, h4, s3⟩ := Asrt.stars_drop h3
  obtain ⟨F5, h5, s5⟩ := Asrt.stars_drop h4
  refine ⟨F5, ⟨(v', L.eraseIdx i), rfl, ?_⟩, (u1.trans u2).re fun k hk => (u1.trans u2).fp k (s3 k (s5 k hk))⟩
  rw [erase_map] at h5
  exact h5
set_option maxRecDepth 100000 in
set_option maxHeartbeats 4000000 in
theorem rclose_c {b : Nat} {last : Int} {M : List (Int × Con)} {w : World} {F : Fp} (hM : (crT b last M).on w F) (hl : M.length ≤ 1000) (id : Int) :
    Calls Try.prog 67 #[.pointer (some ⟨b, 0, none⟩), .int .i64 id] w (REnds b last (mdel M id) (.bool (ofC M id false fun _ => true)) F w) := by
  have HM := Keep.mk hM
  obtain ⟨⟨v, L⟩, rfl, hS⟩ := hM
  dsimp only at *
  have hlL : L.length ≤ 1000 := by simpa using hl
  obtain ⟨kc, kf, hb⟩ := box_cell (i := 0) hS rfl
  obtain ⟨_, hr, _⟩ := Asrt.stars_get hS 1 rfl
  have hrd := (row_reads (enc := encR) (fun _ => rfl) hr).1
  have k0 := kc 0
  simp only [List.getElem?_toArray, List.getElem?_cons_zero] at k0
  rcases re_open L id with ⟨h1, h2⟩ | ⟨i, x, h1, hid, h3, h4, h5, h6⟩
  · have C := Keep.mk (rfind_no k0 hrd (by omega) id h2)
    have E := Keep.mk (show mdel (L.map RE.val) id = L.map RE.val from mdel_none h1)
    have E2 := Keep.mk (show ofC (L.map RE.val) id false (fun _ => true) = false by unfold ofC; rw [h1])
    have KM := Keep.mk (crT_keep HM.out (Upd.refl none' w))
    rw [E.out, E2.out]
    clear hS kc kf hr hrd h1 h2 E E2
    go_enter Try.func67, Try.ntmps67
    go_wp2_with fail
    refine C.out.mono ?_
    rintro e w1 ⟨rfl, rfl⟩
    go_wp2_with fail
    go_ret
    exact ⟨rfl, KM.out⟩
  · obtain ⟨hi, hx⟩ := List.getElem?_eq_some_iff.1 h1
    have C := Keep.mk (rfind_at k0 hrd (by omega) id hi (by rw [hx]; exact hid) (fun j hj => h4 j _ hj (List.getElem?_eq_getElem _)))
    have E2 := Keep.mk (show ofC (L.map RE.val) id false (fun _ => true) = true by unfold ofC; rw [h3])
    rw [h6, E2.out]
    obtain ⟨g, ca, rfl⟩ := row_some hr hi
    obtain ⟨cur, _, _, hnca, _⟩ := row_blk hr
    have hneg : decide ((i : Int) < 0) = false := by simp
    have kf0 := kf 0
    have hiL : i < L.length := hi
    have hic : i ≤ ca := by omega
    have RC1 := run_cutk_to (P := Try.prog) Try.underlying90 sizeR L.length ca i ⟨g, 0, none⟩ hic
    have RC2 : ∀ W : World, (Instr.slice 90 (.slice (some ⟨g, 0, none⟩) L.length ca) (some (.int .i64 ((i : Int) + 1))) none none).run Try.prog W = .ok (.slice (if ca = i + 1 then some ⟨g, 0, none⟩ else some ((⟨g, 0, none⟩ : Addr).add ((i + 1) * 6))) (L.length - (i + 1)) (ca - (i + 1))) W := by
      intro W
      have := run_cutk_from (P := Try.prog) Try.underlying90 sizeR L.length ca (i + 1) ⟨g, 0, none⟩ (by omega) W
      simpa using this
    have RD1 := Keep.mk (fun (W : World) (q : Quiet w W) => reads_cut_to (hrd.upd q fun _ _ h => h) (i := i) (by omega))
    have RD2 := Keep.mk (fun (W : World) (q : Quiet w W) => reads_cut_from (hrd.upd q fun _ _ h => h) (i := i + 1) (by omega) hnca)
    obtain ⟨a2, ha2⟩ : ∃ a2, a2 = (if ca = i + 1 then some ⟨g, 0, none⟩ else some ((⟨g, 0, none⟩ : Addr).add ((i + 1) * 6))) := ⟨_, rfl⟩
    rw [← ha2] at RC2 RD2
    obtain ⟨q, hq, hz⟩ := Option.map_eq_some_iff.1 infoR
    simp only [Prod.mk.injEq] at hz
    have HZ := Keep.mk (And.intro hq hz)
    have HW := Keep.mk (fun (w' : World) (q : Quiet w w') => show w'.cell? ⟨b, 0, none⟩ = some (.slice (some ⟨g, 0, none⟩) L.length ca) from (q.cell (a := ⟨b, 0, none⟩) hb (fun h => h)).trans k0)
    have HF := Keep.mk (fun (w' : World) (q : Quiet w w') => show w'.frozen? ⟨b, 0, none⟩ = false from (q.frozen (a := ⟨b, 0, none⟩) hb (fun h => h)).trans kf0)
    have HS := Keep.mk hS
    have HI := Keep.mk hi
    have hib : (i : Int) + 1 ≤ (L.length : Int) := by omega
    have ew : IntKind.i64.wrap ((i : Int) + 1) = (i : Int) + 1 := by rw [IntKind.wrap_i64]; omega
    have ee : L.take i ++ L.drop (i + 1) = L.eraseIdx i := (List.eraseIdx_eq_take_drop_succ L i).symm
    have EE := Keep.mk ee
    have lt1 : (L.take i).length = i := by simp; omega
    have lt2 : (L.drop (i + 1)).length = L.length - (i + 1) := by simp
    have LT := Keep.mk (And.intro lt1 lt2)
    have Q0 : Quiet w w.drew := (Upd.refl none' w).drew
    have Q0a := Q0.alloc (.cells #[] 95)
    have kA := HW.out _ (Upd.refl none' w)
    have kB := HW.out _ ((Upd.refl none' w).alloc (.cells #[] 95))
    have fA := HF.out _ (Upd.refl none' w)
    clear hS kc kf hr hrd h1 h3 h4 h5 h6 E2 hq hz ha2 hx hid ee lt1 lt2 hi
    go_enter Try.func67, Try.ntmps67
    go_wp2_with fail
    refine C.out.mono ?_
    rintro e w1 ⟨rfl, rfl⟩
    go_wp2_with fail
    go_region_law
      (first
        | (refine step_append_reads (o := ⟨some 19, _, _, _, _, _⟩) (enc := encR) (k := 6) 48 rfl (.tmp 12) (.tmp 18) 90 rfl 95 q _ Try.underlying90 HZ.out.1 HZ.out.2.1 HZ.out.2.2.1 HZ.out.2.2.2 rfl (by decide) (.slice (some ⟨w.heap.size, 0, none⟩) 0 0) (.slice (some ⟨g, 0, none⟩) i ca) [] (L.take i) _ (by rfl) (row_empty _ _ _ _) (by rfl) (RD1.out _ Q0a) (fun _ => rfl) oneR (by simp [maxLen]; omega) (by simp; omega) ?_; intro v1 w1 F1 hr1 hu1; have Q1 := own_quiet Q0a (fun k hk => by rw [hk]; exact Q0.size) hu1; have kC := HW.out _ Q1.1)
        | (refine step_append_reads (o := ⟨some 27, _, _, _, _, _⟩) (enc := encR) (k := 6) 48 rfl (.tmp 19) (.tmp 26) 90 rfl 95 q _ Try.underlying90 HZ.out.1 HZ.out.2.1 HZ.out.2.2.1 HZ.out.2.2.2 rfl (by decide) v1 (.slice a2 (L.length - (i + 1)) (ca - (i + 1))) ([] ++ L.take i) (L.drop (i + 1)) _ (by rfl) hr1 (by rfl) (RD2.out _ Q1.1) (fun _ => rfl) oneR (by simp [maxLen]; omega) (by simp; omega) ?_; intro v2 w2 F2 hr2 hu2; obtain ⟨a3, c3, rfl, _⟩ := row_form hr2; have Q2 := own_quiet Q1.1 Q1.2 hu2; have kD := HW.out _ Q2.1; have fD := HF.out _ Q2.1))
    all_goals
      have el : ([] ++ L.take i ++ L.drop (i + 1)) = L.eraseIdx i := EE.out
      have el2 : (L.eraseIdx i).length = min i L.length + (L.length - (i + 1)) := by rw [List.length_eraseIdx_of_lt HI.out]; omega
      rw [el, el2] at hr2
      have HE := Keep.mk (close_fin HS.out HI.out hr2 (own_upd Q2.1 Q2.2))
      clear hr1 hr2 hu1 hu2 el el2
      go_wp2_with fail
      go_ret
      exact ⟨rfl, HE.out⟩
end Go.Proofs.Ytimkbpcdbbdjlaa.Cr
