/- ConnPlays: a call of both tables that tells bytes. -/
import Derived.Test.YtimkbpcdbbdjlaaCrL
import Derived.Test.YtimkbpcdbbdjlaaSubW
import Derived.Deep.RegionLaw
set_option linter.unusedVariables false
namespace Go.Proofs.Ytimkbpcdbbdjlaa.Cr
open Go.RowKit Go.Sub Go.ChangeMaps
attribute [local go_sem ↓] Go.wp_at_zero Go.wp_at_succ
theorem txt {w : World} {v : Value} {L : List UInt8} (hv : Bytes w v L) : (convert 22 9 v).run Try.prog w = .ok (.string (strB L)) w := run_text Try.underlying22 Try.underlying5 Try.underlying9 hv
theorem both_fin5 {b b2 : Nat} {r : Int × CT} {X Y Z : Asrt} {w w' : World} {F F' : Fp} (h : (Asrt.stars [crT b2 r.1 r.2, X, tabT b r.1 r.2, Y, Z]).on w' F') (u : Upd F F' w w') : ∃ F', (Asrt.stars [tabT b r.1 r.2, crT b2 r.1 r.2]).on w' F' ∧ Upd F F' w w' := by
  obtain ⟨F2, h2, s2⟩ := Asrt.stars_two (Asrt.stars_order 5 [2, 0, 1, 3, 4] (by decide) rfl h)
  exact ⟨F2, h2, u.re fun k hk => u.fp k (s2 k hk)⟩
theorem bytes_at {l : List Asrt} {w : World} {F : Fp} (h : (Asrt.stars l).on w F) {i : Nat} {v : Value} {s : List UInt8} (hi : l[i]? = some (bytesT v s)) : Bytes w v s := by
  obtain ⟨_, hb, _⟩ := Asrt.stars_get h i hi
  exact hb.1
theorem row_at {l : List Asrt} {w : World} {F : Fp} (h : (Asrt.stars l).on w F) {i : Nat} {v : Value} {s : List UInt8} (hi : l[i]? = some (row 5 1 encB v s)) : Bytes w v s := by
  obtain ⟨_, hb, _⟩ := Asrt.stars_get h i hi
  exact row_bytes hb
set_option maxHeartbeats 2000000 in
set_option maxRecDepth 100000 in
theorem both_next {b b2 : Nat} {lt : Int} {M : CT} {W w : World} {F : Fp} (hS : (Asrt.stars [tabT b lt M, crT b2 lt M]).on w F) (hU : Upd none' F W w) (hI : TInv lt M) (l1 : lt ≤ 1000000) {what id n : Int} {v : Value} {s : List UInt8} (hR : Bytes W v s) (hlen : s.length ≤ 1000000) (hw : what = 4) :
    Calls Try.prog 36 #[.pointer (some ⟨b, 0, none⟩), .pointer (some ⟨b2, 0, none⟩), .agg #[.int .i64 what, .int .i64 id, .int .i64 n, v]] w (BothEnds b b2 (doesS lt M ⟨what, id, n, v, s⟩) F w) := by
  obtain ⟨av, cv, rfl, hcv⟩ := hR.slice
  subst hw
  rw [show doesS lt M ⟨4, id, n, .slice av s.length cv, s⟩ = (lt, (nextS M id).1) from by simp [doesS]]
  obtain ⟨F0, S0, u0⟩ := Asrt.stars_box3 hS (opO 4 id n av s.length cv)
  have U0 := hU.trans u0
  have O0 := Keep.mk (hR.old U0)
  have HI := Keep.mk hI
  have HR := Keep.mk hR
  clear hS hU hR hI
  go_enter Try.func36, Try.ntmps36
  go_wp2_with fail
  refine (on_head_new (T := fun v => .tuple #[v, .bool (nextS M id).2.2.1, .int .i64 (nextS M id).2.2.2]) S0 fun Fi h hsub => next_c h HI.out.ok id).mono ?_
  rintro e w1 ⟨v1, rfl, F1, S1, u1⟩
  have U1 := U0.trans u1
  obtain ⟨kc, _, _⟩ := box_cell (i := 3) S1 rfl
  have k1 := kc 1
  simp at k1
  have S1' := Asrt.stars_order 4 [2, 0, 1, 3] (by decide) rfl S1
  clear kc S0 S1
  go_wp2_with fail
  refine (on_head_new (T := fun v => .tuple #[v, .bool (nextS M id).2.2.1, .int .i64 (nextS M id).2.2.2]) S1' fun Fi h hsub => rnext_c h (few6 HI.out) id (oks HI.out id) (fun c hc => mset_self hc)).mono ?_
  rintro e w2 ⟨v2, rfl, F2, S2, u2⟩
  have C1 := txt (bytes_at (i := 3) S2 rfl)
  have C2 := txt (row_at (i := 1) S2 rfl)
  have HE := Keep.mk (both_fin5 (r := (lt, (nextS M id).1)) S2 (u0.trans (u1.trans u2)))
  clear S2 u1 u2 u0 U0 U1 S1'
  generalize (nextS M id).2.1 = s1 at *
  generalize (nextS M id).2.2.1 = s2 at *
  generalize (nextS M id).2.2.2 = s3 at *
  go_wp2_with fail
  go_ret
  exact ⟨by simp, HE.out⟩
theorem ent_rest (args : Array Value) (w : World) : (callFunc 70 args).run Try.prog w = .ok (.enter 70 args) w := by go_simp
set_option maxHeartbeats 2000000 in
set_option maxRecDepth 100000 in
theorem both_rest {b b2 : Nat} {lt : Int} {M : CT} {W w : World} {F : Fp} (hS : (Asrt.stars [tabT b lt M, crT b2 lt M]).on w F) (hU : Upd none' F W w) (hI : TInv lt M) (l1 : lt ≤ 1000000) {what id n : Int} {v : Value} {s : List UInt8} (hR : Bytes W v s) (hlen : s.length ≤ 1000000) (hw : what = 5) :
    Calls Try.prog 36 #[.pointer (some ⟨b, 0, none⟩), .pointer (some ⟨b2, 0, none⟩), .agg #[.int .i64 what, .int .i64 id, .int .i64 n, v]] w (BothEnds b b2 (doesS lt M ⟨what, id, n, v, s⟩) F w) := by
  obtain ⟨av, cv, rfl, hcv⟩ := hR.slice
  subst hw
  rw [show doesS lt M ⟨5, id, n, .slice av s.length cv, s⟩ = (lt, (restS M id n).1) from by simp [doesS]]
  obtain ⟨F0, S0, u0⟩ := Asrt.stars_box3 hS (opO 5 id n av s.length cv)
  have U0 := hU.trans u0
  have O0 := Keep.mk (hR.old U0)
  have HI := Keep.mk hI
  have HR := Keep.mk hR
  clear hS hU hR hI
  go_enter Try.func36, Try.ntmps36
  go_wp2_with fail
  refine (on_head_new (T := fun v => v) S0 fun Fi h hsub => rest_c h id n).mono ?_
  rintro e w1 ⟨v1, rfl, F1, S1, u1⟩
  have U1 := U0.trans u1
  have S1' := Asrt.stars_order 4 [2, 0, 1, 3] (by decide) rfl S1
  have KK := Keep.mk (fun (w' : World) (F' : Fp) (l : List Asrt) (h : (Asrt.stars l).on w' F') (i j : Nat) (hi : l[i]? = some (.blk w.heap.size (opO 5 id n av s.length cv))) (hj : l[j]? = some (bytesT v1 (restS M id n).2)) => show w'.cell? ⟨w.heap.size, 1, none⟩ = some (.int .i64 id) ∧ w'.cell? ⟨w.heap.size, 2, none⟩ = some (.int .i64 n) ∧ (convert 22 9 v1).run Try.prog w' = .ok (.string (strB (restS M id n).2)) w' from ⟨(box_cell h hi).1 1, (box_cell h hi).1 2, txt (bytes_at h hj)⟩)
  clear S0
  go_wp2_with fail
  have S1d := Asrt.drew S1'
  obtain ⟨j1, j2, jc⟩ := KK.out _ _ _ S1' 3 2 rfl rfl
  have jd := (KK.out _ _ _ S1d 3 2 rfl rfl).2.2
  go_region_law (refine step_call (o := ⟨some 129, _, _, _, _, _⟩) rfl 70 #[.tmp 124, .tmp 126, .tmp 128] _ rfl #[.pointer (some ⟨b2, 0, none⟩), .int .i64 id, .int .i64 n] (by simp [Act.eval]) (ent_rest _ _) (fun v => v) (fun v w' => ∃ F', (Asrt.stars [crT b2 lt (restS M id n).1, row 5 1 encB v (restS M id n).2, tabT b lt (restS M id n).1, bytesT v1 (restS M id n).2, .blk w.heap.size (opO 5 id n av s.length cv)]).on w' F' ∧ Upd F1 F' w1.drew w') (on_head_new (T := fun v => v) S1d fun Fi h hsub => rrest_c h (few6 HI.out) id n (oks HI.out id)) ?_; rintro v2 w2 ⟨F2, S2, u2⟩; have C2 := txt (row_at (i := 1) S2 rfl); have C3 := txt (bytes_at (i := 3) S2 rfl); obtain ⟨a2, c2, rfl, _⟩ := row_form (Asrt.stars_get S2 1 rfl).choose_spec.1)
  all_goals
    have HE := Keep.mk (both_fin5 (r := (lt, (restS M id n).1)) S2 (u0.trans (u1.trans ((Upd.refl F1 w1).drew.trans u2))))
    clear S2 u1 u2 u0 U0 U1 S1' S1d
    go_wp2_with fail
    go_ret
    exact ⟨by simp, HE.out⟩
theorem ent_flush (args : Array Value) (w : World) : (callFunc 73 args).run Try.prog w = .ok (.enter 73 args) w := by go_simp
set_option maxHeartbeats 2000000 in
set_option maxRecDepth 100000 in
theorem both_flush {b b2 : Nat} {lt : Int} {M : CT} {W w : World} {F : Fp} (hS : (Asrt.stars [tabT b lt M, crT b2 lt M]).on w F) (hU : Upd none' F W w) (hI : TInv lt M) (l1 : lt ≤ 1000000) {what id n : Int} {v : Value} {s : List UInt8} (hR : Bytes W v s) (hlen : s.length ≤ 1000000) (hw : what = 9) :
    Calls Try.prog 36 #[.pointer (some ⟨b, 0, none⟩), .pointer (some ⟨b2, 0, none⟩), .agg #[.int .i64 what, .int .i64 id, .int .i64 n, v]] w (BothEnds b b2 (doesS lt M ⟨what, id, n, v, s⟩) F w) := by
  obtain ⟨av, cv, rfl, hcv⟩ := hR.slice
  subst hw
  rw [show doesS lt M ⟨9, id, n, .slice av s.length cv, s⟩ = (lt, (flushS M id).1) from by simp [doesS]]
  obtain ⟨F0, S0, u0⟩ := Asrt.stars_box3 hS (opO 9 id n av s.length cv)
  have U0 := hU.trans u0
  have O0 := Keep.mk (hR.old U0)
  have HI := Keep.mk hI
  have HR := Keep.mk hR
  clear hS hU hR hI
  go_enter Try.func36, Try.ntmps36
  go_wp2_with fail
  refine (on_head_new (T := fun v => v) S0 fun Fi h hsub => flush_c h HI.out.ok id).mono ?_
  rintro e w1 ⟨v1, rfl, F1, S1, u1⟩
  have U1 := U0.trans u1
  have S1' := Asrt.stars_order 4 [2, 0, 1, 3] (by decide) rfl S1
  have KK := Keep.mk (fun (w' : World) (F' : Fp) (l : List Asrt) (h : (Asrt.stars l).on w' F') (i j : Nat) (hi : l[i]? = some (.blk w.heap.size (opO 9 id n av s.length cv))) (hj : l[j]? = some (bytesT v1 (flushS M id).2)) => show w'.cell? ⟨w.heap.size, 1, none⟩ = some (.int .i64 id) ∧ (convert 22 9 v1).run Try.prog w' = .ok (.string (strB (flushS M id).2)) w' from ⟨(box_cell h hi).1 1, txt (bytes_at h hj)⟩)
  clear S0
  go_wp2_with fail
  have S1d := Asrt.drew S1'
  obtain ⟨j1, jc⟩ := KK.out _ _ _ S1' 3 2 rfl rfl
  have jd := (KK.out _ _ _ S1d 3 2 rfl rfl).2
  go_region_law (refine step_call (o := ⟨some 176, _, _, _, _, _⟩) rfl 73 #[.tmp 173, .tmp 175] _ rfl #[.pointer (some ⟨b2, 0, none⟩), .int .i64 id] (by simp [Act.eval]) (ent_flush _ _) (fun v => v) (fun v w' => ∃ F', (Asrt.stars [crT b2 lt (flushS M id).1, row 5 1 encB v (flushS M id).2, tabT b lt (flushS M id).1, bytesT v1 (flushS M id).2, .blk w.heap.size (opO 9 id n av s.length cv)]).on w' F' ∧ Upd F1 F' w1.drew w') (on_head_new (T := fun v => v) S1d fun Fi h hsub => rflush_c h (few6 HI.out) id (oks HI.out id)) ?_; rintro v2 w2 ⟨F2, S2, u2⟩; have C2 := txt (row_at (i := 1) S2 rfl); have C3 := txt (bytes_at (i := 3) S2 rfl); obtain ⟨a2, c2, rfl, _⟩ := row_form (Asrt.stars_get S2 1 rfl).choose_spec.1)
  all_goals
    have HE := Keep.mk (both_fin5 (r := (lt, (flushS M id).1)) S2 (u0.trans (u1.trans ((Upd.refl F1 w1).drew.trans u2))))
    clear S2 u1 u2 u0 U0 U1 S1' S1d
    go_wp2_with fail
    go_ret
    exact ⟨by simp, HE.out⟩
end Go.Proofs.Ytimkbpcdbbdjlaa.Cr
