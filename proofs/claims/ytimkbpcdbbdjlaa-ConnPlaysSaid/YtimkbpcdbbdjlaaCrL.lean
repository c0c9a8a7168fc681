/- ConnPlays: a call of both tables. -/
import Derived.Test.YtimkbpcdbbdjlaaCrK
import Derived.Test.YtimkbpcdbbdjlaaConnO
set_option linter.unusedVariables false
namespace Go.Proofs.Ytimkbpcdbbdjlaa.Cr
open Go.RowKit Go.Sub Go.ChangeMaps
theorem mset_self {κ V : Type} [DecidableEq κ] {m : List (κ × V)} {x : κ} {v : V} (h : mget m x = some v) : mset m x v = m := by
  induction m with
  | nil => cases h
  | cons p m ih =>
    obtain ⟨k, u⟩ := p
    by_cases e : k = x
    · simp only [mget, if_pos e, Option.some.injEq] at h
      simp [mset, e, h]
    · simp only [mget, if_neg e] at h
      simp [mset, e, ih h]
abbrev opO (what id n : Int) (av : Option Addr) (l cv : Nat) : Obj := .cells #[.int .i64 what, .int .i64 id, .int .i64 n, .slice av l cv] 49
def BothEnds (b b2 : Nat) (r : Int × CT) (F : Fp) (w : World) : Ending → World → Prop := Ret (.bool true) fun w' => ∃ F', (Asrt.stars [tabT b r.1 r.2, crT b2 r.1 r.2]).on w' F' ∧ Upd F F' w w'
theorem both_fin {b b2 : Nat} {r : Int × CT} {Z : Asrt} {w w' : World} {F F' : Fp} (h : (Asrt.stars [tabT b r.1 r.2, crT b2 r.1 r.2, Z]).on w' F') (u : Upd F F' w w') : ∃ F', (Asrt.stars [tabT b r.1 r.2, crT b2 r.1 r.2]).on w' F' ∧ Upd F F' w w' := by
  obtain ⟨F2, h2, s2⟩ := Asrt.stars_two h
  exact ⟨F2, h2, u.re fun k hk => u.fp k (s2 k hk)⟩
theorem oks {lt : Int} {M : CT} (h : TInv lt M) (id : Int) : ConOks M id := fun c hc => h.ok _ (mget_mem hc)
theorem few6 {lt : Int} {M : CT} (h : TInv lt M) : M.length ≤ 1000000 := Nat.le_trans h.few (by decide)
set_option maxHeartbeats 2000000 in
set_option maxRecDepth 100000 in
theorem both_open {b b2 : Nat} {lt : Int} {M : CT} {W w : World} {F : Fp} (hS : (Asrt.stars [tabT b lt M, crT b2 lt M]).on w F) (hU : Upd none' F W w) (hI : TInv lt M) (l1 : lt ≤ 1000000) {what id n : Int} {v : Value} {s : List UInt8} (hR : Bytes W v s) (hlen : s.length ≤ 1000000) (hw : what = 0) :
    Calls Try.prog 36 #[.pointer (some ⟨b, 0, none⟩), .pointer (some ⟨b2, 0, none⟩), .agg #[.int .i64 what, .int .i64 id, .int .i64 n, v]] w (BothEnds b b2 (doesS lt M ⟨what, id, n, v, s⟩) F w) := by
  obtain ⟨av, cv, rfl, hcv⟩ := hR.slice
  subst hw
  rw [show doesS lt M ⟨0, id, n, .slice av s.length cv, s⟩ = ((openS lt M (u32 n)).1, (openS lt M (u32 n)).2.1) from by simp [doesS]]
  obtain ⟨F0, S0, u0⟩ := Asrt.stars_box3 hS (opO 0 id n av s.length cv)
  have U0 := hU.trans u0
  have O0 := Keep.mk (hR.old U0)
  have HI := Keep.mk hI
  have HR := Keep.mk hR
  clear hS hU hR hI
  go_enter Try.func36, Try.ntmps36
  go_wp2_with fail
  refine (on_head S0 fun Fi h hsub => open_c h HI.out.none HI.out.l0 (by omega) (u32 n)).mono ?_
  rintro e w1 ⟨rfl, F1, S1, u1⟩
  have U1 := U0.trans u1
  have O1 := Keep.mk (HR.out.old U1)
  obtain ⟨kc, _, _⟩ := box_cell (i := 2) S1 rfl
  have k1 := kc 1
  have k2 := kc 2
  have k3 := kc 3
  simp at k1 k2 k3
  clear kc S0
  go_wp2_with fail
  refine (on_snd S1 fun Fi h hsub => ropen_c h HI.out.few HI.out.l0 (by omega) (u32 n)).mono ?_
  rintro e w2 ⟨rfl, F2, S2, u2⟩
  have HE := Keep.mk (both_fin (r := ((openS lt M (u32 n)).1, (openS lt M (u32 n)).2.1)) S2 (u0.trans (u1.trans u2)))
  clear S1 S2 u1 u2 u0 U0 U1
  go_wp2_with fail
  go_ret
  exact ⟨rfl, HE.out⟩
set_option maxHeartbeats 2000000 in
set_option maxRecDepth 100000 in
theorem both_close {b b2 : Nat} {lt : Int} {M : CT} {W w : World} {F : Fp} (hS : (Asrt.stars [tabT b lt M, crT b2 lt M]).on w F) (hU : Upd none' F W w) (hI : TInv lt M) (l1 : lt ≤ 1000000) {what id n : Int} {v : Value} {s : List UInt8} (hR : Bytes W v s) (hlen : s.length ≤ 1000000) (hw : what = 1) :
    Calls Try.prog 36 #[.pointer (some ⟨b, 0, none⟩), .pointer (some ⟨b2, 0, none⟩), .agg #[.int .i64 what, .int .i64 id, .int .i64 n, v]] w (BothEnds b b2 (doesS lt M ⟨what, id, n, v, s⟩) F w) := by
  obtain ⟨av, cv, rfl, hcv⟩ := hR.slice
  subst hw
  rw [show doesS lt M ⟨1, id, n, .slice av s.length cv, s⟩ = (lt, mdel M id) from by simp [doesS]]
  obtain ⟨F0, S0, u0⟩ := Asrt.stars_box3 hS (opO 1 id n av s.length cv)
  have U0 := hU.trans u0
  have O0 := Keep.mk (hR.old U0)
  have HI := Keep.mk hI
  have HR := Keep.mk hR
  clear hS hU hR hI
  go_enter Try.func36, Try.ntmps36
  go_wp2_with fail
  refine (on_head S0 fun Fi h hsub => close_c h id).mono ?_
  rintro e w1 ⟨rfl, F1, S1, u1⟩
  have U1 := U0.trans u1
  have O1 := Keep.mk (HR.out.old U1)
  obtain ⟨kc, _, _⟩ := box_cell (i := 2) S1 rfl
  have k1 := kc 1
  have k2 := kc 2
  have k3 := kc 3
  simp at k1 k2 k3
  clear kc S0
  go_wp2_with fail
  refine (on_snd S1 fun Fi h hsub => rclose_c h (Nat.le_trans HI.out.few (by decide)) id).mono ?_
  rintro e w2 ⟨rfl, F2, S2, u2⟩
  have HE := Keep.mk (both_fin (r := (lt, mdel M id)) S2 (u0.trans (u1.trans u2)))
  clear S1 S2 u1 u2 u0 U0 U1
  go_wp2_with fail
  go_ret
  exact ⟨rfl, HE.out⟩
set_option maxHeartbeats 2000000 in
set_option maxRecDepth 100000 in
theorem both_feed2 {b b2 : Nat} {lt : Int} {M : CT} {W w : World} {F : Fp} (hS : (Asrt.stars [tabT b lt M, crT b2 lt M]).on w F) (hU : Upd none' F W w) (hI : TInv lt M) (l1 : lt ≤ 1000000) {what id n : Int} {v : Value} {s : List UInt8} (hR : Bytes W v s) (hlen : s.length ≤ 1000000) (hw : what = 2) :
    Calls Try.prog 36 #[.pointer (some ⟨b, 0, none⟩), .pointer (some ⟨b2, 0, none⟩), .agg #[.int .i64 what, .int .i64 id, .int .i64 n, v]] w (BothEnds b b2 (doesS lt M ⟨what, id, n, v, s⟩) F w) := by
  obtain ⟨av, cv, rfl, hcv⟩ := hR.slice
  subst hw
  rw [show doesS lt M ⟨2, id, n, .slice av s.length cv, s⟩ = (lt, (feedS M id s).1) from by simp [doesS]]
  obtain ⟨F0, S0, u0⟩ := Asrt.stars_box3 hS (opO 2 id n av s.length cv)
  have U0 := hU.trans u0
  have O0 := Keep.mk (hR.old U0)
  have HI := Keep.mk hI
  have HR := Keep.mk hR
  clear hS hU hR hI
  go_enter Try.func36, Try.ntmps36
  go_wp2_with fail
  refine (on_head S0 fun Fi h hsub => feed_c h id O0.out.1 (fun g a c d => O0.out.2 g a c (hsub g d)) hlen).mono ?_
  rintro e w1 ⟨rfl, F1, S1, u1⟩
  have U1 := U0.trans u1
  have O1 := Keep.mk (HR.out.old U1)
  obtain ⟨kc, _, _⟩ := box_cell (i := 2) S1 rfl
  have k1 := kc 1
  have k2 := kc 2
  have k3 := kc 3
  simp at k1 k2 k3
  clear kc S0
  go_wp2_with fail
  refine (on_snd S1 fun Fi h hsub => rfeed_c h (few6 HI.out) id (oks HI.out id) O1.out.1 hlen).mono ?_
  rintro e w2 ⟨rfl, F2, S2, u2⟩
  have HE := Keep.mk (both_fin (r := (lt, (feedS M id s).1)) S2 (u0.trans (u1.trans u2)))
  clear S1 S2 u1 u2 u0 U0 U1
  go_wp2_with fail
  go_ret
  exact ⟨rfl, HE.out⟩
set_option maxHeartbeats 2000000 in
set_option maxRecDepth 100000 in
theorem both_feed3 {b b2 : Nat} {lt : Int} {M : CT} {W w : World} {F : Fp} (hS : (Asrt.stars [tabT b lt M, crT b2 lt M]).on w F) (hU : Upd none' F W w) (hI : TInv lt M) (l1 : lt ≤ 1000000) {what id n : Int} {v : Value} {s : List UInt8} (hR : Bytes W v s) (hlen : s.length ≤ 1000000) (hw : what = 3) :
    Calls Try.prog 36 #[.pointer (some ⟨b, 0, none⟩), .pointer (some ⟨b2, 0, none⟩), .agg #[.int .i64 what, .int .i64 id, .int .i64 n, v]] w (BothEnds b b2 (doesS lt M ⟨what, id, n, v, s⟩) F w) := by
  obtain ⟨av, cv, rfl, hcv⟩ := hR.slice
  subst hw
  rw [show doesS lt M ⟨3, id, n, .slice av s.length cv, s⟩ = (lt, (feedS M id s).1) from by simp [doesS]]
  obtain ⟨F0, S0, u0⟩ := Asrt.stars_box3 hS (opO 3 id n av s.length cv)
  have U0 := hU.trans u0
  have O0 := Keep.mk (hR.old U0)
  have HI := Keep.mk hI
  have HR := Keep.mk hR
  clear hS hU hR hI
  go_enter Try.func36, Try.ntmps36
  go_wp2_with fail
  refine (on_head S0 fun Fi h hsub => feed_c h id O0.out.1 (fun g a c d => O0.out.2 g a c (hsub g d)) hlen).mono ?_
  rintro e w1 ⟨rfl, F1, S1, u1⟩
  have U1 := U0.trans u1
  have O1 := Keep.mk (HR.out.old U1)
  obtain ⟨kc, _, _⟩ := box_cell (i := 2) S1 rfl
  have k1 := kc 1
  have k2 := kc 2
  have k3 := kc 3
  simp at k1 k2 k3
  clear kc S0
  go_wp2_with fail
  refine (on_snd S1 fun Fi h hsub => rfeed_c h (few6 HI.out) id (oks HI.out id) O1.out.1 hlen).mono ?_
  rintro e w2 ⟨rfl, F2, S2, u2⟩
  have HE := Keep.mk (both_fin (r := (lt, (feedS M id s).1)) S2 (u0.trans (u1.trans u2)))
  clear S1 S2 u1 u2 u0 U0 U1
  go_wp2_with fail
  go_ret
  exact ⟨rfl, HE.out⟩
set_option maxHeartbeats 2000000 in
set_option maxRecDepth 100000 in
theorem both_say6 {b b2 : Nat} {lt : Int} {M : CT} {W w : World} {F : Fp} (hS : (Asrt.stars [tabT b lt M, crT b2 lt M]).on w F) (hU : Upd none' F W w) (hI : TInv lt M) (l1 : lt ≤ 1000000) {what id n : Int} {v : Value} {s : List UInt8} (hR : Bytes W v s) (hlen : s.length ≤ 1000000) (hw : what = 6) :
    Calls Try.prog 36 #[.pointer (some ⟨b, 0, none⟩), .pointer (some ⟨b2, 0, none⟩), .agg #[.int .i64 what, .int .i64 id, .int .i64 n, v]] w (BothEnds b b2 (doesS lt M ⟨what, id, n, v, s⟩) F w) := by
  obtain ⟨av, cv, rfl, hcv⟩ := hR.slice
  subst hw
  rw [show doesS lt M ⟨6, id, n, .slice av s.length cv, s⟩ = (lt, (sayS M id s).1) from by simp [doesS]]
  obtain ⟨F0, S0, u0⟩ := Asrt.stars_box3 hS (opO 6 id n av s.length cv)
  have U0 := hU.trans u0
  have O0 := Keep.mk (hR.old U0)
  have HI := Keep.mk hI
  have HR := Keep.mk hR
  clear hS hU hR hI
  go_enter Try.func36, Try.ntmps36
  go_wp2_with fail
  refine (on_head S0 fun Fi h hsub => say_c h id O0.out.1 (fun g a c d => O0.out.2 g a c (hsub g d)) hlen).mono ?_
  rintro e w1 ⟨rfl, F1, S1, u1⟩
  have U1 := U0.trans u1
  have O1 := Keep.mk (HR.out.old U1)
  obtain ⟨kc, _, _⟩ := box_cell (i := 2) S1 rfl
  have k1 := kc 1
  have k2 := kc 2
  have k3 := kc 3
  simp at k1 k2 k3
  clear kc S0
  go_wp2_with fail
  refine (on_snd S1 fun Fi h hsub => rsay_c h (few6 HI.out) id (oks HI.out id) O1.out.1 hlen).mono ?_
  rintro e w2 ⟨rfl, F2, S2, u2⟩
  have HE := Keep.mk (both_fin (r := (lt, (sayS M id s).1)) S2 (u0.trans (u1.trans u2)))
  clear S1 S2 u1 u2 u0 U0 U1
  go_wp2_with fail
  go_ret
  exact ⟨rfl, HE.out⟩
set_option maxHeartbeats 2000000 in
set_option maxRecDepth 100000 in
theorem both_say7 {b b2 : Nat} {lt : Int} {M : CT} {W w : World} {F : Fp} (hS : (Asrt.stars [tabT b lt M, crT b2 lt M]).on w F) (hU : Upd none' F W w) (hI : TInv lt M) (l1 : lt ≤ 1000000) {what id n : Int} {v : Value} {s : List UInt8} (hR : Bytes W v s) (hlen : s.length ≤ 1000000) (hw : what = 7) :
    Calls Try.prog 36 #[.pointer (some ⟨b, 0, none⟩), .pointer (some ⟨b2, 0, none⟩), .agg #[.int .i64 what, .int .i64 id, .int .i64 n, v]] w (BothEnds b b2 (doesS lt M ⟨what, id, n, v, s⟩) F w) := by
  obtain ⟨av, cv, rfl, hcv⟩ := hR.slice
  subst hw
  rw [show doesS lt M ⟨7, id, n, .slice av s.length cv, s⟩ = (lt, (sayS M id s).1) from by simp [doesS]]
  obtain ⟨F0, S0, u0⟩ := Asrt.stars_box3 hS (opO 7 id n av s.length cv)
  have U0 := hU.trans u0
  have O0 := Keep.mk (hR.old U0)
  have HI := Keep.mk hI
  have HR := Keep.mk hR
  clear hS hU hR hI
  go_enter Try.func36, Try.ntmps36
  go_wp2_with fail
  refine (on_head S0 fun Fi h hsub => say_c h id O0.out.1 (fun g a c d => O0.out.2 g a c (hsub g d)) hlen).mono ?_
  rintro e w1 ⟨rfl, F1, S1, u1⟩
  have U1 := U0.trans u1
  have O1 := Keep.mk (HR.out.old U1)
  obtain ⟨kc, _, _⟩ := box_cell (i := 2) S1 rfl
  have k1 := kc 1
  have k2 := kc 2
  have k3 := kc 3
  simp at k1 k2 k3
  clear kc S0
  go_wp2_with fail
  refine (on_snd S1 fun Fi h hsub => rsay_c h (few6 HI.out) id (oks HI.out id) O1.out.1 hlen).mono ?_
  rintro e w2 ⟨rfl, F2, S2, u2⟩
  have HE := Keep.mk (both_fin (r := (lt, (sayS M id s).1)) S2 (u0.trans (u1.trans u2)))
  clear S1 S2 u1 u2 u0 U0 U1
  go_wp2_with fail
  go_ret
  exact ⟨rfl, HE.out⟩
set_option maxHeartbeats 2000000 in
set_option maxRecDepth 100000 in
theorem both_budget {b b2 : Nat} {lt : Int} {M : CT} {W w : World} {F : Fp} (hS : (Asrt.stars [tabT b lt M, crT b2 lt M]).on w F) (hU : Upd none' F W w) (hI : TInv lt M) (l1 : lt ≤ 1000000) {what id n : Int} {v : Value} {s : List UInt8} (hR : Bytes W v s) (hlen : s.length ≤ 1000000) (hw : what = 8) :
    Calls Try.prog 36 #[.pointer (some ⟨b, 0, none⟩), .pointer (some ⟨b2, 0, none⟩), .agg #[.int .i64 what, .int .i64 id, .int .i64 n, v]] w (BothEnds b b2 (doesS lt M ⟨what, id, n, v, s⟩) F w) := by
  obtain ⟨av, cv, rfl, hcv⟩ := hR.slice
  subst hw
  rw [show doesS lt M ⟨8, id, n, .slice av s.length cv, s⟩ = (lt, (budgetS M id n).1) from by simp [doesS]]
  obtain ⟨F0, S0, u0⟩ := Asrt.stars_box3 hS (opO 8 id n av s.length cv)
  have U0 := hU.trans u0
  have O0 := Keep.mk (hR.old U0)
  have HI := Keep.mk hI
  have HR := Keep.mk hR
  clear hS hU hR hI
  go_enter Try.func36, Try.ntmps36
  go_wp2_with fail
  refine (on_head S0 fun Fi h hsub => budget_c h HI.out.ok id n).mono ?_
  rintro e w1 ⟨rfl, F1, S1, u1⟩
  have U1 := U0.trans u1
  have O1 := Keep.mk (HR.out.old U1)
  obtain ⟨kc, _, _⟩ := box_cell (i := 2) S1 rfl
  have k1 := kc 1
  have k2 := kc 2
  have k3 := kc 3
  simp at k1 k2 k3
  clear kc S0
  go_wp2_with fail
  refine (on_snd S1 fun Fi h hsub => rbudget_c h (few6 HI.out) id n (oks HI.out id)).mono ?_
  rintro e w2 ⟨rfl, F2, S2, u2⟩
  have HE := Keep.mk (both_fin (r := (lt, (budgetS M id n).1)) S2 (u0.trans (u1.trans u2)))
  clear S1 S2 u1 u2 u0 U0 U1
  go_wp2_with fail
  go_ret
  exact ⟨rfl, HE.out⟩
set_option maxHeartbeats 2000000 in
set_option maxRecDepth 100000 in
theorem both_half {b b2 : Nat} {lt : Int} {M : CT} {W w : World} {F : Fp} (hS : (Asrt.stars [tabT b lt M, crT b2 lt M]).on w F) (hU : Upd none' F W w) (hI : TInv lt M) (l1 : lt ≤ 1000000) {what id n : Int} {v : Value} {s : List UInt8} (hR : Bytes W v s) (hlen : s.length ≤ 1000000) (hw : what ≠ 0 ∧ what ≠ 1 ∧ what ≠ 2 ∧ what ≠ 3 ∧ what ≠ 4 ∧ what ≠ 5 ∧ what ≠ 6 ∧ what ≠ 7 ∧ what ≠ 8 ∧ what ≠ 9) :
    Calls Try.prog 36 #[.pointer (some ⟨b, 0, none⟩), .pointer (some ⟨b2, 0, none⟩), .agg #[.int .i64 what, .int .i64 id, .int .i64 n, v]] w (BothEnds b b2 (doesS lt M ⟨what, id, n, v, s⟩) F w) := by
  obtain ⟨av, cv, rfl, hcv⟩ := hR.slice
  obtain ⟨q0, q1, q2, q3, q4, q5, q6, q7, q8, q9⟩ := hw
  rw [show doesS lt M ⟨what, id, n, .slice av s.length cv, s⟩ = (lt, (halfS M id).1) from by simp [doesS, q0, q1, q2, q3, q4, q5, q6, q7, q8, q9]]
  have p0 : (what == 0) = false := by simp [q0]
  have p1 : (what == 1) = false := by simp [q1]
  have p2 : (what == 2) = false := by simp [q2]
  have p3 : (what == 3) = false := by simp [q3]
  have p4 : (what == 4) = false := by simp [q4]
  have p5 : (what == 5) = false := by simp [q5]
  have p6 : (what == 6) = false := by simp [q6]
  have p7 : (what == 7) = false := by simp [q7]
  have p8 : (what == 8) = false := by simp [q8]
  have p9 : (what == 9) = false := by simp [q9]
  clear q0 q1 q2 q3 q4 q5 q6 q7 q8 q9
  obtain ⟨F0, S0, u0⟩ := Asrt.stars_box3 hS (opO what id n av s.length cv)
  have U0 := hU.trans u0
  have O0 := Keep.mk (hR.old U0)
  have HI := Keep.mk hI
  have HR := Keep.mk hR
  clear hS hU hR hI
  go_enter Try.func36, Try.ntmps36
  go_wp2_with fail
  refine (on_head S0 fun Fi h hsub => half_c h id).mono ?_
  rintro e w1 ⟨rfl, F1, S1, u1⟩
  have U1 := U0.trans u1
  have O1 := Keep.mk (HR.out.old U1)
  obtain ⟨kc, _, _⟩ := box_cell (i := 2) S1 rfl
  have k1 := kc 1
  have k2 := kc 2
  have k3 := kc 3
  simp at k1 k2 k3
  clear kc S0
  go_wp2_with fail
  refine (on_snd S1 fun Fi h hsub => rhalf_c h (few6 HI.out) id (oks HI.out id) (fun c hc => mset_self hc)).mono ?_
  rintro e w2 ⟨rfl, F2, S2, u2⟩
  have HE := Keep.mk (both_fin (r := (lt, (halfS M id).1)) S2 (u0.trans (u1.trans u2)))
  clear S1 S2 u1 u2 u0 U0 U1
  go_wp2_with fail
  go_ret
  exact ⟨rfl, HE.out⟩
end Go.Proofs.Ytimkbpcdbbdjlaa.Cr
