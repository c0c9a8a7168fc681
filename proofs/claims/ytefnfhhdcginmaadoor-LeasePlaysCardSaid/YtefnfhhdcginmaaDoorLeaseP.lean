/- The statements on leases: one of the calls. -/
import Derived.Test.YtefnfhhdcginmaaDoorLeaseO
import Derived.Test.YtefnfhhdcginmaaDoorSubP
set_option linter.unusedVariables false
namespace Go.Proofs.YtefnfhhdcginmaaDoor
open Go.RowKit Go.Sub Go.ChangeMaps
/-- a call -/
structure LO where
  what : Int
  tenant : ByteArray
  name : ByteArray
  conn : Int
  epoch : Int
  now : Int
  ttl : Int
abbrev encLO (o : LO) : List Value := [.int .i64 o.what, .string o.tenant, .string o.name, .int .i64 o.conn, .int .i64 o.epoch, .int .i64 o.now, .int .i64 o.ttl]
abbrev aggLO (o : LO) : Value := .agg #[.int .i64 o.what, .string o.tenant, .string o.name, .int .i64 o.conn, .int .i64 o.epoch, .int .i64 o.now, .int .i64 o.ttl]
abbrev boxLO (o : LO) : Obj := .cells #[.int .i64 o.what, .string o.tenant, .string o.name, .int .i64 o.conn, .int .i64 o.epoch, .int .i64 o.now, .int .i64 o.ttl] 39
/-- what is done to a book: the last epoch, the leases, what was granted, the error -/
def doesS (g m e : Int) (M : LT) (o : LO) : Int × LT × Lz × Int :=
  if o.what = 2 then (e, renewS g m M o.tenant o.name o.epoch o.now o.ttl)
  else if o.what = 3 then (e, (releaseS g M o.tenant o.name o.epoch o.now).1, zeroL, (releaseS g M o.tenant o.name o.epoch o.now).2)
  else if o.what = 4 then (e, (evictS g M o.name o.now).1, zeroL, 0)
  else if o.what = 5 then (e, (leaveS g M o.conn o.now).1, zeroL, 0)
  else if o.what = 6 then (e, (lapseS g M o.now).1, zeroL, 0)
  else claimS g m e M o.tenant o.name o.conn o.now o.ttl
abbrev tilMost : Int := 1100585369600
/-- what holds of every book -/
structure InvB (e : Int) (M : LT) : Prop where
  nd : (M.map (·.1)).Nodup
  nm : ∀ p ∈ M, p.2.name = p.1
  sz : ∀ p ∈ M, p.1.size ≤ maxLen
  len : M.length ≤ 64
  til : ∀ p ∈ M, 0 ≤ p.2.til ∧ p.2.til ≤ tilMost
  ep : ∀ p ∈ M, 1 ≤ p.2.epoch ∧ p.2.epoch ≤ e
  e0 : 0 ≤ e
theorem InvB.tils {e : Int} {M : LT} (h : InvB e M) : TilsOk M := fun p hp => by
  have := h.til p hp
  simp only [tilMost] at this
  exact ⟨by omega, by omega⟩
theorem InvB.new : InvB 0 [] := ⟨by simp, by simp, by simp, by simp, by simp, by simp, by omega⟩
def DoEnds (b : Nat) (g m : Int) (R : Int × LT × Lz × Int) (F : Fp) (w : World) : Ending → World → Prop := Ret (.tuple #[aggL R.2.2.1, .int .i64 R.2.2.2]) fun w' => ∃ F', (bookT b g m R.1 R.2.1).on w' F' ∧ Upd F F' w w'
/-- behind the boxes -/
theorem does_start {b : Nat} {g m e : Int} {M : LT} {w : World} {F : Fp} (hM : (bookT b g m e M).on w F) (o : LO) :
    ∃ F1, (Asrt.stars [bookT b g m e M, .blk (w.heap.size + 1 + 1) (boxL zeroL), .blk (w.heap.size + 1) (boxL zeroL), .blk w.heap.size (boxLO o)]).on (((w.alloc (boxLO o)).alloc (boxL zeroL)).alloc (boxL zeroL)) F1 ∧ Upd F F1 w (((w.alloc (boxLO o)).alloc (boxL zeroL)).alloc (boxL zeroL)) := by
  obtain ⟨F1, S1, U1⟩ := Asrt.stars_box1 (Asrt.stars_one hM) (boxLO o)
  obtain ⟨F2, S2, U2⟩ := Asrt.stars_box1 S1 (boxL zeroL)
  obtain ⟨F3, S3, U3⟩ := Asrt.stars_box1 S2 (boxL zeroL)
  simp only [size_alloc'] at S2 S3
  exact ⟨F3, S3, (U1.trans U2).trans U3⟩
theorem two_of {A B : Asrt} {w : World} {F : Fp} (h : (Asrt.stars [A, B]).on w F) : (Asrt.star A B).on w F :=
  Asrt.star_imp (fun _ hg => Asrt.of_emp_star (Asrt.star_comm hg)) h
/-- the end -/
theorem does_end {b : Nat} {g m e : Int} {M : LT} {l : List Asrt} {w : World} {F F' : Fp} {w0 : World} (hS : (Asrt.stars (bookT b g m e M :: l)).on w F') (u : Upd F F' w0 w) : ∃ F'', (bookT b g m e M).on w F'' ∧ Upd F F'' w0 w := by
  obtain ⟨F1, F2, h1, h2, _, rfl⟩ := hS
  exact ⟨F1, h1, u.re fun k hk => u.fp k (.inl hk)⟩
set_option maxHeartbeats 4000000 in
set_option maxRecDepth 100000 in
theorem does_renew {b : Nat} {g m e : Int} {M : LT} {w : World} {F : Fp} (hM : (bookT b g m e M).on w F) (I : InvB e M) (e1 : e ≤ 1000000) (g0 : 0 ≤ g) (g1 : g ≤ 1073741824) (m0 : 1 ≤ m) (m1 : m ≤ 1073741824) (o : LO) (ht : o.tenant.size ≤ maxLen) (hn : o.name.size ≤ maxLen) (hw : o.what = 2) :
    Calls Tryd.prog 31 #[.pointer (some ⟨b, 0, none⟩), aggLO o] w (DoEnds b g m (e, renewS g m M o.tenant o.name o.epoch o.now o.ttl) F w) := by
  obtain ⟨F0, S0, U0⟩ := does_start hM o
  have HC := box_cell (i := 3) S0 rfl
  have k0 := HC.1 0
  have k1 := HC.1 1
  have k2 := HC.1 2
  have k3 := HC.1 3
  have k4 := HC.1 4
  have k5 := HC.1 5
  have k6 := HC.1 6
  obtain ⟨wh, tenant, name, conn, epoch, now, ttl⟩ := o
  simp only at k0 k1 k2 k3 k4 k5 k6 ht hn hw ⊢
  subst hw
  generalize hR : renewS g m M tenant name epoch now ttl = R
  obtain ⟨M', x', er⟩ := R
  have C := Keep.mk (on_head S0 (A' := bookT b g m e M') (v := .tuple #[aggL x', .int .i64 er]) fun Fi h _ => by have := renew_c h g0 g1 m0 m1 I.tils tenant name epoch now ttl; unfold RenEnds at this; rw [hR] at this; exact this)
  have HS := Keep.mk (And.intro S0 U0)
  clear HC hM S0 U0
  go_enter Tryd.func31, Tryd.ntmps31
  go_wp2_with fail
  refine C.out.mono ?_
  rintro e1 w1 ⟨rfl, F1, S1, U1⟩
  have U1 := HS.out.2.trans U1
  go_wp2_with (first | (refine store_new S1 rfl 26 _ _ rfl (cellsL x') rfl rfl (sizeL zeroL) rfl (oneL x') ?_; intro w2 F2 S2 U2 q2) | (refine store_at S2 2 rfl rfl 26 _ _ rfl (cellsL x') rfl rfl (sizeL zeroL) rfl (oneL x') ?_; intro w3 F3 S3 U3 q3; simp only [List.set_cons_succ, List.set_cons_zero] at S3) | (refine store_at S3 3 rfl rfl 26 _ _ rfl (cellsL x') rfl rfl (sizeL zeroL) rfl (oneL x') ?_; intro w4 F4 S4 U4 q4; simp only [List.set_cons_succ, List.set_cons_zero] at S4))
  have U4 := ((U1.trans U2).trans U3).trans U4
  obtain ⟨_, ⟨hb, _⟩, _⟩ := Asrt.stars_get S4 3 rfl
  refine bodyPost_ret (struct_ret rfl rfl rfl hb) rfl ?_
  exact ⟨rfl, does_end S4 U4⟩
set_option maxHeartbeats 4000000 in
set_option maxRecDepth 100000 in
theorem does_release {b : Nat} {g m e : Int} {M : LT} {w : World} {F : Fp} (hM : (bookT b g m e M).on w F) (I : InvB e M) (e1 : e ≤ 1000000) (g0 : 0 ≤ g) (g1 : g ≤ 1073741824) (m0 : 1 ≤ m) (m1 : m ≤ 1073741824) (o : LO) (ht : o.tenant.size ≤ maxLen) (hn : o.name.size ≤ maxLen) (hw : o.what = 3) :
    Calls Tryd.prog 31 #[.pointer (some ⟨b, 0, none⟩), aggLO o] w (DoEnds b g m (e, (releaseS g M o.tenant o.name o.epoch o.now).1, zeroL, (releaseS g M o.tenant o.name o.epoch o.now).2) F w) := by
  obtain ⟨F0, S0, U0⟩ := does_start hM o
  have HC := box_cell (i := 3) S0 rfl
  have k0 := HC.1 0
  have k1 := HC.1 1
  have k2 := HC.1 2
  have k3 := HC.1 3
  have k4 := HC.1 4
  have k5 := HC.1 5
  have k6 := HC.1 6
  obtain ⟨wh, tenant, name, conn, epoch, now, ttl⟩ := o
  simp only at k0 k1 k2 k3 k4 k5 k6 ht hn hw ⊢
  subst hw
  generalize hR : releaseS g M tenant name epoch now = R
  obtain ⟨M', er⟩ := R
  have C := Keep.mk (on_head S0 (A' := bookT b g m e M') (v := .int .i64 er) fun Fi h _ => by have := release_c h g0 g1 I.tils tenant name epoch now; unfold RelEnds at this; rw [hR] at this; exact this)
  have HS := Keep.mk (And.intro S0 U0)
  clear HC hM S0 U0
  go_enter Tryd.func31, Tryd.ntmps31
  go_wp2_with fail
  refine C.out.mono ?_
  rintro e1 w1 ⟨rfl, F1, S1, U1⟩
  have U1 := HS.out.2.trans U1
  have q1 := (box_cell (i := 1) S1 rfl).1
  go_wp2_with (refine store_at S1 2 rfl rfl 26 _ _ rfl (cellsL zeroL) rfl rfl (sizeL zeroL) rfl (oneL zeroL) ?_; intro w4 F4 S4 U4 q4)
  have U4 := U1.trans U4
  simp only [List.set_cons_succ, List.set_cons_zero] at S4
  obtain ⟨_, ⟨hb, _⟩, _⟩ := Asrt.stars_get S4 2 rfl
  refine bodyPost_ret (struct_ret rfl rfl rfl hb) rfl ?_
  exact ⟨rfl, does_end S4 U4⟩
set_option maxHeartbeats 4000000 in
set_option maxRecDepth 100000 in
theorem does_evict {b : Nat} {g m e : Int} {M : LT} {w : World} {F : Fp} (hM : (bookT b g m e M).on w F) (I : InvB e M) (e1 : e ≤ 1000000) (g0 : 0 ≤ g) (g1 : g ≤ 1073741824) (m0 : 1 ≤ m) (m1 : m ≤ 1073741824) (o : LO) (ht : o.tenant.size ≤ maxLen) (hn : o.name.size ≤ maxLen) (hw : o.what = 4) :
    Calls Tryd.prog 31 #[.pointer (some ⟨b, 0, none⟩), aggLO o] w (DoEnds b g m (e, (evictS g M o.name o.now).1, zeroL, 0) F w) := by
  obtain ⟨F0, S0, U0⟩ := does_start hM o
  have HC := box_cell (i := 3) S0 rfl
  have k0 := HC.1 0
  have k1 := HC.1 1
  have k2 := HC.1 2
  have k3 := HC.1 3
  have k4 := HC.1 4
  have k5 := HC.1 5
  have k6 := HC.1 6
  obtain ⟨wh, tenant, name, conn, epoch, now, ttl⟩ := o
  simp only at k0 k1 k2 k3 k4 k5 k6 ht hn hw ⊢
  subst hw
  generalize hR : evictS g M name now = R
  obtain ⟨M', x', it⟩ := R
  have C := Keep.mk (on_head S0 (A' := bookT b g m e M') (v := .tuple #[aggL x', .bool it]) fun Fi h _ => by have := evict_c h g0 g1 I.tils name now; rw [hR] at this; exact this)
  have HS := Keep.mk (And.intro S0 U0)
  clear HC hM S0 U0
  go_enter Tryd.func31, Tryd.ntmps31
  go_wp2_with fail
  refine C.out.mono ?_
  rintro e1 w1 ⟨rfl, F1, S1, U1⟩
  have U1 := HS.out.2.trans U1
  have q1 := (box_cell (i := 1) S1 rfl).1
  go_wp2_with (refine store_at S1 2 rfl rfl 26 _ _ rfl (cellsL zeroL) rfl rfl (sizeL zeroL) rfl (oneL zeroL) ?_; intro w4 F4 S4 U4 q4)
  have U4 := U1.trans U4
  simp only [List.set_cons_succ, List.set_cons_zero] at S4
  obtain ⟨_, ⟨hb, _⟩, _⟩ := Asrt.stars_get S4 2 rfl
  refine bodyPost_ret (struct_ret rfl rfl rfl hb) rfl ?_
  exact ⟨rfl, does_end S4 U4⟩
set_option maxHeartbeats 4000000 in
set_option maxRecDepth 100000 in
theorem does_leave {b : Nat} {g m e : Int} {M : LT} {w : World} {F : Fp} (hM : (bookT b g m e M).on w F) (I : InvB e M) (e1 : e ≤ 1000000) (g0 : 0 ≤ g) (g1 : g ≤ 1073741824) (m0 : 1 ≤ m) (m1 : m ≤ 1073741824) (o : LO) (ht : o.tenant.size ≤ maxLen) (hn : o.name.size ≤ maxLen) (hw : o.what = 5) :
    Calls Tryd.prog 31 #[.pointer (some ⟨b, 0, none⟩), aggLO o] w (DoEnds b g m (e, (leaveS g M o.conn o.now).1, zeroL, 0) F w) := by
  obtain ⟨F0, S0, U0⟩ := does_start hM o
  have HC := box_cell (i := 3) S0 rfl
  have k0 := HC.1 0
  have k1 := HC.1 1
  have k2 := HC.1 2
  have k3 := HC.1 3
  have k4 := HC.1 4
  have k5 := HC.1 5
  have k6 := HC.1 6
  obtain ⟨wh, tenant, name, conn, epoch, now, ttl⟩ := o
  simp only at k0 k1 k2 k3 k4 k5 k6 ht hn hw ⊢
  subst hw
  generalize hR : leaveS g M conn now = R
  obtain ⟨M', out⟩ := R
  have C := Keep.mk (on_head_new S0 (T := fun v => v) (A' := bookT b g m e M') (X := fun v => row 26 6 encL v out) fun Fi h _ => by have := leave_c h I.nd I.sz (by have := I.len; omega) g0 g1 conn now; rw [hR] at this; unfold RowEnds at this; refine this.mono ?_; rintro e1 w1 ⟨v, rfl, F1, S1, U1⟩; exact ⟨v, rfl, F1, two_of (swap2 S1), U1⟩)
  have HS := Keep.mk (And.intro S0 U0)
  clear HC hM S0 U0
  go_enter Tryd.func31, Tryd.ntmps31
  go_wp2_with fail
  refine C.out.mono ?_
  rintro e1 w1 ⟨v, rfl, F1, S1, U1⟩
  have U1 := HS.out.2.trans U1
  have q1 := (box_cell (i := 2) S1 rfl).1
  go_wp2_with (refine store_at S1 3 rfl rfl 26 _ _ rfl (cellsL zeroL) rfl rfl (sizeL zeroL) rfl (oneL zeroL) ?_; intro w4 F4 S4 U4 q4)
  have U4 := U1.trans U4
  simp only [List.set_cons_succ, List.set_cons_zero] at S4
  obtain ⟨_, ⟨hb, _⟩, _⟩ := Asrt.stars_get S4 3 rfl
  refine bodyPost_ret (struct_ret rfl rfl rfl hb) rfl ?_
  exact ⟨rfl, does_end S4 U4⟩
set_option maxHeartbeats 4000000 in
set_option maxRecDepth 100000 in
theorem does_lapse {b : Nat} {g m e : Int} {M : LT} {w : World} {F : Fp} (hM : (bookT b g m e M).on w F) (I : InvB e M) (e1 : e ≤ 1000000) (g0 : 0 ≤ g) (g1 : g ≤ 1073741824) (m0 : 1 ≤ m) (m1 : m ≤ 1073741824) (o : LO) (ht : o.tenant.size ≤ maxLen) (hn : o.name.size ≤ maxLen) (hw : o.what = 6) :
    Calls Tryd.prog 31 #[.pointer (some ⟨b, 0, none⟩), aggLO o] w (DoEnds b g m (e, (lapseS g M o.now).1, zeroL, 0) F w) := by
  obtain ⟨F0, S0, U0⟩ := does_start hM o
  have HC := box_cell (i := 3) S0 rfl
  have k0 := HC.1 0
  have k1 := HC.1 1
  have k2 := HC.1 2
  have k3 := HC.1 3
  have k4 := HC.1 4
  have k5 := HC.1 5
  have k6 := HC.1 6
  obtain ⟨wh, tenant, name, conn, epoch, now, ttl⟩ := o
  simp only at k0 k1 k2 k3 k4 k5 k6 ht hn hw ⊢
  subst hw
  generalize hR : lapseS g M now = R
  obtain ⟨M', out⟩ := R
  have C := Keep.mk (on_head_new S0 (T := fun v => v) (A' := bookT b g m e M') (X := fun v => row 26 6 encL v out) fun Fi h _ => by have := lapse_c h I.nd I.sz (by have := I.len; omega) g0 g1 I.tils now; rw [hR] at this; unfold RowEnds at this; refine this.mono ?_; rintro e1 w1 ⟨v, rfl, F1, S1, U1⟩; exact ⟨v, rfl, F1, two_of (swap2 S1), U1⟩)
  have HS := Keep.mk (And.intro S0 U0)
  clear HC hM S0 U0
  go_enter Tryd.func31, Tryd.ntmps31
  go_wp2_with fail
  refine C.out.mono ?_
  rintro e1 w1 ⟨v, rfl, F1, S1, U1⟩
  have U1 := HS.out.2.trans U1
  have q1 := (box_cell (i := 2) S1 rfl).1
  go_wp2_with (refine store_at S1 3 rfl rfl 26 _ _ rfl (cellsL zeroL) rfl rfl (sizeL zeroL) rfl (oneL zeroL) ?_; intro w4 F4 S4 U4 q4)
  have U4 := U1.trans U4
  simp only [List.set_cons_succ, List.set_cons_zero] at S4
  obtain ⟨_, ⟨hb, _⟩, _⟩ := Asrt.stars_get S4 3 rfl
  refine bodyPost_ret (struct_ret rfl rfl rfl hb) rfl ?_
  exact ⟨rfl, does_end S4 U4⟩
set_option maxHeartbeats 4000000 in
set_option maxRecDepth 100000 in
theorem does_claim {b : Nat} {g m e : Int} {M : LT} {w : World} {F : Fp} (hM : (bookT b g m e M).on w F) (I : InvB e M) (e1 : e ≤ 1000000) (g0 : 0 ≤ g) (g1 : g ≤ 1073741824) (m0 : 1 ≤ m) (m1 : m ≤ 1073741824) (o : LO) (ht : o.tenant.size ≤ maxLen) (hn : o.name.size ≤ maxLen) (hw : o.what ≠ 2 ∧ o.what ≠ 3 ∧ o.what ≠ 4 ∧ o.what ≠ 5 ∧ o.what ≠ 6) :
    Calls Tryd.prog 31 #[.pointer (some ⟨b, 0, none⟩), aggLO o] w (DoEnds b g m (claimS g m e M o.tenant o.name o.conn o.now o.ttl) F w) := by
  obtain ⟨F0, S0, U0⟩ := does_start hM o
  have HC := box_cell (i := 3) S0 rfl
  have k0 := HC.1 0
  have k1 := HC.1 1
  have k2 := HC.1 2
  have k3 := HC.1 3
  have k4 := HC.1 4
  have k5 := HC.1 5
  have k6 := HC.1 6
  obtain ⟨wh, tenant, name, conn, epoch, now, ttl⟩ := o
  simp only at k0 k1 k2 k3 k4 k5 k6 ht hn hw ⊢
  obtain ⟨w2, w3, w4, w5, w6⟩ := hw
  have n2 : (wh == 2) = false := by simp [w2]
  have n3 : (wh == 3) = false := by simp [w3]
  have n4 : (wh == 4) = false := by simp [w4]
  have n5 : (wh == 5) = false := by simp [w5]
  have n6 : (wh == 6) = false := by simp [w6]
  clear w2 w3 w4 w5 w6
  generalize hR : claimS g m e M tenant name conn now ttl = R
  obtain ⟨e', M', x', er⟩ := R
  have C := Keep.mk (on_head S0 (A' := bookT b g m e' M') (v := .tuple #[aggL x', .int .i64 er]) fun Fi h _ => by have := claim_c h g0 g1 m0 m1 I.e0 (by omega) I.tils tenant name ht hn conn now ttl; unfold ClaimEnds at this; rw [hR] at this; exact this)
  have HS := Keep.mk (And.intro S0 U0)
  clear HC hM S0 U0
  go_enter Tryd.func31, Tryd.ntmps31
  go_wp2_with fail
  refine C.out.mono ?_
  rintro e1 w1 ⟨rfl, F1, S1, U1⟩
  have U1 := HS.out.2.trans U1
  go_wp2_with (first | (refine store_new S1 rfl 26 _ _ rfl (cellsL x') rfl rfl (sizeL zeroL) rfl (oneL x') ?_; intro w2 F2 S2 U2 q2) | (refine store_at S2 2 rfl rfl 26 _ _ rfl (cellsL x') rfl rfl (sizeL zeroL) rfl (oneL x') ?_; intro w3 F3 S3 U3 q3; simp only [List.set_cons_succ, List.set_cons_zero] at S3) | (refine store_at S3 3 rfl rfl 26 _ _ rfl (cellsL x') rfl rfl (sizeL zeroL) rfl (oneL x') ?_; intro w4 F4 S4 U4 q4; simp only [List.set_cons_succ, List.set_cons_zero] at S4))
  have U4 := ((U1.trans U2).trans U3).trans U4
  obtain ⟨_, ⟨hb, _⟩, _⟩ := Asrt.stars_get S4 3 rfl
  refine bodyPost_ret (struct_ret rfl rfl rfl hb) rfl ?_
  exact ⟨rfl, does_end S4 U4⟩
theorem does_c {b : Nat} {g m e : Int} {M : LT} {w : World} {F : Fp} (hM : (bookT b g m e M).on w F) (I : InvB e M) (e1 : e ≤ 1000000) (g0 : 0 ≤ g) (g1 : g ≤ 1073741824) (m0 : 1 ≤ m) (m1 : m ≤ 1073741824) (o : LO) (ht : o.tenant.size ≤ maxLen) (hn : o.name.size ≤ maxLen) :
    Calls Tryd.prog 31 #[.pointer (some ⟨b, 0, none⟩), aggLO o] w (DoEnds b g m (doesS g m e M o) F w) := by
  unfold doesS
  by_cases h2 : o.what = 2
  · rw [if_pos h2]; exact does_renew hM I e1 g0 g1 m0 m1 o ht hn h2
  rw [if_neg h2]
  by_cases h3 : o.what = 3
  · rw [if_pos h3]; exact does_release hM I e1 g0 g1 m0 m1 o ht hn h3
  rw [if_neg h3]
  by_cases h4 : o.what = 4
  · rw [if_pos h4]; exact does_evict hM I e1 g0 g1 m0 m1 o ht hn h4
  rw [if_neg h4]
  by_cases h5 : o.what = 5
  · rw [if_pos h5]; exact does_leave hM I e1 g0 g1 m0 m1 o ht hn h5
  rw [if_neg h5]
  by_cases h6 : o.what = 6
  · rw [if_pos h6]; exact does_lapse hM I e1 g0 g1 m0 m1 o ht hn h6
  rw [if_neg h6]
  exact does_claim hM I e1 g0 g1 m0 m1 o ht hn ⟨h2, h3, h4, h5, h6⟩
end Go.Proofs.YtefnfhhdcginmaaDoor
