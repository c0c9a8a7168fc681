/- The document's book of leases: Claim. -/
import Derived.Test.YtefnfhhdcginmaaDoorMRefA
import Derived.Test.YtefnfhhdcginmaaDoorSynB
set_option linter.unusedVariables false
namespace Go.Proofs.YtefnfhhdcginmaaDoor
open Go.ChangeShapes Go.WideShapes Go.ChangeAt Go.RowKit Go.Sub Go.ChangeMaps
abbrev nowL (tenant nm : ByteArray) (conn n now ttl m : Int) : Lz := ⟨nm, tenant, conn, n, now + min ttl m, true⟩
def rclaim (g m n : Int) (L : List Lz) (tenant nm : ByteArray) (conn now ttl : Int) : Int × List Lz × Lz × Int :=
  if (nameB tenant.data.toList && (nameB nm.data.toList && (clockB now && timeB ttl))) = false then (n, L, zeroL, 1) else match L.find? (isN nm) with
  | none => if 64 ≤ L.length then (n, L, zeroL, 2) else (n + 1, rput L (nowL tenant nm conn n now ttl m), nowL tenant nm conn n now ttl m, 0)
  | some x => if x.tenant ≠ tenant ∧ (heldB x now = true ∨ keptB g x now = true) then (n, L, zeroL, 131) else if heldB x now = true then (n, L, zeroL, 4) else
    (n + 1, rput L (nowL tenant nm conn n now ttl m), nowL tenant nm conn n now ttl m, 0)
theorem rfind_t {b : Nat} {g m n : Int} {L : List Lz} {w : World} {F : Fp} (h : (refT b g m n L).on w F) (hl : L.length ≤ 1000) (nm : ByteArray) :
    Calls Tryd.prog 57 #[.pointer (some ⟨b, 0, none⟩), .string nm] w (Ret (.int .i64 (findI L nm)) fun w' => w = w') := by
  obtain ⟨v, hS⟩ := h
  exact rfind_c hS (by omega) nm
/-- the cells of the book and its row, in a world -/
structure RefIn (w : World) (b : Nat) (g m n : Int) (a : Option Addr) (ca : Nat) (L : List Lz) : Prop where
  c0 : w.cell? ⟨b, 0, none⟩ = some (.slice a L.length ca)
  c1 : w.cell? ⟨b, 1, none⟩ = some (.int .i64 g)
  c2 : w.cell? ⟨b, 2, none⟩ = some (.int .i64 m)
  c3 : w.cell? ⟨b, 3, none⟩ = some (.int .i64 n)
  lt : b < w.heap.size
  row : ∀ (k : Nat) (hk : k < L.length), ∃ g off, a = some ⟨g, off, none⟩ ∧ g < w.heap.size ∧ LzIn w g (off + k * 6) L[k]
theorem refT_in {b : Nat} {g m n : Int} {L : List Lz} {w : World} {F : Fp} (h : (refT b g m n L).on w F) : ∃ a ca, RefIn w b g m n a ca L := by
  obtain ⟨v, hS⟩ := h
  obtain ⟨hc, _, hl⟩ := box_cell (i := 0) hS rfl
  obtain ⟨_, hr, _⟩ := Asrt.stars_get hS 1 rfl
  obtain ⟨a, ca, rfl, hR⟩ := rowL_in hr
  exact ⟨a, ca, hc 0, hc 1, hc 2, hc 3, hl, hR⟩
section
variable {P : Program} {ops : Array Oper} {rest : List Oper} {o : Oper} {a : Act} {Q : Exit → Act → World → Prop}
/-- the book's next epoch is stored -/
theorem store_next {b : Nat} {g m n : Int} {L : List Lz} {l : List Asrt} {w : World} {F : Fp} (hS : (Asrt.stars (refT b g m n L :: l)).on w F) (hgd : o.guard = none) (ty : TypeId) (x y : Operand) (ho : o.op = .store ty x y) (n' : Int)
    (hx : a.eval x = .pointer (some ⟨b, 3, none⟩)) (hy : a.eval y = .int .i64 n') (hi : (P.info? ty).map (·.size) = some 1)
    (h : ∀ w' F', (Asrt.stars (refT b g m n' L :: l)).on w' F' → Upd F F' w w' → wpList P ops Q rest (a.put o.dst undef) w') : wpList P ops Q (o :: rest) a w := by
  obtain ⟨Fi, ⟨v, hT⟩, hsub, hgo⟩ := Asrt.stars_head hS
  refine store_cell hT 0 rfl hgd ty x y ho 3 (.int .i64 n') hx hy (by exact (show (3 : Nat) < 4 from by decide)) hi rfl _ rfl fun w' F' S' U' _ => ?_
  obtain ⟨F'', S'', U''⟩ := hgo w' F' (refT b g m n' L) ⟨v, S'⟩ U'
  exact h w' F'' S'' U''
end
def ClEnds (b : Nat) (g m : Int) (R : Int × List Lz × Lz × Int) (F : Fp) (w : World) : Ending → World → Prop := REnds b g m R.1 R.2.1 (.tuple #[aggL R.2.2.1, .int .i64 R.2.2.2]) F w
set_option maxRecDepth 100000 in
set_option maxHeartbeats 4000000 in
theorem rclaim_bad1 {b : Nat} {g m n : Int} {L : List Lz} {w : World} {F : Fp} (hM : (refT b g m n L).on w F) (hl : L.length ≤ 1000) (g0 : 0 ≤ g) (g1 : g ≤ 1073741824) (m0 : 1 ≤ m) (m1 : m ≤ 1073741824) (n0 : 0 ≤ n) (n1 : n ≤ 1000000000) (hts : ∀ x ∈ L, TilOk x.til)
    (tenant nm : ByteArray) (hs1 : tenant.size ≤ maxLen) (hs2 : nm.size ≤ maxLen) (conn now ttl : Int) (h1 : nameB tenant.data.toList = false) :
    Calls Tryd.prog 28 #[.pointer (some ⟨b, 0, none⟩), .string tenant, .string nm, .int .i64 conn, .int .i64 now, .int .i64 ttl] w (ClEnds b g m (rclaim g m n L tenant nm conn now ttl) F w) := by
  obtain ⟨F1, S1, U1⟩ := Asrt.stars_box1 (Asrt.stars_one hM) (boxL zeroL)
  have C1 := Keep.mk (fun w : World => nref_c (w := w) tenant hs1)
  have C2 := Keep.mk (fun w : World => nref_c (w := w) nm hs2)
  have C3 := Keep.mk (fun w : World => rclock_c (w := w) now)
  have C4 := Keep.mk (fun w : World => rtime_c (w := w) ttl)
  have HF := Keep.mk (fun (w : World) (F : Fp) (h : (refT b g m n L).on w F) => rfind_t h hl nm)
  have en : IntKind.i64.wrap (n + 1) = n + 1 := by rw [IntKind.wrap_i64]; omega
  unfold ClEnds
  have ER := Keep.mk (show rclaim g m n L tenant nm conn now ttl = (n, L, zeroL, 1) from by unfold rclaim; rw [if_pos (by simp [h1])])
  rw [h1] at C1
  clear hM hts HF
  go_enter Tryd.func28, Tryd.ntmps28
  go_wp2_with fail
  refine (C1.out _).mono ?_
  rintro e w1 ⟨rfl, rfl⟩
  go_wp2_with ((with_reducible refine is_store ?_); refine store_at S1 1 rfl rfl 26 _ _ rfl (cellsL (zeroL)) rfl rfl (sizeL zeroL) rfl (oneL (zeroL)) ?_; intro W9 F9 S9 U9 q9)
  obtain ⟨_, ⟨hg9, _⟩, _⟩ := Asrt.stars_get S9 1 rfl
  have HQ := Keep.mk (first_end S9 ((U1).trans U9))
  refine bodyPost_ret (struct_ret rfl rfl rfl hg9) rfl ?_
  rw [ER.out]
  exact ⟨rfl, HQ.out⟩
set_option maxRecDepth 100000 in
set_option maxHeartbeats 4000000 in
theorem rclaim_bad2 {b : Nat} {g m n : Int} {L : List Lz} {w : World} {F : Fp} (hM : (refT b g m n L).on w F) (hl : L.length ≤ 1000) (g0 : 0 ≤ g) (g1 : g ≤ 1073741824) (m0 : 1 ≤ m) (m1 : m ≤ 1073741824) (n0 : 0 ≤ n) (n1 : n ≤ 1000000000) (hts : ∀ x ∈ L, TilOk x.til)
    (tenant nm : ByteArray) (hs1 : tenant.size ≤ maxLen) (hs2 : nm.size ≤ maxLen) (conn now ttl : Int) (h1 : nameB tenant.data.toList = true) (h2 : nameB nm.data.toList = false) :
    Calls Tryd.prog 28 #[.pointer (some ⟨b, 0, none⟩), .string tenant, .string nm, .int .i64 conn, .int .i64 now, .int .i64 ttl] w (ClEnds b g m (rclaim g m n L tenant nm conn now ttl) F w) := by
  obtain ⟨F1, S1, U1⟩ := Asrt.stars_box1 (Asrt.stars_one hM) (boxL zeroL)
  have C1 := Keep.mk (fun w : World => nref_c (w := w) tenant hs1)
  have C2 := Keep.mk (fun w : World => nref_c (w := w) nm hs2)
  have C3 := Keep.mk (fun w : World => rclock_c (w := w) now)
  have C4 := Keep.mk (fun w : World => rtime_c (w := w) ttl)
  have HF := Keep.mk (fun (w : World) (F : Fp) (h : (refT b g m n L).on w F) => rfind_t h hl nm)
  have en : IntKind.i64.wrap (n + 1) = n + 1 := by rw [IntKind.wrap_i64]; omega
  unfold ClEnds
  have ER := Keep.mk (show rclaim g m n L tenant nm conn now ttl = (n, L, zeroL, 1) from by unfold rclaim; rw [if_pos (by simp [h1, h2])])
  rw [h1] at C1
  rw [h2] at C2
  clear hM hts HF
  go_enter Tryd.func28, Tryd.ntmps28
  go_wp2_with fail
  refine (C1.out _).mono ?_
  rintro e w1 ⟨rfl, rfl⟩
  go_wp2_with fail
  refine (C2.out _).mono ?_
  rintro e w1 ⟨rfl, rfl⟩
  go_wp2_with ((with_reducible refine is_store ?_); refine store_at S1 1 rfl rfl 26 _ _ rfl (cellsL (zeroL)) rfl rfl (sizeL zeroL) rfl (oneL (zeroL)) ?_; intro W9 F9 S9 U9 q9)
  obtain ⟨_, ⟨hg9, _⟩, _⟩ := Asrt.stars_get S9 1 rfl
  have HQ := Keep.mk (first_end S9 ((U1).trans U9))
  refine bodyPost_ret (struct_ret rfl rfl rfl hg9) rfl ?_
  rw [ER.out]
  exact ⟨rfl, HQ.out⟩
set_option maxRecDepth 100000 in
set_option maxHeartbeats 4000000 in
theorem rclaim_bad3 {b : Nat} {g m n : Int} {L : List Lz} {w : World} {F : Fp} (hM : (refT b g m n L).on w F) (hl : L.length ≤ 1000) (g0 : 0 ≤ g) (g1 : g ≤ 1073741824) (m0 : 1 ≤ m) (m1 : m ≤ 1073741824) (n0 : 0 ≤ n) (n1 : n ≤ 1000000000) (hts : ∀ x ∈ L, TilOk x.til)
    (tenant nm : ByteArray) (hs1 : tenant.size ≤ maxLen) (hs2 : nm.size ≤ maxLen) (conn now ttl : Int) (h1 : nameB tenant.data.toList = true) (h2 : nameB nm.data.toList = true) (h3 : clockB now = false) :
    Calls Tryd.prog 28 #[.pointer (some ⟨b, 0, none⟩), .string tenant, .string nm, .int .i64 conn, .int .i64 now, .int .i64 ttl] w (ClEnds b g m (rclaim g m n L tenant nm conn now ttl) F w) := by
  obtain ⟨F1, S1, U1⟩ := Asrt.stars_box1 (Asrt.stars_one hM) (boxL zeroL)
  have C1 := Keep.mk (fun w : World => nref_c (w := w) tenant hs1)
  have C2 := Keep.mk (fun w : World => nref_c (w := w) nm hs2)
  have C3 := Keep.mk (fun w : World => rclock_c (w := w) now)
  have C4 := Keep.mk (fun w : World => rtime_c (w := w) ttl)
  have HF := Keep.mk (fun (w : World) (F : Fp) (h : (refT b g m n L).on w F) => rfind_t h hl nm)
  have en : IntKind.i64.wrap (n + 1) = n + 1 := by rw [IntKind.wrap_i64]; omega
  unfold ClEnds
  have ER := Keep.mk (show rclaim g m n L tenant nm conn now ttl = (n, L, zeroL, 1) from by unfold rclaim; rw [if_pos (by simp [h1, h2, h3])])
  rw [h1] at C1
  rw [h2] at C2
  rw [h3] at C3
  clear hM hts HF
  go_enter Tryd.func28, Tryd.ntmps28
  go_wp2_with fail
  refine (C1.out _).mono ?_
  rintro e w1 ⟨rfl, rfl⟩
  go_wp2_with fail
  refine (C2.out _).mono ?_
  rintro e w1 ⟨rfl, rfl⟩
  go_wp2_with fail
  refine (C3.out _).mono ?_
  rintro e w1 ⟨rfl, rfl⟩
  go_wp2_with ((with_reducible refine is_store ?_); refine store_at S1 1 rfl rfl 26 _ _ rfl (cellsL (zeroL)) rfl rfl (sizeL zeroL) rfl (oneL (zeroL)) ?_; intro W9 F9 S9 U9 q9)
  obtain ⟨_, ⟨hg9, _⟩, _⟩ := Asrt.stars_get S9 1 rfl
  have HQ := Keep.mk (first_end S9 ((U1).trans U9))
  refine bodyPost_ret (struct_ret rfl rfl rfl hg9) rfl ?_
  rw [ER.out]
  exact ⟨rfl, HQ.out⟩
set_option maxRecDepth 100000 in
set_option maxHeartbeats 4000000 in
theorem rclaim_bad4 {b : Nat} {g m n : Int} {L : List Lz} {w : World} {F : Fp} (hM : (refT b g m n L).on w F) (hl : L.length ≤ 1000) (g0 : 0 ≤ g) (g1 : g ≤ 1073741824) (m0 : 1 ≤ m) (m1 : m ≤ 1073741824) (n0 : 0 ≤ n) (n1 : n ≤ 1000000000) (hts : ∀ x ∈ L, TilOk x.til)
    (tenant nm : ByteArray) (hs1 : tenant.size ≤ maxLen) (hs2 : nm.size ≤ maxLen) (conn now ttl : Int) (h1 : nameB tenant.data.toList = true) (h2 : nameB nm.data.toList = true) (h3 : clockB now = true) (h4 : timeB ttl = false) :
    Calls Tryd.prog 28 #[.pointer (some ⟨b, 0, none⟩), .string tenant, .string nm, .int .i64 conn, .int .i64 now, .int .i64 ttl] w (ClEnds b g m (rclaim g m n L tenant nm conn now ttl) F w) := by
  obtain ⟨F1, S1, U1⟩ := Asrt.stars_box1 (Asrt.stars_one hM) (boxL zeroL)
  have C1 := Keep.mk (fun w : World => nref_c (w := w) tenant hs1)
  have C2 := Keep.mk (fun w : World => nref_c (w := w) nm hs2)
  have C3 := Keep.mk (fun w : World => rclock_c (w := w) now)
  have C4 := Keep.mk (fun w : World => rtime_c (w := w) ttl)
  have HF := Keep.mk (fun (w : World) (F : Fp) (h : (refT b g m n L).on w F) => rfind_t h hl nm)
  have en : IntKind.i64.wrap (n + 1) = n + 1 := by rw [IntKind.wrap_i64]; omega
  unfold ClEnds
  have ER := Keep.mk (show rclaim g m n L tenant nm conn now ttl = (n, L, zeroL, 1) from by unfold rclaim; rw [if_pos (by simp [h1, h2, h3, h4])])
  rw [h1] at C1
  rw [h2] at C2
  rw [h3] at C3
  rw [h4] at C4
  clear hM hts HF
  go_enter Tryd.func28, Tryd.ntmps28
  go_wp2_with fail
  refine (C1.out _).mono ?_
  rintro e w1 ⟨rfl, rfl⟩
  go_wp2_with fail
  refine (C2.out _).mono ?_
  rintro e w1 ⟨rfl, rfl⟩
  go_wp2_with fail
  refine (C3.out _).mono ?_
  rintro e w1 ⟨rfl, rfl⟩
  go_wp2_with fail
  refine (C4.out _).mono ?_
  rintro e w1 ⟨rfl, rfl⟩
  go_wp2_with ((with_reducible refine is_store ?_); refine store_at S1 1 rfl rfl 26 _ _ rfl (cellsL (zeroL)) rfl rfl (sizeL zeroL) rfl (oneL (zeroL)) ?_; intro W9 F9 S9 U9 q9)
  obtain ⟨_, ⟨hg9, _⟩, _⟩ := Asrt.stars_get S9 1 rfl
  have HQ := Keep.mk (first_end S9 ((U1).trans U9))
  refine bodyPost_ret (struct_ret rfl rfl rfl hg9) rfl ?_
  rw [ER.out]
  exact ⟨rfl, HQ.out⟩
set_option maxRecDepth 100000 in
set_option maxHeartbeats 4000000 in
theorem rclaim_many {b : Nat} {g m n : Int} {L : List Lz} {w : World} {F : Fp} (hM : (refT b g m n L).on w F) (hl : L.length ≤ 1000) (g0 : 0 ≤ g) (g1 : g ≤ 1073741824) (m0 : 1 ≤ m) (m1 : m ≤ 1073741824) (n0 : 0 ≤ n) (n1 : n ≤ 1000000000) (hts : ∀ x ∈ L, TilOk x.til)
    (tenant nm : ByteArray) (hs1 : tenant.size ≤ maxLen) (hs2 : nm.size ≤ maxLen) (conn now ttl : Int) (hok : (nameB tenant.data.toList = true ∧ nameB nm.data.toList = true) ∧ clockB now = true ∧ timeB ttl = true) (hn : L.find? (isN nm) = none) (hi : findI L nm = -1) (h64 : 64 ≤ L.length) :
    Calls Tryd.prog 28 #[.pointer (some ⟨b, 0, none⟩), .string tenant, .string nm, .int .i64 conn, .int .i64 now, .int .i64 ttl] w (ClEnds b g m (rclaim g m n L tenant nm conn now ttl) F w) := by
  obtain ⟨F1, S1, U1⟩ := Asrt.stars_box1 (Asrt.stars_one hM) (boxL zeroL)
  have C1 := Keep.mk (fun w : World => nref_c (w := w) tenant hs1)
  have C2 := Keep.mk (fun w : World => nref_c (w := w) nm hs2)
  have C3 := Keep.mk (fun w : World => rclock_c (w := w) now)
  have C4 := Keep.mk (fun w : World => rtime_c (w := w) ttl)
  have HF := Keep.mk (fun (w : World) (F : Fp) (h : (refT b g m n L).on w F) => rfind_t h hl nm)
  have en : IntKind.i64.wrap (n + 1) = n + 1 := by rw [IntKind.wrap_i64]; omega
  unfold ClEnds
  obtain ⟨⟨h1, h2⟩, h3, h4⟩ := hok
  have hsum : IntKind.i64.wrap (now + min ttl m) = now + min ttl m := by have := clockB_iff.1 h3; have := timeB_iff.1 h4; rw [IntKind.wrap_i64]; omega
  have HOK := Keep.mk (And.intro h1 (And.intro h2 (And.intro h3 h4)))
  rw [h1] at C1
  rw [h2] at C2
  rw [h3] at C3
  rw [h4] at C4
  obtain ⟨_, hm1, _⟩ := Asrt.stars_get S1 0 rfl
  obtain ⟨a, ca, hin⟩ := refT_in hm1
  obtain ⟨b0, b1, b2, b3, bl, brow⟩ := hin
  have HP := Keep.mk (fun (w : World) (F : Fp) (h : (refT b g m (n + 1) L).on w F) => rput_t h hl (nowL tenant nm conn n now ttl m))
  unfold REnds at HP
  clear h1 h2 h3 h4 hM
  rw [hi] at HF
  have ER := Keep.mk (show rclaim g m n L tenant nm conn now ttl = (n, L, zeroL, 2) from by obtain ⟨h1, h2, h3, h4⟩ := HOK.out; unfold rclaim; rw [if_neg (by simp [h1, h2, h3, h4]), hn]; simp only; rw [if_pos h64])
  have e64 : decide ((64 : Int) ≤ (L.length : Int)) = true := by simp; omega
  clear h64 hn hsum brow hi hts HP
  go_enter Tryd.func28, Tryd.ntmps28
  go_wp2_with fail
  refine (C1.out _).mono ?_
  rintro e w1 ⟨rfl, rfl⟩
  go_wp2_with fail
  refine (C2.out _).mono ?_
  rintro e w1 ⟨rfl, rfl⟩
  go_wp2_with fail
  refine (C3.out _).mono ?_
  rintro e w1 ⟨rfl, rfl⟩
  go_wp2_with fail
  refine (C4.out _).mono ?_
  rintro e w1 ⟨rfl, rfl⟩
  go_wp2_with fail
  refine (HF.out _ _ hm1).mono ?_
  rintro e w1 ⟨rfl, hw⟩
  have S2 := S1
  have V2 := U1
  rw [hw] at S2 V2
  clear S1 U1 b0 b1 b2 b3 bl hm1
  obtain ⟨_, hm, _⟩ := Asrt.stars_get S2 0 rfl
  obtain ⟨a, ca, hin⟩ := refT_in hm
  obtain ⟨b0, b1, b2, b3, bl, brow⟩ := hin
  clear hm
  clear brow
  go_wp2_with ((with_reducible refine is_store ?_); refine store_at S2 1 rfl rfl 26 _ _ rfl (cellsL (zeroL)) rfl rfl (sizeL zeroL) rfl (oneL (zeroL)) ?_; intro W9 F9 S9 U9 q9)
  obtain ⟨_, ⟨hg9, _⟩, _⟩ := Asrt.stars_get S9 1 rfl
  have HQ := Keep.mk (first_end S9 ((V2).trans U9))
  refine bodyPost_ret (struct_ret rfl rfl rfl hg9) rfl ?_
  rw [ER.out]
  exact ⟨rfl, HQ.out⟩
set_option maxRecDepth 100000 in
set_option maxHeartbeats 4000000 in
theorem rclaim_new {b : Nat} {g m n : Int} {L : List Lz} {w : World} {F : Fp} (hM : (refT b g m n L).on w F) (hl : L.length ≤ 1000) (g0 : 0 ≤ g) (g1 : g ≤ 1073741824) (m0 : 1 ≤ m) (m1 : m ≤ 1073741824) (n0 : 0 ≤ n) (n1 : n ≤ 1000000000) (hts : ∀ x ∈ L, TilOk x.til)
    (tenant nm : ByteArray) (hs1 : tenant.size ≤ maxLen) (hs2 : nm.size ≤ maxLen) (conn now ttl : Int) (hok : (nameB tenant.data.toList = true ∧ nameB nm.data.toList = true) ∧ clockB now = true ∧ timeB ttl = true) (hn : L.find? (isN nm) = none) (hi : findI L nm = -1) (h64 : ¬ 64 ≤ L.length) :
    Calls Tryd.prog 28 #[.pointer (some ⟨b, 0, none⟩), .string tenant, .string nm, .int .i64 conn, .int .i64 now, .int .i64 ttl] w (ClEnds b g m (rclaim g m n L tenant nm conn now ttl) F w) := by
  obtain ⟨F1, S1, U1⟩ := Asrt.stars_box1 (Asrt.stars_one hM) (boxL zeroL)
  have C1 := Keep.mk (fun w : World => nref_c (w := w) tenant hs1)
  have C2 := Keep.mk (fun w : World => nref_c (w := w) nm hs2)
  have C3 := Keep.mk (fun w : World => rclock_c (w := w) now)
  have C4 := Keep.mk (fun w : World => rtime_c (w := w) ttl)
  have HF := Keep.mk (fun (w : World) (F : Fp) (h : (refT b g m n L).on w F) => rfind_t h hl nm)
  have en : IntKind.i64.wrap (n + 1) = n + 1 := by rw [IntKind.wrap_i64]; omega
  unfold ClEnds
  obtain ⟨⟨h1, h2⟩, h3, h4⟩ := hok
  have hsum : IntKind.i64.wrap (now + min ttl m) = now + min ttl m := by have := clockB_iff.1 h3; have := timeB_iff.1 h4; rw [IntKind.wrap_i64]; omega
  have HOK := Keep.mk (And.intro h1 (And.intro h2 (And.intro h3 h4)))
  rw [h1] at C1
  rw [h2] at C2
  rw [h3] at C3
  rw [h4] at C4
  obtain ⟨_, hm1, _⟩ := Asrt.stars_get S1 0 rfl
  obtain ⟨a, ca, hin⟩ := refT_in hm1
  obtain ⟨b0, b1, b2, b3, bl, brow⟩ := hin
  have HP := Keep.mk (fun (w : World) (F : Fp) (h : (refT b g m (n + 1) L).on w F) => rput_t h hl (nowL tenant nm conn n now ttl m))
  unfold REnds at HP
  clear h1 h2 h3 h4 hM
  rw [hi] at HF
  have ER := Keep.mk (show rclaim g m n L tenant nm conn now ttl = (n + 1, rput L (nowL tenant nm conn n now ttl m), nowL tenant nm conn n now ttl m, 0) from by obtain ⟨h1, h2, h3, h4⟩ := HOK.out; unfold rclaim; rw [if_neg (by simp [h1, h2, h3, h4]), hn]; simp only; rw [if_neg h64])
  have e64 : decide ((64 : Int) ≤ (L.length : Int)) = false := by simp; omega
  clear h64 hn brow hi hts
  go_enter Tryd.func28, Tryd.ntmps28
  go_wp2_with fail
  refine (C1.out _).mono ?_
  rintro e w1 ⟨rfl, rfl⟩
  go_wp2_with fail
  refine (C2.out _).mono ?_
  rintro e w1 ⟨rfl, rfl⟩
  go_wp2_with fail
  refine (C3.out _).mono ?_
  rintro e w1 ⟨rfl, rfl⟩
  go_wp2_with fail
  refine (C4.out _).mono ?_
  rintro e w1 ⟨rfl, rfl⟩
  go_wp2_with fail
  refine (HF.out _ _ hm1).mono ?_
  rintro e w1 ⟨rfl, hw⟩
  have S2 := S1
  have V2 := U1
  rw [hw] at S2 V2
  clear S1 U1 b0 b1 b2 b3 bl hm1
  obtain ⟨_, hm, _⟩ := Asrt.stars_get S2 0 rfl
  obtain ⟨a, ca, hin⟩ := refT_in hm
  obtain ⟨b0, b1, b2, b3, bl, brow⟩ := hin
  clear hm
  clear brow
  go_wp2_with fail
  obtain ⟨F3n, S3n, U3n⟩ := Asrt.stars_box1 S2 (boxL (nowL tenant nm conn n now ttl m))
  have S3n := Asrt.drew S3n
  have U3n := U3n.drew
  obtain ⟨_, hmn, _⟩ := Asrt.stars_get S3n 0 rfl
  obtain ⟨an, can, hin⟩ := refT_in hmn
  obtain ⟨d0, d1, d2, d3, dl, drow⟩ := hin
  obtain ⟨k3n, _, l3n⟩ := box_cell (i := 1) S3n rfl
  clear hmn drow
  have s0 : w1.drew.cell? ⟨b, 3, none⟩ = some (.int .i64 n) ∧ w1.drew.cell? ⟨b, 2, none⟩ = some (.int .i64 m) := ⟨b3, b2⟩
  go_region_held3 (fun w' => w'.cell? ⟨b, 3, none⟩ = some (.int .i64 n) ∧ w'.cell? ⟨b, 2, none⟩ = some (.int .i64 m)) (first | exact s0 | go_keep) (fail)
  all_goals
    generalize (w1.alloc (boxL (nowL tenant nm conn n now ttl m))).drew = w3 at *
    go_wp2_with ((with_reducible refine is_store ?_); refine store_next S3n rfl 2 _ _ rfl (n + 1) rfl rfl size_i64 ?_; intro W4 F4 S4n U4n; obtain ⟨k4, _, l4⟩ := box_cell (i := 1) S4n rfl)
    refine (on_head S4n (fun Fi h _ => HP.out _ _ h)).mono ?_
    rintro e w5 ⟨rfl, F5, S5, U5⟩
    have V5 := (((V2).trans U3n).trans U4n).trans U5
    obtain ⟨k5, _, l5⟩ := box_cell (i := 1) S5 rfl
    clear S4n U5 U4n k4 l4 S3n U3n k3n l3n d0 d1 d2 d3 dl s0 b0 b1 b2 b3 bl
    go_wp2_with ((with_reducible refine is_store ?_); refine store_at S5 2 rfl rfl 26 _ _ rfl (cellsL (nowL tenant nm conn n now ttl m)) rfl rfl (sizeL zeroL) rfl (oneL (nowL tenant nm conn n now ttl m)) ?_; intro W9 F9 S9 U9 q9)
    obtain ⟨_, ⟨hg9, _⟩, _⟩ := Asrt.stars_get S9 2 rfl
    have HQ := Keep.mk (first_end S9 ((V5).trans U9))
    refine bodyPost_ret (struct_ret rfl rfl rfl hg9) rfl ?_
    rw [ER.out]
    exact ⟨rfl, HQ.out⟩
set_option maxRecDepth 100000 in
set_option maxHeartbeats 4000000 in
theorem rclaim_there {b : Nat} {g m n : Int} {L : List Lz} {w : World} {F : Fp} (hM : (refT b g m n L).on w F) (hl : L.length ≤ 1000) (g0 : 0 ≤ g) (g1 : g ≤ 1073741824) (m0 : 1 ≤ m) (m1 : m ≤ 1073741824) (n0 : 0 ≤ n) (n1 : n ≤ 1000000000) (hts : ∀ x ∈ L, TilOk x.til)
    (tenant nm : ByteArray) (hs1 : tenant.size ≤ maxLen) (hs2 : nm.size ≤ maxLen) (conn now ttl : Int) (hok : (nameB tenant.data.toList = true ∧ nameB nm.data.toList = true) ∧ clockB now = true ∧ timeB ttl = true) (k : Nat) (hk : k < L.length) (hn : L.find? (isN nm) = some L[k]) (hi : findI L nm = (k : Int)) (hnm : L[k].name = nm) (ht : L[k].tenant = tenant) (hb : heldB L[k] now = true) :
    Calls Tryd.prog 28 #[.pointer (some ⟨b, 0, none⟩), .string tenant, .string nm, .int .i64 conn, .int .i64 now, .int .i64 ttl] w (ClEnds b g m (rclaim g m n L tenant nm conn now ttl) F w) := by
  obtain ⟨F1, S1, U1⟩ := Asrt.stars_box1 (Asrt.stars_one hM) (boxL zeroL)
  have C1 := Keep.mk (fun w : World => nref_c (w := w) tenant hs1)
  have C2 := Keep.mk (fun w : World => nref_c (w := w) nm hs2)
  have C3 := Keep.mk (fun w : World => rclock_c (w := w) now)
  have C4 := Keep.mk (fun w : World => rtime_c (w := w) ttl)
  have HF := Keep.mk (fun (w : World) (F : Fp) (h : (refT b g m n L).on w F) => rfind_t h hl nm)
  have en : IntKind.i64.wrap (n + 1) = n + 1 := by rw [IntKind.wrap_i64]; omega
  unfold ClEnds
  obtain ⟨⟨h1, h2⟩, h3, h4⟩ := hok
  have hsum : IntKind.i64.wrap (now + min ttl m) = now + min ttl m := by have := clockB_iff.1 h3; have := timeB_iff.1 h4; rw [IntKind.wrap_i64]; omega
  have HOK := Keep.mk (And.intro h1 (And.intro h2 (And.intro h3 h4)))
  rw [h1] at C1
  rw [h2] at C2
  rw [h3] at C3
  rw [h4] at C4
  obtain ⟨_, hm1, _⟩ := Asrt.stars_get S1 0 rfl
  obtain ⟨a, ca, hin⟩ := refT_in hm1
  obtain ⟨b0, b1, b2, b3, bl, brow⟩ := hin
  have HP := Keep.mk (fun (w : World) (F : Fp) (h : (refT b g m (n + 1) L).on w F) => rput_t h hl (nowL tenant nm conn n now ttl m))
  unfold REnds at HP
  clear h1 h2 h3 h4 hM
  rw [hi] at HF
  have htx := hts _ (List.getElem_mem hk)
  have hk0 : (0 : Int) ≤ (k : Int) := by omega
  have hFS : rclaim g m n L tenant nm conn now ttl = if L[k].tenant ≠ tenant ∧ (heldB L[k] now = true ∨ keptB g L[k] now = true) then (n, L, zeroL, 131) else if heldB L[k] now = true then (n, L, zeroL, 4) else (n + 1, rput L (nowL tenant nm conn n now ttl m), nowL tenant nm conn n now ttl m, 0) := by
    obtain ⟨h1, h2, h3, h4⟩ := HOK.out
    unfold rclaim
    rw [if_neg (by simp [h1, h2, h3, h4]), hn]
  obtain ⟨g', off, rfl, hg', hx⟩ := brow k hk
  generalize L[k] = x at *
  have HC := Keep.mk (fun w : World => held_c (w := w) x now)
  have HK := Keep.mk (fun (w : World) (F : Fp) (h : (refT b g m n L).on w F) => kept_c (refT_cells h).2.2.2 (refT_cells h).1 g0 g1 x htx now)
  clear hi hn hnm brow htx hts
  have e1 : (x.tenant.toList == tenant.toList) = true := by rw [seq, decide_eq_true ht]
  have ER := Keep.mk (show rclaim g m n L tenant nm conn now ttl = (n, L, zeroL, 4) from by rw [hFS]; simp [ht, hb])
  rw [hb] at HC
  clear hFS ht hb HP HK
  go_enter Tryd.func28, Tryd.ntmps28
  go_wp2_with fail
  refine (C1.out _).mono ?_
  rintro e w1 ⟨rfl, rfl⟩
  go_wp2_with fail
  refine (C2.out _).mono ?_
  rintro e w1 ⟨rfl, rfl⟩
  go_wp2_with fail
  refine (C3.out _).mono ?_
  rintro e w1 ⟨rfl, rfl⟩
  go_wp2_with fail
  refine (C4.out _).mono ?_
  rintro e w1 ⟨rfl, rfl⟩
  go_wp2_with fail
  refine (HF.out _ _ hm1).mono ?_
  rintro e w1 ⟨rfl, hw⟩
  have S2 := S1
  have V2 := U1
  have hx1 := hx
  have hg1 := hg'
  rw [hw] at S2 V2 hx1 hg1 b0 b1 b2 b3 bl
  obtain ⟨y0, y1, y2, y3, y4, y5⟩ := hx1
  clear S1 U1 hm1 hx hg' hw
  go_wp2_with ((with_reducible refine is_store ?_); refine store_new S2 rfl 26 _ _ rfl (cellsL x) rfl rfl (sizeL zeroL) rfl (oneL x) ?_; intro W3 F3 S3 U3 q3)
  clear b0 b1 b2 b3 bl
  refine (HC.out _).mono ?_
  rintro e w4 ⟨rfl, qw4⟩
  obtain ⟨Sw4, Uw4⟩ := Asrt.stars_same S3 qw4
  have Vw4 := (V2.trans U3).trans Uw4
  obtain ⟨kw4, _, lw4⟩ := box_cell (i := 1) Sw4 rfl
  have kw40 := kw4 0
  have kw41 := kw4 1
  have kw42 := kw4 2
  have kw43 := kw4 3
  have kw44 := kw4 4
  have kw45 := kw4 5
  simp only [List.getElem?_toArray, List.getElem?_cons_zero, List.getElem?_cons_succ] at kw40 kw41 kw42 kw43 kw44 kw45
  obtain ⟨_, hmw4, _⟩ := Asrt.stars_get Sw4 0 rfl
  obtain ⟨aw4, caw4, hin⟩ := refT_in hmw4
  obtain ⟨b0, b1, b2, b3, bl, brow⟩ := hin
  clear kw4 brow qw4 Uw4
  clear S3 U3 S2 V2 q3 y0 y1 y2 y3 y4 y5 hg1
  go_wp2_with ((with_reducible refine is_store ?_); refine store_at Sw4 2 rfl rfl 26 _ _ rfl (cellsL (zeroL)) rfl rfl (sizeL zeroL) rfl (oneL (zeroL)) ?_; intro W9 F9 S9 U9 q9)
  obtain ⟨_, ⟨hg9, _⟩, _⟩ := Asrt.stars_get S9 2 rfl
  have HQ := Keep.mk (first_end S9 ((Vw4).trans U9))
  refine bodyPost_ret (struct_ret rfl rfl rfl hg9) rfl ?_
  rw [ER.out]
  exact ⟨rfl, HQ.out⟩
set_option maxRecDepth 100000 in
set_option maxHeartbeats 4000000 in
theorem rclaim_again {b : Nat} {g m n : Int} {L : List Lz} {w : World} {F : Fp} (hM : (refT b g m n L).on w F) (hl : L.length ≤ 1000) (g0 : 0 ≤ g) (g1 : g ≤ 1073741824) (m0 : 1 ≤ m) (m1 : m ≤ 1073741824) (n0 : 0 ≤ n) (n1 : n ≤ 1000000000) (hts : ∀ x ∈ L, TilOk x.til)
    (tenant nm : ByteArray) (hs1 : tenant.size ≤ maxLen) (hs2 : nm.size ≤ maxLen) (conn now ttl : Int) (hok : (nameB tenant.data.toList = true ∧ nameB nm.data.toList = true) ∧ clockB now = true ∧ timeB ttl = true) (k : Nat) (hk : k < L.length) (hn : L.find? (isN nm) = some L[k]) (hi : findI L nm = (k : Int)) (hnm : L[k].name = nm) (ht : L[k].tenant = tenant) (hb : heldB L[k] now = false) :
    Calls Tryd.prog 28 #[.pointer (some ⟨b, 0, none⟩), .string tenant, .string nm, .int .i64 conn, .int .i64 now, .int .i64 ttl] w (ClEnds b g m (rclaim g m n L tenant nm conn now ttl) F w) := by
  obtain ⟨F1, S1, U1⟩ := Asrt.stars_box1 (Asrt.stars_one hM) (boxL zeroL)
  have C1 := Keep.mk (fun w : World => nref_c (w := w) tenant hs1)
  have C2 := Keep.mk (fun w : World => nref_c (w := w) nm hs2)
  have C3 := Keep.mk (fun w : World => rclock_c (w := w) now)
  have C4 := Keep.mk (fun w : World => rtime_c (w := w) ttl)
  have HF := Keep.mk (fun (w : World) (F : Fp) (h : (refT b g m n L).on w F) => rfind_t h hl nm)
  have en : IntKind.i64.wrap (n + 1) = n + 1 := by rw [IntKind.wrap_i64]; omega
  unfold ClEnds
  obtain ⟨⟨h1, h2⟩, h3, h4⟩ := hok
  have hsum : IntKind.i64.wrap (now + min ttl m) = now + min ttl m := by have := clockB_iff.1 h3; have := timeB_iff.1 h4; rw [IntKind.wrap_i64]; omega
  have HOK := Keep.mk (And.intro h1 (And.intro h2 (And.intro h3 h4)))
  rw [h1] at C1
  rw [h2] at C2
  rw [h3] at C3
  rw [h4] at C4
  obtain ⟨_, hm1, _⟩ := Asrt.stars_get S1 0 rfl
  obtain ⟨a, ca, hin⟩ := refT_in hm1
  obtain ⟨b0, b1, b2, b3, bl, brow⟩ := hin
  have HP := Keep.mk (fun (w : World) (F : Fp) (h : (refT b g m (n + 1) L).on w F) => rput_t h hl (nowL tenant nm conn n now ttl m))
  unfold REnds at HP
  clear h1 h2 h3 h4 hM
  rw [hi] at HF
  have htx := hts _ (List.getElem_mem hk)
  have hk0 : (0 : Int) ≤ (k : Int) := by omega
  have hFS : rclaim g m n L tenant nm conn now ttl = if L[k].tenant ≠ tenant ∧ (heldB L[k] now = true ∨ keptB g L[k] now = true) then (n, L, zeroL, 131) else if heldB L[k] now = true then (n, L, zeroL, 4) else (n + 1, rput L (nowL tenant nm conn n now ttl m), nowL tenant nm conn n now ttl m, 0) := by
    obtain ⟨h1, h2, h3, h4⟩ := HOK.out
    unfold rclaim
    rw [if_neg (by simp [h1, h2, h3, h4]), hn]
  obtain ⟨g', off, rfl, hg', hx⟩ := brow k hk
  generalize L[k] = x at *
  have HC := Keep.mk (fun w : World => held_c (w := w) x now)
  have HK := Keep.mk (fun (w : World) (F : Fp) (h : (refT b g m n L).on w F) => kept_c (refT_cells h).2.2.2 (refT_cells h).1 g0 g1 x htx now)
  clear hi hn hnm brow htx hts
  have e1 : (x.tenant.toList == tenant.toList) = true := by rw [seq, decide_eq_true ht]
  have ER := Keep.mk (show rclaim g m n L tenant nm conn now ttl = (n + 1, rput L (nowL tenant nm conn n now ttl m), nowL tenant nm conn n now ttl m, 0) from by rw [hFS]; simp [ht, hb])
  rw [hb] at HC
  clear hFS ht hb HK
  go_enter Tryd.func28, Tryd.ntmps28
  go_wp2_with fail
  refine (C1.out _).mono ?_
  rintro e w1 ⟨rfl, rfl⟩
  go_wp2_with fail
  refine (C2.out _).mono ?_
  rintro e w1 ⟨rfl, rfl⟩
  go_wp2_with fail
  refine (C3.out _).mono ?_
  rintro e w1 ⟨rfl, rfl⟩
  go_wp2_with fail
  refine (C4.out _).mono ?_
  rintro e w1 ⟨rfl, rfl⟩
  go_wp2_with fail
  refine (HF.out _ _ hm1).mono ?_
  rintro e w1 ⟨rfl, hw⟩
  have S2 := S1
  have V2 := U1
  have hx1 := hx
  have hg1 := hg'
  rw [hw] at S2 V2 hx1 hg1 b0 b1 b2 b3 bl
  obtain ⟨y0, y1, y2, y3, y4, y5⟩ := hx1
  clear S1 U1 hm1 hx hg' hw
  go_wp2_with ((with_reducible refine is_store ?_); refine store_new S2 rfl 26 _ _ rfl (cellsL x) rfl rfl (sizeL zeroL) rfl (oneL x) ?_; intro W3 F3 S3 U3 q3)
  clear b0 b1 b2 b3 bl
  refine (HC.out _).mono ?_
  rintro e w4 ⟨rfl, qw4⟩
  obtain ⟨Sw4, Uw4⟩ := Asrt.stars_same S3 qw4
  have Vw4 := (V2.trans U3).trans Uw4
  obtain ⟨kw4, _, lw4⟩ := box_cell (i := 1) Sw4 rfl
  have kw40 := kw4 0
  have kw41 := kw4 1
  have kw42 := kw4 2
  have kw43 := kw4 3
  have kw44 := kw4 4
  have kw45 := kw4 5
  simp only [List.getElem?_toArray, List.getElem?_cons_zero, List.getElem?_cons_succ] at kw40 kw41 kw42 kw43 kw44 kw45
  obtain ⟨_, hmw4, _⟩ := Asrt.stars_get Sw4 0 rfl
  obtain ⟨aw4, caw4, hin⟩ := refT_in hmw4
  obtain ⟨b0, b1, b2, b3, bl, brow⟩ := hin
  clear kw4 brow qw4 Uw4
  clear S3 U3 S2 V2 q3 y0 y1 y2 y3 y4 y5 hg1
  clear hmw4
  go_wp2_with fail
  obtain ⟨F3n, S3n, U3n⟩ := Asrt.stars_box1 Sw4 (boxL (nowL tenant nm conn n now ttl m))
  have S3n := Asrt.drew S3n
  have U3n := U3n.drew
  obtain ⟨_, hmn, _⟩ := Asrt.stars_get S3n 0 rfl
  obtain ⟨an, can, hin⟩ := refT_in hmn
  obtain ⟨d0, d1, d2, d3, dl, drow⟩ := hin
  obtain ⟨k3n, _, l3n⟩ := box_cell (i := 1) S3n rfl
  clear hmn drow
  have s0 : w4.drew.cell? ⟨b, 3, none⟩ = some (.int .i64 n) ∧ w4.drew.cell? ⟨b, 2, none⟩ = some (.int .i64 m) := ⟨b3, b2⟩
  go_region_held3 (fun w' => w'.cell? ⟨b, 3, none⟩ = some (.int .i64 n) ∧ w'.cell? ⟨b, 2, none⟩ = some (.int .i64 m)) (first | exact s0 | go_keep) (fail)
  all_goals
    generalize (w4.alloc (boxL (nowL tenant nm conn n now ttl m))).drew = w3 at *
    go_wp2_with ((with_reducible refine is_store ?_); refine store_next S3n rfl 2 _ _ rfl (n + 1) rfl rfl size_i64 ?_; intro W4 F4 S4n U4n; obtain ⟨k4, _, l4⟩ := box_cell (i := 1) S4n rfl)
    refine (on_head S4n (fun Fi h _ => HP.out _ _ h)).mono ?_
    rintro e w5 ⟨rfl, F5, S5, U5⟩
    have V5 := (((Vw4).trans U3n).trans U4n).trans U5
    obtain ⟨k5, _, l5⟩ := box_cell (i := 1) S5 rfl
    clear S4n U5 U4n k4 l4 S3n U3n k3n l3n d0 d1 d2 d3 dl s0 b0 b1 b2 b3 bl
    go_wp2_with ((with_reducible refine is_store ?_); refine store_at S5 3 rfl rfl 26 _ _ rfl (cellsL (nowL tenant nm conn n now ttl m)) rfl rfl (sizeL zeroL) rfl (oneL (nowL tenant nm conn n now ttl m)) ?_; intro W9 F9 S9 U9 q9)
    obtain ⟨_, ⟨hg9, _⟩, _⟩ := Asrt.stars_get S9 3 rfl
    have HQ := Keep.mk (first_end S9 ((V5).trans U9))
    refine bodyPost_ret (struct_ret rfl rfl rfl hg9) rfl ?_
    rw [ER.out]
    exact ⟨rfl, HQ.out⟩
set_option maxRecDepth 100000 in
set_option maxHeartbeats 4000000 in
theorem rclaim_his {b : Nat} {g m n : Int} {L : List Lz} {w : World} {F : Fp} (hM : (refT b g m n L).on w F) (hl : L.length ≤ 1000) (g0 : 0 ≤ g) (g1 : g ≤ 1073741824) (m0 : 1 ≤ m) (m1 : m ≤ 1073741824) (n0 : 0 ≤ n) (n1 : n ≤ 1000000000) (hts : ∀ x ∈ L, TilOk x.til)
    (tenant nm : ByteArray) (hs1 : tenant.size ≤ maxLen) (hs2 : nm.size ≤ maxLen) (conn now ttl : Int) (hok : (nameB tenant.data.toList = true ∧ nameB nm.data.toList = true) ∧ clockB now = true ∧ timeB ttl = true) (k : Nat) (hk : k < L.length) (hn : L.find? (isN nm) = some L[k]) (hi : findI L nm = (k : Int)) (hnm : L[k].name = nm) (ht : L[k].tenant ≠ tenant) (hb : heldB L[k] now = true) :
    Calls Tryd.prog 28 #[.pointer (some ⟨b, 0, none⟩), .string tenant, .string nm, .int .i64 conn, .int .i64 now, .int .i64 ttl] w (ClEnds b g m (rclaim g m n L tenant nm conn now ttl) F w) := by
  obtain ⟨F1, S1, U1⟩ := Asrt.stars_box1 (Asrt.stars_one hM) (boxL zeroL)
  have C1 := Keep.mk (fun w : World => nref_c (w := w) tenant hs1)
  have C2 := Keep.mk (fun w : World => nref_c (w := w) nm hs2)
  have C3 := Keep.mk (fun w : World => rclock_c (w := w) now)
  have C4 := Keep.mk (fun w : World => rtime_c (w := w) ttl)
  have HF := Keep.mk (fun (w : World) (F : Fp) (h : (refT b g m n L).on w F) => rfind_t h hl nm)
  have en : IntKind.i64.wrap (n + 1) = n + 1 := by rw [IntKind.wrap_i64]; omega
  unfold ClEnds
  obtain ⟨⟨h1, h2⟩, h3, h4⟩ := hok
  have hsum : IntKind.i64.wrap (now + min ttl m) = now + min ttl m := by have := clockB_iff.1 h3; have := timeB_iff.1 h4; rw [IntKind.wrap_i64]; omega
  have HOK := Keep.mk (And.intro h1 (And.intro h2 (And.intro h3 h4)))
  rw [h1] at C1
  rw [h2] at C2
  rw [h3] at C3
  rw [h4] at C4
  obtain ⟨_, hm1, _⟩ := Asrt.stars_get S1 0 rfl
  obtain ⟨a, ca, hin⟩ := refT_in hm1
  obtain ⟨b0, b1, b2, b3, bl, brow⟩ := hin
  have HP := Keep.mk (fun (w : World) (F : Fp) (h : (refT b g m (n + 1) L).on w F) => rput_t h hl (nowL tenant nm conn n now ttl m))
  unfold REnds at HP
  clear h1 h2 h3 h4 hM
  rw [hi] at HF
  have htx := hts _ (List.getElem_mem hk)
  have hk0 : (0 : Int) ≤ (k : Int) := by omega
  have hFS : rclaim g m n L tenant nm conn now ttl = if L[k].tenant ≠ tenant ∧ (heldB L[k] now = true ∨ keptB g L[k] now = true) then (n, L, zeroL, 131) else if heldB L[k] now = true then (n, L, zeroL, 4) else (n + 1, rput L (nowL tenant nm conn n now ttl m), nowL tenant nm conn n now ttl m, 0) := by
    obtain ⟨h1, h2, h3, h4⟩ := HOK.out
    unfold rclaim
    rw [if_neg (by simp [h1, h2, h3, h4]), hn]
  obtain ⟨g', off, rfl, hg', hx⟩ := brow k hk
  generalize L[k] = x at *
  have HC := Keep.mk (fun w : World => held_c (w := w) x now)
  have HK := Keep.mk (fun (w : World) (F : Fp) (h : (refT b g m n L).on w F) => kept_c (refT_cells h).2.2.2 (refT_cells h).1 g0 g1 x htx now)
  clear hi hn hnm brow htx hts
  have e1 : (x.tenant.toList == tenant.toList) = false := by rw [seq, decide_eq_false ht]
  have ER := Keep.mk (show rclaim g m n L tenant nm conn now ttl = (n, L, zeroL, 131) from by rw [hFS]; simp [ht, hb])
  rw [hb] at HC
  clear hFS ht hb HP HK
  go_enter Tryd.func28, Tryd.ntmps28
  go_wp2_with fail
  refine (C1.out _).mono ?_
  rintro e w1 ⟨rfl, rfl⟩
  go_wp2_with fail
  refine (C2.out _).mono ?_
  rintro e w1 ⟨rfl, rfl⟩
  go_wp2_with fail
  refine (C3.out _).mono ?_
  rintro e w1 ⟨rfl, rfl⟩
  go_wp2_with fail
  refine (C4.out _).mono ?_
  rintro e w1 ⟨rfl, rfl⟩
  go_wp2_with fail
  refine (HF.out _ _ hm1).mono ?_
  rintro e w1 ⟨rfl, hw⟩
  have S2 := S1
  have V2 := U1
  have hx1 := hx
  have hg1 := hg'
  rw [hw] at S2 V2 hx1 hg1 b0 b1 b2 b3 bl
  obtain ⟨y0, y1, y2, y3, y4, y5⟩ := hx1
  clear S1 U1 hm1 hx hg' hw
  go_wp2_with ((with_reducible refine is_store ?_); refine store_new S2 rfl 26 _ _ rfl (cellsL x) rfl rfl (sizeL zeroL) rfl (oneL x) ?_; intro W3 F3 S3 U3 q3)
  clear b0 b1 b2 b3 bl
  refine (HC.out _).mono ?_
  rintro e w4 ⟨rfl, qw4⟩
  obtain ⟨Sw4, Uw4⟩ := Asrt.stars_same S3 qw4
  have Vw4 := (V2.trans U3).trans Uw4
  obtain ⟨kw4, _, lw4⟩ := box_cell (i := 1) Sw4 rfl
  have kw40 := kw4 0
  have kw41 := kw4 1
  have kw42 := kw4 2
  have kw43 := kw4 3
  have kw44 := kw4 4
  have kw45 := kw4 5
  simp only [List.getElem?_toArray, List.getElem?_cons_zero, List.getElem?_cons_succ] at kw40 kw41 kw42 kw43 kw44 kw45
  obtain ⟨_, hmw4, _⟩ := Asrt.stars_get Sw4 0 rfl
  obtain ⟨aw4, caw4, hin⟩ := refT_in hmw4
  obtain ⟨b0, b1, b2, b3, bl, brow⟩ := hin
  clear kw4 brow qw4 Uw4
  clear S3 U3 S2 V2 q3 y0 y1 y2 y3 y4 y5 hg1
  go_wp2_with ((with_reducible refine is_store ?_); refine store_at Sw4 2 rfl rfl 26 _ _ rfl (cellsL (zeroL)) rfl rfl (sizeL zeroL) rfl (oneL (zeroL)) ?_; intro W9 F9 S9 U9 q9)
  obtain ⟨_, ⟨hg9, _⟩, _⟩ := Asrt.stars_get S9 2 rfl
  have HQ := Keep.mk (first_end S9 ((Vw4).trans U9))
  refine bodyPost_ret (struct_ret rfl rfl rfl hg9) rfl ?_
  rw [ER.out]
  exact ⟨rfl, HQ.out⟩
set_option maxRecDepth 100000 in
set_option maxHeartbeats 4000000 in
theorem rclaim_kept {b : Nat} {g m n : Int} {L : List Lz} {w : World} {F : Fp} (hM : (refT b g m n L).on w F) (hl : L.length ≤ 1000) (g0 : 0 ≤ g) (g1 : g ≤ 1073741824) (m0 : 1 ≤ m) (m1 : m ≤ 1073741824) (n0 : 0 ≤ n) (n1 : n ≤ 1000000000) (hts : ∀ x ∈ L, TilOk x.til)
    (tenant nm : ByteArray) (hs1 : tenant.size ≤ maxLen) (hs2 : nm.size ≤ maxLen) (conn now ttl : Int) (hok : (nameB tenant.data.toList = true ∧ nameB nm.data.toList = true) ∧ clockB now = true ∧ timeB ttl = true) (k : Nat) (hk : k < L.length) (hn : L.find? (isN nm) = some L[k]) (hi : findI L nm = (k : Int)) (hnm : L[k].name = nm) (ht : L[k].tenant ≠ tenant) (hb : heldB L[k] now = false) (hkb : keptB g L[k] now = true) :
    Calls Tryd.prog 28 #[.pointer (some ⟨b, 0, none⟩), .string tenant, .string nm, .int .i64 conn, .int .i64 now, .int .i64 ttl] w (ClEnds b g m (rclaim g m n L tenant nm conn now ttl) F w) := by
  obtain ⟨F1, S1, U1⟩ := Asrt.stars_box1 (Asrt.stars_one hM) (boxL zeroL)
  have C1 := Keep.mk (fun w : World => nref_c (w := w) tenant hs1)
  have C2 := Keep.mk (fun w : World => nref_c (w := w) nm hs2)
  have C3 := Keep.mk (fun w : World => rclock_c (w := w) now)
  have C4 := Keep.mk (fun w : World => rtime_c (w := w) ttl)
  have HF := Keep.mk (fun (w : World) (F : Fp) (h : (refT b g m n L).on w F) => rfind_t h hl nm)
  have en : IntKind.i64.wrap (n + 1) = n + 1 := by rw [IntKind.wrap_i64]; omega
  unfold ClEnds
  obtain ⟨⟨h1, h2⟩, h3, h4⟩ := hok
  have hsum : IntKind.i64.wrap (now + min ttl m) = now + min ttl m := by have := clockB_iff.1 h3; have := timeB_iff.1 h4; rw [IntKind.wrap_i64]; omega
  have HOK := Keep.mk (And.intro h1 (And.intro h2 (And.intro h3 h4)))
  rw [h1] at C1
  rw [h2] at C2
  rw [h3] at C3
  rw [h4] at C4
  obtain ⟨_, hm1, _⟩ := Asrt.stars_get S1 0 rfl
  obtain ⟨a, ca, hin⟩ := refT_in hm1
  obtain ⟨b0, b1, b2, b3, bl, brow⟩ := hin
  have HP := Keep.mk (fun (w : World) (F : Fp) (h : (refT b g m (n + 1) L).on w F) => rput_t h hl (nowL tenant nm conn n now ttl m))
  unfold REnds at HP
  clear h1 h2 h3 h4 hM
  rw [hi] at HF
  have htx := hts _ (List.getElem_mem hk)
  have hk0 : (0 : Int) ≤ (k : Int) := by omega
  have hFS : rclaim g m n L tenant nm conn now ttl = if L[k].tenant ≠ tenant ∧ (heldB L[k] now = true ∨ keptB g L[k] now = true) then (n, L, zeroL, 131) else if heldB L[k] now = true then (n, L, zeroL, 4) else (n + 1, rput L (nowL tenant nm conn n now ttl m), nowL tenant nm conn n now ttl m, 0) := by
    obtain ⟨h1, h2, h3, h4⟩ := HOK.out
    unfold rclaim
    rw [if_neg (by simp [h1, h2, h3, h4]), hn]
  obtain ⟨g', off, rfl, hg', hx⟩ := brow k hk
  generalize L[k] = x at *
  have HC := Keep.mk (fun w : World => held_c (w := w) x now)
  have HK := Keep.mk (fun (w : World) (F : Fp) (h : (refT b g m n L).on w F) => kept_c (refT_cells h).2.2.2 (refT_cells h).1 g0 g1 x htx now)
  clear hi hn hnm brow htx hts
  have e1 : (x.tenant.toList == tenant.toList) = false := by rw [seq, decide_eq_false ht]
  have ER := Keep.mk (show rclaim g m n L tenant nm conn now ttl = (n, L, zeroL, 131) from by rw [hFS]; simp [ht, hb, hkb])
  rw [hb] at HC
  rw [hkb] at HK
  clear hFS ht hb hkb HP
  go_enter Tryd.func28, Tryd.ntmps28
  go_wp2_with fail
  refine (C1.out _).mono ?_
  rintro e w1 ⟨rfl, rfl⟩
  go_wp2_with fail
  refine (C2.out _).mono ?_
  rintro e w1 ⟨rfl, rfl⟩
  go_wp2_with fail
  refine (C3.out _).mono ?_
  rintro e w1 ⟨rfl, rfl⟩
  go_wp2_with fail
  refine (C4.out _).mono ?_
  rintro e w1 ⟨rfl, rfl⟩
  go_wp2_with fail
  refine (HF.out _ _ hm1).mono ?_
  rintro e w1 ⟨rfl, hw⟩
  have S2 := S1
  have V2 := U1
  have hx1 := hx
  have hg1 := hg'
  rw [hw] at S2 V2 hx1 hg1 b0 b1 b2 b3 bl
  obtain ⟨y0, y1, y2, y3, y4, y5⟩ := hx1
  clear S1 U1 hm1 hx hg' hw
  go_wp2_with ((with_reducible refine is_store ?_); refine store_new S2 rfl 26 _ _ rfl (cellsL x) rfl rfl (sizeL zeroL) rfl (oneL x) ?_; intro W3 F3 S3 U3 q3)
  clear b0 b1 b2 b3 bl
  refine (HC.out _).mono ?_
  rintro e w4 ⟨rfl, qw4⟩
  obtain ⟨Sw4, Uw4⟩ := Asrt.stars_same S3 qw4
  have Vw4 := (V2.trans U3).trans Uw4
  obtain ⟨kw4, _, lw4⟩ := box_cell (i := 1) Sw4 rfl
  have kw40 := kw4 0
  have kw41 := kw4 1
  have kw42 := kw4 2
  have kw43 := kw4 3
  have kw44 := kw4 4
  have kw45 := kw4 5
  simp only [List.getElem?_toArray, List.getElem?_cons_zero, List.getElem?_cons_succ] at kw40 kw41 kw42 kw43 kw44 kw45
  obtain ⟨_, hmw4, _⟩ := Asrt.stars_get Sw4 0 rfl
  obtain ⟨aw4, caw4, hin⟩ := refT_in hmw4
  obtain ⟨b0, b1, b2, b3, bl, brow⟩ := hin
  clear kw4 brow qw4 Uw4
  clear S3 U3 S2 V2 q3 y0 y1 y2 y3 y4 y5 hg1
  go_wp2_with fail
  refine (HK.out _ _ hmw4).mono ?_
  rintro e w5 ⟨rfl, qw5⟩
  obtain ⟨Sw5, Uw5⟩ := Asrt.stars_same Sw4 qw5
  have Vw5 := Vw4.trans Uw5
  obtain ⟨kw5, _, lw5⟩ := box_cell (i := 1) Sw5 rfl
  have kw50 := kw5 0
  have kw51 := kw5 1
  have kw52 := kw5 2
  have kw53 := kw5 3
  have kw54 := kw5 4
  have kw55 := kw5 5
  simp only [List.getElem?_toArray, List.getElem?_cons_zero, List.getElem?_cons_succ] at kw50 kw51 kw52 kw53 kw54 kw55
  clear b0 b1 b2 b3 bl
  obtain ⟨_, hmw5, _⟩ := Asrt.stars_get Sw5 0 rfl
  obtain ⟨a5, ca5, hin⟩ := refT_in hmw5
  obtain ⟨b0, b1, b2, b3, bl, brow⟩ := hin
  clear kw5 brow qw5 Uw5 Sw4 Vw4 hmw4 kw40 kw41 kw42 kw43 kw44 kw45 lw4
  go_wp2_with ((with_reducible refine is_store ?_); refine store_at Sw5 2 rfl rfl 26 _ _ rfl (cellsL (zeroL)) rfl rfl (sizeL zeroL) rfl (oneL (zeroL)) ?_; intro W9 F9 S9 U9 q9)
  obtain ⟨_, ⟨hg9, _⟩, _⟩ := Asrt.stars_get S9 2 rfl
  have HQ := Keep.mk (first_end S9 ((Vw5).trans U9))
  refine bodyPost_ret (struct_ret rfl rfl rfl hg9) rfl ?_
  rw [ER.out]
  exact ⟨rfl, HQ.out⟩
set_option maxRecDepth 100000 in
set_option maxHeartbeats 4000000 in
theorem rclaim_free {b : Nat} {g m n : Int} {L : List Lz} {w : World} {F : Fp} (hM : (refT b g m n L).on w F) (hl : L.length ≤ 1000) (g0 : 0 ≤ g) (g1 : g ≤ 1073741824) (m0 : 1 ≤ m) (m1 : m ≤ 1073741824) (n0 : 0 ≤ n) (n1 : n ≤ 1000000000) (hts : ∀ x ∈ L, TilOk x.til)
    (tenant nm : ByteArray) (hs1 : tenant.size ≤ maxLen) (hs2 : nm.size ≤ maxLen) (conn now ttl : Int) (hok : (nameB tenant.data.toList = true ∧ nameB nm.data.toList = true) ∧ clockB now = true ∧ timeB ttl = true) (k : Nat) (hk : k < L.length) (hn : L.find? (isN nm) = some L[k]) (hi : findI L nm = (k : Int)) (hnm : L[k].name = nm) (ht : L[k].tenant ≠ tenant) (hb : heldB L[k] now = false) (hkb : keptB g L[k] now = false) :
    Calls Tryd.prog 28 #[.pointer (some ⟨b, 0, none⟩), .string tenant, .string nm, .int .i64 conn, .int .i64 now, .int .i64 ttl] w (ClEnds b g m (rclaim g m n L tenant nm conn now ttl) F w) := by
  obtain ⟨F1, S1, U1⟩ := Asrt.stars_box1 (Asrt.stars_one hM) (boxL zeroL)
  have C1 := Keep.mk (fun w : World => nref_c (w := w) tenant hs1)
  have C2 := Keep.mk (fun w : World => nref_c (w := w) nm hs2)
  have C3 := Keep.mk (fun w : World => rclock_c (w := w) now)
  have C4 := Keep.mk (fun w : World => rtime_c (w := w) ttl)
  have HF := Keep.mk (fun (w : World) (F : Fp) (h : (refT b g m n L).on w F) => rfind_t h hl nm)
  have en : IntKind.i64.wrap (n + 1) = n + 1 := by rw [IntKind.wrap_i64]; omega
  unfold ClEnds
  obtain ⟨⟨h1, h2⟩, h3, h4⟩ := hok
  have hsum : IntKind.i64.wrap (now + min ttl m) = now + min ttl m := by have := clockB_iff.1 h3; have := timeB_iff.1 h4; rw [IntKind.wrap_i64]; omega
  have HOK := Keep.mk (And.intro h1 (And.intro h2 (And.intro h3 h4)))
  rw [h1] at C1
  rw [h2] at C2
  rw [h3] at C3
  rw [h4] at C4
  obtain ⟨_, hm1, _⟩ := Asrt.stars_get S1 0 rfl
  obtain ⟨a, ca, hin⟩ := refT_in hm1
  obtain ⟨b0, b1, b2, b3, bl, brow⟩ := hin
  have HP := Keep.mk (fun (w : World) (F : Fp) (h : (refT b g m (n + 1) L).on w F) => rput_t h hl (nowL tenant nm conn n now ttl m))
  unfold REnds at HP
  clear h1 h2 h3 h4 hM
  rw [hi] at HF
  have htx := hts _ (List.getElem_mem hk)
  have hk0 : (0 : Int) ≤ (k : Int) := by omega
  have hFS : rclaim g m n L tenant nm conn now ttl = if L[k].tenant ≠ tenant ∧ (heldB L[k] now = true ∨ keptB g L[k] now = true) then (n, L, zeroL, 131) else if heldB L[k] now = true then (n, L, zeroL, 4) else (n + 1, rput L (nowL tenant nm conn n now ttl m), nowL tenant nm conn n now ttl m, 0) := by
    obtain ⟨h1, h2, h3, h4⟩ := HOK.out
    unfold rclaim
    rw [if_neg (by simp [h1, h2, h3, h4]), hn]
  obtain ⟨g', off, rfl, hg', hx⟩ := brow k hk
  generalize L[k] = x at *
  have HC := Keep.mk (fun w : World => held_c (w := w) x now)
  have HK := Keep.mk (fun (w : World) (F : Fp) (h : (refT b g m n L).on w F) => kept_c (refT_cells h).2.2.2 (refT_cells h).1 g0 g1 x htx now)
  clear hi hn hnm brow htx hts
  have e1 : (x.tenant.toList == tenant.toList) = false := by rw [seq, decide_eq_false ht]
  have ER := Keep.mk (show rclaim g m n L tenant nm conn now ttl = (n + 1, rput L (nowL tenant nm conn n now ttl m), nowL tenant nm conn n now ttl m, 0) from by rw [hFS]; simp [ht, hb, hkb])
  rw [hb] at HC
  rw [hkb] at HK
  clear hFS ht hb hkb
  go_enter Tryd.func28, Tryd.ntmps28
  go_wp2_with fail
  refine (C1.out _).mono ?_
  rintro e w1 ⟨rfl, rfl⟩
  go_wp2_with fail
  refine (C2.out _).mono ?_
  rintro e w1 ⟨rfl, rfl⟩
  go_wp2_with fail
  refine (C3.out _).mono ?_
  rintro e w1 ⟨rfl, rfl⟩
  go_wp2_with fail
  refine (C4.out _).mono ?_
  rintro e w1 ⟨rfl, rfl⟩
  go_wp2_with fail
  refine (HF.out _ _ hm1).mono ?_
  rintro e w1 ⟨rfl, hw⟩
  have S2 := S1
  have V2 := U1
  have hx1 := hx
  have hg1 := hg'
  rw [hw] at S2 V2 hx1 hg1 b0 b1 b2 b3 bl
  obtain ⟨y0, y1, y2, y3, y4, y5⟩ := hx1
  clear S1 U1 hm1 hx hg' hw
  go_wp2_with ((with_reducible refine is_store ?_); refine store_new S2 rfl 26 _ _ rfl (cellsL x) rfl rfl (sizeL zeroL) rfl (oneL x) ?_; intro W3 F3 S3 U3 q3)
  clear b0 b1 b2 b3 bl
  refine (HC.out _).mono ?_
  rintro e w4 ⟨rfl, qw4⟩
  obtain ⟨Sw4, Uw4⟩ := Asrt.stars_same S3 qw4
  have Vw4 := (V2.trans U3).trans Uw4
  obtain ⟨kw4, _, lw4⟩ := box_cell (i := 1) Sw4 rfl
  have kw40 := kw4 0
  have kw41 := kw4 1
  have kw42 := kw4 2
  have kw43 := kw4 3
  have kw44 := kw4 4
  have kw45 := kw4 5
  simp only [List.getElem?_toArray, List.getElem?_cons_zero, List.getElem?_cons_succ] at kw40 kw41 kw42 kw43 kw44 kw45
  obtain ⟨_, hmw4, _⟩ := Asrt.stars_get Sw4 0 rfl
  obtain ⟨aw4, caw4, hin⟩ := refT_in hmw4
  obtain ⟨b0, b1, b2, b3, bl, brow⟩ := hin
  clear kw4 brow qw4 Uw4
  clear S3 U3 S2 V2 q3 y0 y1 y2 y3 y4 y5 hg1
  go_wp2_with fail
  refine (HK.out _ _ hmw4).mono ?_
  rintro e w5 ⟨rfl, qw5⟩
  obtain ⟨Sw5, Uw5⟩ := Asrt.stars_same Sw4 qw5
  have Vw5 := Vw4.trans Uw5
  obtain ⟨kw5, _, lw5⟩ := box_cell (i := 1) Sw5 rfl
  have kw50 := kw5 0
  have kw51 := kw5 1
  have kw52 := kw5 2
  have kw53 := kw5 3
  have kw54 := kw5 4
  have kw55 := kw5 5
  simp only [List.getElem?_toArray, List.getElem?_cons_zero, List.getElem?_cons_succ] at kw50 kw51 kw52 kw53 kw54 kw55
  clear b0 b1 b2 b3 bl
  obtain ⟨_, hmw5, _⟩ := Asrt.stars_get Sw5 0 rfl
  obtain ⟨a5, ca5, hin⟩ := refT_in hmw5
  obtain ⟨b0, b1, b2, b3, bl, brow⟩ := hin
  clear kw5 brow qw5 Uw5 Sw4 Vw4 hmw4 kw40 kw41 kw42 kw43 kw44 kw45 lw4
  go_wp2_with fail
  refine (HC.out _).mono ?_
  rintro e w6 ⟨rfl, qw6⟩
  obtain ⟨Sw6, Uw6⟩ := Asrt.stars_same Sw5 qw6
  have Vw6 := Vw5.trans Uw6
  clear b0 b1 b2 b3 bl
  obtain ⟨_, hmw6, _⟩ := Asrt.stars_get Sw6 0 rfl
  obtain ⟨a6, ca6, hin⟩ := refT_in hmw6
  obtain ⟨b0, b1, b2, b3, bl, brow⟩ := hin
  clear brow qw6 Uw6 Sw5 Vw5 hmw5 hmw6 kw50 kw51 kw52 kw53 kw54 kw55 lw5
  go_wp2_with fail
  obtain ⟨F3n, S3n, U3n⟩ := Asrt.stars_box1 Sw6 (boxL (nowL tenant nm conn n now ttl m))
  have S3n := Asrt.drew S3n
  have U3n := U3n.drew
  obtain ⟨_, hmn, _⟩ := Asrt.stars_get S3n 0 rfl
  obtain ⟨an, can, hin⟩ := refT_in hmn
  obtain ⟨d0, d1, d2, d3, dl, drow⟩ := hin
  obtain ⟨k3n, _, l3n⟩ := box_cell (i := 1) S3n rfl
  clear hmn drow
  have s0 : w6.drew.cell? ⟨b, 3, none⟩ = some (.int .i64 n) ∧ w6.drew.cell? ⟨b, 2, none⟩ = some (.int .i64 m) := ⟨b3, b2⟩
  go_region_held3 (fun w' => w'.cell? ⟨b, 3, none⟩ = some (.int .i64 n) ∧ w'.cell? ⟨b, 2, none⟩ = some (.int .i64 m)) (first | exact s0 | go_keep) (fail)
  all_goals
    generalize (w6.alloc (boxL (nowL tenant nm conn n now ttl m))).drew = w3 at *
    go_wp2_with ((with_reducible refine is_store ?_); refine store_next S3n rfl 2 _ _ rfl (n + 1) rfl rfl size_i64 ?_; intro W4 F4 S4n U4n; obtain ⟨k4, _, l4⟩ := box_cell (i := 1) S4n rfl)
    refine (on_head S4n (fun Fi h _ => HP.out _ _ h)).mono ?_
    rintro e w5 ⟨rfl, F5, S5, U5⟩
    have V5 := (((Vw6).trans U3n).trans U4n).trans U5
    obtain ⟨k5, _, l5⟩ := box_cell (i := 1) S5 rfl
    clear S4n U5 U4n k4 l4 S3n U3n k3n l3n d0 d1 d2 d3 dl s0 b0 b1 b2 b3 bl
    go_wp2_with ((with_reducible refine is_store ?_); refine store_at S5 3 rfl rfl 26 _ _ rfl (cellsL (nowL tenant nm conn n now ttl m)) rfl rfl (sizeL zeroL) rfl (oneL (nowL tenant nm conn n now ttl m)) ?_; intro W9 F9 S9 U9 q9)
    obtain ⟨_, ⟨hg9, _⟩, _⟩ := Asrt.stars_get S9 3 rfl
    have HQ := Keep.mk (first_end S9 ((V5).trans U9))
    refine bodyPost_ret (struct_ret rfl rfl rfl hg9) rfl ?_
    rw [ER.out]
    exact ⟨rfl, HQ.out⟩
theorem rclaim_c {b : Nat} {g m n : Int} {L : List Lz} {w : World} {F : Fp} (hM : (refT b g m n L).on w F) (hl : L.length ≤ 1000) (g0 : 0 ≤ g) (g1 : g ≤ 1073741824) (m0 : 1 ≤ m) (m1 : m ≤ 1073741824) (n0 : 0 ≤ n) (n1 : n ≤ 1000000000) (hts : ∀ x ∈ L, TilOk x.til)
    (tenant nm : ByteArray) (hs1 : tenant.size ≤ maxLen) (hs2 : nm.size ≤ maxLen) (conn now ttl : Int)  :
    Calls Tryd.prog 28 #[.pointer (some ⟨b, 0, none⟩), .string tenant, .string nm, .int .i64 conn, .int .i64 now, .int .i64 ttl] w (ClEnds b g m (rclaim g m n L tenant nm conn now ttl) F w) := by
  cases h1 : nameB tenant.data.toList with
  | false => exact rclaim_bad1 hM hl g0 g1 m0 m1 n0 n1 hts tenant nm hs1 hs2 conn now ttl h1
  | true =>
    cases h2 : nameB nm.data.toList with
    | false => exact rclaim_bad2 hM hl g0 g1 m0 m1 n0 n1 hts tenant nm hs1 hs2 conn now ttl h1 h2
    | true =>
      cases h3 : clockB now with
      | false => exact rclaim_bad3 hM hl g0 g1 m0 m1 n0 n1 hts tenant nm hs1 hs2 conn now ttl h1 h2 h3
      | true =>
        cases h4 : timeB ttl with
        | false => exact rclaim_bad4 hM hl g0 g1 m0 m1 n0 n1 hts tenant nm hs1 hs2 conn now ttl h1 h2 h3 h4
        | true =>
          have hok := And.intro (And.intro h1 h2) (And.intro h3 h4)
          rcases find_cases L nm with ⟨hn, hi⟩ | ⟨k, hk, hn, hi, hnm⟩
          · by_cases h64 : 64 ≤ L.length
            · exact rclaim_many hM hl g0 g1 m0 m1 n0 n1 hts tenant nm hs1 hs2 conn now ttl hok hn hi h64
            · exact rclaim_new hM hl g0 g1 m0 m1 n0 n1 hts tenant nm hs1 hs2 conn now ttl hok hn hi h64
          · by_cases ht : L[k].tenant = tenant
            · cases hb : heldB L[k] now with
              | true => exact rclaim_there hM hl g0 g1 m0 m1 n0 n1 hts tenant nm hs1 hs2 conn now ttl hok k hk hn hi hnm ht hb
              | false => exact rclaim_again hM hl g0 g1 m0 m1 n0 n1 hts tenant nm hs1 hs2 conn now ttl hok k hk hn hi hnm ht hb
            · cases hb : heldB L[k] now with
              | true => exact rclaim_his hM hl g0 g1 m0 m1 n0 n1 hts tenant nm hs1 hs2 conn now ttl hok k hk hn hi hnm ht hb
              | false =>
                cases hkb : keptB g L[k] now with
                | true => exact rclaim_kept hM hl g0 g1 m0 m1 n0 n1 hts tenant nm hs1 hs2 conn now ttl hok k hk hn hi hnm ht hb hkb
                | false => exact rclaim_free hM hl g0 g1 m0 m1 n0 n1 hts tenant nm hs1 hs2 conn now ttl hok k hk hn hi hnm ht hb hkb
end Go.Proofs.YtefnfhhdcginmaaDoor
