/- The live question of the statements on the meter. -/
import Derived.Test.YtglfkkaldeblhaaMeterD
import Derived.Test.YtglfkkaldeblhaaMeterE
namespace Go.Proofs.Ytglfkkaldeblhaa
open Go.RowKit Go.Sub Go.ChangeMaps
def ann : ByteArray := ⟨#[97, 110, 110]⟩
def bob : ByteArray := ⟨#[98, 111, 98]⟩
def cid : ByteArray := ⟨#[99, 105, 100]⟩
def H1 : List Cnt := [⟨bob, 3, 0, 0⟩]
def H2 : List Cnt := [⟨bob, 3, 0, 0⟩, ⟨ann, 0, most, 0⟩]
def H3 : List Cnt := [⟨bob, 3, 0, 0⟩, ⟨ann, 0, most, 1⟩]
theorem hs1 : cstep [] bob 1 3 = (H1, 0) := by kernel_rfl
theorem hs2 : cstep H1 ann 2 most = (H2, 0) := by kernel_rfl
theorem hs3 : cstep H2 ann 2 5 = (H2, 0) := by kernel_rfl
theorem hs4 : cstep H2 ann 3 1 = (H3, 0) := by kernel_rfl
theorem hs5 : cstep H3 ann 1 (-1) = (H3, 1) := by kernel_rfl
theorem ho1 : cof H3 bob = ⟨bob, 3, 0, 0⟩ := by kernel_rfl
theorem ho2 : cof H3 cid = ⟨cid, 0, 0, 0⟩ := by kernel_rfl
theorem ho3 : sumOf H3 = ⟨ByteArray.empty, 3, most, 1⟩ := by kernel_rfl
theorem hk4 : keysOf (H3.map (·.t)) = [ann, bob] := by
  have e : ([bob.data.toList, ann.data.toList] : List (List UInt8)).mergeSort (fun x y => decide (x ≤ y)) = [ann.data.toList, bob.data.toList] := by
    refine (mergeSort_of_perm (List.Perm.swap ..)).trans (List.mergeSort_of_pairwise ?_)
    exact List.Pairwise.cons (by intro x hx; simp at hx; subst hx; decide) (List.pairwise_singleton ..)
  show (([bob.data.toList, ann.data.toList] : List (List UInt8)).mergeSort (fun x y => decide (x ≤ y))).map (fun x => (⟨x.toArray⟩ : ByteArray)) = _
  rw [e]
  rfl
theorem ho4 : allOf H3 = [⟨ann, 0, most, 1⟩, ⟨bob, 3, 0, 0⟩] := by
  rw [allOf, hk4]
  kernel_rfl
def okC (c : Cnt) : Bool := decide (0 ≤ c.d ∧ c.d ≤ most ∧ 0 ≤ c.u ∧ c.u ≤ most ∧ 0 ≤ c.p ∧ c.p ≤ most)
theorem ok_of {M : List Cnt} (h : M.all okC = true) : ∀ c ∈ M, Ok c := fun c hc => by
  have := List.all_eq_true.1 h c hc
  simp only [okC, decide_eq_true_eq] at this
  obtain ⟨a, b, c, d, e, f⟩ := this
  exact ⟨a, b, c, d, e, f⟩
theorem he1 : (ceq ⟨ann, 0, most, 1⟩ ⟨ann, 0, most, 1⟩) = true := ceq_refl _
theorem H3_once : (H3.map (·.t)).Nodup := by decide
structure HeadS (g : Nat) (w' : World) : Prop where
  mk ::
  all : w'.cell? ⟨g, 0, none⟩ = some (.string ⟨#[97, 110, 110]⟩) ∧ w'.cell? ⟨g, 1, none⟩ = some (.int .i64 0) ∧ w'.cell? ⟨g, 2, none⟩ = some (.int .i64 1099511627776) ∧ w'.cell? ⟨g, 3, none⟩ = some (.int .i64 1) ∧
      w'.cell? ⟨g, 4, none⟩ = some (.string ⟨#[98, 111, 98]⟩) ∧ w'.cell? ⟨g, 5, none⟩ = some (.int .i64 3) ∧ w'.cell? ⟨g, 6, none⟩ = some (.int .i64 0) ∧ w'.cell? ⟨g, 7, none⟩ = some (.int .i64 0)
theorem HeadS.step {g : Nat} {w w' : World} (h : HeadS g w) (hq : Quiet w w') (hg : g < w.heap.size) : HeadS g w' := by
  have hc : ∀ i, w'.cell? ⟨g, i, none⟩ = w.cell? ⟨g, i, none⟩ := fun i => hq.cell hg id
  refine ⟨?_⟩
  simp only [hc]
  exact h.all
set_option maxHeartbeats 2000000 in
set_option maxRecDepth 100000 in
theorem head_c (w : World) : Calls Try.prog 8 #[] w (Ret (.bool true) fun w' => Quiet w w') := by
  go_enter Try.func8, Try.ntmps8
  go_wp2_with fail
  refine (new_c _).mono ?_
  rintro e w1 ⟨b, rfl, F1, t1, u1⟩
  have c1 := down_c t1 (ok_of rfl) bob 3
  rw [hs1] at c1
  go_wp2_with fail
  refine c1.mono ?_
  rintro e w2 ⟨rfl, F2, t2, u2⟩
  have c2 := up_c t2 (ok_of rfl) ann most
  rw [hs2] at c2
  clear c1
  go_wp2_with fail
  refine c2.mono ?_
  rintro e w3 ⟨rfl, F3, t3, u3⟩
  have c3 := up_c t3 (ok_of rfl) ann 5
  rw [hs3] at c3
  clear c2
  go_wp2_with fail
  refine c3.mono ?_
  rintro e w4 ⟨rfl, F4, t4, u4⟩
  have c4 := paired_c t4 (ok_of rfl) ann
  rw [hs4] at c4
  clear c3
  go_wp2_with fail
  refine c4.mono ?_
  rintro e w5 ⟨rfl, F5, t5, u5⟩
  have c5 := down_c t5 (ok_of rfl) ann (-1)
  rw [hs5] at c5
  clear c4
  go_wp2_with fail
  refine c5.mono ?_
  rintro e w6 ⟨rfl, F6, t6, u6⟩
  clear c5
  go_wp2_with fail
  refine (all_c t6 H3_once (by decide) (by decide)).mono ?_
  rintro e w7 ⟨v, rfl, Fv, hL, u7⟩
  have t7 := (meterT b H3).frame t6 u7 fun _ _ h => h
  rw [ho4] at hL
  have hrd := (row_reads (enc := encC) (fun _ => rfl) hL).1
  obtain ⟨⟨_, hrow⟩, _⟩ := hL
  rcases hrow with ⟨_, h0⟩ | ⟨g, cap, _, rfl, _⟩
  · cases h0
  obtain ⟨a', c', heq, hka⟩ := hrd
  cases heq
  obtain ⟨g', off, heq, _, k0⟩ := hka 0 _ rfl
  cases heq
  obtain ⟨g', off, heq, _, k1⟩ := hka 1 _ rfl
  cases heq
  have q0 : w7.cell? ⟨g, 0, none⟩ = some (.string ann) := k0 0 _ rfl
  have q1 : w7.cell? ⟨g, 1, none⟩ = some (.int .i64 0) := k0 1 _ rfl
  have q2 : w7.cell? ⟨g, 2, none⟩ = some (.int .i64 most) := k0 2 _ rfl
  have q3 : w7.cell? ⟨g, 3, none⟩ = some (.int .i64 1) := k0 3 _ rfl
  have q4 : w7.cell? ⟨g, 4, none⟩ = some (.string bob) := k1 0 _ rfl
  have q5 : w7.cell? ⟨g, 5, none⟩ = some (.int .i64 3) := k1 1 _ rfl
  have q6 : w7.cell? ⟨g, 6, none⟩ = some (.int .i64 0) := k1 2 _ rfl
  have q7 : w7.cell? ⟨g, 7, none⟩ = some (.int .i64 0) := k1 3 _ rfl
  have hg : g < w7.heap.size := by simpa using World.block_lt_of_cell? w7 _ q0
  clear hka k0 k1
  have E1 := eqC ⟨ann, 0, most, 1⟩ ⟨ann, 0, most, 1⟩
  have E2 := eqC ⟨bob, 3, 0, 0⟩ ⟨bob, 3, 0, 0⟩
  have E3 := eqC ⟨ByteArray.empty, 3, most, 1⟩ ⟨ByteArray.empty, 3, most, 1⟩
  have E4 := eqC ⟨cid, 0, 0, 0⟩ ⟨cid, 0, 0, 0⟩
  rw [ceq_refl] at E1 E2 E3 E4
  have E5 := fldD ⟨bob, 3, 0, 0⟩
  have eb : ByteArray.empty = ⟨#[]⟩ := rfl
  have CB := fun (w : World) (F : Fp) (h : (meterT b H3).on w F) => of_c h bob
  have CC := fun (w : World) (F : Fp) (h : (meterT b H3).on w F) => of_c h cid
  have CS := fun (w : World) (F : Fp) (h : (meterT b H3).on w F) => sum_c h (ok_of rfl) (by decide)
  rw [ho1] at CB
  rw [ho2] at CC
  rw [ho3] at CS
  simp only [ann, bob, cid, most, aggC, eb] at q0 q1 q2 q3 q4 q5 q6 q7 E1 E2 E3 E4 E5 CB CC CS
  have CB := Keep.mk CB
  have CC := Keep.mk CC
  have CS := Keep.mk CS
  have t8 := Asrt.drew t7
  have s8 : HeadS g w7.drew := ⟨⟨q0, q1, q2, q3, q4, q5, q6, q7⟩⟩
  have g8 : g < w7.drew.heap.size := hg
  have U8 := ((((u1.trans u2).trans u3).trans u4).trans (u5.trans u6)).quiet.trans u7
  clear q0 q1 q2 q3 q4 q5 q6 q7
  go_wp2_with fail
  go_region_held3 (fun w' => w'.cell? ⟨g, 0, none⟩ = some (.string ⟨#[97, 110, 110]⟩) ∧ w'.cell? ⟨g, 1, none⟩ = some (.int .i64 0) ∧ w'.cell? ⟨g, 2, none⟩ = some (.int .i64 1099511627776) ∧ w'.cell? ⟨g, 3, none⟩ = some (.int .i64 1) ∧
      w'.cell? ⟨g, 4, none⟩ = some (.string ⟨#[98, 111, 98]⟩) ∧ w'.cell? ⟨g, 5, none⟩ = some (.int .i64 3) ∧ w'.cell? ⟨g, 6, none⟩ = some (.int .i64 0) ∧ w'.cell? ⟨g, 7, none⟩ = some (.int .i64 0)) (first | exact s8.all | exact s9.all | exact s10.all | exact s11.all | exact s12.all)
    (first
      | (go_at_call_of 16 (Value.string ⟨#[98, 111, 98]⟩); refine (CB.out _ _ t8).mono ?_; rintro e w9 ⟨rfl, q9⟩; have t9 := (meterT b H3).frame t8 q9 fun _ _ h => h; have s9 := s8.step q9 g8; have g9 := Nat.lt_of_lt_of_le g8 q9.size)
      | (go_at_call_of 16 (Value.string ⟨#[98, 111, 98]⟩); refine (CB.out _ _ t9).mono ?_; rintro e w10 ⟨rfl, q10⟩; have t10 := (meterT b H3).frame t9 q10 fun _ _ h => h; have s10 := s9.step q10 g9; have g10 := Nat.lt_of_lt_of_le g9 q10.size)
      | (go_at_call 20; refine (CS.out _ _ t10).mono ?_; rintro e w11 ⟨rfl, q11⟩; have t11 := (meterT b H3).frame t10 q11 fun _ _ h => h; have s11 := s10.step q11 g10; have g11 := Nat.lt_of_lt_of_le g10 q11.size)
      | (go_at_call_of 16 (Value.string ⟨#[99, 105, 100]⟩); refine (CC.out _ _ t11).mono ?_; rintro e w12 ⟨rfl, q12⟩; have s12 := s11.step q12 g11))
  go_wp2_with fail
  go_ret
  exact ⟨rfl, (((Upd.trans (Upd.drew (Upd.quiet U8)) q9).trans q10).trans q11).trans q12⟩
end Go.Proofs.Ytglfkkaldeblhaa
