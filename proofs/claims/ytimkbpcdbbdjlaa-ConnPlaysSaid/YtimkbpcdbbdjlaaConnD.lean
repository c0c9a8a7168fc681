/- The table of connections: the functions that are asked of one: Rest, Flush, Say. -/
import Derived.Test.YtimkbpcdbbdjlaaConnC
namespace Go.Proofs.Ytimkbpcdbbdjlaa
open Go.RowKit Go.Sub Go.ChangeMaps
theorem two_of {A B : Asrt} {w : World} {F : Fp} (h : (Asrt.stars [A, B]).on w F) : (Asrt.star A B).on w F :=
  Asrt.star_imp (fun _ hg => Asrt.of_emp_star (Asrt.star_comm hg)) h
set_option maxHeartbeats 1000000 in
set_option maxRecDepth 100000 in
theorem rest1_c {cb ri ro bx : Nat} {c : Con} {w : World} {F : Fp} (h : (conT cb ri ro c).on w F) {z : Int} (hx : w.cell? ⟨bx, 0, none⟩ = some (.int .i64 z)) {n : Nat} (hn : n = min z.toNat c.inn.length) :
    Calls Try.prog 65 #[.pointer (some ⟨cb, 0, none⟩), .pointer (some ⟨bx, 0, none⟩)] w fun e w' => ∃ v, Ret v (fun w' => ∃ F', (Asrt.star (bytesT v (c.inn.take n)) (conT cb ri ro { c with inn := c.inn.drop n })).on w' F' ∧ Upd F F' w w') e w' := by
  obtain ⟨c0, c1, c2, c3, c4, hcl, hf⟩ := con_open h
  obtain ⟨Fr, hr, hsub, hgo⟩ := Asrt.stars_upd _ 1 _ rfl h
  have TC := take_c (Asrt.drew hr) z hn
  have TC := Keep.mk TC
  clear h hr hn
  go_enter Try.func65, Try.ntmps65
  go_wp2_with fail
  go_still_tail 5, (by kernel_rfl)
  go_wp2_with fail
  refine TC.out.mono ?_
  rintro e w1 ⟨v, rfl, F1, h1, u1⟩
  go_wp2_with fail
  go_returns
  obtain ⟨F', h', u'⟩ := hgo w1 F1 _ (two_of h1) ((Upd.refl Fr w).drew.trans u1)
  exact ⟨v, rfl, F', Asrt.star_out [_, _, _] 1 (by simp) h', u'⟩
set_option maxHeartbeats 1000000 in
set_option maxRecDepth 100000 in
theorem flush1_c {cb ri ro : Nat} {c : Con} {w : World} {F : Fp} (h : (conT cb ri ro c).on w F) {n : Nat} (hn : n = min c.credit.toNat c.out.length) (k0 : 0 ≤ c.credit) (k1 : c.credit ≤ 1073741824) :
    Calls Try.prog 58 #[.pointer (some ⟨cb, 0, none⟩)] w fun e w' => ∃ v, Ret v (fun w' => ∃ F', (Asrt.star (bytesT v (c.out.take n)) (conT cb ri ro { c with out := c.out.drop n, credit := c.credit - n })).on w' F' ∧ Upd F F' w w') e w' := by
  obtain ⟨c0, c1, c2, c3, c4, hcl, hf⟩ := con_open h
  obtain ⟨Fr, hr, hsub, hgo⟩ := Asrt.stars_upd _ 2 _ rfl h
  have TC := take_c (Asrt.drew hr) c.credit hn
  have hln : (c.out.take n).length = n := by simp; omega
  have e1 : IntKind.i64.wrap (c.credit - (n : Int)) = c.credit - (n : Int) := by rw [IntKind.wrap_i64]; omega
  have TC := Keep.mk TC
  clear h hr hn k0 k1
  go_enter Try.func58, Try.ntmps58
  go_wp2_with fail
  go_still_tail 8, (by kernel_rfl)
  go_wp2_with fail
  refine TC.out.mono ?_
  rintro e w1 ⟨v, rfl, F1, h1, u1⟩
  obtain ⟨_, hbv, _⟩ := Asrt.stars_get h1 0 rfl
  obtain ⟨av, cv, rfl, _⟩ := hbv.1.slice
  rw [hln] at h1
  rw [hln]
  obtain ⟨F2, h2, u2⟩ := hgo w1 F1 _ (two_of h1) ((Upd.refl Fr w).drew.trans u1)
  have h3 := Asrt.star_out [_, _, _] 2 (by simp) h2
  obtain ⟨Fa, Fb, hA, hB, hab, rfl⟩ := h3
  have hB : (conT cb ri ro { c with out := c.out.drop n }).on w1 Fb := hB
  obtain ⟨d0, d1, d2, d3, d4, hdl, hdf⟩ := con_open hB
  obtain ⟨F4, h4, u4⟩ := con_set (c' := { c with out := c.out.drop n, credit := c.credit - n }) hB 3 (.int .i64 (c.credit - (n : Int))) rfl rfl rfl
  have hfin : (Asrt.star (bytesT (.slice av n cv) (c.out.take n)) (conT cb ri ro { c with out := c.out.drop n, credit := c.credit - n })).on (w1.setCell ⟨cb, 3, none⟩ (.int .i64 (c.credit - (n : Int)))) (fun k => Fa k ∨ F4 k) := by
    refine ⟨Fa, F4, (bytesT _ _).frame hA u4 fun k a b => hab k a b, h4, fun k a b => ?_, rfl⟩
    rcases u4.fp k b with hk | hk
    · exact hab k a hk
    · have := (bytesT _ _).lt hA k a; omega
  have U5 : Upd F (fun k => Fa k ∨ F4 k) w (w1.setCell ⟨cb, 3, none⟩ (.int .i64 (c.credit - (n : Int)))) :=
    (u2.trans (u4.weaken (G := fun k => Fa k ∨ Fb k) (F'' := fun k => Fa k ∨ F4 k) (fun k hk => .inr hk) fun k hk => hk.elim (fun a => .inl (.inl a)) fun b => .inr (.inl b)))
  have HF := Keep.mk hfin
  clear h1 h2 hA hB h4 hfin d0 d1 d2 d4
  go_wp2_with fail
  go_returns
  exact ⟨_, rfl, _, HF.out, U5⟩
set_option maxHeartbeats 2000000 in
set_option maxRecDepth 100000 in
theorem say1_no {cb ri ro bx : Nat} {c : Con} {w : World} {F : Fp} (h : (conT cb ri ro c).on w F) {v : Value} {b : List UInt8} (hx : w.cell? ⟨bx, 0, none⟩ = some v) (hb : Bytes w v b) (hr : 1024 - c.out.length < b.length) :
    Calls Try.prog 55 #[.pointer (some ⟨cb, 0, none⟩), .pointer (some ⟨bx, 0, none⟩)] w (Ret (.bool false) fun w' => ∃ n, w' = w.drewN n) := by
  obtain ⟨c0, c1, c2, c3, c4, hcl, hf⟩ := con_open h
  obtain ⟨_, hro, _⟩ := Asrt.stars_get h 2 rfl
  obtain ⟨av, cv, rfl, _⟩ := hb.slice
  have RC := fun m => room_c (Asrt.drewN hro m)
  have e1 : decide (b.length ≤ 1024 - c.out.length) = false := by rw [decide_eq_false_iff_not]; omega
  generalize 1024 - c.out.length = z at *
  clear h hb hr
  go_enter Try.func55, Try.ntmps55
  go_wp2_with fail
  go_quiet ((go_at_call 54; exact Calls.quiet_of (RC _)))
  go_wp2_with fail
  go_returns
  exact ⟨rfl, _, rfl⟩
set_option maxHeartbeats 4000000 in
set_option maxRecDepth 100000 in
theorem say1_yes {cb ri ro bx : Nat} {c : Con} {w : World} {F : Fp} (h : (conT cb ri ro c).on w F) {v : Value} {b : List UInt8} (hx : w.cell? ⟨bx, 0, none⟩ = some v) (hxl : bx < w.heap.size) (hxF : ¬ F bx) (hb : Bytes w v b) (hd : ∀ g, v.ownBlock = some g → b ≠ [] → ¬ F g) (hl : b.length ≤ 1000000) (hr : b.length ≤ 1024 - c.out.length) :
    Calls Try.prog 55 #[.pointer (some ⟨cb, 0, none⟩), .pointer (some ⟨bx, 0, none⟩)] w (Ret (.bool true) fun w' => ∃ F', (conT cb ri ro { c with out := c.out ++ b }).on w' F' ∧ Upd F F' w w') := by
  obtain ⟨c0, c1, c2, c3, c4, hcl, hf⟩ := con_open h
  obtain ⟨Fr, hro, hsub, hoth, hgo⟩ := Asrt.stars_upd2 _ 2 _ rfl h
  have hcbF : ¬ Fr cb := by
    obtain ⟨Fj, hj, _, hn⟩ := hoth 0 _ (by omega) rfl
    exact hn cb (by rw [hj.2])
  have e0 : min b.length (1024 - c.out.length) = b.length := by omega
  have AC := fun (w' : World) (hq : ∃ n, w' = w.drewN n) => by
    have := add_c (w := w') (v := v) (b := b) (by obtain ⟨n, rfl⟩ := hq; exact Asrt.drewN hro n) (by obtain ⟨n, rfl⟩ := hq; exact hb.upd (zero_drewN w n) fun _ _ _ h => h) (fun g hg hn hF => hd g hg hn (hsub g hF)) hl
    rw [e0, List.take_length] at this
    exact this
  have RC := fun m => room_c (Asrt.drewN hro m)
  obtain ⟨av, cv, rfl, _⟩ := hb.slice
  have e1 : decide (b.length ≤ 1024 - c.out.length) = true := by rw [decide_eq_true_eq]; omega
  generalize 1024 - c.out.length = z at *
  have AC := Keep.mk AC
  have RC := Keep.mk RC
  have s0 : w.drew.cell? ⟨cb, 2, none⟩ = some (.pointer (some ⟨ro, 0, none⟩)) ∧ w.drew.cell? ⟨bx, 0, none⟩ = some (.slice av b.length cv) := ⟨c2, hx⟩
  have g0 : cb < w.drew.heap.size ∧ bx < w.drew.heap.size := ⟨hcl, hxl⟩
  have nF : ¬ Fr bx := fun q => hxF (hsub bx q)
  clear h hro hb hr e0 hoth hd c0 c1 c3 c4
  go_enter Try.func55, Try.ntmps55
  go_wp2_with fail
  go_region_held3 (fun w' => w'.cell? ⟨cb, 2, none⟩ = some (.pointer (some ⟨ro, 0, none⟩)) ∧ w'.cell? ⟨bx, 0, none⟩ = some (.slice av b.length cv)) (first | exact s0 | exact s1 | exact s2)
    (first
      | (go_at_call 54; refine (RC.out 1).mono ?_; rintro e w1 ⟨rfl, n1, rfl⟩; have s1 : (w.drewN (1 + n1)).cell? ⟨cb, 2, none⟩ = some (.pointer (some ⟨ro, 0, none⟩)) ∧ (w.drewN (1 + n1)).cell? ⟨bx, 0, none⟩ = some (.slice av b.length cv) := ⟨c2, hx⟩)
      | (go_at_call 42; refine (AC.out (w.drewN (1 + n1)) ⟨1 + n1, rfl⟩).mono ?_; rintro e w2 ⟨rfl, F2, h2, u2⟩; have s2 : w2.cell? ⟨cb, 2, none⟩ = some (.pointer (some ⟨ro, 0, none⟩)) ∧ w2.cell? ⟨bx, 0, none⟩ = some (.slice av b.length cv) := ⟨(u2.cell hcl hcbF).trans c2, (u2.cell hxl nF).trans hx⟩))
  go_wp2_with fail
  go_returns
  obtain ⟨F', h', u'⟩ := hgo w2 F2 _ h2 (((Upd.refl Fr w).drewN _).trans u2)
  exact ⟨rfl, F', h', u'⟩
end Go.Proofs.Ytimkbpcdbbdjlaa
