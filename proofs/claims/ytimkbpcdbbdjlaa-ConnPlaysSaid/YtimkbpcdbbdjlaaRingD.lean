/- The ring of bytes: Take. -/
import Derived.Test.YtimkbpcdbbdjlaaRingC
namespace Go.Proofs.Ytimkbpcdbbdjlaa
open Go.RowKit Go.Sub Go.ChangeMaps
set_option maxHeartbeats 2000000 in
set_option maxRecDepth 100000 in
theorem take_c {r N : Nat} {B : List UInt8} {w : World} {F : Fp} (hR : (ringT r N B).on w F) (z : Int) {n : Nat} (hn : n = min z.toNat B.length) :
    Calls Try.prog 45 #[.pointer (some ⟨r, 0, none⟩), .int .i64 z] w fun e w' => ∃ v, Ret v (fun w' => ∃ F', (Asrt.stars [bytesT v (B.take n), ringT r N (B.drop n)]).on w' F' ∧ Upd F F' w w') e w' := by
  have FC := first_c hR n (by omega)
  have hR0 := Asrt.stars_one hR
  have e1 : min (max z 0) (B.length : Int) = (n : Int) := by omega
  obtain ⟨⟨row, at', R⟩, ⟨hok, hN⟩, hS⟩ := hR
  obtain ⟨hc, hfz, hlr⟩ := Asrt.blk_of hS 0 rfl
  have hc0 := hc 0
  have hc1 := hc 1
  have hc2 := hc 2
  simp only [List.getElem?_toArray, List.getElem?_cons_zero, List.getElem?_cons_succ] at hc0 hc1 hc2
  have hfit := hok.fit
  have hat := hok.at'
  simp only at hfit hat hok hS
  have hnb : n ≤ B.length := by omega
  have e2 : IntKind.i64.wrap ((B.length : Int) - (n : Int)) = ((B.length - n : Nat) : Int) := by rw [IntKind.wrap_i64]; omega
  have e3 : IntKind.i64.wrap ((at' : Int) + (n : Int)) = ((at' + n : Nat) : Int) := by rw [IntKind.wrap_i64]; omega
  have hok' := ring_take hok hnb
  have FC := Keep.mk FC
  have HOK := Keep.mk hok'
  clear hc hok hok' hn
  go_enter Try.func45, Try.ntmps45
  go_wp2_with fail
  refine FC.out.mono ?_
  rintro e w1 ⟨v, rfl, Fv, hv, u1⟩
  obtain ⟨F1, S1, v1⟩ := Asrt.stars_new hS hv u1
  obtain ⟨kc, kf, kl⟩ := Asrt.blk_of S1 1 rfl
  have kc0 := kc 0
  have kc1 := kc 1
  have kc2 := kc 2
  simp only [List.getElem?_toArray, List.getElem?_cons_zero, List.getElem?_cons_succ] at kc0 kc1 kc2
  obtain ⟨Fr, hr, _, hgo⟩ := Asrt.stars_upd _ 1 _ rfl S1
  clear kc hS hc0 hc1 hc2
  -- what lies in the ring's own block in the end
  have fin : ∀ (W : World) (a' : Nat), W.obj r = some (.cells #[.slice (some ⟨row, 0, none⟩) N N, .int .i64 (a' : Nat), .int .i64 ((B.length - n : Nat) : Int)] 97 (0, 0)) → Upd Fr Fr w1 W → a' = wrapi N (at' + n) →
      ∃ F', (Asrt.stars [bytesT v (B.take n), ringT r N (B.drop n)]).on W F' ∧ Upd F F' w W := by
    intro W a' hW hU ha'
    subst ha'
    obtain ⟨F4, S4, v4⟩ := hgo W Fr (.blk r _) ⟨hW, hr.2⟩ hU
    obtain ⟨Fa, Fb, hA, ⟨Fc, Fd, hC, hD, hcd, rfl⟩, hab, rfl⟩ := S4
    have hlen : (B.drop n).length = B.length - n := by simp
    refine ⟨_, ⟨Fa, _, hA, Asrt.stars_one (A := ringT r N (B.drop n)) (F := fun k => Fc k ∨ Fd k) ⟨(row, _, R), ⟨HOK.out, hN⟩, ⟨Fc, Fd, by rw [hlen]; exact hC, hD, hcd, rfl⟩⟩, hab, rfl⟩, v1.trans v4⟩
  have FIN := Keep.mk fin
  clear fin
  have hrow0 := hat
  obtain ⟨p, hp⟩ : ∃ p, p = at' + n := ⟨_, rfl⟩
  rw [← hp] at e3 FIN
  have hp2 : p < 2 * N := by omega
  clear hp
  by_cases hge : N ≤ p
  · have d1 : decide (N ≤ p) = true := by rw [decide_eq_true_eq]; exact hge
    have e4 : IntKind.i64.wrap ((p : Int) - (N : Int)) = ((p - N : Nat) : Int) := by rw [IntKind.wrap_i64]; omega
    have ew : p - N = wrapi N p := by unfold wrapi; rw [if_neg (by omega)]
    have EW := Keep.mk ew
    clear hge ew
    go_wp2_with fail
    go_quiet (fail)
    go_wp2_with fail
    go_region
    go_wp2_with fail
    go_returns
    have g1 := obj_setCell_at (obj_setCell_at hr.1 2 (.int .i64 ((B.length - n : Nat) : Int))) 1 (.int .i64 (p : Int))
    have g2 : (((w1.setCell ⟨r, 2, none⟩ (.int .i64 ((B.length - n : Nat) : Int))).setCell ⟨r, 1, none⟩ (.int .i64 (p : Int))).drewN (nq + 1)).obj r = _ := g1
    have g3 := obj_setCell_at g2 1 (.int .i64 ((p - N : Nat) : Int))
    have hF : Fr r := by rw [hr.2]
    have g4 := ((((Upd.refl Fr w1).setCell (a := ⟨r, 2, none⟩) (.inl hF) (.int .i64 ((B.length - n : Nat) : Int))).setCell (a := ⟨r, 1, none⟩) (.inl hF) (.int .i64 (p : Int))).drewN (nq + 1)).setCell (a := ⟨r, 1, none⟩) (.inl hF) (.int .i64 ((p - N : Nat) : Int))
    refine ⟨v, rfl, ?_⟩
    exact FIN.out _ (p - N) g3 g4 EW.out
  · have d1 : decide (N ≤ p) = false := by rw [decide_eq_false_iff_not]; exact hge
    have ew : p = wrapi N p := by unfold wrapi; rw [if_pos (by omega)]
    have EW := Keep.mk ew
    clear ew hge
    go_wp2_with fail
    go_quiet (fail)
    go_wp2_with fail
    go_returns
    have g1 := obj_setCell_at (obj_setCell_at hr.1 2 (.int .i64 ((B.length - n : Nat) : Int))) 1 (.int .i64 (p : Int))
    have g2 : (((w1.setCell ⟨r, 2, none⟩ (.int .i64 ((B.length - n : Nat) : Int))).setCell ⟨r, 1, none⟩ (.int .i64 (p : Int))).drewN nq).obj r = _ := g1
    have hF : Fr r := by rw [hr.2]
    have g4 := (((Upd.refl Fr w1).setCell (a := ⟨r, 2, none⟩) (.inl hF) (.int .i64 ((B.length - n : Nat) : Int))).setCell (a := ⟨r, 1, none⟩) (.inl hF) (.int .i64 (p : Int))).drewN nq
    refine ⟨v, rfl, ?_⟩
    exact FIN.out _ p g2 g4 EW.out
end Go.Proofs.Ytimkbpcdbbdjlaa
