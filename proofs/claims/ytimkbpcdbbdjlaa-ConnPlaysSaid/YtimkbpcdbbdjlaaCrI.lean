/- The document's connections: Open. -/
import Derived.Test.YtimkbpcdbbdjlaaCrH
import Derived.Test.YtimkbpcdbbdjlaaSubW
set_option linter.unusedVariables false
namespace Go.Proofs.Ytimkbpcdbbdjlaa.Cr
open Go.RowKit Go.Sub Go.ChangeMaps
attribute [local go_sem ↓] Go.wp_at_zero Go.wp_at_succ
theorem infoR : (Try.prog.info? 95).map (fun i => (i.zero, i.size, i.bytes)) = some (some (.agg #[.int .i64 0, .int .u32 0, .pointer none, .pointer none, .int .i64 0, .bool false]), 6, 48) := by kernel_rfl
theorem oneR (x : RE) : ∀ u ∈ encR x, u.oneCell' = true := by
  intro u hu
  simp only [encR, List.mem_cons, List.not_mem_nil, or_false] at hu
  rcases hu with rfl | rfl | rfl | rfl | rfl | rfl <;> rfl
theorem reads_one {α : Type} {k : Nat} {enc : α → List Value} (w : World) (t : TypeId) (x : α) (hk : (enc x).length = k) : Reads (w.alloc (.cells (enc x).toArray t)) k enc (.slice (some ⟨w.heap.size, 0, none⟩) 1 1) [x] := by
  refine ⟨_, 1, rfl, fun i y hy => ?_⟩
  cases i with
  | zero =>
    simp only [List.getElem?_cons_zero, Option.some.injEq] at hy
    subst hy
    refine ⟨_, _, rfl, by simp, fun j u hu => ?_⟩
    rw [World.cell?_alloc_new]
    simpa using hu
  | succ i => simp at hy
theorem stars_cell0 {l : List Asrt} {w : World} {F : Fp} {b : Nat} {c : Array Value} {t : TypeId} (hS : (Asrt.stars (.blk b (.cells c t (0, 0)) :: l)).on w F) (j : Nat) (u : Value) :
    ∃ F', (Asrt.stars (.blk b (.cells (c.setIfInBounds j u) t (0, 0)) :: l)).on (w.setCell ⟨b, j, none⟩ u) F' ∧ Upd F F' w (w.setCell ⟨b, j, none⟩ u) := by
  obtain ⟨Fb, hb, hsub, hgo⟩ := Asrt.stars_upd _ 0 _ rfl hS
  obtain ⟨hob, rfl⟩ := hb
  exact hgo (w.setCell ⟨b, j, none⟩ u) (fun k => k = b) (.blk b (.cells (c.setIfInBounds j u) t (0, 0))) ⟨obj_setCell_at hob j u, rfl⟩ ((Upd.refl (fun k => k = b) w).setCell (a := ⟨b, j, none⟩) (.inl rfl) _)
theorem ent_rnew (args : Array Value) (w : World) : (callFunc 88 args).run Try.prog w = .ok (.enter 88 args) w := by go_simp
theorem keep_other {w : World} {b : Nat} {u v : Value} (h : w.cell? ⟨b, 1, none⟩ = some u) (hf : w.frozen? ⟨b, 0, none⟩ = false) : (w.setCell ⟨b, 0, none⟩ v).cell? ⟨b, 1, none⟩ = some u ∧ (w.setCell ⟨b, 0, none⟩ v).frozen? ⟨b, 0, none⟩ = false := by
  constructor
  · exact (World.cell?_setCell_other w ⟨b, 0, none⟩ ⟨b, 1, none⟩ v (by simp)).trans h
  · exact (World.frozen?_setCell w ⟨b, 0, none⟩ ⟨b, 0, none⟩ v).trans hf
theorem group2 {A B C D : Asrt} {l : List Asrt} {w : World} {F : Fp} (h : (Asrt.stars (A :: B :: C :: D :: l)).on w F) : (Asrt.stars (C :: D :: (l ++ [Asrt.stars [B, A]]))).on w F := by
  have h1 : (Asrt.stars (C :: D :: B :: A :: l)).on w F := Asrt.stars_perm (l := A :: B :: C :: D :: l) ((List.perm_append_comm (l₁ := [A, B]) (l₂ := [C, D])).append_right l |>.trans (List.Perm.cons _ (List.Perm.cons _ (List.Perm.swap _ _ _)))) h
  obtain ⟨Fc, _, hc, ⟨Fd, _, hd, ⟨Fb, _, hb, ⟨Fa, Fl, ha, hl, d1, rfl⟩, d2, rfl⟩, d3, rfl⟩, d4, rfl⟩ := h1
  have h2 : (Asrt.stars (Asrt.stars [B, A] :: l)).on w (fun k => (fun k => Fb k ∨ Fa k) k ∨ Fl k) := ⟨fun k => Fb k ∨ Fa k, Fl, ⟨Fb, Fa, hb, Asrt.stars_one ha, fun k x y => d2 k x (.inl y), rfl⟩, hl, fun k x y => x.elim (fun x => d2 k x (.inr y)) (fun x => d1 k x y), rfl⟩
  have h3 := Asrt.stars_perm (List.perm_append_singleton (Asrt.stars [B, A]) l).symm h2
  have e : (fun k => (fun k => Fb k ∨ Fa k) k ∨ Fl k) = fun k => Fb k ∨ (fun k => Fa k ∨ Fl k) k := by funext k; simp [or_assoc]
  rw [e] at h3
  exact ⟨Fc, _, hc, ⟨Fd, _, hd, h3, d3, rfl⟩, d4, rfl⟩
theorem open_fin {b : Nat} {last addr : Int} {v v' : Value} {L : List RE} {r1 r2 : Nat} {w : World} {F : Fp} {c : Array Value} (hc : c.setIfInBounds 0 v' = #[v', .int .i64 (last + 1)])
    (h : (Asrt.stars (rringT r2 1024 [] :: rringT r1 512 [] :: .blk b (.cells c 92 (0, 0)) :: rowR v' (L ++ [⟨last + 1, r1, r2, ⟨addr, [], [], 0, false⟩⟩]) :: L.map RE.asrt)).on w F) :
    ∃ F', (crT b (last + 1) (L.map RE.val ++ [(last + 1, ⟨addr, [], [], 0, false⟩)])).on (w.setCell ⟨b, 0, none⟩ v') F' ∧ Upd F F' w (w.setCell ⟨b, 0, none⟩ v') := by
  obtain ⟨Fb, hb, hsub, hgo⟩ := Asrt.stars_upd _ 2 _ rfl h
  obtain ⟨hob, rfl⟩ := hb
  obtain ⟨F2, h2, u2⟩ := hgo (w.setCell ⟨b, 0, none⟩ v') (fun k => k = b) (.blk b (.cells (c.setIfInBounds 0 v') 92 (0, 0))) ⟨obj_setCell_at hob 0 v', rfl⟩ ((Upd.refl (fun k => k = b) w).setCell (a := ⟨b, 0, none⟩) (.inl rfl) _)
  rw [hc] at h2
  have h3 := group2 h2
  refine ⟨F2, ⟨(v', L ++ [⟨last + 1, r1, r2, ⟨addr, [], [], 0, false⟩⟩]), by simp, ?_⟩, u2⟩
  rw [List.map_append]
  exact h3
set_option maxRecDepth 100000 in
set_option maxHeartbeats 4000000 in
theorem ropen_c {b : Nat} {last : Int} {M : List (Int × Con)} {w : World} {F : Fp} (hM : (crT b last M).on w F) (hl : M.length ≤ 64) (l0 : 0 ≤ last) (l1 : last ≤ 1000000000) (addr : Int) :
    Calls Try.prog 66 #[.pointer (some ⟨b, 0, none⟩), .int .u32 addr] w (REnds b (openS last M addr).1 (openS last M addr).2.1 (.tuple #[.int .i64 (openS last M addr).2.2.1, .int .i64 (openS last M addr).2.2.2]) F w) := by
  have HM := Keep.mk hM
  obtain ⟨⟨v, L⟩, rfl, hS⟩ := hM
  dsimp only at *
  have hlL : L.length ≤ 64 := by simpa using hl
  obtain ⟨kc, kf, hb⟩ := box_cell (i := 0) hS rfl
  obtain ⟨_, hr, _⟩ := Asrt.stars_get hS 1 rfl
  obtain ⟨a, ca, rfl, _⟩ := row_form hr
  have k0 := kc 0
  have k1 := kc 1
  have f1 := kf 1
  simp only [List.getElem?_toArray, List.getElem?_cons_zero, List.getElem?_cons_succ] at k0 k1
  by_cases hfull : L.length = 64
  · have E := Keep.mk (show openS last (L.map RE.val) addr = (last, L.map RE.val, 0, 2) by unfold openS; rw [if_pos (by simpa using hfull)])
    rw [E.out]
    have h1 : decide ((64 : Int) ≤ (L.length : Int)) = true := by simp; omega
    have KM := Keep.mk (crT_keep HM.out (Upd.refl none' w))
    clear E hS kc kf hr hfull
    go_enter Try.func66, Try.ntmps66
    go_wp2_with fail
    go_ret2
    exact ⟨rfl, KM.out⟩
  · have E := Keep.mk (show openS last (L.map RE.val) addr = (last + 1, L.map RE.val ++ [(last + 1, ⟨addr, [], [], 0, false⟩)], last + 1, 0) by unfold openS; rw [if_neg (by simpa using hfull)])
    rw [E.out]
    have h1 : decide ((64 : Int) ≤ (L.length : Int)) = false := by simp; omega
    have ew : IntKind.i64.wrap (last + 1) = last + 1 := by rw [IntKind.wrap_i64]; omega
    obtain ⟨F1, S1, U1⟩ := stars_cell0 hS 1 (.int .i64 (last + 1))
    obtain ⟨kc1, kf1, hb1⟩ := box_cell (i := 0) S1 rfl
    have j0 := kc1 0
    have j1 := kc1 1
    have jf := kf1 0
    simp at j0 j1
    generalize hW : w.setCell ⟨b, 1, none⟩ (.int .i64 (last + 1)) = w1 at *
    have KK := Keep.mk (fun (w' : World) (q : Quiet w1 w') => show w'.cell? ⟨b, 0, none⟩ = some (.slice a L.length ca) ∧ w'.cell? ⟨b, 1, none⟩ = some (.int .i64 (last + 1)) ∧ w'.frozen? ⟨b, 0, none⟩ = false from ⟨(q.cell (a := ⟨b, 0, none⟩) hb1 (fun h => h)).trans j0, (q.cell (a := ⟨b, 1, none⟩) hb1 (fun h => h)).trans j1, (q.frozen (a := ⟨b, 0, none⟩) hb1 (fun h => h)).trans jf⟩)
    have N5 : ∀ W : World, Calls Try.prog 88 #[.int .i64 512] W (RNew 512 W) := fun W => rnew_c W 512 (by decide)
    have N6 : ∀ W : World, Calls Try.prog 88 #[.int .i64 1024] W (RNew 1024 W) := fun W => rnew_c W 1024 (by decide)
    have NN := Keep.mk (And.intro N5 N6)
    have HS1 := Keep.mk S1
    have HU1 := Keep.mk U1
    clear E hS kc kf hr hfull S1 U1 kc1 kf1 N5 N6
    go_enter Try.func66, Try.ntmps66
    go_wp2_with fail
    obtain ⟨i, hi, hz⟩ := Option.map_eq_some_iff.1 infoR
    simp only [Prod.mk.injEq] at hz
    have HZ := Keep.mk (And.intro hi hz)
    clear hi hz
    have Q0 : Quiet w1 w1.drew := (Upd.refl none' w1).drew
    have S0 := Asrt.drew HS1.out
    have U0 := HU1.out.drew
    have kA := KK.out _ (Upd.refl none' w1)
    obtain ⟨kA0, kA1, kAf⟩ := kA
    go_region_law
      (first
        | (refine step_call (o := ⟨some 30, _, _, _, _, _⟩) rfl 88 #[.const (.int .i64 512)] _ rfl #[.int .i64 512] (by simp [Act.eval]) (ent_rnew _ _) (fun r : Nat => .pointer (some ⟨r, 0, none⟩)) (fun r w' => ∃ F', (rringT r 512 []).on w' F' ∧ Upd none' F' w1.drew w') (NN.out.1 _) ?_; rintro r1 w5 ⟨F5, h5, u5⟩; obtain ⟨G5, S5, U5⟩ := Asrt.stars_new S0 h5 u5; have Q5 := Q0.trans u5.quiet; obtain ⟨kB0, kB1, kBf⟩ := KK.out _ Q5)
        | (refine step_call (o := ⟨some 31, _, _, _, _, _⟩) rfl 88 #[.const (.int .i64 1024)] _ rfl #[.int .i64 1024] (by simp [Act.eval]) (ent_rnew _ _) (fun r : Nat => .pointer (some ⟨r, 0, none⟩)) (fun r w' => ∃ F', (rringT r 1024 []).on w' F' ∧ Upd none' F' w5 w') (NN.out.2 _) ?_; rintro r2 w7 ⟨F6, h6, u6⟩; obtain ⟨G7, S7, U7⟩ := Asrt.stars_new S5 h6 u6; have Q7 := Q5.trans u6.quiet; obtain ⟨kC0, kC1, kCf⟩ := KK.out _ Q7; obtain ⟨kD0, kD1, kDf⟩ := KK.out _ (Q7.alloc (.cells (encR ⟨last + 1, r1, r2, ⟨addr, [], [], 0, false⟩⟩).toArray 95)); have U8 := (U0.trans (U5.trans U7)).alloc (.cells (encR ⟨last + 1, r1, r2, ⟨addr, [], [], 0, false⟩⟩).toArray 95); obtain ⟨Fr, hr8, _, hgo8⟩ := Asrt.stars_upd _ 3 _ rfl (Asrt.alloc S7 (.cells (encR ⟨last + 1, r1, r2, ⟨addr, [], [], 0, false⟩⟩).toArray 95)))
        | (refine step_append_reads (o := ⟨some 34, _, _, _, _, _⟩) (enc := encR) (k := 6) 48 rfl (.tmp 24) (.tmp 33) 90 rfl 95 i _ Try.underlying90 HZ.out.1 HZ.out.2.1 HZ.out.2.2.1 HZ.out.2.2.2 rfl (by decide) (.slice a L.length ca) (.slice (some ⟨w7.heap.size, 0, none⟩) 1 1) L [⟨last + 1, r1, r2, ⟨addr, [], [], 0, false⟩⟩] Fr (by rfl) hr8 (by rfl) (reads_one (k := 6) (enc := encR) w7 95 ⟨last + 1, r1, r2, ⟨addr, [], [], 0, false⟩⟩ rfl) (fun _ => rfl) oneR (by simp [maxLen]; omega) (by simp; omega) ?_; intro v9 w9 F9 hr9 hu9; obtain ⟨a9, c9, rfl, _⟩ := row_form hr9; obtain ⟨G9, S9, U9⟩ := hgo8 w9 F9 _ hr9 hu9; obtain ⟨z9, y9, _⟩ := box_cell (i := 2) S9 rfl; have z90 := (z9 0); have z91 : w9.cell? ⟨b, 1, none⟩ = some (.int .i64 (last + 1)) := (z9 1); have y90 := (y9 0)))
    all_goals
      have el : (L ++ [(⟨last + 1, r1, r2, ⟨addr, [], [], 0, false⟩⟩ : RE)]).length = L.length + 1 := by simp
      rw [el] at S9
      have HE := Keep.mk (open_fin (v := .slice a L.length ca) (v' := .slice a9 (L.length + 1) c9) (last := last) (addr := addr) rfl S9)
      have HU := Keep.mk (U8.trans U9)
      have ZZ : (w9.setCell ⟨b, 0, none⟩ (.slice a9 (L.length + 1) c9)).cell? ⟨b, 1, none⟩ = some (.int .i64 (last + 1)) := (keep_other z91 y90).1
      clear S9 hr9 hu9 U9 z9 y9 el
      go_wp2_with fail
      go_ret2
      obtain ⟨F', h', u'⟩ := HE.out
      exact ⟨rfl, F', h', HU.out.trans u'⟩
end Go.Proofs.Ytimkbpcdbbdjlaa.Cr
