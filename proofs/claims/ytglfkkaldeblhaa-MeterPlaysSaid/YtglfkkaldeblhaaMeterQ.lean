/- The document's meter: put. -/
import Derived.Test.YtglfkkaldeblhaaMeterP
namespace Go.Proofs.Ytglfkkaldeblhaa
open Go.ChangeShapes Go.WideShapes Go.ChangeAt Go.RowKit Go.Sub Go.ChangeMaps
theorem bl_irrefl : ∀ x : List UInt8, Op.bytesLess x x = false
  | [] => rfl
  | a :: x => by rw [Op.bytesLess, bl_irrefl x]; simp
abbrev geB (x y : ByteArray) : Bool := !(Op.bytesLess x.toList y.toList)
/-- what a round of 'put' makes of what it has: the row, is it in, was there one -/
def pstep (c : Cnt) (s : List Cnt × Bool × Bool) (x : Cnt) : List Cnt × Bool × Bool :=
  (let a := if s.2.1 = false ∧ geB x.t c.t = true then s.1 ++ [c] else s.1; if x.t = c.t then a else a ++ [x], s.2.1 || geB x.t c.t, s.2.2 || decide (x.t = c.t))
def pfold (c : Cnt) (L : List Cnt) : List Cnt × Bool × Bool := L.foldl (pstep c) ([], false, false)
theorem pfold_len (c : Cnt) (L : List Cnt) : ∀ s, (L.foldl (pstep c) s).1.length ≤ s.1.length + 2 * L.length := by
  induction L with
  | nil => intro s; simp
  | cons x L ih =>
    intro s
    refine Nat.le_trans (ih _) ?_
    have : (pstep c s x).1.length ≤ s.1.length + 2 := by
      simp only [pstep]
      split <;> split <;> simp <;> omega
    simp only [List.length_cons]; omega
/-- what 'put' leaves, and its answer -/
def rput (L : List Cnt) (c : Cnt) : List Cnt × Int :=
  if (pfold c L).2.2 = false ∧ 64 ≤ L.length then (L, 2) else (if (pfold c L).2.1 = true then (pfold c L).1 else (pfold c L).1 ++ [c], 0)
theorem take_fold (c : Cnt) {L : List Cnt} {k : Nat} (h : k < L.length) : pfold c (L.take (k + 1)) = pstep c (pfold c (L.take k)) L[k] := by
  rw [List.take_succ_eq_append_getElem h, pfold, List.foldl_append]; rfl
theorem hone_c (c : Cnt) : ∀ u ∈ encC c, u.oneCell' = true := by
  intro u hu
  simp only [List.mem_cons, List.not_mem_nil, or_false] at hu
  rcases hu with rfl | rfl | rfl | rfl <;> rfl
set_option maxRecDepth 100000 in
set_option maxHeartbeats 4000000 in
theorem rput_c {b : Nat} {L : List Cnt} {w : World} {F : Fp} (hM : (refT b L).on w F) (hl : L.length ≤ 1000) (c : Cnt) :
    Calls Try.prog 26 #[.pointer (some ⟨b, 0, none⟩), aggC c] w (Ret (.int .i64 (rput L c).2) fun w' => ∃ F', (refT b (rput L c).1).on w' F' ∧ Upd F F' w w') := by
  have hM0 := hM
  obtain ⟨i3, hi, hz0, hz1, hz2⟩ := info_parts infoC
  obtain ⟨v, hS⟩ := hM
  obtain ⟨_, ⟨hb, _⟩, _⟩ := Asrt.stars_get hS 0 rfl
  obtain ⟨hc, hf, hlt⟩ := blk_facts hb
  obtain ⟨_, hr, _⟩ := Asrt.stars_get hS 1 rfl
  have hR := row_at hr
  obtain ⟨a, ca, rfl⟩ := hR.slice
  have HR := Keep.mk hR.at.2
  have hc0 : w.cell? ⟨b, 0, none⟩ = some (.slice a L.length ca) := hc 0
  obtain ⟨F1, h1, u1⟩ := Asrt.stars_new (l := []) (w := w) (F := none') rfl (A := .blk w.heap.size (.cells c.cells 36 (0, 0))) (w' := w.alloc (.cells c.cells 36)) (Fn := fun k => k = w.heap.size) ⟨obj_alloc_at rfl, rfl⟩ (((Upd.refl none' w).alloc _).re fun k hk => .inr (by rw [hk]; exact Nat.le_refl _))
  clear hb hR hr hc
  go_enter Try.func26, Try.ntmps26
  go_wp2_with fail
  go_loopw [5, 6, 7, 8] (fun vo d t i wr => ∃ (k : Nat) (A : List Cnt) (D T : Bool) (F' : Fp), k ≤ L.length ∧ i = .int .i64 k ∧ d = .bool D ∧ t = .bool T ∧ (A, D, T) = pfold c (L.take k) ∧
    (Asrt.stars [row 36 4 encC vo A, .blk w.heap.size (.cells c.cells 36 (0, 0))]).on wr F' ∧ Upd none' F' w wr) (fun _ _ _ i _ => L.length - (intOf i).toNat)
  case atStart => exact ⟨0, [], false, false, F1, by omega, rfl, rfl, rfl, rfl, Asrt.stars_emp (row_nil _ 36 4 encC) h1, u1⟩
  case round =>
    obtain ⟨k, A, D, T, F', hk, rfl, rfl, rfl, hA, hSt, hU⟩ := hrel
    have q0 : wr.cell? ⟨b, 0, none⟩ = some (.slice a L.length ca) := (hU.cell hlt id).trans hc0
    clear h1 u1
    have hAl : A.length ≤ 2 * L.length := by
      have := pfold_len c (L.take k) ([], false, false)
      have e : A = (pfold c (L.take k)).1 := by rw [← hA]
      have := List.length_take_le k L
      rw [e, pfold]; simp at *; omega
    by_cases hk' : k < L.length
    · obtain ⟨g, off, rfl, hg, c0, c1, c2, c3⟩ := HR.out k hk'
      have hst := take_fold c hk'
      rw [← hA] at hst
      have x0 := (hU.cell (a := ⟨g, off + k * 4, none⟩) hg id).trans c0
      have x1 := (hU.cell (a := ⟨g, off + k * 4 + 1, none⟩) hg id).trans c1
      have x2 := (hU.cell (a := ⟨g, off + k * 4 + 2, none⟩) hg id).trans c2
      have x3 := (hU.cell (a := ⟨g, off + k * 4 + 3, none⟩) hg id).trans c3
      generalize L[k] = x at *
      obtain ⟨_, ⟨hB, _⟩, _⟩ := Asrt.stars_get hSt 1 rfl
      obtain ⟨hBc, _, hBl⟩ := blk_facts hB
      obtain ⟨Fo, hrow, _, hgo⟩ := Asrt.stars_upd _ 0 _ rfl hSt
      have CX := Keep.mk (And.intro c0 (And.intro c1 (And.intro c2 c3)))
      clear c0 c1 c2 c3 hB
      have HA := Keep.mk hA
      clear hA
      cases D with
      | true =>
        by_cases e : x.t = c.t
        · have e1 : (x.t.toList == c.t.toList) = true := by rw [lbeq, decide_eq_true e]
          have hst' : pfold c (L.take (k + 1)) = (A, true, true) := by rw [hst]; simp [pstep, e]
          have HST := Keep.mk hst'
          clear hst hst' e
          go_wp2_with fail
          go_quiet (fail)
          go_wp2_with fail
          go_quiet (fail)
          go_wp2_with fail
          exact ⟨⟨k + 1, A, true, true, F', by omega, by go_num, rfl, rfl, HST.out.symm, Asrt.drewN hSt _, hU.drewN _⟩, by simp [intOf]; omega⟩
        · have e1 : (x.t.toList == c.t.toList) = false := by rw [lbeq, decide_eq_false e]
          have hst' : pfold c (L.take (k + 1)) = (A ++ [x], true, T) := by rw [hst]; simp [pstep, e]
          have HST := Keep.mk hst'
          clear hst hst' e
          go_wp2_with fail
          go_quiet (fail)
          go_wp2_with fail
          go_quiet (fail)
          go_wp2_with (at_builtin; refine at_append_row encC 4 40 rfl (.tmp 48) (.tmp 56) 39 rfl 36 i3 _ Try.underlying39 hi hz0 hz1 hz2 rfl (by decide) u5 _ x Fo rfl (Asrt.drewN (Asrt.alloc hrow _) _) ⟨wr.heap.size, 0, none⟩ 1 rfl rfl (cells_new wr (encC x) _) (hone_c x) ?h63 ?hby ?next)
          case h63 => unfold maxLen; first | omega | (simp; omega)
          case hby => first | omega | (simp; omega)
          case next =>
            intro v' w4 F4 hr4 hu4
            obtain ⟨F5, h5, u5'⟩ := hgo w4 F4 _ hr4 ((((Upd.refl Fo wr).alloc _).drewN _).trans hu4)
            go_wp2_with fail
            exact ⟨⟨k + 1, A ++ [x], true, T, F5, by omega, by go_num, rfl, rfl, HST.out.symm, h5, hU.trans u5'⟩, by simp [intOf]; omega⟩
      | false =>
        by_cases eg : geB x.t c.t = true
        · have eg1 : Op.bytesLess x.t.toList c.t.toList = false := by simpa [geB] using eg
          by_cases e : x.t = c.t
          · have e1 : (x.t.toList == c.t.toList) = true := by rw [lbeq, decide_eq_true e]
            have hst' : pfold c (L.take (k + 1)) = (A ++ [c], true, true) := by rw [hst]; simp only [pstep, eg]; simp [e]
            have HST := Keep.mk hst'
            clear hst hst' e eg
            go_wp2_with fail
            go_quiet (fail)
            go_wp2_with (at_builtin; refine at_append_row encC 4 40 rfl (.tmp 33) (.tmp 35) 39 rfl 36 i3 _ Try.underlying39 hi hz0 hz1 hz2 rfl (by decide) u5 _ c Fo rfl (Asrt.drewN (Asrt.alloc hrow _) _) ⟨wr.heap.size, 0, none⟩ 1 rfl rfl (cells_new wr (encC c) _) (hone_c c) ?h63 ?hby ?next)
            case h63 => unfold maxLen; first | omega | (simp; omega)
            case hby => first | omega | (simp; omega)
            case next =>
              intro v' w4 F4 hr4 hu4
              obtain ⟨F5, h5, u5'⟩ := hgo w4 F4 _ hr4 ((((Upd.refl Fo wr).alloc _).drewN _).trans hu4)
              have hU5 := hU.trans u5'
              have y0 : w4.cell? ⟨b, 0, none⟩ = some (.slice (some ⟨g, off, none⟩) L.length ca) := (hU5.cell hlt id).trans hc0
              obtain ⟨c0, c1, c2, c3⟩ := CX.out
              have z0 := (hU5.cell (a := ⟨g, off + k * 4, none⟩) hg id).trans c0
              have z1 := (hU5.cell (a := ⟨g, off + k * 4 + 1, none⟩) hg id).trans c1
              have z2 := (hU5.cell (a := ⟨g, off + k * 4 + 2, none⟩) hg id).trans c2
              have z3 := (hU5.cell (a := ⟨g, off + k * 4 + 3, none⟩) hg id).trans c3
              obtain ⟨_, ⟨hB5, _⟩, _⟩ := Asrt.stars_get h5 1 rfl
              obtain ⟨hBc5, _, hBl5⟩ := blk_facts hB5
              have hg4 : g < w4.heap.size := Nat.lt_of_lt_of_le hg hU5.size
              have hb4 : b < w4.heap.size := Nat.lt_of_lt_of_le hlt hU5.size
              clear c0 c1 c2 c3 hB5
              go_wp2_with fail
              go_quiet (fail)
              go_wp2_with fail
              exact ⟨⟨k + 1, A ++ [c], true, true, F5, by omega, by go_num, rfl, rfl, HST.out.symm, Asrt.drewN h5 _, hU5.drewN _⟩, by simp [intOf]; omega⟩
          · have e1 : (x.t.toList == c.t.toList) = false := by rw [lbeq, decide_eq_false e]
            have hst' : pfold c (L.take (k + 1)) = (A ++ [c] ++ [x], true, T) := by rw [hst]; simp only [pstep, eg]; simp [e]
            have HST := Keep.mk hst'
            clear hst hst' e eg
            go_wp2_with fail
            go_quiet (fail)
            go_wp2_with (at_builtin; refine at_append_row encC 4 40 rfl (.tmp 33) (.tmp 35) 39 rfl 36 i3 _ Try.underlying39 hi hz0 hz1 hz2 rfl (by decide) u5 _ c Fo rfl (Asrt.drewN (Asrt.alloc hrow _) _) ⟨wr.heap.size, 0, none⟩ 1 rfl rfl (cells_new wr (encC c) _) (hone_c c) ?h63 ?hby ?next)
            case h63 => unfold maxLen; first | omega | (simp; omega)
            case hby => first | omega | (simp; omega)
            case next =>
              intro v' w4 F4 hr4 hu4
              obtain ⟨F5, h5, u5'⟩ := hgo w4 F4 _ hr4 ((((Upd.refl Fo wr).alloc _).drewN _).trans hu4)
              have hU5 := hU.trans u5'
              have y0 : w4.cell? ⟨b, 0, none⟩ = some (.slice (some ⟨g, off, none⟩) L.length ca) := (hU5.cell hlt id).trans hc0
              obtain ⟨c0, c1, c2, c3⟩ := CX.out
              have z0 := (hU5.cell (a := ⟨g, off + k * 4, none⟩) hg id).trans c0
              have z1 := (hU5.cell (a := ⟨g, off + k * 4 + 1, none⟩) hg id).trans c1
              have z2 := (hU5.cell (a := ⟨g, off + k * 4 + 2, none⟩) hg id).trans c2
              have z3 := (hU5.cell (a := ⟨g, off + k * 4 + 3, none⟩) hg id).trans c3
              obtain ⟨_, ⟨hB5, _⟩, _⟩ := Asrt.stars_get h5 1 rfl
              obtain ⟨hBc5, _, hBl5⟩ := blk_facts hB5
              have hg4 : g < w4.heap.size := Nat.lt_of_lt_of_le hg hU5.size
              have hb4 : b < w4.heap.size := Nat.lt_of_lt_of_le hlt hU5.size
              clear c0 c1 c2 c3 hB5
              obtain ⟨Fq, hrow5, _, hgo5⟩ := Asrt.stars_upd _ 0 _ rfl h5
              have hl5 : (A ++ [c]).length ≤ 2 * L.length + 1 := by simp; omega
              generalize A ++ [c] = A5 at *
              go_wp2_with fail
              go_quiet (fail)
              go_wp2_with (at_builtin; refine at_append_row encC 4 40 rfl (.tmp 48) (.tmp 56) 39 rfl 36 i3 _ Try.underlying39 hi hz0 hz1 hz2 rfl (by decide) v' _ x Fq rfl (Asrt.drewN (Asrt.alloc hrow5 _) _) ⟨w4.heap.size, 0, none⟩ 1 rfl rfl (cells_new w4 (encC x) _) (hone_c x) ?qh63 ?qhby ?qnext)
              case qh63 => unfold maxLen; first | omega | (simp; omega)
              case qhby => first | omega | (simp; omega)
              case qnext =>
                intro v6 w6 F6 hr6 hu6
                obtain ⟨F7, h7, u7⟩ := hgo5 w6 F6 _ hr6 ((((Upd.refl Fq w4).alloc _).drewN _).trans hu6)
                go_wp2_with fail
                exact ⟨⟨k + 1, A5 ++ [x], true, T, F7, by omega, by go_num, rfl, rfl, HST.out.symm, h7, hU5.trans u7⟩, by simp [intOf]; omega⟩
        · have eg1 : Op.bytesLess x.t.toList c.t.toList = true := by simpa [geB] using eg
          have e : ¬ x.t = c.t := fun h => by
            rw [h, bl_irrefl] at eg1
            cases eg1
          have e1 : (x.t.toList == c.t.toList) = false := by rw [lbeq, decide_eq_false e]
          have hst' : pfold c (L.take (k + 1)) = (A ++ [x], false, T) := by rw [hst]; simp only [pstep, Bool.not_eq_true _ ▸ eg]; simp [e]
          have HST := Keep.mk hst'
          clear hst hst' e eg
          go_wp2_with fail
          go_quiet (fail)
          go_wp2_with fail
          go_quiet (fail)
          go_wp2_with (at_builtin; refine at_append_row encC 4 40 rfl (.tmp 48) (.tmp 56) 39 rfl 36 i3 _ Try.underlying39 hi hz0 hz1 hz2 rfl (by decide) u5 _ x Fo rfl (Asrt.drewN (Asrt.alloc hrow _) _) ⟨wr.heap.size, 0, none⟩ 1 rfl rfl (cells_new wr (encC x) _) (hone_c x) ?h63 ?hby ?next)
          case h63 => unfold maxLen; first | omega | (simp; omega)
          case hby => first | omega | (simp; omega)
          case next =>
            intro v' w4 F4 hr4 hu4
            obtain ⟨F5, h5, u5'⟩ := hgo w4 F4 _ hr4 ((((Upd.refl Fo wr).alloc _).drewN _).trans hu4)
            go_wp2_with fail
            exact ⟨⟨k + 1, A ++ [x], false, T, F5, by omega, by go_num, rfl, rfl, HST.out.symm, h5, hU.trans u5'⟩, by simp [intOf]; omega⟩
    · have hkk : k = L.length := by omega
      subst hkk
      rw [List.take_length] at hA
      obtain ⟨_, ⟨hB, _⟩, _⟩ := Asrt.stars_get hSt 1 rfl
      obtain ⟨hBc, _, hBl⟩ := blk_facts hB
      obtain ⟨Fo, hrow, hsub, hgo⟩ := Asrt.stars_upd _ 0 _ rfl hSt
      have hbr : b < wr.heap.size := Nat.lt_of_lt_of_le hlt hU.size
      have hfb : wr.frozen? ⟨b, 0, none⟩ = false := (hU.frozen hlt id).trans (hf 0)
      -- how it ends: the new row is the meter's
      have fin : ∀ (wq : World) (vq : Value) (X : List Cnt) (Fq : Fp), (row 36 4 encC vq X).on wq Fq → Upd none' Fq w wq →
          ∃ F', (refT b X).on (wq.setCell ⟨b, 0, none⟩ vq) F' ∧ Upd F F' w (wq.setCell ⟨b, 0, none⟩ vq) := by
        intro wq vq X Fq hq huq
        obtain ⟨v0, hS0⟩ := hM0
        obtain ⟨Fb, hb0, hsb, _⟩ := Asrt.stars_upd _ 0 _ rfl hS0
        have hb1 := (Asrt.blk b _).frame hb0 huq fun _ _ h => h
        have hFb : Fb = fun k => k = b := hb0.2
        have nb : ∀ k, Fq k → k ≠ b := fun k hk e => by
          have := (huq.fp k hk).resolve_left id
          omega
        have hb2 : (wq.setCell ⟨b, 0, none⟩ vq).obj b = some (.cells #[vq] 42 (0, 0)) := obj_setCell_at hb1.1 0 vq
        have hq2 := Asrt.setCell hq (a := ⟨b, 0, none⟩) (fun h => nb b h rfl) vq
        refine ⟨fun k => k = b ∨ Fq k, ⟨vq, ⟨_, _, ⟨hb2, rfl⟩, Asrt.stars_one hq2, fun k e h => nb k h e, rfl⟩⟩, ?_⟩
        have hFbF : F b := hsb b (by rw [hFb])
        exact ((huq.weaken (G := F) (F'' := Fq) (fun _ h => h.elim) fun k hk => .inr (.inl hk)).setCell (a := ⟨b, 0, none⟩) (.inl hFbF) vq).re fun k hk => by
          rcases hk with rfl | hk
          · exact .inl hFbF
          · exact .inr ((huq.fp k hk).resolve_left id)
      have FIN := Keep.mk fin
      obtain ⟨ao, co, rfl⟩ := (row_at hrow).slice
      have HA := Keep.mk hA
      have hUs : Upd F F w wr := (hU.weaken (F'' := none') (fun _ h => h.elim) fun _ h => h.elim).re fun _ h => .inl h
      have HM := Keep.mk ((refT b L).frame hM0 hU fun _ _ h => h)
      have hUF : Upd none' Fo w wr := hU.re fun k h => hU.fp k (hsub k h)
      clear hA hB fin
      cases D with
      | true =>
        cases T with
        | true =>
          have ep : rput L c = (A, 0) := by simp [rput, ← HA.out]
          have EP := Keep.mk ep
          clear ep
          go_wp2_with fail
          go_returns
          rw [EP.out]
          exact ⟨rfl, FIN.out _ _ _ _ hrow hUF⟩
        | false => 
          by_cases h64 : 64 ≤ L.length
          · have ep : rput L c = (L, 2) := by simp [rput, ← HA.out, h64]
            have EP := Keep.mk ep
            have e6 : decide ((64 : Int) ≤ (L.length : Int)) = true := by simp; omega
            clear ep
            go_wp2_with fail
            go_returns
            rw [EP.out]
            exact ⟨rfl, _, HM.out, hUs⟩
          · have ep : rput L c = (A, 0) := by simp [rput, ← HA.out, h64]
            have EP := Keep.mk ep
            have e6 : decide ((64 : Int) ≤ (L.length : Int)) = false := by simp; omega
            clear ep
            go_wp2_with fail
            go_returns
            rw [EP.out]
            exact ⟨rfl, FIN.out _ _ _ _ hrow hUF⟩
      | false => 
        by_cases h64 : T = false ∧ 64 ≤ L.length
        · obtain ⟨rfl, h64⟩ := h64
          have ep : rput L c = (L, 2) := by simp [rput, ← HA.out, h64]
          have EP := Keep.mk ep
          have e6 : decide ((64 : Int) ≤ (L.length : Int)) = true := by simp; omega
          clear ep
          go_wp2_with fail
          go_returns
          rw [EP.out]
          exact ⟨rfl, _, HM.out, hUs⟩
        · have ep : rput L c = (A ++ [c], 0) := by simp only [rput, ← HA.out, if_neg h64]; rfl
          have EP := Keep.mk ep
          have e6 : T = true ∨ decide ((64 : Int) ≤ (L.length : Int)) = false := by
            cases T
            · simp at h64; right; simp; omega
            · exact .inl rfl
          clear ep h64
          rcases e6 with rfl | e6
          · go_wp2_with (at_builtin; refine at_append_row encC 4 40 rfl (.tmp 70) (.tmp 72) 39 rfl 36 i3 _ Try.underlying39 hi hz0 hz1 hz2 rfl (by decide) _ _ c Fo rfl (Asrt.alloc hrow _) ⟨wr.heap.size, 0, none⟩ 1 rfl rfl (cells_new wr (encC c) _) (hone_c c) ?h63 ?hby ?next)
            case h63 => unfold maxLen; first | omega | (simp; omega)
            case hby => first | omega | (simp; omega)
            case next =>
              intro v' w4 F4 hr4 hu4
              obtain ⟨ao', co', rfl⟩ := (row_at hr4).slice
              rw [List.length_append] at hr4
              have hb4 : w4.cell? ⟨b, 0, none⟩ = some (.slice a L.length ca) := ((hUF.alloc _).trans hu4).cell hlt id |>.trans hc0
              have hl4 : b < w4.heap.size := Nat.lt_of_lt_of_le hlt ((hUF.alloc (.cells c.cells 36)).trans hu4).size
              have hf4 : w4.frozen? ⟨b, 0, none⟩ = false := (((hUF.alloc _).trans hu4).frozen hlt id).trans (hf 0)
              go_wp2_with fail
              go_returns
              rw [EP.out]
              exact ⟨rfl, FIN.out _ _ _ _ hr4 ((hUF.alloc _).trans hu4)⟩
          · cases T
            · go_wp2_with (at_builtin; refine at_append_row encC 4 40 rfl (.tmp 70) (.tmp 72) 39 rfl 36 i3 _ Try.underlying39 hi hz0 hz1 hz2 rfl (by decide) _ _ c Fo rfl (Asrt.alloc hrow _) ⟨wr.heap.size, 0, none⟩ 1 rfl rfl (cells_new wr (encC c) _) (hone_c c) ?h63 ?hby ?next)
              case h63 => unfold maxLen; first | omega | (simp; omega)
              case hby => first | omega | (simp; omega)
              case next =>
                intro v' w4 F4 hr4 hu4
                obtain ⟨ao', co', rfl⟩ := (row_at hr4).slice
                rw [List.length_append] at hr4
                have hb4 : w4.cell? ⟨b, 0, none⟩ = some (.slice a L.length ca) := ((hUF.alloc _).trans hu4).cell hlt id |>.trans hc0
                have hl4 : b < w4.heap.size := Nat.lt_of_lt_of_le hlt ((hUF.alloc (.cells c.cells 36)).trans hu4).size
                have hf4 : w4.frozen? ⟨b, 0, none⟩ = false := (((hUF.alloc _).trans hu4).frozen hlt id).trans (hf 0)
                go_wp2_with fail
                go_returns
                rw [EP.out]
                exact ⟨rfl, FIN.out _ _ _ _ hr4 ((hUF.alloc _).trans hu4)⟩
            · go_wp2_with (at_builtin; refine at_append_row encC 4 40 rfl (.tmp 70) (.tmp 72) 39 rfl 36 i3 _ Try.underlying39 hi hz0 hz1 hz2 rfl (by decide) _ _ c Fo rfl (Asrt.alloc hrow _) ⟨wr.heap.size, 0, none⟩ 1 rfl rfl (cells_new wr (encC c) _) (hone_c c) ?h63 ?hby ?next)
              case h63 => unfold maxLen; first | omega | (simp; omega)
              case hby => first | omega | (simp; omega)
              case next =>
                intro v' w4 F4 hr4 hu4
                obtain ⟨ao', co', rfl⟩ := (row_at hr4).slice
                rw [List.length_append] at hr4
                have hb4 : w4.cell? ⟨b, 0, none⟩ = some (.slice a L.length ca) := ((hUF.alloc _).trans hu4).cell hlt id |>.trans hc0
                have hl4 : b < w4.heap.size := Nat.lt_of_lt_of_le hlt ((hUF.alloc (.cells c.cells 36)).trans hu4).size
                have hf4 : w4.frozen? ⟨b, 0, none⟩ = false := (((hUF.alloc _).trans hu4).frozen hlt id).trans (hf 0)
                go_wp2_with fail
                go_returns
                rw [EP.out]
                exact ⟨rfl, FIN.out _ _ _ _ hr4 ((hUF.alloc _).trans hu4)⟩
end Go.Proofs.Ytglfkkaldeblhaa
