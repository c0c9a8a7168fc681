/- The document's table of pairs: what its calls do. -/
import Derived.Test.YtnjdhijngioljaaPairK
import Derived.Test.YtnjdhijngioljaaPairD
namespace Go.Proofs.Ytnjdhijngioljaa
open Go.RowKit Go.Sub Go.ChangeMaps
structure RTab where
  l : List (Int × Int)
  ever : List Int
def refT (b : Nat) (R : RTab) : Asrt := .ex fun v : Value × Value => .stars [.blk b (.cells #[v.1, v.2] 40 (0, 0)), row 43 2 encP v.1 R.l, row 3 1 encI1 v.2 R.ever]
theorem info3 : (Try.prog.info? 3).map (fun i => (i.zero, i.size, i.bytes)) = some (some (.int .i64 0), 1, 8) := by kernel_rfl
theorem refT_open {b : Nat} {R : RTab} {w : World} {F : Fp} (h : (refT b R).on w F) : ∃ v1 v2, w.obj b = some (.cells #[v1, v2] 40 (0, 0)) ∧ Reads w 2 encP v1 R.l ∧ Reads w 1 encI1 v2 R.ever := by
  obtain ⟨⟨v1, v2⟩, F1, F2, ⟨h1, _⟩, ⟨F3, F4, h3, ⟨F5, F6, h5, _⟩, _⟩, _⟩ := h
  exact ⟨v1, v2, h1, (row_reads (enc := encP) (fun _ => rfl) h3).1, (row_reads (enc := encI1) (fun _ => rfl) h5).1⟩
def RTab.was (R : RTab) (id : Int) : Bool := decide (id ∈ R.ever)
def rfind : List (Int × Int) → Int → Int × Bool
  | [], _ => (0, false)
  | p :: r, id => if p.1 = id then (p.2, true) else if p.2 = id then (p.1, true) else rfind r id
set_option maxHeartbeats 400000 in
theorem rnew_c (w : World) : Calls Try.prog 11 #[] w fun e w' => ∃ b, Ret (.pointer (some ⟨b, 0, none⟩)) (fun w' => ∃ F, (refT b ⟨[], []⟩).on w' F ∧ Upd none' F w w') e w' := by
  go_enter Try.func11, Try.ntmps11
  go_wp2_with fail
  go_ret
  refine ⟨_, rfl, fun k => k = w.heap.size, ?_, ((Upd.refl none' w).alloc _).re fun k hk => .inr (by rw [hk]; exact Nat.le_refl _)⟩
  refine ⟨(.slice none 0 0, .slice none 0 0), fun k => k = w.heap.size, none', ⟨obj_alloc_at rfl, rfl⟩, ?_, fun _ _ h => h, by funext k; simp [none']⟩
  exact Asrt.stars_emp (row_nil _ _ _ _) (Asrt.stars_one (row_nil _ _ _ _))
set_option maxHeartbeats 400000 in
theorem rwas_c {b : Nat} {R : RTab} {w : World} {F : Fp} (hR : (refT b R).on w F) (id : Int) (hk : R.ever.length ≤ 1000000) :
    Calls Try.prog 19 #[.pointer (some ⟨b, 0, none⟩), .int .i64 id] w (Ret (.bool (R.was id)) fun w' => w = w') := by
  obtain ⟨v1, v2, hb, _, a, ca, rfl, ha⟩ := refT_open hR
  obtain ⟨hc, hf, hlt⟩ := blk_facts hb
  clear hb hR
  go_enter Try.func19, Try.ntmps19
  go_wp2_with fail
  go_loop [5] (fun i => ∃ k : Nat, k ≤ R.ever.length ∧ i = .int .i64 k ∧ id ∉ R.ever.take k) (fun i => R.ever.length - (intOf i).toNat)
  case atStart => exact ⟨0, by omega, rfl, by simp⟩
  case round =>
    obtain ⟨k, hk1, rfl, hn⟩ := hrel
    have HN := Keep.mk hn
    clear hn
    by_cases hlt : k < R.ever.length
    · obtain ⟨g1, o1, rfl, hg1, hc1⟩ := ha k R.ever[k] (List.getElem?_eq_getElem hlt)
      have c10 : w.cell? ⟨g1, o1 + k, none⟩ = some (.int .i64 R.ever[k]) := by simpa using hc1 0 _ rfl
      generalize hx : R.ever[k] = x at *
      have HX := Keep.mk hx
      clear hx ha hc1
      by_cases he : x = id
      · have hw : R.was id = true := by
          subst he
          simp [RTab.was, ← HX.out]
        have HW := Keep.mk hw
        subst he
        clear hw
        go_wp2_with fail
        go_ret
        exact ⟨by rw [HW.out]; rfl, rfl⟩
      · have e1 : (x == id) = false := by simp [he]
        go_wp2_with fail
        go_round
        case rel =>
          refine ⟨k + 1, by omega, by go_num, ?_⟩
          rw [List.take_add_one, List.getElem?_eq_getElem hlt, HX.out]
          simp only [Option.toList_some, List.mem_append, List.mem_singleton, not_or]
          exact ⟨HN.out, fun h => he h.symm⟩
        case measure => simp [intOf]; omega
    · have hw : R.was id = false := by
        have hk' : k = R.ever.length := by omega
        subst hk'
        simpa [RTab.was] using HN.out
      have HW := Keep.mk hw
      clear hw
      go_wp2_with fail
      go_ret
      exact ⟨by rw [HW.out]; rfl, rfl⟩
set_option maxHeartbeats 1000000 in
theorem rother_c {b : Nat} {R : RTab} {w : World} {F : Fp} (hR : (refT b R).on w F) (id : Int) (hk : R.l.length ≤ 1000000) :
    Calls Try.prog 17 #[.pointer (some ⟨b, 0, none⟩), .int .i64 id] w (Ret (.tuple #[.int .i64 (rfind R.l id).1, .bool (rfind R.l id).2]) fun w' => w = w') := by
  obtain ⟨v1, v2, hb, ⟨a, ca, rfl, ha⟩, _⟩ := refT_open hR
  obtain ⟨hc, hf, hlt⟩ := blk_facts hb
  clear hb hR
  go_enter Try.func17, Try.ntmps17
  go_wp2_with fail
  go_loop [6] (fun i => ∃ k : Nat, k ≤ R.l.length ∧ i = .int .i64 k ∧ rfind R.l id = rfind (R.l.drop k) id) (fun i => R.l.length - (intOf i).toNat)
  case atStart => exact ⟨0, by omega, rfl, rfl⟩
  case round =>
    obtain ⟨k, hk1, rfl, hn⟩ := hrel
    by_cases hlt : k < R.l.length
    · obtain ⟨g1, o1, rfl, hg1, hc1⟩ := ha k R.l[k] (List.getElem?_eq_getElem hlt)
      have c10 : w.cell? ⟨g1, o1 + k * 2, none⟩ = some (.int .i64 R.l[k].1) := hc1 0 _ rfl
      have c11 : w.cell? ⟨g1, o1 + k * 2 + 1, none⟩ = some (.int .i64 R.l[k].2) := hc1 1 _ rfl
      rw [List.drop_eq_getElem_cons hlt] at hn
      generalize R.l[k] = x at *
      obtain ⟨x1, x2⟩ := x
      simp only [rfind] at hn
      clear ha hc1
      by_cases h1 : x1 = id
      · subst h1
        simp only [if_true] at hn
        have HN := Keep.mk hn
        clear hn
        go_wp2_with fail
        go_ret2
        exact ⟨by rw [HN.out]; rfl, rfl⟩
      · have e1 : (x1 == id) = false := by simp [h1]
        rw [if_neg h1] at hn
        by_cases h2 : x2 = id
        · subst h2
          simp only [if_true] at hn
          have HN := Keep.mk hn
          clear hn
          go_wp2_with fail
          go_ret2
          exact ⟨by rw [HN.out]; rfl, rfl⟩
        · have e2 : (x2 == id) = false := by simp [h2]
          rw [if_neg h2] at hn
          have HN := Keep.mk hn
          clear hn
          go_wp2_with fail
          go_round
          case rel => exact ⟨k + 1, by omega, by go_num, HN.out⟩
          case measure => simp [intOf]; omega
    · rw [List.drop_of_length_le (by omega)] at hn
      have HN := Keep.mk hn
      clear hn
      go_wp2_with fail
      go_ret2
      exact ⟨by rw [HN.out]; rfl, rfl⟩
theorem filter_step (M : List (Int × Int)) (f : Int × Int → Bool) (j : Nat) (h : j < M.length) : (M.take (j + 1)).filter f = (M.take j).filter f ++ (if f M[j] = true then [M[j]] else []) := by
  rw [List.take_add_one, List.getElem?_eq_getElem h, List.filter_append]
  congr 1
  simp [List.filter_cons]
/-- the block of the table holds another row now -/
theorem refT_put {b : Nat} {R : RTab} {w w1 : World} {F Fo : Fp} {v1 v2 vo : Value} {O : List (Int × Int)}
    (hS : (Asrt.stars [.blk b (.cells #[v1, v2] 40 (0, 0)), row 43 2 encP v1 R.l, row 3 1 encI1 v2 R.ever]).on w F) (hO : (row 43 2 encP vo O).on w1 Fo) (hU : Upd none' Fo w w1) :
    ∃ F', (Asrt.stars [.blk b (.cells #[vo, v2] 40 (0, 0)), row 43 2 encP vo O, row 3 1 encI1 v2 R.ever]).on (w1.setCell ⟨b, 0, none⟩ vo) F' ∧ Upd F F' w (w1.setCell ⟨b, 0, none⟩ vo) := by
  obtain ⟨F1, h1, u1⟩ := Asrt.stars_new hS hO hU
  obtain ⟨Fb, hb, hsub, hgo⟩ := Asrt.stars_upd _ 1 _ rfl h1
  obtain ⟨hob, rfl⟩ := hb
  obtain ⟨F2, h2, u2⟩ := hgo (w1.setCell ⟨b, 0, none⟩ vo) (fun k => k = b) (.blk b (.cells #[vo, v2] 40 (0, 0))) ⟨obj_setCell_at hob 0 vo, rfl⟩ ((Upd.refl (fun k => k = b) w1).setCell (a := ⟨b, 0, none⟩) (.inl rfl) _)
  have h3 := Asrt.stars_perm (List.Perm.trans (List.Perm.cons _ (List.Perm.swap ..)) (List.Perm.trans (List.Perm.swap ..) (List.Perm.cons _ (List.Perm.swap ..)))) h2
  obtain ⟨F3, h4, hs⟩ := Asrt.stars_drop h3
  exact ⟨F3, h4, (u1.trans u2).re fun k hk => (u1.trans u2).fp k (hs k hk)⟩
theorem info43' : (Try.prog.info? 43).map (fun i => (i.zero, i.size, i.bytes)) = some (some (.agg #[.int .i64 0, .int .i64 0]), 2, 16) := by kernel_rfl
set_option maxHeartbeats 1000000 in
theorem rpart_c {b : Nat} {R : RTab} {w : World} {F : Fp} (hR : (refT b R).on w F) (id : Int) (hk : R.l.length ≤ 1000000) :
    Calls Try.prog 13 #[.pointer (some ⟨b, 0, none⟩), .int .i64 id] w (Ret (.tuple #[.int .i64 (rfind R.l id).1, .bool (rfind R.l id).2]) fun w' => ∃ F', (refT b ⟨R.l.filter (fun p => p.1 != id && p.2 != id), R.ever⟩).on w' F' ∧ Upd F F' w w') := by
  have ho := rother_c hR id hk
  obtain ⟨⟨v1, v2⟩, hS⟩ := hR
  obtain ⟨i43, hi, hz0, hz1, hz2⟩ := info_parts info43'
  obtain ⟨Fb, ⟨hb, _⟩, _⟩ := Asrt.stars_get hS 0 rfl
  obtain ⟨Fl, hl, _⟩ := Asrt.stars_get hS 1 rfl
  simp only at hb hl
  obtain ⟨a, ca, rfl, ha⟩ := (row_reads (enc := encP) (fun _ => rfl) hl).1
  obtain ⟨hc, hf, hbl⟩ := blk_facts hb
  generalize (rfind R.l id).1 = r1 at *
  generalize (rfind R.l id).2 = r2 at *
  clear hl hb
  go_enter Try.func13, Try.ntmps13
  go_wp2_with fail
  refine ho.mono ?_
  rintro e w1 ⟨rfl, rfl⟩
  clear ho
  go_wp2_with fail
  go_loopw [8, 9] (fun v i wr => ∃ (j : Nat) (Fo : Fp), j ≤ R.l.length ∧ i = .int .i64 j ∧ (row 43 2 encP v ((R.l.take j).filter (fun p => p.1 != id && p.2 != id))).on wr Fo ∧ Upd none' Fo w wr) (fun _ i _ => R.l.length - (intOf i).toNat)
  case atStart => exact ⟨0, none', by omega, rfl, by simpa using row_nil w 43 2 encP, Upd.refl _ _⟩
  case round =>
    obtain ⟨j, Fo, hj, rfl, hrow, hU⟩ := hrel
    have hcr : ∀ i, wr.cell? ⟨b, i, none⟩ = #[Value.slice a R.l.length ca, v2][i]? := fun i => by rw [hU.cell hbl (fun h => h)]; exact hc i
    have hbr : b < wr.heap.size := Nat.lt_of_lt_of_le hbl hU.size
    by_cases hj2 : j < R.l.length
    · obtain ⟨g, off, rfl, hg, hcell⟩ := ha j R.l[j] (List.getElem?_eq_getElem hj2)
      have k0 : wr.cell? ⟨g, off + j * 2, none⟩ = some (.int .i64 R.l[j].1) := by rw [hU.cell hg (fun h => h)]; exact hcell 0 _ rfl
      have k1 : wr.cell? ⟨g, off + j * 2 + 1, none⟩ = some (.int .i64 R.l[j].2) := by rw [hU.cell hg (fun h => h)]; exact hcell 1 _ rfl
      have hstep := filter_step R.l (fun p => p.1 != id && p.2 != id) j hj2
      have hsz : ((R.l.take j).filter (fun p => p.1 != id && p.2 != id)).length ≤ 1000000 := by
        have h1 := List.length_filter_le (fun p : Int × Int => p.1 != id && p.2 != id) (R.l.take j)
        have h2 : (R.l.take j).length ≤ j := List.length_take_le _ _
        omega
      generalize R.l[j] = p at *
      obtain ⟨p1, p2⟩ := p
      have HS := Keep.mk hstep
      clear hstep hcell ha hc
      generalize e1 : (p1 != id) = b1 at HS
      generalize e2 : (p2 != id) = b2 at HS
      cases b1
      · go_wp2_with fail
        go_roundw
        case rel =>
          have hs := HS.out
          simp at hs
          exact ⟨j + 1, Fo, by omega, by go_num, by rw [hs]; exact hrow, hU⟩
        case measure => simp [intOf]; omega
      · cases b2
        · go_wp2_with fail
          go_roundw
          case rel =>
            have hs := HS.out
            simp at hs
            exact ⟨j + 1, Fo, by omega, by go_num, by rw [hs]; exact hrow, hU⟩
          case measure => simp [intOf]; omega
        · go_wp2_with (at_builtin; refine at_append_row encP 2 16 rfl (.tmp 47) (.tmp 55) 36 rfl 43 i43 _ Try.underlying36 hi hz0 hz1 hz2 rfl (by decide) u8 _ (p1, p2) Fo rfl (Asrt.alloc hrow _) ⟨wr.heap.size, 0, none⟩ 1 rfl rfl (cells_new wr (encP (p1, p2)) _) ?hone ?h63 ?hby ?next)
          case hone => exact ⟨rfl, rfl⟩
          case h63 => unfold maxLen; omega
          case hby => omega
          case next =>
            intro v' w6 Fo' hrow' hU'
            go_wp2_with fail
            go_roundw
            case rel =>
              have hs := HS.out
              simp at hs
              exact ⟨j + 1, Fo', by omega, by go_num, by rw [hs]; exact hrow', (hU.trans ((Upd.refl _ _).alloc _)).trans hU'⟩
            case measure => simp [intOf]; omega
    · rw [List.take_of_length_le (by omega)] at hrow
      obtain ⟨aO, cO, rfl, _⟩ := (row_reads (enc := encP) (fun _ => rfl) hrow).1
      have hfr : wr.frozen? ⟨b, 0, none⟩ = false := by rw [hU.frozen hbl (fun h => h)]; exact hf 0
      obtain ⟨F', hS', hU'⟩ := refT_put hS hrow hU
      go_wp2_with fail
      go_ret2
      exact ⟨rfl, F', ⟨(_, _), hS'⟩, hU'⟩
def rins : List (Int × Int) → Int × Int → List (Int × Int)
  | [], p => [p]
  | x :: r, p => if p.1 < x.1 then p :: x :: r else x :: rins r p
def RTab.join (R : RTab) (v c : Int) : RTab × Int :=
  if v < 1 ∨ c < 1 ∨ v = c then (R, 1) else
  if R.was v = true ∨ R.was c = true then (R, 4) else
  (⟨rins R.l (v, c), R.ever ++ [v, c]⟩, 0)
set_option maxHeartbeats 1000000 in
theorem rjoin_bad {b : Nat} {w : World} (v c : Int) (h : v < 1 ∨ c < 1 ∨ v = c) :
    Calls Try.prog 15 #[.pointer (some ⟨b, 0, none⟩), .int .i64 v, .int .i64 c] w (Ret (.int .i64 1) fun w' => w = w') := by
  by_cases h1 : v < 1
  · have e1 : decide (v < 1) = true := by simp [h1]
    go_enter Try.func15, Try.ntmps15
    go_wp2_with fail
    go_ret
    exact ⟨rfl, rfl⟩
  · have e1 : decide (v < 1) = false := by simp [h1]
    by_cases h2 : c < 1
    · have e2 : decide (c < 1) = true := by simp [h2]
      go_enter Try.func15, Try.ntmps15
      go_wp2_with fail
      go_ret
      exact ⟨rfl, rfl⟩
    · have e2 : decide (c < 1) = false := by simp [h2]
      have e3 : (v == c) = true := by simp; omega
      clear h
      go_enter Try.func15, Try.ntmps15
      go_wp2_with fail
      go_ret
      exact ⟨rfl, rfl⟩
set_option maxHeartbeats 1000000 in
theorem rjoin_there {b : Nat} {R : RTab} {w : World} {F : Fp} (hR : (refT b R).on w F) (hk : R.ever.length ≤ 1000000) (v c : Int) (hv : 1 ≤ v) (hc : 1 ≤ c) (hvc : v ≠ c) (h : R.was v = true ∨ R.was c = true) :
    Calls Try.prog 15 #[.pointer (some ⟨b, 0, none⟩), .int .i64 v, .int .i64 c] w (Ret (.int .i64 4) fun w' => w = w') := by
  have e1 : decide (v < 1) = false := by simp; omega
  have e2 : decide (c < 1) = false := by simp; omega
  have e3 : (v == c) = false := by simp [hvc]
  have hwv := rwas_c hR v hk
  have hwc := rwas_c hR c hk
  by_cases h1 : R.was v = true
  · rw [h1] at hwv
    clear h h1 hwc hvc
    go_enter Try.func15, Try.ntmps15
    go_wp2_with fail
    refine hwv.mono ?_
    rintro e w1 ⟨rfl, rfl⟩
    go_wp2_with fail
    go_ret
    exact ⟨rfl, rfl⟩
  · have h2 : R.was c = true := h.resolve_left h1
    have h1' : R.was v = false := by simpa using h1
    rw [h1'] at hwv
    rw [h2] at hwc
    clear h h1 h2 h1' hvc
    go_enter Try.func15, Try.ntmps15
    go_wp2_with fail
    refine hwv.mono ?_
    rintro e w1 ⟨rfl, rfl⟩
    go_wp2_with fail
    refine hwc.mono ?_
    rintro e w1 ⟨rfl, rfl⟩
    go_wp2_with fail
    go_ret
    exact ⟨rfl, rfl⟩
/-- the row of all that were ever paired is longer, and the block of the table holds it -/
theorem refT_ever {b : Nat} {w w1 : World} {F Fe' : Fp} {v1 v2 ve : Value} {L : List (Int × Int)} {E E' : List Int}
    (hS : (Asrt.stars [.blk b (.cells #[v1, v2] 40 (0, 0)), row 43 2 encP v1 L, row 3 1 encI1 v2 E]).on w F) :
    ∃ Fe, (row 3 1 encI1 v2 E).on w Fe ∧ ¬ Fe b ∧ ((row 3 1 encI1 ve E').on w1 Fe' → Upd Fe Fe' w w1 → ∃ F', (Asrt.stars [.blk b (.cells #[v1, ve] 40 (0, 0)), row 43 2 encP v1 L, row 3 1 encI1 ve E']).on (w1.setCell ⟨b, 1, none⟩ ve) F' ∧ Upd F F' w (w1.setCell ⟨b, 1, none⟩ ve)) := by
  have hS0 := hS
  obtain ⟨Fb, Fr, ⟨hob, rfl⟩, ⟨F3, F4, h3, ⟨F5, F6, h5, h6, d5, rfl⟩, d3, rfl⟩, d1, rfl⟩ := hS
  refine ⟨F5, h5, fun h => d1 b rfl (.inr (.inl h)), fun he hu => ?_⟩
  obtain ⟨Fe, _, _, hgo⟩ := Asrt.stars_upd _ 2 _ rfl hS0
  have hfe : Fe = F5 := by
    rename_i h7 _
    funext k
    rw [h7.2, h5.2]
  subst hfe
  obtain ⟨F7, h7, u7⟩ := hgo w1 Fe' _ he hu
  obtain ⟨Fb, hb, hsub, hgo2⟩ := Asrt.stars_upd _ 0 _ rfl h7
  obtain ⟨hob2, rfl⟩ := hb
  obtain ⟨F8, h8, u8⟩ := hgo2 (w1.setCell ⟨b, 1, none⟩ ve) (fun k => k = b) (.blk b (.cells #[v1, ve] 40 (0, 0))) ⟨obj_setCell_at hob2 1 ve, rfl⟩ ((Upd.refl (fun k => k = b) w1).setCell (a := ⟨b, 1, none⟩) (.inl rfl) _)
  exact ⟨F8, h8, u7.trans u8⟩
set_option maxHeartbeats 4000000 in
theorem rjoin_ok {b : Nat} {R : RTab} {w : World} {F : Fp} (hR : (refT b R).on w F) (hk : R.l.length ≤ 1000000) (hk2 : R.ever.length ≤ 1000000) (v c : Int) (hv : 1 ≤ v) (hc0 : 1 ≤ c) (hvc : v ≠ c) (wv : R.was v = false) (wc : R.was c = false) :
    Calls Try.prog 15 #[.pointer (some ⟨b, 0, none⟩), .int .i64 v, .int .i64 c] w (Ret (.int .i64 0) fun w' => ∃ F', (refT b ⟨rins R.l (v, c), R.ever ++ [v, c]⟩).on w' F' ∧ Upd F F' w w') := by
  have e1 : decide (v < 1) = false := by simp; omega
  have e2 : decide (c < 1) = false := by simp; omega
  have e3 : (v == c) = false := by simp [hvc]
  have hwv := rwas_c hR v hk2
  have hwc := rwas_c hR c hk2
  rw [wv] at hwv
  rw [wc] at hwc
  obtain ⟨⟨v1, v2⟩, hS⟩ := hR
  obtain ⟨i43, hi, hz0, hz1, hz2⟩ := info_parts info43'
  obtain ⟨i3, ji, jz0, jz1, jz2⟩ := info_parts info3
  obtain ⟨Fb, ⟨hb, _⟩, _⟩ := Asrt.stars_get hS 0 rfl
  obtain ⟨Fl, hl, _⟩ := Asrt.stars_get hS 1 rfl
  simp only at hb hl
  obtain ⟨a, ca, rfl, ha⟩ := (row_reads (enc := encP) (fun _ => rfl) hl).1
  obtain ⟨Fe, he, _⟩ := Asrt.stars_get hS 2 rfl
  simp only at he
  obtain ⟨ae, ce, rfl, _⟩ := (row_reads (enc := encI1) (fun _ => rfl) he).1
  obtain ⟨hc, hf, hbl⟩ := blk_facts hb
  clear hl hb he hvc wv wc
  go_enter Try.func15, Try.ntmps15
  go_wp2_with fail
  refine hwv.mono ?_
  rintro e w1 ⟨rfl, rfl⟩
  go_wp2_with fail
  refine hwc.mono ?_
  rintro e w1 ⟨rfl, rfl⟩
  clear hwv hwc
  go_wp2_with fail
  go_loopw [7, 8, 9] (fun o d i wr => ∃ (j : Nat) (O : List (Int × Int)) (dd : Bool) (Fo : Fp), j ≤ R.l.length ∧ i = .int .i64 j ∧ d = .bool dd ∧ (row 43 2 encP o O).on wr Fo ∧ Upd none' Fo w wr ∧ rins R.l (v, c) = O ++ (if dd = true then R.l.drop j else rins (R.l.drop j) (v, c)) ∧ O.length ≤ j + (if dd = true then 1 else 0)) (fun _ _ i _ => R.l.length - (intOf i).toNat)
  case atStart => exact ⟨0, [], false, none', by omega, rfl, rfl, row_nil w 43 2 encP, Upd.refl _ _, by simp, by simp⟩
  case round =>
    obtain ⟨j, O, dd, Fo, hj, rfl, rfl, hrow, hU, hins, hO⟩ := hrel
    have hcr : ∀ i, wr.cell? ⟨b, i, none⟩ = #[Value.slice a R.l.length ca, Value.slice ae R.ever.length ce][i]? := fun i => by rw [hU.cell hbl (fun h => h)]; exact hc i
    have hbr : b < wr.heap.size := Nat.lt_of_lt_of_le hbl hU.size
    by_cases hj2 : j < R.l.length
    · obtain ⟨g, off, rfl, hg, hcell⟩ := ha j R.l[j] (List.getElem?_eq_getElem hj2)
      have k0 : wr.cell? ⟨g, off + j * 2, none⟩ = some (.int .i64 R.l[j].1) := by rw [hU.cell hg (fun h => h)]; exact hcell 0 _ rfl
      have k1 : wr.cell? ⟨g, off + j * 2 + 1, none⟩ = some (.int .i64 R.l[j].2) := by rw [hU.cell hg (fun h => h)]; exact hcell 1 _ rfl
      have k0w : w.cell? ⟨g, off + j * 2, none⟩ = some (.int .i64 R.l[j].1) := hcell 0 _ rfl
      have k1w : w.cell? ⟨g, off + j * 2 + 1, none⟩ = some (.int .i64 R.l[j].2) := hcell 1 _ rfl
      have hgr : g < wr.heap.size := Nat.lt_of_lt_of_le hg hU.size
      have hn : ¬ Fo g := fun h => by have := hU.fp g h; rcases this with h | h; exact h; omega
      have hnb : ¬ Fo b := fun h => by have := hU.fp b h; rcases this with h | h; exact h; omega
      rw [List.drop_eq_getElem_cons hj2] at hins
      generalize R.l[j] = p at *
      obtain ⟨p1, p2⟩ := p
      cases dd
      · simp only [Bool.false_eq_true, if_false, rins] at hins hO
        by_cases hgt : v < p1
        · rw [if_pos hgt] at hins
          have e4 : decide (v < p1) = true := by simp [hgt]
          have HI := Keep.mk hins
          clear hins hcell ha hc
          go_wp2_with (at_builtin; refine at_append_row encP 2 16 rfl (.tmp 52) (.tmp 56) 36 rfl 43 i43 _ Try.underlying36 hi hz0 hz1 hz2 rfl (by decide) u7 O (v, c) Fo rfl (Asrt.alloc hrow _) ⟨wr.heap.size, 0, none⟩ 1 rfl rfl (cells_new wr (encP (v, c)) _) ?hone ?h63 ?hby ?next)
          case hone => exact ⟨rfl, rfl⟩
          case h63 => unfold maxLen; omega
          case hby => omega
          case next =>
            intro v' w6 Fo' hrow' hU'
            have hU6 := ((Upd.refl Fo wr).alloc _).trans hU'
            have hcr6 : ∀ i, w6.cell? ⟨b, i, none⟩ = #[Value.slice (some ⟨g, off, none⟩) R.l.length ca, Value.slice ae R.ever.length ce][i]? := fun i => by rw [hU6.cell hbr hnb]; exact hcr i
            have k06 : w6.cell? ⟨g, off + j * 2, none⟩ = some (.int .i64 p1) := by rw [hU6.cell hgr hn]; exact k0
            have k16 : w6.cell? ⟨g, off + j * 2 + 1, none⟩ = some (.int .i64 p2) := by rw [hU6.cell hgr hn]; exact k1
            go_wp2_with (at_builtin; refine at_append_row encP 2 16 rfl (.tmp 58) (.tmp 66) 36 rfl 43 i43 _ Try.underlying36 hi hz0 hz1 hz2 rfl (by decide) v' (O ++ [(v, c)]) (p1, p2) Fo' rfl (Asrt.alloc hrow' _) ⟨w6.heap.size, 0, none⟩ 1 rfl rfl (cells_new w6 (encP (p1, p2)) _) ?hone2 ?h632 ?hby2 ?next2)
            case hone2 => intro u hu; simp at hu; rcases hu with rfl | rfl <;> rfl
            case h632 => unfold maxLen; simp; omega
            case hby2 => simp; omega
            case next2 =>
              intro v'' w7 Fo'' hrow'' hU''
              go_wp2_with fail
              go_roundw
              case rel => exact ⟨j + 1, O ++ [(v, c), (p1, p2)], true, Fo'', by omega, by go_num, rfl, hrow'', (hU.trans hU6).trans (((Upd.refl Fo' w6).alloc _).trans hU''), by rw [HI.out]; simp, by simp; omega⟩
              case measure => simp [intOf]; omega
        · rw [if_neg hgt] at hins
          have e4 : decide (v < p1) = false := by simp; omega
          have HI := Keep.mk hins
          clear hins hcell ha hc
          go_wp2_with (at_builtin; refine at_append_row encP 2 16 rfl (.tmp 58) (.tmp 66) 36 rfl 43 i43 _ Try.underlying36 hi hz0 hz1 hz2 rfl (by decide) u7 O (p1, p2) Fo rfl (Asrt.alloc hrow _) ⟨wr.heap.size, 0, none⟩ 1 rfl rfl (cells_new wr (encP (p1, p2)) _) ?hone ?h63 ?hby ?next)
          case hone => exact ⟨rfl, rfl⟩
          case h63 => unfold maxLen; omega
          case hby => omega
          case next =>
            intro v' w6 Fo' hrow' hU'
            go_wp2_with fail
            go_roundw
            case rel => exact ⟨j + 1, O ++ [(p1, p2)], false, Fo', by omega, by go_num, rfl, hrow', hU.trans (((Upd.refl Fo wr).alloc _).trans hU'), by rw [HI.out]; simp, by simp; omega⟩
            case measure => simp [intOf]; omega
      · simp only [if_true] at hins hO
        have HI := Keep.mk hins
        clear hins hcell ha hc
        go_wp2_with (at_builtin; refine at_append_row encP 2 16 rfl (.tmp 58) (.tmp 66) 36 rfl 43 i43 _ Try.underlying36 hi hz0 hz1 hz2 rfl (by decide) u7 O (p1, p2) Fo rfl (Asrt.alloc hrow _) ⟨wr.heap.size, 0, none⟩ 1 rfl rfl (cells_new wr (encP (p1, p2)) _) ?hone ?h63 ?hby ?next)
        case hone => exact ⟨rfl, rfl⟩
        case h63 => unfold maxLen; omega
        case hby => omega
        case next =>
          intro v' w6 Fo' hrow' hU'
          go_wp2_with fail
          go_roundw
          case rel => exact ⟨j + 1, O ++ [(p1, p2)], true, Fo', by omega, by go_num, rfl, hrow', hU.trans (((Upd.refl Fo wr).alloc _).trans hU'), by rw [HI.out]; simp, by simp; omega⟩
          case measure => simp [intOf]; omega
    · rw [List.drop_of_length_le (by omega)] at hins
      have hnb : ¬ Fo b := fun h => by have := hU.fp b h; rcases this with h | h; exact h; omega
      have hfr : ∀ i, wr.frozen? ⟨b, i, none⟩ = false := fun i => by rw [hU.frozen hbl (fun h => h)]; exact hf i
      cases dd
      · simp only [Bool.false_eq_true, if_false, rins] at hins hO
        have HI := Keep.mk hins
        clear hins ha hc
        go_wp2_with (at_builtin; refine at_append_row encP 2 16 rfl (.tmp 70) (.tmp 74) 36 rfl 43 i43 _ Try.underlying36 hi hz0 hz1 hz2 rfl (by decide) u7 O (v, c) Fo rfl (Asrt.alloc hrow _) ⟨wr.heap.size, 0, none⟩ 1 rfl rfl (cells_new wr (encP (v, c)) _) ?hone ?h63 ?hby ?next)
        case hone => intro u hu; simp at hu; rcases hu with rfl | rfl <;> rfl
        case h63 => unfold maxLen; omega
        case hby => omega
        case next =>
          intro v' w6 Fo' hrow' hU'
          have hU6 := ((Upd.refl Fo wr).alloc _).trans hU'
          have hUw := hU.trans hU6
          rw [← HI.out] at hrow'
          obtain ⟨aO, cO, rfl, _⟩ := (row_reads (enc := encP) (fun _ => rfl) hrow').1
          have hcr6 : ∀ i, w6.cell? ⟨b, i, none⟩ = #[Value.slice a R.l.length ca, Value.slice ae R.ever.length ce][i]? := fun i => by rw [hU6.cell hbr hnb]; exact hcr i
          have hfr6 : ∀ i, w6.frozen? ⟨b, i, none⟩ = false := fun i => by rw [hU6.frozen hbr hnb]; exact hfr i
          have hb6 : b < w6.heap.size := Nat.lt_of_lt_of_le hbr hU6.size
          obtain ⟨F7, hS7, hU7⟩ := refT_put hS hrow' hUw
          obtain ⟨Fe, he⟩ : ∃ Fe, (row 3 1 encI1 (.slice ae R.ever.length ce) R.ever).on (w6.setCell ⟨b, 0, none⟩ (.slice aO (rins R.l (v, c)).length cO)) Fe := by
            obtain ⟨Fe, he, _⟩ := Asrt.stars_get hS7 2 rfl
            exact ⟨Fe, he⟩
          go_wp2_with (at_builtin; refine at_append_rows encI1 1 8 rfl (.tmp 84) (.tmp 87) 38 rfl 3 i3 _ Try.underlying38 ji jz0 jz1 jz2 rfl (by decide) _ R.ever [v, c] 2 Fe rfl (Asrt.alloc he _) ⟨w6.heap.size, 0, none⟩ 2 rfl rfl (fun _ => rfl) ?hnews3 one_cell_int ?h633 ?hby3 ?next3)
          case hnews3 =>
            have := cells_new (w6.setCell ⟨b, 0, none⟩ (.slice aO (rins R.l (v, c)).length cO)) ([v, c].flatMap encI1) 3
            simpa using this
          case h633 => unfold maxLen; simp; omega
          case hby3 => simp; omega
          case next3 =>
            intro v8 w8 Fe' he8 hu8
            obtain ⟨aE, cE, hv8, _⟩ := (row_reads (enc := encI1) (fun _ => rfl) he8).1
            rw [show (R.ever ++ [v, c]).length = R.ever.length + 2 from by simp] at hv8
            subst hv8
            obtain ⟨Fe2, he2, hne, hgo⟩ := refT_ever (w1 := w8) (Fe' := Fe') (ve := .slice aE (R.ever.length + 2) cE) (E' := R.ever ++ [v, c]) hS7
            have hfe : Fe2 = Fe := by funext k; rw [he2.2, he.2]
            subst hfe
            have hu9 := ((Upd.refl Fe2 (w6.setCell ⟨b, 0, none⟩ (.slice aO (rins R.l (v, c)).length cO))).alloc (.cells #[.int .i64 v, .int .i64 c] 3)).trans hu8
            obtain ⟨F9, hS9, hU9⟩ := hgo he8 hu9
            obtain ⟨Fb9, ⟨hb9, _⟩, _⟩ := Asrt.stars_get hS7 0 rfl
            have hc8 : ∃ u, w8.cell? ⟨b, 1, none⟩ = some u := ⟨_, by rw [hu9.cell (lt_of_heap hb9) hne, (blk_facts hb9).1]; rfl⟩
            obtain ⟨u8', hc8⟩ := hc8
            have hf8 : w8.frozen? ⟨b, 1, none⟩ = false := by rw [hu9.frozen (lt_of_heap hb9) hne]; exact (blk_facts hb9).2.1 1
            go_wp2_with fail
            go_ret
            exact ⟨rfl, F9, ⟨(_, _), hS9⟩, hU7.trans hU9⟩
      · simp only [if_true, List.append_nil] at hins hO
        rw [← hins] at hrow
        obtain ⟨aO, cO, rfl, _⟩ := (row_reads (enc := encP) (fun _ => rfl) hrow).1
        obtain ⟨F7, hS7, hU7⟩ := refT_put hS hrow hU
        clear hins ha hc
        obtain ⟨Fe, he⟩ : ∃ Fe, (row 3 1 encI1 (.slice ae R.ever.length ce) R.ever).on (wr.setCell ⟨b, 0, none⟩ (.slice aO (rins R.l (v, c)).length cO)) Fe := by
          obtain ⟨Fe, he, _⟩ := Asrt.stars_get hS7 2 rfl
          exact ⟨Fe, he⟩
        go_wp2_with (at_builtin; refine at_append_rows encI1 1 8 rfl (.tmp 84) (.tmp 87) 38 rfl 3 i3 _ Try.underlying38 ji jz0 jz1 jz2 rfl (by decide) _ R.ever [v, c] 2 Fe rfl (Asrt.alloc he _) ⟨wr.heap.size, 0, none⟩ 2 rfl rfl (fun _ => rfl) ?hnews3 one_cell_int ?h633 ?hby3 ?next3)
        case hnews3 =>
          have := cells_new (wr.setCell ⟨b, 0, none⟩ (.slice aO (rins R.l (v, c)).length cO)) ([v, c].flatMap encI1) 3
          simpa using this
        case h633 => unfold maxLen; simp; omega
        case hby3 => simp; omega
        case next3 =>
          intro v8 w8 Fe' he8 hu8
          obtain ⟨aE, cE, hv8, _⟩ := (row_reads (enc := encI1) (fun _ => rfl) he8).1
          rw [show (R.ever ++ [v, c]).length = R.ever.length + 2 from by simp] at hv8
          subst hv8
          obtain ⟨Fe2, he2, hne, hgo⟩ := refT_ever (w1 := w8) (Fe' := Fe') (ve := .slice aE (R.ever.length + 2) cE) (E' := R.ever ++ [v, c]) hS7
          have hfe : Fe2 = Fe := by funext k; rw [he2.2, he.2]
          subst hfe
          have hu9 := ((Upd.refl Fe2 (wr.setCell ⟨b, 0, none⟩ (.slice aO (rins R.l (v, c)).length cO))).alloc (.cells #[.int .i64 v, .int .i64 c] 3)).trans hu8
          obtain ⟨F9, hS9, hU9⟩ := hgo he8 hu9
          obtain ⟨Fb9, ⟨hb9, _⟩, _⟩ := Asrt.stars_get hS7 0 rfl
          have hc8 : ∃ u, w8.cell? ⟨b, 1, none⟩ = some u := ⟨_, by rw [hu9.cell (lt_of_heap hb9) hne, (blk_facts hb9).1]; rfl⟩
          obtain ⟨u8', hc8⟩ := hc8
          have hf8 : w8.frozen? ⟨b, 1, none⟩ = false := by rw [hu9.frozen (lt_of_heap hb9) hne]; exact (blk_facts hb9).2.1 1
          go_wp2_with fail
          go_ret
          exact ⟨rfl, F9, ⟨(_, _), hS9⟩, hU7.trans hU9⟩
theorem rjoin_c {b : Nat} {R : RTab} {w : World} {F : Fp} (hR : (refT b R).on w F) (hk : R.l.length ≤ 1000000) (hk2 : R.ever.length ≤ 1000000) (v c : Int) :
    Calls Try.prog 15 #[.pointer (some ⟨b, 0, none⟩), .int .i64 v, .int .i64 c] w (Ret (.int .i64 (R.join v c).2) fun w' => ∃ F', (refT b (R.join v c).1).on w' F' ∧ Upd F F' w w') := by
  by_cases h : v < 1 ∨ c < 1 ∨ v = c
  · rw [show R.join v c = (R, 1) from by simp [RTab.join, h]]
    exact (rjoin_bad v c h).mono fun e w' ⟨he, hw⟩ => ⟨he, F, hw ▸ hR, hw ▸ Upd.refl F w⟩
  · by_cases h' : R.was v = true ∨ R.was c = true
    · rw [show R.join v c = (R, 4) from by simp only [RTab.join, if_neg h, if_pos h']]
      exact (rjoin_there hR hk2 v c (by omega) (by omega) (by omega) h').mono fun e w' ⟨he, hw⟩ => ⟨he, F, hw ▸ hR, hw ▸ Upd.refl F w⟩
    · rw [show R.join v c = (⟨rins R.l (v, c), R.ever ++ [v, c]⟩, 0) from by simp only [RTab.join, if_neg h, if_neg h']]
      exact rjoin_ok hR hk hk2 v c (by omega) (by omega) (by omega) (by simpa using fun q => h' (.inl q)) (by simpa using fun q => h' (.inr q))
end Go.Proofs.Ytnjdhijngioljaa
