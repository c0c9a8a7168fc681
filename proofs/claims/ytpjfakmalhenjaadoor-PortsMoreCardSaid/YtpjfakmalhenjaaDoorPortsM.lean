/- PortsMore: its walk. -/
import Derived.Test.YtpjfakmalhenjaaDoorPortsJ
import Derived.Test.YtpjfakmalhenjaaDoorPortsN
import Derived.Deep.RegionHeld3
import Derived.Deep.DrawnRows
import Derived.Deep.CutBlock
import Derived.Deep.DeepCutAuto
set_option linter.unusedVariables false
namespace Go.Proofs.YtpjfakmalhenjaaDoor
open Go.RowKit Go.Sub Go.Shelf Go.Sort Go.ChangeMaps Go.Lib Go.WideShapes
namespace portsMore
theorem bump_none {so : Lz → Bool} {x : Lz} (h : portS x.name.data.toList = none) (c : List Int) : bump so c x = c := by
  unfold bump; rw [h]
theorem nextI_mono {c c' : List Int} (h : ∀ j, j < 64 → c'.getD j 0 = 0 → c.getD j 0 = 0) {b : Nat} (hb : nextI c' = some b) : ∃ a, nextI c = some a ∧ a ≤ b := by
  have h0 := portsHeld.nextI_zero hb
  have hm := List.mem_of_find?_eq_some hb
  have hb64 : b < 64 := List.mem_range.1 hm
  have hz := h b hb64 h0
  unfold nextI
  rcases hf : (List.range 64).find? (fun i => c.getD i 0 == 0) with _ | a
  · rw [List.find?_eq_none] at hf
    exact absurd (by simp only [beq_iff_eq]; exact hz) (hf b hm)
  · refine ⟨a, rfl, ?_⟩
    rcases Nat.lt_or_ge b a with hlt | hge
    · obtain ⟨_, xs, ys, he, hn⟩ := List.find?_eq_some_iff_append.1 hf
      have hp : (List.range 64).Pairwise (· < ·) := List.pairwise_lt_range
      rw [he] at hm hp
      rcases List.mem_append.1 hm with hm | hm
      · have := hn b hm
        simp only [Bool.not_eq_true', beq_eq_false_iff_ne] at this
        exact absurd hz this
      · rcases List.mem_cons.1 hm with rfl | hm
        · omega
        · have := (List.pairwise_cons.1 (List.pairwise_append.1 hp).2.1).1 b hm
          omega
    · exact hge
theorem mark_zero {so : Lz → Bool} {L : List Lz} {x : Lz} {j : Nat} (hj : j < 64) (h : (markS so (L ++ [x])).getD j 0 = 0) : (markS so L).getD j 0 = 0 :=
  (markS_zero so L hj).2 fun y hy => (markS_zero so _ hj).1 h y (by simp [hy])
theorem nextP_mono {grace : Int} {tenant : ByteArray} {now : Int} {L : List Lz} {x : Lz} {b : Int} (h : nextP grace tenant now (L ++ [x]) = some b) : ∃ a, nextP grace tenant now L = some a ∧ a ≤ b := by
  unfold nextP at h ⊢
  split at h
  · cases h
  · rename_i hg
    rw [if_neg hg]
    obtain ⟨k, hk, rfl⟩ := Option.map_eq_some_iff.1 h
    obtain ⟨a, ha, hle⟩ := nextI_mono (fun j hj h => mark_zero hj h) hk
    exact ⟨20000 + (a : Int), by rw [ha]; rfl, by omega⟩
theorem nextP_none {grace : Int} {tenant : ByteArray} {now : Int} {L : List Lz} {x : Lz} (h : portS x.name.data.toList = none) : nextP grace tenant now (L ++ [x]) = nextP grace tenant now L := by
  unfold nextP
  rw [markS_snoc, bump_none h]
theorem heldP_none {tenant : ByteArray} {now : Int} {L : List Lz} {x : Lz} (h : portS x.name.data.toList = none) : heldP tenant now (L ++ [x]) = heldP tenant now L := by
  unfold heldP
  rw [markS_snoc, bump_none h]
theorem reads_one (w : World) (x : Lz) : Reads (w.alloc (boxL x)) 6 encL (.slice (some ⟨w.heap.size, 0, none⟩) 1 1) [x] := by
  refine ⟨_, 1, rfl, fun i y hy => ?_⟩
  rcases i with _ | i
  · simp only [List.getElem?_cons_zero, Option.some.injEq] at hy
    subst hy
    refine ⟨w.heap.size, 0, rfl, by rw [size_alloc']; omega, fun j u hu => ?_⟩
    rw [World.cell?_alloc_new]
    simpa [encL] using hu
  · simp at hy
theorem reads_one' (w : World) (x : Lz) {n : Nat} (h : n = w.heap.size) : Reads (w.alloc (boxL x)) 6 encL (.slice (some ⟨n, 0, none⟩) 1 1) [x] := by subst h; exact reads_one w x
theorem row_empty' (w : World) {n : Nat} (h : n = w.heap.size) : (row 34 6 encL (.slice (some ⟨n, 0, none⟩) 0 0) []).on (w.alloc (.cells #[] 34)) (fun b => b = n) := by subst h; exact row_empty w _ _ _
theorem quiet_own {w w1 w2 : World} {F F' : Fp} (h : Quiet w w1) (hF : ∀ k, F k → w.heap.size ≤ k) (hu : Upd F F' w1 w2) : Quiet w w2 ∧ ∀ k, F' k → w.heap.size ≤ k := by
  have h1 : Upd none' F w w1 := h.re fun k hk => .inr (hF k hk)
  have h2 := h1.trans hu
  exact ⟨h2.quiet, fun k hk => (h2.fp k hk).resolve_left id⟩
theorem reads_alloc {w : World} {v : Value} {L : List Lz} (h : Reads w 6 encL v L) (o : Obj) : Reads (w.alloc o) 6 encL v L := h.upd ((Upd.refl none' w).alloc o) fun _ _ h => h
theorem reads_drew {w : World} {v : Value} {L : List Lz} (h : Reads w 6 encL v L) : Reads w.drew 6 encL v L := h.upd ((Upd.refl none' w).drew) fun _ _ h => h
set_option maxRecDepth 100000 in
theorem open_lease {H : Type} {enc : TypeId × Value → H} {r : Reach} {b0 : Nat} {w : World} {base : Nat} {spare : Nat → Bool} {held : Bool} {v : Value} {d : DataW H} {ps : List MemPlace} (hval : Value.okWide Tryd.prog w r b0 34 v) (hd : DataW.Trod enc Tryd.prog w base spare held 34 v d ps) :
    ∃ a : Lz, v = aggL a ∧ a.name.size ≤ maxLen ∧ True := by
  obtain ⟨cs, rfl, _⟩ := okWide_struct Tryd.underlying34 hval
  obtain ⟨n, h⟩ := hd
  obtain ⟨a, ha, hn⟩ := decL _ _ _ h
  refine ⟨a, ?_, hn, trivial⟩
  have : cs.toList = encL a := ha
  unfold aggL
  rw [← Array.toList_inj.1 (show cs.toList = (encL a).toArray.toList from by rw [this])]
set_option maxHeartbeats 16000000 in
set_option maxRecDepth 100000 in
theorem walk {W : World} (ht : Tab10 W) (v : Value) (L : List Lz) (hL : Reads W 6 encL v L ∧ ∀ x ∈ L, x.name.size ≤ maxLen) (hmax : L.length ≤ maxLen) (x : Lz) (hx : x.name.size ≤ maxLen) (grace : Int) (hg : (Lit.int .i64 grace).wf = true) (tenant : ByteArray) (hts : tenant.size ≤ maxLen) (now : Int) (hnw : (Lit.int .i64 now).wf = true) :
    Calls Tryd.prog 5 #[v, aggL x, .int .i64 grace, .string tenant, .int .i64 now] W (Ret (.bool true) fun W' => Quiet W W') := by
  obtain ⟨hR, hN⟩ := hL
  obtain ⟨a, cap, rfl, ha⟩ := id hR
  have q0 : Quiet W (W.alloc (boxL x)) := (Upd.refl none' W).alloc _
  have HN := Keep.mk hN
  have HR := Keep.mk (hR.upd q0 fun _ _ h => h)
  have HT := Keep.mk (tab_upd ht q0)
  have HX := Keep.mk hx
  obtain ⟨bc, _, _⟩ := blk_facts (show (W.alloc (boxL x)).obj W.heap.size = some (blkL x) from obj_alloc_at rfl)
  have hzl : W.heap.size < (W.alloc (boxL x)).heap.size := by rw [size_alloc']; omega
  obtain ⟨z, hz⟩ : ∃ z, z = W.heap.size := ⟨_, rfl⟩
  rw [← hz] at bc hzl
  have BC := Keep.mk (fun (w' : World) (q : Quiet (W.alloc (boxL x)) w') (j : Nat) => (q.cell (a := ⟨z, j, none⟩) hzl id).trans (bc j))
  have HZ := Keep.mk hz
  have Q0 := Keep.mk q0
  clear bc hz q0 hzl hN hR ht hx ha
  obtain ⟨w0, hw0⟩ : ∃ w0, w0 = W.alloc (boxL x) := ⟨_, rfl⟩
  have HW := Keep.mk hw0
  rw [← hw0] at HR HT BC Q0
  clear hw0
  obtain ⟨iL, hi, hz0, hz1, hz2⟩ := info_parts infoL
  have hI := Keep.mk (And.intro hi (And.intro hz0 (And.intro hz1 hz2)))
  clear hi hz0 hz1 hz2
  go_enter Tryd.func5, Tryd.ntmps5
  go_wp2_with fail
  rw [← HW.out, ← HZ.out]
  refine (head_c HT.out).mono ?_
  rintro e w1 ⟨rfl, q1⟩
  have Q1 := Keep.mk q1
  clear q1
  go_wp2_with fail
  refine (great_c (HR.out.upd Q1.out fun _ _ h => h) hmax).mono ?_
  rintro e w2 ⟨r, rfl, ⟨n2, rfl⟩, hr⟩
  cases r with
  | true =>
    go_wp2_with fail
    go_ret
    exact ⟨rfl, (Q0.out.trans Q1.out).drewN n2⟩
  | false =>
    have hL := hr rfl
    have Q2 := Keep.mk (Q1.out.drewN n2)
    clear hr
    obtain ⟨c0, c1, c2, c3, c4, c5⟩ : _ ∧ _ ∧ _ ∧ _ ∧ _ ∧ _ := ⟨BC.out _ Q2.out 0, BC.out _ Q2.out 1, BC.out _ Q2.out 2, BC.out _ Q2.out 3, BC.out _ Q2.out 4, BC.out _ Q2.out 5⟩
    generalize w1.drewN n2 = w2 at *
    go_wp2_with fail
    refine (great_c (reads_one w2 x) (by simp [maxLen])).mono ?_
    rintro e w3 ⟨r, rfl, ⟨n3, rfl⟩, _⟩
    have Q3 := Keep.mk (((Q2.out.alloc (boxL x)).drewN n3).quiet)
    cases r with
    | true =>
      go_wp2_with fail
      go_ret
      exact ⟨rfl, Q0.out.trans Q3.out⟩
    | false =>
      obtain ⟨c0, c1, c2, c3, c4, c5⟩ : _ ∧ _ ∧ _ ∧ _ ∧ _ ∧ _ := ⟨BC.out _ Q3.out 0, BC.out _ Q3.out 1, BC.out _ Q3.out 2, BC.out _ Q3.out 3, BC.out _ Q3.out 4, BC.out _ Q3.out 5⟩
      generalize (w2.alloc (boxL x)).drewN n3 = w3 at *
      cases hz : decide ((1000 : Int) < (tenant.size : Int)) with
      | true =>
        go_wp2_with fail
        go_ret
        exact ⟨rfl, Q0.out.trans Q3.out⟩
      | false =>
        have PN := Keep.mk (fun (w : World) (h : Quiet w0 w) (v : Value) (M : List Lz) (hM : Reads w 6 encL v M) (hl : M.length ≤ 1000000) (hn : ∀ y ∈ M, y.name.size ≤ maxLen) => pnext_c (tab_upd HT.out h) v M hM hl hn grace tenant now)
        unfold PNextEnds at PN
        go_wp2_with fail
        refine (PN.out _ Q3.out _ L (HR.out.upd Q3.out fun _ _ h => h) (by omega) HN.out).mono ?_
        rintro e w4 ⟨rfl, q4⟩
        have Q4 := Keep.mk (Q3.out.trans q4)
        clear q4
        obtain ⟨d0, d1, d2, d3, d4, d5⟩ : _ ∧ _ ∧ _ ∧ _ ∧ _ ∧ _ := ⟨BC.out _ Q4.out 0, BC.out _ Q4.out 1, BC.out _ Q4.out 2, BC.out _ Q4.out 3, BC.out _ Q4.out 4, BC.out _ Q4.out 5⟩
        clear c0 c1 c2 c3 c4 c5
        have HLX := Keep.mk (show ∀ y ∈ L ++ [x], y.name.size ≤ maxLen from fun y hy => by
          rcases List.mem_append.1 hy with h | h
          · exact HN.out y h
          · rw [List.mem_singleton.1 h]; exact HX.out)
        have KS := Keep.mk (fun (w' : World) (q : Quiet w4 w') => show (fun w' => w'.cell? ⟨z, 0, none⟩ = some (.string x.name) ∧ w'.cell? ⟨z, 1, none⟩ = some (.string x.tenant) ∧ w'.cell? ⟨z, 2, none⟩ = some (.int .i64 x.conn) ∧ w'.cell? ⟨z, 3, none⟩ = some (.int .i64 x.epoch) ∧ w'.cell? ⟨z, 4, none⟩ = some (.int .i64 x.til) ∧ w'.cell? ⟨z, 5, none⟩ = some (.bool x.held)) w' from ⟨BC.out _ (Q4.out.trans q) 0, BC.out _ (Q4.out.trans q) 1, BC.out _ (Q4.out.trans q) 2, BC.out _ (Q4.out.trans q) 3, BC.out _ (Q4.out.trans q) 4, BC.out _ (Q4.out.trans q) 5⟩)
        go_upto_region 5 with fail
        go_cut [14, 15] (fun ea fa wx => ea = .int .i64 ((nextP grace tenant now (L ++ [x])).getD 0) ∧ fa = .bool (nextP grace tenant now (L ++ [x])).isSome ∧ Quiet w4 wx)
        case first =>
          obtain ⟨hi, hz0, hz1, hz2⟩ := hI.out
          have s0 := KS.out _ (Upd.refl none' w4).drew
          go_region_held3 (fun w' => w'.cell? ⟨z, 0, none⟩ = some (.string x.name) ∧ w'.cell? ⟨z, 1, none⟩ = some (.string x.tenant) ∧ w'.cell? ⟨z, 2, none⟩ = some (.int .i64 x.conn) ∧ w'.cell? ⟨z, 3, none⟩ = some (.int .i64 x.epoch) ∧ w'.cell? ⟨z, 4, none⟩ = some (.int .i64 x.til) ∧ w'.cell? ⟨z, 5, none⟩ = some (.bool x.held)) (first | exact s0 | go_keep | exact KS.out _ QA.1 | exact KS.out _ QB.1 | exact KS.out _ (QB.1.trans q7))
            (first | (refine step_append_reads (o := ⟨some 43, _, _, _, _, _⟩) (enc := encL) (k := 6) 64 rfl (.tmp 41) (.tmp 42) 22 rfl 34 iL _ Tryd.underlying22 hi hz0 hz1 hz2 rfl (by decide) (.slice (some ⟨w4.heap.size, 0, none⟩) 0 0) (.slice a L.length cap) [] L _ (by simp [Act.eval]) (Asrt.drew (row_empty _ _ _ _)) (by simp [Act.eval]) (reads_drew (reads_alloc (HR.out.upd Q4.out fun _ _ h => h) _)) (fun _ => rfl) hone_L (by simp [maxLen]; omega) (by simp; omega) ?_; intro vA wA FA hrA huA; have QA := quiet_own (w := w4) ((Upd.refl none' w4).alloc _).drew (by intro k hk; subst hk; first | exact Nat.le_refl _ | omega | (simp only [size_alloc']; omega)) huA; obtain ⟨x0, x1, x2, x3, x4, x5⟩ := KS.out _ QA.1) | (refine step_append_reads (o := ⟨some 43, _, _, _, _, _⟩) (enc := encL) (k := 6) 64 rfl (.tmp 41) (.tmp 42) 22 rfl 34 iL _ Tryd.underlying22 hi hz0 hz1 hz2 rfl (by decide) (.slice (some ⟨w4.heap.size, 0, none⟩) 0 0) (.slice a L.length cap) [] L _ (by simp [Act.eval]) (Asrt.drew (Asrt.alloc (row_empty _ _ _ _) _)) (by simp [Act.eval]) (reads_drew (reads_alloc (reads_alloc (HR.out.upd Q4.out fun _ _ h => h) _) _)) (fun _ => rfl) hone_L (by simp [maxLen]; omega) (by simp; omega) ?_; intro vA wA FA hrA huA; have QA := quiet_own (w := w4) (((Upd.refl none' w4).alloc _).alloc _).drew (by intro k hk; subst hk; first | exact Nat.le_refl _ | omega | (simp only [size_alloc']; omega)) huA; obtain ⟨x0, x1, x2, x3, x4, x5⟩ := KS.out _ QA.1) | (refine step_append_reads (o := ⟨some 43, _, _, _, _, _⟩) (enc := encL) (k := 6) 64 rfl (.tmp 41) (.tmp 42) 22 rfl 34 iL _ Tryd.underlying22 hi hz0 hz1 hz2 rfl (by decide) (.slice (some ⟨w4.heap.size + 1, 0, none⟩) 0 0) (.slice a L.length cap) [] L _ (by simp [Act.eval]) (Asrt.drew (row_empty' _ (size_alloc' _ _).symm)) (by simp [Act.eval]) (reads_drew (reads_alloc (reads_alloc (HR.out.upd Q4.out fun _ _ h => h) _) _)) (fun _ => rfl) hone_L (by simp [maxLen]; omega) (by simp; omega) ?_; intro vA wA FA hrA huA; have QA := quiet_own (w := w4) (((Upd.refl none' w4).alloc _).alloc _).drew (by intro k hk; subst hk; first | exact Nat.le_refl _ | omega | (simp only [size_alloc']; omega)) huA; obtain ⟨x0, x1, x2, x3, x4, x5⟩ := KS.out _ QA.1) | (refine step_append_reads (o := ⟨some 46, _, _, _, _, _⟩) (enc := encL) (k := 6) 64 rfl (.tmp 43) (.tmp 45) 22 rfl 34 iL _ Tryd.underlying22 hi hz0 hz1 hz2 rfl (by decide) vA (.slice (some ⟨wA.heap.size, 0, none⟩) 1 1) ([] ++ L) [x] FA (by simp [Act.eval]) (Asrt.alloc hrA _) (by simp [Act.eval]) (reads_one wA x) (fun _ => rfl) hone_L (by simp [maxLen]; omega) (by simp; omega) ?_; intro vB wB FB hrB huB; have QB := quiet_own (w := w4) (QA.1.alloc (boxL x)) QA.2 huB) | (refine step_append_reads (o := ⟨some 46, _, _, _, _, _⟩) (enc := encL) (k := 6) 64 rfl (.tmp 43) (.tmp 45) 22 rfl 34 iL _ Tryd.underlying22 hi hz0 hz1 hz2 rfl (by decide) vA (.slice (some ⟨w4.heap.size + 1, 0, none⟩) 1 1) ([] ++ L) [x] FA (by simp [Act.eval]) hrA (by simp [Act.eval]) ((reads_drew (reads_one' _ x (size_alloc' _ _).symm)).upd huA (fun g hg hF => by simp only [Value.ownBlock, Option.some.injEq] at hg; subst hg; simp [size_alloc'] at hF)) (fun _ => rfl) hone_L (by simp [maxLen]; omega) (by simp; omega) ?_; intro vB wB FB hrB huB; have QB := quiet_own (w := w4) QA.1 QA.2 huB) | (refine step_append_reads (o := ⟨some 46, _, _, _, _, _⟩) (enc := encL) (k := 6) 64 rfl (.tmp 43) (.tmp 45) 22 rfl 34 iL _ Tryd.underlying22 hi hz0 hz1 hz2 rfl (by decide) vA (.slice (some ⟨w4.heap.size, 0, none⟩) 1 1) ([] ++ L) [x] FA (by simp [Act.eval]) hrA (by simp [Act.eval]) ((reads_drew (reads_alloc (reads_one _ x) _)).upd huA (fun g hg hF => by simp only [Value.ownBlock, Option.some.injEq] at hg; subst hg; simp [size_alloc'] at hF)) (fun _ => rfl) hone_L (by simp [maxLen]; omega) (by simp; omega) ?_; intro vB wB FB hrB huB; have QB := quiet_own (w := w4) QA.1 QA.2 huB) | (go_at_call 10; refine (PN.out _ (Q4.out.trans QB.1) _ (L ++ [x]) (row_reads (enc := encL) (fun _ => rfl) hrB).1 (by simp; omega) HLX.out).mono ?_; rintro e w7 ⟨rfl, q7⟩))
          all_goals
            (try go_wp2_with fail)
            go_meet
            exact ⟨rfl, rfl, QB.1.trans q7⟩
        case rest =>
          obtain ⟨rfl, rfl, Q6⟩ := hcut
          have Q7 := Keep.mk (Q4.out.trans Q6)
          obtain ⟨c0, c1, c2, c3, c4, c5⟩ : _ ∧ _ ∧ _ ∧ _ ∧ _ ∧ _ := ⟨BC.out _ Q7.out 0, BC.out _ Q7.out 1, BC.out _ Q7.out 2, BC.out _ Q7.out 3, BC.out _ Q7.out 4, BC.out _ Q7.out 5⟩
          clear d0 d1 d2 d3 d4 d5 Q6 KS
          have PC := Keep.mk (port_c (tab_upd HT.out Q7.out) x.name HX.out)
          unfold PortEnds at PC
          go_wp2_with fail
          refine PC.out.mono ?_
          rintro e w8 ⟨rfl, q8⟩
          have Q8 := Keep.mk (Q7.out.trans q8)
          obtain ⟨d0, d1, d2, d3, d4, d5⟩ : _ ∧ _ ∧ _ ∧ _ ∧ _ ∧ _ := ⟨BC.out _ Q8.out 0, BC.out _ Q8.out 1, BC.out _ Q8.out 2, BC.out _ Q8.out 3, BC.out _ Q8.out 4, BC.out _ Q8.out 5⟩
          clear c0 c1 c2 c3 c4 c5 q8
          cases hp : portS x.name.data.toList with
          | some p =>
            have HF := Keep.mk (fun b h => nextP_mono (grace := grace) (tenant := tenant) (now := now) (L := L) (x := x) (b := b) h)
            clear d0 d1 d2 d3 d4 d5
            cases hb : nextP grace tenant now (L ++ [x]) with
            | none =>
              cases ha : nextP grace tenant now L with
              | none =>
                clear HF
                go_wp2_with fail
                go_ret
                exact ⟨rfl, Q0.out.trans Q8.out⟩
              | some a1 =>
                clear HF
                go_wp2_with fail
                go_ret
                exact ⟨rfl, Q0.out.trans Q8.out⟩
            | some b1 =>
              obtain ⟨a1, ha, hle⟩ := HF.out b1 hb
              have hle2 : decide (a1 ≤ b1) = true := decide_eq_true hle
              clear HF hle
              rw [ha]
              go_wp2_with fail
              go_ret
              exact ⟨rfl, Q0.out.trans Q8.out⟩
          | none =>
            rw [nextP_none hp]
            have PH := Keep.mk (fun (w' : World) (q : Quiet w8 w') (v : Value) (M : List Lz) (hM : Reads w' 6 encL v M) (hl : M.length ≤ 1000000) (hn : ∀ y ∈ M, y.name.size ≤ maxLen) => pheld_c (tab_upd HT.out (Q8.out.trans q)) v M hM hl hn x.tenant now)
            unfold PHeldEnds at PH
            have PA := Keep.mk (fun (w' : World) (q : Quiet w8 w') => PH.out w' q (.slice a L.length cap) L (HR.out.upd (Q8.out.trans q) fun _ _ h => h) (by omega) HN.out)
            have PB := Keep.mk (fun (w' : World) (q : Quiet w8 w') (v : Value) (hM : Reads w' 6 encL v ([] ++ L ++ [x])) => PH.out w' q v ([] ++ L ++ [x]) hM (by simp; omega) HLX.out)
            rw [List.nil_append, heldP_none hp] at PB
            have hhl : (heldP x.tenant now L).length ≤ 1000000 := Nat.le_trans (heldI_len _ 64) (by omega)
            have KS8 := Keep.mk (fun (w' : World) (q : Quiet w8 w') => show (fun w' => w'.cell? ⟨z, 0, none⟩ = some (.string x.name) ∧ w'.cell? ⟨z, 1, none⟩ = some (.string x.tenant) ∧ w'.cell? ⟨z, 2, none⟩ = some (.int .i64 x.conn) ∧ w'.cell? ⟨z, 3, none⟩ = some (.int .i64 x.epoch) ∧ w'.cell? ⟨z, 4, none⟩ = some (.int .i64 x.til) ∧ w'.cell? ⟨z, 5, none⟩ = some (.bool x.held)) w' from ⟨BC.out _ (Q8.out.trans q) 0, BC.out _ (Q8.out.trans q) 1, BC.out _ (Q8.out.trans q) 2, BC.out _ (Q8.out.trans q) 3, BC.out _ (Q8.out.trans q) 4, BC.out _ (Q8.out.trans q) 5⟩)
            have RA := Keep.mk (fun (w' : World) (q : Quiet w8 w') => (HR.out.upd (Q8.out.trans q) fun _ _ h => h : Reads w' 6 encL (.slice a L.length cap) L))
            generalize heldP x.tenant now L = KL at *
            have SM := Keep.mk (fun (w' : World) (v v' : Value) (h : ReadsI w' v KL) (h' : ReadsI w' v' KL) => same8_c h h' hhl hhl)
            rw [sameI_refl] at SM
            obtain ⟨hi, hz0, hz1, hz2⟩ := hI.out
            have s0 := KS8.out _ (Upd.refl none' w8).drew
            clear PH
            go_wp2_with fail
            go_region_held3 (fun w' => w'.cell? ⟨z, 0, none⟩ = some (.string x.name) ∧ w'.cell? ⟨z, 1, none⟩ = some (.string x.tenant) ∧ w'.cell? ⟨z, 2, none⟩ = some (.int .i64 x.conn) ∧ w'.cell? ⟨z, 3, none⟩ = some (.int .i64 x.epoch) ∧ w'.cell? ⟨z, 4, none⟩ = some (.int .i64 x.til) ∧ w'.cell? ⟨z, 5, none⟩ = some (.bool x.held)) (first | exact s0 | go_keep | exact KS8.out _ OH.quiet | exact KS8.out _ OP.quiet | exact KS8.out _ OQ.quiet | exact KS8.out _ OR.quiet | exact KS8.out _ ((Upd.refl none' w8).drew.alloc _) | exact KS8.out _ (((Upd.refl none' w8).drew.alloc _).alloc _) | exact KS8.out _ ((Upd.refl none' w8).alloc _).drew | exact KS8.out _ (((Upd.refl none' w8).alloc _).alloc _).drew)
              (first | (go_at_call_of 15 (Value.slice a L.length cap); refine (PA.out _ (Own.start w8).drew.quiet).mono ?_; rintro e wH ⟨vH, rfl, FH, rH, uH⟩; have OH := Own.call (Own.start w8).drew rH uH) | (obtain ⟨Fe, re, ge⟩ := Own.app (Own.none OH (n := wH.heap.size) rfl) (v := .slice (some ⟨wH.heap.size, 0, none⟩) 0 0) (L := ([] : List Lz)) 0 rfl; refine step_append_readsG (o := ⟨some 80, _, _, _, _, _⟩) (enc := encL) (k := 6) 64 (by rfl) (.tmp 78) (.tmp 79) 22 rfl 34 iL _ Tryd.underlying22 hi hz0 hz1 hz2 rfl (by decide) (.slice (some ⟨wH.heap.size, 0, none⟩) 0 0) (.slice a L.length cap) [] L Fe (by simp [Act.eval]) re (by simp [Act.eval]) (RA.out _ (Own.none OH (n := wH.heap.size) rfl).quiet) (fun _ => rfl) hone_L (by simp [maxLen]; omega) (by simp; omega) ?_; intro vP wP FP rP uP; have OP := ge wP FP vP _ rP uP) | (obtain ⟨Fp, rp, gp⟩ := Own.app (Own.one OP x (n := wP.heap.size) rfl) (v := vP) (L := [] ++ L) 1 rfl; refine step_append_readsG (o := ⟨some 83, _, _, _, _, _⟩) (enc := encL) (k := 6) 64 (by rfl) (.tmp 80) (.tmp 82) 22 rfl 34 iL _ Tryd.underlying22 hi hz0 hz1 hz2 rfl (by decide) vP (.slice (some ⟨wP.heap.size, 0, none⟩) 1 1) ([] ++ L) [x] Fp (by simp [Act.eval]) rp (by simp [Act.eval]) (Own.oneReads (Own.one OP x (n := wP.heap.size) rfl) 0 rfl) (fun _ => rfl) hone_L (by simp [maxLen]; omega) (by simp; omega) ?_; intro vQ wQ FQ rQ uQ; have OQ := gp wQ FQ vQ _ rQ uQ; have rq := (row_reads (enc := encL) (fun _ => rfl) rQ).1) | (go_at_call 14; refine (SM.out _ _ _ (Own.readsI OR 3 rfl) (Own.readsI OR 0 rfl)).mono ?_; rintro e wS ⟨rfl, nS, rfl⟩) | (obtain ⟨Fe, re, ge⟩ := Own.app (Own.one (Own.none OH (n := wH.heap.size) rfl) x (n := wH.heap.size + 1) (size_alloc' _ _).symm) (v := .slice (some ⟨wH.heap.size, 0, none⟩) 0 0) (L := ([] : List Lz)) 1 rfl; refine step_append_readsG (o := ⟨some 80, _, _, _, _, _⟩) (enc := encL) (k := 6) 64 (by rfl) (.tmp 78) (.tmp 79) 22 rfl 34 iL _ Tryd.underlying22 hi hz0 hz1 hz2 rfl (by decide) (.slice (some ⟨wH.heap.size, 0, none⟩) 0 0) (.slice a L.length cap) [] L Fe (by simp [Act.eval]) re (by simp [Act.eval]) (RA.out _ (Own.one (Own.none OH (n := wH.heap.size) rfl) x (n := wH.heap.size + 1) (size_alloc' _ _).symm).quiet) (fun _ => rfl) hone_L (by simp [maxLen]; omega) (by simp; omega) ?_; intro vP wP FP rP uP; have OP := ge wP FP vP _ rP uP) | (obtain ⟨Fp, rp, gp⟩ := Own.app OP (v := vP) (L := [] ++ L) 1 rfl; refine step_append_readsG (o := ⟨some 83, _, _, _, _, _⟩) (enc := encL) (k := 6) 64 (by rfl) (.tmp 80) (.tmp 82) 22 rfl 34 iL _ Tryd.underlying22 hi hz0 hz1 hz2 rfl (by decide) vP (.slice (some ⟨wH.heap.size + 1, 0, none⟩) 1 1) ([] ++ L) [x] Fp (by simp [Act.eval]) rp (by simp [Act.eval]) (Own.oneReads OP 0 rfl) (fun _ => rfl) hone_L (by simp [maxLen]; omega) (by simp; omega) ?_; intro vQ wQ FQ rQ uQ; have OQ := gp wQ FQ vQ _ rQ uQ; have rq := (row_reads (enc := encL) (fun _ => rfl) rQ).1) | (obtain ⟨Fe, re, ge⟩ := Own.app (Own.none (Own.one OH x (n := wH.heap.size) rfl) (n := wH.heap.size + 1) (size_alloc' _ _).symm) (v := .slice (some ⟨wH.heap.size + 1, 0, none⟩) 0 0) (L := ([] : List Lz)) 0 rfl; refine step_append_readsG (o := ⟨some 80, _, _, _, _, _⟩) (enc := encL) (k := 6) 64 (by rfl) (.tmp 78) (.tmp 79) 22 rfl 34 iL _ Tryd.underlying22 hi hz0 hz1 hz2 rfl (by decide) (.slice (some ⟨wH.heap.size + 1, 0, none⟩) 0 0) (.slice a L.length cap) [] L Fe (by simp [Act.eval]) re (by simp [Act.eval]) (RA.out _ (Own.none (Own.one OH x (n := wH.heap.size) rfl) (n := wH.heap.size + 1) (size_alloc' _ _).symm).quiet) (fun _ => rfl) hone_L (by simp [maxLen]; omega) (by simp; omega) ?_; intro vP wP FP rP uP; have OP := ge wP FP vP _ rP uP) | (obtain ⟨Fp, rp, gp⟩ := Own.app OP (v := vP) (L := [] ++ L) 0 rfl; refine step_append_readsG (o := ⟨some 83, _, _, _, _, _⟩) (enc := encL) (k := 6) 64 (by rfl) (.tmp 80) (.tmp 82) 22 rfl 34 iL _ Tryd.underlying22 hi hz0 hz1 hz2 rfl (by decide) vP (.slice (some ⟨wH.heap.size, 0, none⟩) 1 1) ([] ++ L) [x] Fp (by simp [Act.eval]) rp (by simp [Act.eval]) (Own.oneReads OP 1 rfl) (fun _ => rfl) hone_L (by simp [maxLen]; omega) (by simp; omega) ?_; intro vQ wQ FQ rQ uQ; have OQ := gp wQ FQ vQ _ rQ uQ; have rq := (row_reads (enc := encL) (fun _ => rfl) rQ).1) | (go_at_call_of 15 (Value.slice a L.length cap); refine (PA.out _ (Own.none (Own.start w8) (n := w8.heap.size) rfl).drew.quiet).mono ?_; rintro e wH ⟨vH, rfl, FH, rH, uH⟩; have OH := Own.call (Own.none (Own.start w8) (n := w8.heap.size) rfl).drew rH uH) | (obtain ⟨Fe, re, ge⟩ := Own.app OH (v := .slice (some ⟨w8.heap.size, 0, none⟩) 0 0) (L := ([] : List Lz)) 1 rfl; refine step_append_readsG (o := ⟨some 80, _, _, _, _, _⟩) (enc := encL) (k := 6) 64 (by rfl) (.tmp 78) (.tmp 79) 22 rfl 34 iL _ Tryd.underlying22 hi hz0 hz1 hz2 rfl (by decide) (.slice (some ⟨w8.heap.size, 0, none⟩) 0 0) (.slice a L.length cap) [] L Fe (by simp [Act.eval]) re (by simp [Act.eval]) (RA.out _ OH.quiet) (fun _ => rfl) hone_L (by simp [maxLen]; omega) (by simp; omega) ?_; intro vP wP FP rP uP; have OP := ge wP FP vP _ rP uP) | (obtain ⟨Fp, rp, gp⟩ := Own.app (Own.one OP x (n := wP.heap.size) rfl) (v := vP) (L := [] ++ L) 2 rfl; refine step_append_readsG (o := ⟨some 83, _, _, _, _, _⟩) (enc := encL) (k := 6) 64 (by rfl) (.tmp 80) (.tmp 82) 22 rfl 34 iL _ Tryd.underlying22 hi hz0 hz1 hz2 rfl (by decide) vP (.slice (some ⟨wP.heap.size, 0, none⟩) 1 1) ([] ++ L) [x] Fp (by simp [Act.eval]) rp (by simp [Act.eval]) (Own.oneReads (Own.one OP x (n := wP.heap.size) rfl) 0 rfl) (fun _ => rfl) hone_L (by simp [maxLen]; omega) (by simp; omega) ?_; intro vQ wQ FQ rQ uQ; have OQ := gp wQ FQ vQ _ rQ uQ; have rq := (row_reads (enc := encL) (fun _ => rfl) rQ).1) | (go_at_call 14; refine (SM.out _ _ _ (Own.readsI OR 2 rfl) (Own.readsI OR 0 rfl)).mono ?_; rintro e wS ⟨rfl, nS, rfl⟩) | (obtain ⟨Fe, re, ge⟩ := Own.app (Own.one OH x (n := wH.heap.size) rfl) (v := .slice (some ⟨w8.heap.size, 0, none⟩) 0 0) (L := ([] : List Lz)) 2 rfl; refine step_append_readsG (o := ⟨some 80, _, _, _, _, _⟩) (enc := encL) (k := 6) 64 (by rfl) (.tmp 78) (.tmp 79) 22 rfl 34 iL _ Tryd.underlying22 hi hz0 hz1 hz2 rfl (by decide) (.slice (some ⟨w8.heap.size, 0, none⟩) 0 0) (.slice a L.length cap) [] L Fe (by simp [Act.eval]) re (by simp [Act.eval]) (RA.out _ (Own.one OH x (n := wH.heap.size) rfl).quiet) (fun _ => rfl) hone_L (by simp [maxLen]; omega) (by simp; omega) ?_; intro vP wP FP rP uP; have OP := ge wP FP vP _ rP uP) | (obtain ⟨Fp, rp, gp⟩ := Own.app OP (v := vP) (L := [] ++ L) 2 rfl; refine step_append_readsG (o := ⟨some 83, _, _, _, _, _⟩) (enc := encL) (k := 6) 64 (by rfl) (.tmp 80) (.tmp 82) 22 rfl 34 iL _ Tryd.underlying22 hi hz0 hz1 hz2 rfl (by decide) vP (.slice (some ⟨wH.heap.size, 0, none⟩) 1 1) ([] ++ L) [x] Fp (by simp [Act.eval]) rp (by simp [Act.eval]) (Own.oneReads OP 0 rfl) (fun _ => rfl) hone_L (by simp [maxLen]; omega) (by simp; omega) ?_; intro vQ wQ FQ rQ uQ; have OQ := gp wQ FQ vQ _ rQ uQ; have rq := (row_reads (enc := encL) (fun _ => rfl) rQ).1) | (go_at_call_of 15 (Value.slice a L.length cap); refine (PA.out _ (Own.one (Own.start w8) x (n := w8.heap.size) rfl).drew.quiet).mono ?_; rintro e wH ⟨vH, rfl, FH, rH, uH⟩; have OH := Own.call (Own.one (Own.start w8) x (n := w8.heap.size) rfl).drew rH uH) | (obtain ⟨Fe, re, ge⟩ := Own.app (Own.none OH (n := wH.heap.size) rfl) (v := .slice (some ⟨wH.heap.size, 0, none⟩) 0 0) (L := ([] : List Lz)) 0 rfl; refine step_append_readsG (o := ⟨some 80, _, _, _, _, _⟩) (enc := encL) (k := 6) 64 (by rfl) (.tmp 78) (.tmp 79) 22 rfl 34 iL _ Tryd.underlying22 hi hz0 hz1 hz2 rfl (by decide) (.slice (some ⟨wH.heap.size, 0, none⟩) 0 0) (.slice a L.length cap) [] L Fe (by simp [Act.eval]) re (by simp [Act.eval]) (RA.out _ (Own.none OH (n := wH.heap.size) rfl).quiet) (fun _ => rfl) hone_L (by simp [maxLen]; omega) (by simp; omega) ?_; intro vP wP FP rP uP; have OP := ge wP FP vP _ rP uP) | (obtain ⟨Fp, rp, gp⟩ := Own.app OP (v := vP) (L := [] ++ L) 0 rfl; refine step_append_readsG (o := ⟨some 83, _, _, _, _, _⟩) (enc := encL) (k := 6) 64 (by rfl) (.tmp 80) (.tmp 82) 22 rfl 34 iL _ Tryd.underlying22 hi hz0 hz1 hz2 rfl (by decide) vP (.slice (some ⟨w8.heap.size, 0, none⟩) 1 1) ([] ++ L) [x] Fp (by simp [Act.eval]) rp (by simp [Act.eval]) (Own.oneReads OP 2 rfl) (fun _ => rfl) hone_L (by simp [maxLen]; omega) (by simp; omega) ?_; intro vQ wQ FQ rQ uQ; have OQ := gp wQ FQ vQ _ rQ uQ; have rq := (row_reads (enc := encL) (fun _ => rfl) rQ).1) | (go_at_call_of 15 (Value.slice a L.length cap); refine (PA.out _ (Own.one (Own.none (Own.start w8) (n := w8.heap.size) rfl) x (n := w8.heap.size + 1) (size_alloc' _ _).symm).drew.quiet).mono ?_; rintro e wH ⟨vH, rfl, FH, rH, uH⟩; have OH := Own.call (Own.one (Own.none (Own.start w8) (n := w8.heap.size) rfl) x (n := w8.heap.size + 1) (size_alloc' _ _).symm).drew rH uH) | (obtain ⟨Fe, re, ge⟩ := Own.app OH (v := .slice (some ⟨w8.heap.size, 0, none⟩) 0 0) (L := ([] : List Lz)) 2 rfl; refine step_append_readsG (o := ⟨some 80, _, _, _, _, _⟩) (enc := encL) (k := 6) 64 (by rfl) (.tmp 78) (.tmp 79) 22 rfl 34 iL _ Tryd.underlying22 hi hz0 hz1 hz2 rfl (by decide) (.slice (some ⟨w8.heap.size, 0, none⟩) 0 0) (.slice a L.length cap) [] L Fe (by simp [Act.eval]) re (by simp [Act.eval]) (RA.out _ OH.quiet) (fun _ => rfl) hone_L (by simp [maxLen]; omega) (by simp; omega) ?_; intro vP wP FP rP uP; have OP := ge wP FP vP _ rP uP) | (obtain ⟨Fp, rp, gp⟩ := Own.app OP (v := vP) (L := [] ++ L) 2 rfl; refine step_append_readsG (o := ⟨some 83, _, _, _, _, _⟩) (enc := encL) (k := 6) 64 (by rfl) (.tmp 80) (.tmp 82) 22 rfl 34 iL _ Tryd.underlying22 hi hz0 hz1 hz2 rfl (by decide) vP (.slice (some ⟨w8.heap.size + 1, 0, none⟩) 1 1) ([] ++ L) [x] Fp (by simp [Act.eval]) rp (by simp [Act.eval]) (Own.oneReads OP 1 rfl) (fun _ => rfl) hone_L (by simp [maxLen]; omega) (by simp; omega) ?_; intro vQ wQ FQ rQ uQ; have OQ := gp wQ FQ vQ _ rQ uQ; have rq := (row_reads (enc := encL) (fun _ => rfl) rQ).1) | (go_at_call 14; refine (SM.out _ _ _ (Own.readsI OR 1 rfl) (Own.readsI OR 0 rfl)).mono ?_; rintro e wS ⟨rfl, nS, rfl⟩) | (go_at_call_of 15 (Value.slice a L.length cap); refine (PA.out _ (Own.none (Own.one (Own.start w8) x (n := w8.heap.size) rfl) (n := w8.heap.size + 1) (size_alloc' _ _).symm).drew.quiet).mono ?_; rintro e wH ⟨vH, rfl, FH, rH, uH⟩; have OH := Own.call (Own.none (Own.one (Own.start w8) x (n := w8.heap.size) rfl) (n := w8.heap.size + 1) (size_alloc' _ _).symm).drew rH uH) | (obtain ⟨Fe, re, ge⟩ := Own.app OH (v := .slice (some ⟨w8.heap.size + 1, 0, none⟩) 0 0) (L := ([] : List Lz)) 1 rfl; refine step_append_readsG (o := ⟨some 80, _, _, _, _, _⟩) (enc := encL) (k := 6) 64 (by rfl) (.tmp 78) (.tmp 79) 22 rfl 34 iL _ Tryd.underlying22 hi hz0 hz1 hz2 rfl (by decide) (.slice (some ⟨w8.heap.size + 1, 0, none⟩) 0 0) (.slice a L.length cap) [] L Fe (by simp [Act.eval]) re (by simp [Act.eval]) (RA.out _ OH.quiet) (fun _ => rfl) hone_L (by simp [maxLen]; omega) (by simp; omega) ?_; intro vP wP FP rP uP; have OP := ge wP FP vP _ rP uP) | (obtain ⟨Fp, rp, gp⟩ := Own.app OP (v := vP) (L := [] ++ L) 1 rfl; refine step_append_readsG (o := ⟨some 83, _, _, _, _, _⟩) (enc := encL) (k := 6) 64 (by rfl) (.tmp 80) (.tmp 82) 22 rfl 34 iL _ Tryd.underlying22 hi hz0 hz1 hz2 rfl (by decide) vP (.slice (some ⟨w8.heap.size, 0, none⟩) 1 1) ([] ++ L) [x] Fp (by simp [Act.eval]) rp (by simp [Act.eval]) (Own.oneReads OP 2 rfl) (fun _ => rfl) hone_L (by simp [maxLen]; omega) (by simp; omega) ?_; intro vQ wQ FQ rQ uQ; have OQ := gp wQ FQ vQ _ rQ uQ; have rq := (row_reads (enc := encL) (fun _ => rfl) rQ).1) | (go_at_call 15; refine (PB.out _ OQ.quiet _ rq).mono ?_; rintro e wR ⟨vR, rfl, FR, rR, uR⟩; have OR := Own.call OQ rR uR))
            all_goals
              go_wp2_with fail
              go_ret
              exact ⟨rfl, Q0.out.trans (Q8.out.trans (OR.quiet.drewN nS).quiet)⟩
end portsMore
end Go.Proofs.YtpjfakmalhenjaaDoor
