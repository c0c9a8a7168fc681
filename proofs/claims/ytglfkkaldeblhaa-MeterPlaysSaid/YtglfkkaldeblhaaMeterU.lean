/- MeterPlays: its walk. -/
import Derived.Test.YtglfkkaldeblhaaMeterT
import Derived.Test.YtglfkkaldeblhaaMeterS
namespace Go.Proofs.Ytglfkkaldeblhaa
open Go.RowKit Go.Sub Go.ChangeMaps
/-- both meters, in a world -/
structure Play (W : World) (b d : Nat) (w : World) (M L : List Cnt) (F : Fp) : Prop where
  mem : (Asrt.stars [meterT b M, refT d L]).on w F
  upd : Upd none' F W w
  inv : MInv M
  twin : Twin M L
/-- what the statement's test reads, in a world -/
structure PlayS (o b d : Nat) (t : ByteArray) (v : Value) (M L : List Cnt) (w : World) : Prop where
  m : ∃ F, (meterT b M).on w F
  r : ∃ F, (refT d L).on w F
  rd : ReadsC w v L
  ol : o < w.heap.size
  dl : d < w.heap.size
  all : w.cell? ⟨o, 1, none⟩ = some (.string t) ∧ w.cell? ⟨d, 0, none⟩ = some v
theorem PlayS.step {o b d : Nat} {t : ByteArray} {v : Value} {M L : List Cnt} {w w' : World} (h : PlayS o b d t v M L w) (hq : Quiet w w') : PlayS o b d t v M L w' := by
  obtain ⟨⟨F1, m⟩, ⟨F2, r⟩, rd, ol, dl, c1, c2⟩ := h
  exact ⟨⟨F1, (meterT b M).frame m hq fun _ _ h => h⟩, ⟨F2, (refT d L).frame r hq fun _ _ h => h⟩, rd.upd hq fun _ _ h => h, Nat.lt_of_lt_of_le ol hq.size, Nat.lt_of_lt_of_le dl hq.size, (hq.cell ol id).trans c1, (hq.cell dl id).trans c2⟩
theorem quiet_drewN (w : World) (n : Nat) : Quiet w (w.drewN n) := (Upd.refl none' w).drewN n
namespace meterPlays
set_option maxHeartbeats 8000000 in
set_option maxRecDepth 100000 in
theorem walk {W : World} (v : Value) (L : List MOp) (hL : Reads W 3 encOp v L) (hmax : L.length ≤ maxLen) : Calls Try.prog 3 #[v] W (Ret (.bool true) fun W' => Quiet W W') := by
  go_enter Try.func3, Try.ntmps3
  go_wp2_with fail
  refine (head_c _).mono ?_
  rintro e w1 ⟨rfl, u1⟩
  go_wp2_with fail
  refine (new_c _).mono ?_
  rintro e w2 ⟨b, rfl, F1, t1, u2⟩
  go_wp2_with fail
  refine (rnew_c _).mono ?_
  rintro e w2' ⟨d, rfl, F2, t2, u2'⟩
  have U1 := Upd.trans u1 u2
  obtain ⟨F, hS, v2⟩ := Asrt.stars_new (Asrt.stars_one t1) t2 u2'
  have U2 := U1.trans v2
  have hS := Asrt.stars_perm (List.Perm.swap ..) hS
  have hL2 := hL.upd U2 fun _ _ h => h
  clear u1 u2 u2' t1 t2 v2 U1
  go_wp2_with fail
  refine (great_c hL2 hmax).mono ?_
  rintro e w3 ⟨r, rfl, rfl, hr⟩
  cases r with
  | true =>
    clear hr
    go_wp2_with fail
    go_ret
    exact ⟨rfl, U2.quiet⟩
  | false =>
    obtain ⟨hn, hs⟩ := hr rfl
    clear hr hL2
    have hlen : L.length ≤ 400 := hn
    obtain ⟨a, cap, rfl, ha⟩ := hL
    have HS := Keep.mk hs
    clear hs hn
    go_wp2_with fail
    go_loopw [6] (fun i wr => ∃ k M N F, k ≤ L.length ∧ i = .int .i64 (k : Nat) ∧ Play W b d wr M N F) (fun i _ => L.length - (intOf i).toNat)
    case atStart => exact ⟨0, [], [], F, by omega, rfl, hS, U2, minv_nil, ⟨List.Perm.refl _, List.Pairwise.nil⟩⟩
    case round =>
      obtain ⟨k, M, N, F, hk, rfl, hA⟩ := hrel
      clear hS U2
      by_cases hlt : k < L.length
      · obtain ⟨g, off, rfl, hg, hc⟩ := ha k L[k] (List.getElem?_eq_getElem hlt)
        have hsz := HS.out L[k] (List.getElem_mem hlt)
        generalize hx : L[k] = x at *
        obtain ⟨x0, x1, x2⟩ := x
        have k0 : wr.cell? ⟨g, off + k * 3, none⟩ = some (.int .i64 x0) := by rw [hA.upd.cell hg id]; exact hc 0 _ rfl
        have k1 : wr.cell? ⟨g, off + k * 3 + 1, none⟩ = some (.string x1) := by rw [hA.upd.cell hg id]; exact hc 1 _ rfl
        have k2 : wr.cell? ⟨g, off + k * 3 + 2, none⟩ = some (.int .i64 x2) := by rw [hA.upd.cell hg id]; exact hc 2 _ rfl
        clear hx ha hc
        have hI : MInv (doStep M (x0, x1, x2)).1 := inv_cstep hA.inv hsz
        obtain ⟨hT, hE⟩ := twin_step hA.twin hA.inv x1 (jn (x0, x1, x2)).1 (jn (x0, x1, x2)).2
        have hokN : ∀ c ∈ N, Ok c := fun c hc => hA.inv.ok c (hA.twin.perm.mem_iff.1 hc)
        have hNl : N.length ≤ 1000 := by have := hA.inv.few; rw [hA.twin.perm.length_eq]; omega
        have CD := fun (w : World) (F : Fp) (h : (meterT b M).on w F) => does_c h hA.inv.ok (x0, x1, x2)
        have hT : Twin (doStep M (x0, x1, x2)).1 (rstep N x1 (jn (x0, x1, x2)).1 (jn (x0, x1, x2)).2).1 := hT
        have hE : (doStep M (x0, x1, x2)).2 = (rstep N x1 (jn (x0, x1, x2)).1 (jn (x0, x1, x2)).2).2 := hE
        have R1 := fun (h0 : x0 = 0) (w : World) (F : Fp) (h : (refT d N).on w F) => by
          have := rdown_c h hokN hNl x1 x2
          rw [show rstep N x1 1 x2 = rstep N x1 (jn (x0, x1, x2)).1 (jn (x0, x1, x2)).2 from by subst h0; rfl] at this
          exact this
        have R2 := fun (h0 : x0 = 1) (w : World) (F : Fp) (h : (refT d N).on w F) => by
          have := rup_c h hokN hNl x1 x2
          rw [show rstep N x1 2 x2 = rstep N x1 (jn (x0, x1, x2)).1 (jn (x0, x1, x2)).2 from by subst h0; rfl] at this
          exact this
        have R3 := fun (h0 : x0 ≠ 0) (h1 : x0 ≠ 1) (w : World) (F : Fp) (h : (refT d N).on w F) => by
          have := rpaired_c h hokN hNl x1
          rw [show rstep N x1 3 1 = rstep N x1 (jn (x0, x1, x2)).1 (jn (x0, x1, x2)).2 from by simp [jn, h0, h1]] at this
          exact this
        generalize doStep M (x0, x1, x2) = S at *
        generalize rstep N x1 (jn (x0, x1, x2)).1 (jn (x0, x1, x2)).2 = S' at *
        obtain ⟨M', r⟩ := S
        obtain ⟨N', r'⟩ := S'
        have hE : r = r' := hE
        subst hE
        have hT : Twin M' N' := hT
        have hI : MInv M' := hI
        obtain ⟨F1, S1, v1⟩ := Asrt.stars_new hA.mem (A := .blk wr.heap.size (opB x0 x1 x2)) (w' := wr.alloc (opB x0 x1 x2)) (Fn := fun k => k = wr.heap.size) ⟨obj_alloc_at rfl, rfl⟩ (((Upd.refl none' wr).alloc _).re fun k hk => .inr (by rw [hk]; exact Nat.le_refl _))
        have V1 := hA.upd.trans v1
        obtain ⟨_, m1, _, go1⟩ := Asrt.stars_upd _ 1 _ rfl S1
        have HI := Keep.mk hI
        have HT := Keep.mk hT
        have R1 := Keep.mk R1
        have R2 := Keep.mk R2
        have R3 := Keep.mk R3
        have CD := Keep.mk CD
        clear hI hT hokN v1 hA
        go_wp2_with fail
        refine (CD.out _ _ m1).mono ?_
        rintro e w4 ⟨rfl, F4, m4, u4⟩
        obtain ⟨F5, S5, v5⟩ := go1 _ _ _ m4 u4
        have V5 := V1.trans v5
        obtain ⟨ko, lo⟩ := Asrt.stars_blk S5 0 rfl
        obtain ⟨_, m5, _, go5⟩ := Asrt.stars_upd _ 2 _ rfl S5
        have hd4 : d < w4.heap.size := by
          obtain ⟨_, ⟨v0, h0⟩, _⟩ := Asrt.stars_get S5 2 rfl
          exact (Asrt.stars_blk h0 0 rfl).2
        clear go1 m1 m4 u4 v5 S1 V1 k0 k1 k2
        -- behind the document's call
        have fin : ∀ (w6 : World) (F6 : Fp), (Asrt.stars [.blk wr.heap.size (opB x0 x1 x2), meterT b M', refT d N']).on w6 F6 → Upd none' F6 W w6 →
            ∃ vr ar cr, vr = .slice ar N'.length cr ∧ PlayS wr.heap.size b d x1 vr M' N' w6 := by
          intro w6 F6 S6 V6
          obtain ⟨kc, kl⟩ := Asrt.stars_blk S6 0 rfl
          obtain ⟨Fm, hm, _⟩ := Asrt.stars_get S6 1 rfl
          obtain ⟨Fr, hr, _⟩ := Asrt.stars_get S6 2 rfl
          have hr0 := hr
          obtain ⟨vr, hrs⟩ := hr
          obtain ⟨dc, dl⟩ := Asrt.stars_blk hrs 0 rfl
          obtain ⟨_, hrow, _⟩ := Asrt.stars_get hrs 1 rfl
          have hR := row_at hrow
          obtain ⟨ar, cr, he⟩ := hR.slice
          exact ⟨vr, ar, cr, he, ⟨Fm, hm⟩, ⟨Fr, hr0⟩, hR, kl, dl, kc 1, dc 0⟩
        have FIN := Keep.mk fin
        clear fin
        by_cases h0 : x0 = 0
        · have RC := R1.out h0
          subst h0
          go_wp2_with fail
          refine (RC _ _ m5).mono ?_
          rintro e w6 ⟨rfl, F6, m6, u6⟩
          obtain ⟨F7, S7, v7⟩ := go5 _ _ _ m6 u6
          have V7 := V5.trans v7
          obtain ⟨vr, ar, cr, rfl, hP⟩ := FIN.out w6 F7 S7 V7
          have s0 := hP.step (quiet_drewN w6 1)
          have EC := HT.out.find x1
          have ec : cof N' x1 = cof M' x1 := by rw [cof, cof, EC]
          have es : sumOf N' = sumOf M' := by simp only [sumOf, upto, tot_perm HT.out.perm]
          have ea : allOf M' = N' := HT.out.all HI.out.once
          have n1 := neqC (cof M' x1) (cof M' x1)
          have n2 := neqC (sumOf M') (sumOf M')
          rw [ceq_refl] at n1 n2
          have C1 := fun (w : World) (h : PlayS wr.heap.size b d x1 (.slice ar N'.length cr) M' N' w) => of_c h.m.choose_spec x1
          have C2 := fun (w : World) (h : PlayS wr.heap.size b d x1 (.slice ar N'.length cr) M' N' w) => rof_c h.r.choose_spec (by rw [HT.out.perm.length_eq]; have := HI.out.few; omega) x1
          have C3 := fun (w : World) (h : PlayS wr.heap.size b d x1 (.slice ar N'.length cr) M' N' w) => all_c h.m.choose_spec HI.out.once (fun c hc => by have := HI.out.size c hc; unfold maxLen; omega) (by have := HI.out.few; omega)
          have C4 := fun (w : World) (v : Value) (hv : ReadsC w v N') (h : PlayS wr.heap.size b d x1 (.slice ar N'.length cr) M' N' w) => same_c hv h.rd (by rw [HT.out.perm.length_eq]; have := HI.out.few; omega) (by rw [HT.out.perm.length_eq]; have := HI.out.few; omega)
          have C5 := fun (w : World) (h : PlayS wr.heap.size b d x1 (.slice ar N'.length cr) M' N' w) => sum_c h.m.choose_spec HI.out.ok (by have := HI.out.few; omega)
          have C6 := fun (w : World) (h : PlayS wr.heap.size b d x1 (.slice ar N'.length cr) M' N' w) => rsum_c h.r.choose_spec (fun c hc => HI.out.ok c (HT.out.perm.mem_iff.1 hc)) (by rw [HT.out.perm.length_eq]; have := HI.out.few; omega)
          simp only [ec, es, ea, sameL_iff.2 rfl] at C2 C3 C4 C6
          generalize cof M' x1 = CC at *
          generalize sumOf M' = SS at *
          simp only [aggC] at n1 n2
          have C1 := Keep.mk C1
          have C2 := Keep.mk C2
          have C3 := Keep.mk C3
          have C4 := Keep.mk C4
          have C5 := Keep.mk C5
          have C6 := Keep.mk C6
          have SV := Keep.mk S7
          clear EC ec es ea ko hP m6 u6 go5 m5 S5 v7
          go_wp2_with fail
          go_region_held3 (fun w' => w'.cell? ⟨wr.heap.size, 1, none⟩ = some (.string x1) ∧ w'.cell? ⟨d, 0, none⟩ = some (.slice ar N'.length cr)) (first | exact s0.all | exact s1.all | exact s2.all | exact s3.all | exact s4.all | exact s5.all | exact s6.all)
            (first
              | (go_at_call 16; refine (C1.out _ s0).mono ?_; rintro e w11 ⟨rfl, q1⟩; have s1 := s0.step q1)
              | (go_at_call 17; refine (C2.out _ s1).mono ?_; rintro e w12 ⟨rfl, q2⟩; have s2 := s1.step q2)
              | (go_at_call 19; refine (C3.out _ s2).mono ?_; rintro e w13 ⟨va, rfl, Fa, hrow, u3⟩; have q3 := Upd.quiet u3; have s3 := s2.step q3)
              | (go_at_call 18; refine (C4.out _ _ (row_at hrow) s3).mono ?_; rintro e w14 ⟨rfl, nq, rfl⟩; have q4 := quiet_drewN w13 nq; have s4 := s3.step q4)
              | (go_at_call 20; refine (C5.out _ s4).mono ?_; rintro e w15 ⟨rfl, q5⟩; have s5 := s4.step q5)
              | (go_at_call 21; refine (C6.out _ s5).mono ?_; rintro e w16 ⟨rfl, q6⟩; have s6 := s5.step q6))
          go_wp2_with fail
          have QQ := (((((quiet_drewN w6 1).trans q1).trans q2).trans q3).trans q4).trans (q5.trans q6)
          obtain ⟨S9, v9⟩ := Asrt.stars_same SV.out QQ
          obtain ⟨F8, S8, sub8⟩ := Asrt.stars_drop S9
          have V9 := V7.trans v9
          go_roundw
          case rel => exact ⟨k + 1, M', N', F8, by omega, by go_num, S8, V9.re fun k hk => V9.fp k (sub8 k hk), HI.out, HT.out⟩
          case measure => simp [intOf]; omega
        · have e2 : (x0 == 0) = false := by simp [h0]
          by_cases h1 : x0 = 1
          · have RC := R2.out h1
            subst h1
            go_wp2_with fail
            refine (RC _ _ m5).mono ?_
            rintro e w6 ⟨rfl, F6, m6, u6⟩
            obtain ⟨F7, S7, v7⟩ := go5 _ _ _ m6 u6
            have V7 := V5.trans v7
            obtain ⟨vr, ar, cr, rfl, hP⟩ := FIN.out w6 F7 S7 V7
            have s0 := hP.step (quiet_drewN w6 1)
            have EC := HT.out.find x1
            have ec : cof N' x1 = cof M' x1 := by rw [cof, cof, EC]
            have es : sumOf N' = sumOf M' := by simp only [sumOf, upto, tot_perm HT.out.perm]
            have ea : allOf M' = N' := HT.out.all HI.out.once
            have n1 := neqC (cof M' x1) (cof M' x1)
            have n2 := neqC (sumOf M') (sumOf M')
            rw [ceq_refl] at n1 n2
            have C1 := fun (w : World) (h : PlayS wr.heap.size b d x1 (.slice ar N'.length cr) M' N' w) => of_c h.m.choose_spec x1
            have C2 := fun (w : World) (h : PlayS wr.heap.size b d x1 (.slice ar N'.length cr) M' N' w) => rof_c h.r.choose_spec (by rw [HT.out.perm.length_eq]; have := HI.out.few; omega) x1
            have C3 := fun (w : World) (h : PlayS wr.heap.size b d x1 (.slice ar N'.length cr) M' N' w) => all_c h.m.choose_spec HI.out.once (fun c hc => by have := HI.out.size c hc; unfold maxLen; omega) (by have := HI.out.few; omega)
            have C4 := fun (w : World) (v : Value) (hv : ReadsC w v N') (h : PlayS wr.heap.size b d x1 (.slice ar N'.length cr) M' N' w) => same_c hv h.rd (by rw [HT.out.perm.length_eq]; have := HI.out.few; omega) (by rw [HT.out.perm.length_eq]; have := HI.out.few; omega)
            have C5 := fun (w : World) (h : PlayS wr.heap.size b d x1 (.slice ar N'.length cr) M' N' w) => sum_c h.m.choose_spec HI.out.ok (by have := HI.out.few; omega)
            have C6 := fun (w : World) (h : PlayS wr.heap.size b d x1 (.slice ar N'.length cr) M' N' w) => rsum_c h.r.choose_spec (fun c hc => HI.out.ok c (HT.out.perm.mem_iff.1 hc)) (by rw [HT.out.perm.length_eq]; have := HI.out.few; omega)
            simp only [ec, es, ea, sameL_iff.2 rfl] at C2 C3 C4 C6
            generalize cof M' x1 = CC at *
            generalize sumOf M' = SS at *
            simp only [aggC] at n1 n2
            have C1 := Keep.mk C1
            have C2 := Keep.mk C2
            have C3 := Keep.mk C3
            have C4 := Keep.mk C4
            have C5 := Keep.mk C5
            have C6 := Keep.mk C6
            have SV := Keep.mk S7
            clear EC ec es ea ko hP m6 u6 go5 m5 S5 v7
            go_wp2_with fail
            go_region_held3 (fun w' => w'.cell? ⟨wr.heap.size, 1, none⟩ = some (.string x1) ∧ w'.cell? ⟨d, 0, none⟩ = some (.slice ar N'.length cr)) (first | exact s0.all | exact s1.all | exact s2.all | exact s3.all | exact s4.all | exact s5.all | exact s6.all)
              (first
                | (go_at_call 16; refine (C1.out _ s0).mono ?_; rintro e w11 ⟨rfl, q1⟩; have s1 := s0.step q1)
                | (go_at_call 17; refine (C2.out _ s1).mono ?_; rintro e w12 ⟨rfl, q2⟩; have s2 := s1.step q2)
                | (go_at_call 19; refine (C3.out _ s2).mono ?_; rintro e w13 ⟨va, rfl, Fa, hrow, u3⟩; have q3 := Upd.quiet u3; have s3 := s2.step q3)
                | (go_at_call 18; refine (C4.out _ _ (row_at hrow) s3).mono ?_; rintro e w14 ⟨rfl, nq, rfl⟩; have q4 := quiet_drewN w13 nq; have s4 := s3.step q4)
                | (go_at_call 20; refine (C5.out _ s4).mono ?_; rintro e w15 ⟨rfl, q5⟩; have s5 := s4.step q5)
                | (go_at_call 21; refine (C6.out _ s5).mono ?_; rintro e w16 ⟨rfl, q6⟩; have s6 := s5.step q6))
            go_wp2_with fail
            have QQ := (((((quiet_drewN w6 1).trans q1).trans q2).trans q3).trans q4).trans (q5.trans q6)
            obtain ⟨S9, v9⟩ := Asrt.stars_same SV.out QQ
            obtain ⟨F8, S8, sub8⟩ := Asrt.stars_drop S9
            have V9 := V7.trans v9
            go_roundw
            case rel => exact ⟨k + 1, M', N', F8, by omega, by go_num, S8, V9.re fun k hk => V9.fp k (sub8 k hk), HI.out, HT.out⟩
            case measure => simp [intOf]; omega
          · have e3 : (x0 == 1) = false := by simp [h1]
            have RC := R3.out h0 h1
            clear h0 h1
            go_wp2_with fail
            refine (RC _ _ m5).mono ?_
            rintro e w6 ⟨rfl, F6, m6, u6⟩
            obtain ⟨F7, S7, v7⟩ := go5 _ _ _ m6 u6
            have V7 := V5.trans v7
            obtain ⟨vr, ar, cr, rfl, hP⟩ := FIN.out w6 F7 S7 V7
            have s0 := hP.step (quiet_drewN w6 1)
            have EC := HT.out.find x1
            have ec : cof N' x1 = cof M' x1 := by rw [cof, cof, EC]
            have es : sumOf N' = sumOf M' := by simp only [sumOf, upto, tot_perm HT.out.perm]
            have ea : allOf M' = N' := HT.out.all HI.out.once
            have n1 := neqC (cof M' x1) (cof M' x1)
            have n2 := neqC (sumOf M') (sumOf M')
            rw [ceq_refl] at n1 n2
            have C1 := fun (w : World) (h : PlayS wr.heap.size b d x1 (.slice ar N'.length cr) M' N' w) => of_c h.m.choose_spec x1
            have C2 := fun (w : World) (h : PlayS wr.heap.size b d x1 (.slice ar N'.length cr) M' N' w) => rof_c h.r.choose_spec (by rw [HT.out.perm.length_eq]; have := HI.out.few; omega) x1
            have C3 := fun (w : World) (h : PlayS wr.heap.size b d x1 (.slice ar N'.length cr) M' N' w) => all_c h.m.choose_spec HI.out.once (fun c hc => by have := HI.out.size c hc; unfold maxLen; omega) (by have := HI.out.few; omega)
            have C4 := fun (w : World) (v : Value) (hv : ReadsC w v N') (h : PlayS wr.heap.size b d x1 (.slice ar N'.length cr) M' N' w) => same_c hv h.rd (by rw [HT.out.perm.length_eq]; have := HI.out.few; omega) (by rw [HT.out.perm.length_eq]; have := HI.out.few; omega)
            have C5 := fun (w : World) (h : PlayS wr.heap.size b d x1 (.slice ar N'.length cr) M' N' w) => sum_c h.m.choose_spec HI.out.ok (by have := HI.out.few; omega)
            have C6 := fun (w : World) (h : PlayS wr.heap.size b d x1 (.slice ar N'.length cr) M' N' w) => rsum_c h.r.choose_spec (fun c hc => HI.out.ok c (HT.out.perm.mem_iff.1 hc)) (by rw [HT.out.perm.length_eq]; have := HI.out.few; omega)
            simp only [ec, es, ea, sameL_iff.2 rfl] at C2 C3 C4 C6
            generalize cof M' x1 = CC at *
            generalize sumOf M' = SS at *
            simp only [aggC] at n1 n2
            have C1 := Keep.mk C1
            have C2 := Keep.mk C2
            have C3 := Keep.mk C3
            have C4 := Keep.mk C4
            have C5 := Keep.mk C5
            have C6 := Keep.mk C6
            have SV := Keep.mk S7
            clear EC ec es ea ko hP m6 u6 go5 m5 S5 v7
            go_wp2_with fail
            go_region_held3 (fun w' => w'.cell? ⟨wr.heap.size, 1, none⟩ = some (.string x1) ∧ w'.cell? ⟨d, 0, none⟩ = some (.slice ar N'.length cr)) (first | exact s0.all | exact s1.all | exact s2.all | exact s3.all | exact s4.all | exact s5.all | exact s6.all)
              (first
                | (go_at_call 16; refine (C1.out _ s0).mono ?_; rintro e w11 ⟨rfl, q1⟩; have s1 := s0.step q1)
                | (go_at_call 17; refine (C2.out _ s1).mono ?_; rintro e w12 ⟨rfl, q2⟩; have s2 := s1.step q2)
                | (go_at_call 19; refine (C3.out _ s2).mono ?_; rintro e w13 ⟨va, rfl, Fa, hrow, u3⟩; have q3 := Upd.quiet u3; have s3 := s2.step q3)
                | (go_at_call 18; refine (C4.out _ _ (row_at hrow) s3).mono ?_; rintro e w14 ⟨rfl, nq, rfl⟩; have q4 := quiet_drewN w13 nq; have s4 := s3.step q4)
                | (go_at_call 20; refine (C5.out _ s4).mono ?_; rintro e w15 ⟨rfl, q5⟩; have s5 := s4.step q5)
                | (go_at_call 21; refine (C6.out _ s5).mono ?_; rintro e w16 ⟨rfl, q6⟩; have s6 := s5.step q6))
            go_wp2_with fail
            have QQ := (((((quiet_drewN w6 1).trans q1).trans q2).trans q3).trans q4).trans (q5.trans q6)
            obtain ⟨S9, v9⟩ := Asrt.stars_same SV.out QQ
            obtain ⟨F8, S8, sub8⟩ := Asrt.stars_drop S9
            have V9 := V7.trans v9
            go_roundw
            case rel => exact ⟨k + 1, M', N', F8, by omega, by go_num, S8, V9.re fun k hk => V9.fp k (sub8 k hk), HI.out, HT.out⟩
            case measure => simp [intOf]; omega
      · clear ha
        go_wp2_with fail
        go_ret
        exact ⟨rfl, hA.upd.quiet⟩
end meterPlays
end Go.Proofs.Ytglfkkaldeblhaa
