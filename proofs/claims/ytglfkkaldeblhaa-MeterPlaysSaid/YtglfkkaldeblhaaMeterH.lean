/- MeterSum: its walk. -/
import Derived.Test.YtglfkkaldeblhaaMeterF
import Derived.Test.YtglfkkaldeblhaaMeterG
import Derived.Deep.DeepCutAuto
namespace Go.Proofs.Ytglfkkaldeblhaa
open Go.RowKit Go.Sub Go.ChangeMaps
theorem cof_mem {M : List Cnt} (h : (M.map (·.t)).Nodup) {c : Cnt} (hc : c ∈ M) : cof M c.t = c := by
  unfold cof
  induction M with
  | nil => cases hc
  | cons x M ih =>
    rw [List.map_cons, List.nodup_cons] at h
    by_cases e : x.t = c.t
    · rcases List.mem_cons.1 hc with rfl | hc
      · simp
      · exact absurd (List.mem_map_of_mem (f := fun x : Cnt => x.t) hc) (e ▸ h.1)
    · rcases List.mem_cons.1 hc with rfl | hc
      · exact absurd rfl e
      · simp only [List.find?_cons, e, decide_false]
        exact ih h.2 hc
theorem allOf_perm {M : List Cnt} (h : (M.map (·.t)).Nodup) : (allOf M).Perm M := by
  have h1 := (keysOf_perm (M.map (·.t))).map (cof M)
  have h2 : (M.map (·.t)).map (cof M) = M := by
    rw [List.map_map]
    exact (List.map_congr_left (g := id) fun c hc => cof_mem h hc).trans (List.map_id M)
  rw [h2] at h1
  exact h1
/-- what holds of the meter between two calls -/
structure MAt (W : World) (b : Nat) (w : World) (M : List Cnt) (F : Fp) : Prop where
  mem : (meterT b M).on w F
  upd : Upd none' F W w
  inv : MInv M
theorem blk_set {b : Nat} {c : Array Value} {t : TypeId} {w : World} {F : Fp} (h : (Asrt.blk b (.cells c t (0, 0))).on w F) (i : Nat) (v : Value) :
    (Asrt.blk b (.cells (c.setIfInBounds i v) t (0, 0))).on (w.setCell ⟨b, i, none⟩ v) F ∧ Upd F F w (w.setCell ⟨b, i, none⟩ v) :=
  ⟨⟨obj_setCell_at h.1 _ _, h.2⟩, (Upd.refl F w).setCell (a := ⟨b, i, none⟩) (.inl (by rw [h.2])) v⟩
/-- the four cells of a count -/
structure CellsC (g : Nat) (c : Cnt) (w : World) : Prop where
  mk ::
  all : w.cell? ⟨g, 0, none⟩ = some (.string c.t) ∧ w.cell? ⟨g, 1, none⟩ = some (.int .i64 c.d) ∧ w.cell? ⟨g, 2, none⟩ = some (.int .i64 c.u) ∧ w.cell? ⟨g, 3, none⟩ = some (.int .i64 c.p)
theorem CellsC.step {g : Nat} {c : Cnt} {w w' : World} (h : CellsC g c w) (hq : Quiet w w') (hg : g < w.heap.size) : CellsC g c w' := by
  have hc : ∀ i, w'.cell? ⟨g, i, none⟩ = w.cell? ⟨g, i, none⟩ := fun i => hq.cell hg id
  refine ⟨?_⟩
  simp only [hc]
  exact h.all
namespace meterSum
set_option maxHeartbeats 4000000 in
set_option maxRecDepth 100000 in
theorem walk {W : World} (v : Value) (L : List MOp) (hL : Reads W 3 encOp v L) (hmax : L.length ≤ maxLen) : Calls Try.prog 7 #[v] W (Ret (.bool true) fun W' => Quiet W W') := by
  go_enter Try.func7, Try.ntmps7
  go_wp2_with fail
  refine (head_c _).mono ?_
  rintro e w1 ⟨rfl, u1⟩
  go_wp2_with fail
  refine (new_c _).mono ?_
  rintro e w2 ⟨b, rfl, F, t, u2⟩
  have hL2 := hL.upd (Upd.trans u1 u2) fun _ _ h => h
  go_wp2_with fail
  refine (great_c hL2 hmax).mono ?_
  rintro e w3 ⟨r, rfl, rfl, hr⟩
  have U2 := Upd.trans u1 u2
  cases r with
  | true =>
    clear hr
    go_wp2_with fail
    go_ret
    exact ⟨rfl, U2.quiet⟩
  | false =>
    obtain ⟨hn, hs⟩ := hr rfl
    clear hr hL2
    have hlen : L.length ≤ 400 := hn
    obtain ⟨a, cap, rfl, ha⟩ := hL
    have HS := Keep.mk hs
    clear hs hn
    go_wp2_with fail
    go_loopw [5] (fun i wr => ∃ k M F, k ≤ L.length ∧ i = .int .i64 (k : Nat) ∧ MAt W b wr M F) (fun i _ => L.length - (intOf i).toNat)
    case atStart => exact ⟨0, [], F, by omega, rfl, t, U2, minv_nil⟩
    case round =>
      obtain ⟨k, M, F, hk, rfl, hA⟩ := hrel
      by_cases hlt : k < L.length
      · obtain ⟨g, off, rfl, hg, hc⟩ := ha k L[k] (List.getElem?_eq_getElem hlt)
        have hsz := HS.out L[k] (List.getElem_mem hlt)
        generalize hx : L[k] = x at *
        obtain ⟨x0, x1, x2⟩ := x
        have k0 : wr.cell? ⟨g, off + k * 3, none⟩ = some (.int .i64 x0) := by rw [hA.upd.cell hg id]; exact hc 0 _ rfl
        have k1 : wr.cell? ⟨g, off + k * 3 + 1, none⟩ = some (.string x1) := by rw [hA.upd.cell hg id]; exact hc 1 _ rfl
        have k2 : wr.cell? ⟨g, off + k * 3 + 2, none⟩ = some (.int .i64 x2) := by rw [hA.upd.cell hg id]; exact hc 2 _ rfl
        clear hx ha
        have CD := does_c hA.mem hA.inv.ok (x0, x1, x2)
        have hI : MInv (doStep M (x0, x1, x2)).1 := inv_cstep hA.inv hsz
        generalize doStep M (x0, x1, x2) = S at *
        have CD := Keep.mk CD
        have HI := Keep.mk hI
        clear hI
        go_wp2_with fail
        refine CD.out.mono ?_
        rintro e w4 ⟨rfl, F4, h4, u4⟩
        go_wp2_with fail
        go_roundw
        case rel => exact ⟨k + 1, S.1, F4, by omega, by go_num, h4, hA.upd.trans u4, HI.out⟩
        case measure => simp [intOf]; omega
      · clear ha
        go_wp2_with fail
        have hMa := Asrt.alloc hA.mem (.cells (Cnt.cells ⟨⟨#[]⟩, 0, 0, 0⟩) 36)
        have hI := hA.inv
        refine (all_c hMa hI.once (fun c hc => by have := hI.size c hc; unfold maxLen; omega) (by have := hI.few; omega)).mono ?_
        rintro e w5 ⟨va, rfl, Fa, hrow, u5⟩
        obtain ⟨F1, h1, u1'⟩ := new_blk (l := []) (w := wr) (F := none') rfl (.cells (Cnt.cells ⟨ByteArray.empty, 0, 0, 0⟩) 36 (0, 0))
        obtain ⟨F2, h2, u2'⟩ := Asrt.stars_new h1 hrow u5
        have hMw := (meterT b M).frame hMa u5 fun _ _ h => h
        have hap := allOf_perm hI.once
        generalize allOf M = A at *
        obtain ⟨aa, ca, rfl, _⟩ := (row_reads (enc := encC) (fun _ => rfl) hrow).1
        have u12 := u1'.trans u2'
        clear hMw u1' u2' u5 h1 hrow hMa
        have hokA : ∀ c ∈ A, Ok c := fun c hc => hI.ok c (hap.mem_iff.1 hc)
        have hAl : A.length ≤ 64 := by rw [hap.length_eq]; exact hI.few
        have HP := Keep.mk hap
        have HOK := Keep.mk hokA
        have HI := Keep.mk hI
        clear hap hokA hI
        go_wp2_with fail
        obtain ⟨wo, rfl⟩ : ∃ wo : World, wo = wr := ⟨_, rfl⟩
        go_loopw [8] (fun i wi => ∃ k F', k ≤ A.length ∧ i = .int .i64 (k : Nat) ∧ (Asrt.stars [row 36 4 encC (.slice aa A.length ca) A, .blk wo.heap.size (.cells (sumOf (A.take k)).cells 36 (0, 0))]).on wi F' ∧ Upd none' F' wo wi) (fun i _ => A.length - (intOf i).toNat)
        case atStart => exact ⟨0, F2, by omega, rfl, h2, u12⟩
        case round =>
          clear h2 u12
          obtain ⟨i, F', hi, rfl, hSt, hU⟩ := hrel
          by_cases hlt : i < A.length
          · obtain ⟨_, hrow, _⟩ := Asrt.stars_get hSt 0 rfl
            obtain ⟨a', c', heq, hka⟩ := (row_reads (enc := encC) (fun _ => rfl) hrow).1
            obtain ⟨g, off, rfl, hg, hcell⟩ := hka i A[i] (List.getElem?_eq_getElem hlt)
            cases heq
            obtain ⟨Fb, hblk, _, hgo⟩ := Asrt.stars_upd _ 1 _ rfl hSt
            obtain ⟨hwc, hwf, hwl⟩ := blk_facts hblk.1
            have ngb : g ≠ wo.heap.size := by
              obtain ⟨G1, G2, hr1, ⟨G3, G4, hb1, _, _, rfl⟩, hd, _⟩ := hSt
              intro e
              refine hd g (by rw [hr1.2]; rfl) (.inl (by rw [hb1.2]; exact e))
            have hci := HOK.out A[i] (List.getElem_mem hlt)
            have hst : sumOf (A.take (i + 1)) = ⟨ByteArray.empty, min (upto Cnt.d (A.take i) + A[i].d) most, min (upto Cnt.u (A.take i) + A[i].u) most, min (upto Cnt.p (A.take i) + A[i].p) most⟩ := by
              have h1 := tot_nonneg (f := Cnt.d) (l := A.take i) fun c hc => (HOK.out c (List.mem_of_mem_take hc)).d0
              have h2 := tot_nonneg (f := Cnt.u) (l := A.take i) fun c hc => (HOK.out c (List.mem_of_mem_take hc)).u0
              have h3 := tot_nonneg (f := Cnt.p) (l := A.take i) fun c hc => (HOK.out c (List.mem_of_mem_take hc)).p0
              have h4 := hci.d0
              have h5 := hci.u0
              have h6 := hci.p0
              rw [List.take_succ_eq_append_getElem hlt]
              simp only [sumOf, upto, tot_app, tot, Cnt.mk.injEq, true_and]
              omega
            have b1 := upto_in (f := Cnt.d) (l := A.take i) fun c hc => (HOK.out c (List.mem_of_mem_take hc)).d0
            have b2 := upto_in (f := Cnt.u) (l := A.take i) fun c hc => (HOK.out c (List.mem_of_mem_take hc)).u0
            have b3 := upto_in (f := Cnt.p) (l := A.take i) fun c hc => (HOK.out c (List.mem_of_mem_take hc)).p0
            simp only [sumOf, Cnt.cells] at hwc hblk
            generalize upto Cnt.d (A.take i) = D at *
            generalize upto Cnt.u (A.take i) = U at *
            generalize upto Cnt.p (A.take i) = P at *
            generalize A[i] = c at *
            have q1 : wr.cell? ⟨g, off + i * 4 + 1, none⟩ = some (.int .i64 c.d) := hcell 1 _ rfl
            have q2 : wr.cell? ⟨g, off + i * 4 + 2, none⟩ = some (.int .i64 c.u) := hcell 2 _ rfl
            have q3 : wr.cell? ⟨g, off + i * 4 + 3, none⟩ = some (.int .i64 c.p) := hcell 3 _ rfl
            have e1 : IntKind.i64.wrap (D + c.d) = D + c.d := by have := hci.d0; have := hci.d1; unfold most at *; rw [IntKind.wrap_i64]; omega
            have e2 : IntKind.i64.wrap (U + c.u) = U + c.u := by have := hci.u0; have := hci.u1; unfold most at *; rw [IntKind.wrap_i64]; omega
            have e3 : IntKind.i64.wrap (P + c.p) = P + c.p := by have := hci.p0; have := hci.p1; unfold most at *; rw [IntKind.wrap_i64]; omega
            have HST := Keep.mk hst
            have HB := Keep.mk hblk
            clear hst hcell hka hrow hci b1 b2 b3 hblk
            go_wp2_with fail
            go_region
            go_wp2_with fail
            go_region
            go_wp2_with fail
            go_region
            go_wp2_with fail
            go_roundw
            case measure => simp [intOf]; omega
            case rel =>
              obtain ⟨B1, v1⟩ := blk_set HB.out 1 (.int .i64 (min (D + c.d) 1099511627776))
              obtain ⟨B2, v2⟩ := blk_set B1 2 (.int .i64 (min (U + c.u) 1099511627776))
              obtain ⟨B3, v3⟩ := blk_set B2 3 (.int .i64 (min (P + c.p) 1099511627776))
              obtain ⟨F5, h5, u5'⟩ := hgo _ _ (.blk wo.heap.size (.cells (sumOf (A.take (i + 1))).cells 36 (0, 0))) (by rw [HST.out]; exact (Asrt.drew (Asrt.drew (Asrt.drew B3)))) (((v1.trans v2).trans v3).drew.drew.drew)
              exact ⟨i + 1, F5, by omega, by go_num, h5, hU.trans u5'⟩
          · have hii : i = A.length := by omega
            subst hii
            have hsum : sumOf A = sumOf M := by simp only [sumOf, upto, tot_perm HP.out]
            rw [List.take_length, hsum] at hSt
            obtain ⟨_, ⟨hB, _⟩, _⟩ := Asrt.stars_get hSt 1 rfl
            obtain ⟨hBc, _, hBl⟩ := blk_facts hB
            have t8 := Asrt.drew ((meterT b M).frame hA.mem hU fun _ _ h => h)
            have s8 : CellsC wo.heap.size (sumOf M) wr.drew := ⟨⟨hBc 0, hBc 1, hBc 2, hBc 3⟩⟩
            have g8 : wo.heap.size < wr.drew.heap.size := hBl
            have CS := Keep.mk (sum_c t8 HI.out.ok (by have := HI.out.few; omega))
            have EQ := eqC (sumOf M) (sumOf M)
            rw [ceq_refl] at EQ
            have hUW := hA.upd.trans (hU.quiet.weaken (G := F) (F'' := none') (fun _ h => h.elim) fun _ h => h.elim)
            clear hB hBc hBl hSt hsum hlt
            generalize sumOf M = S at *
            simp only [aggC] at EQ
            go_wp2_with fail
            go_region_held3 (fun w' => w'.cell? ⟨wo.heap.size, 0, none⟩ = some (.string S.t) ∧ w'.cell? ⟨wo.heap.size, 1, none⟩ = some (.int .i64 S.d) ∧ w'.cell? ⟨wo.heap.size, 2, none⟩ = some (.int .i64 S.u) ∧ w'.cell? ⟨wo.heap.size, 3, none⟩ = some (.int .i64 S.p)) (first | exact s8.all | exact s9.all)
              ((go_at_call 20; refine CS.out.mono ?_; rintro e w9 ⟨rfl, q9⟩; have s9 := s8.step q9 g8))
            go_wp2_with fail
            go_ret
            exact ⟨rfl, (hUW.drew.trans q9).quiet⟩
end meterSum
end Go.Proofs.Ytglfkkaldeblhaa
