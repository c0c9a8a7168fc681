/- The document's meter: Sum. -/
import Derived.Test.YtglfkkaldeblhaaMeterR
import Derived.StillTailTactics
namespace Go.Proofs.Ytglfkkaldeblhaa
open Go.ChangeShapes Go.WideShapes Go.ChangeAt Go.RowKit Go.Sub Go.ChangeMaps
/-- what the sum reads, in a world -/
structure SumR (o b g off k n ca : Nat) (S x : Cnt) (w : World) : Prop where
  o1 : w.cell? ⟨o, 1, none⟩ = some (.int .i64 S.d)
  o2 : w.cell? ⟨o, 2, none⟩ = some (.int .i64 S.u)
  o3 : w.cell? ⟨o, 3, none⟩ = some (.int .i64 S.p)
  b0 : w.cell? ⟨b, 0, none⟩ = some (.slice (some ⟨g, off, none⟩) n ca)
  g1 : w.cell? ⟨g, off + k * 4 + 1, none⟩ = some (.int .i64 x.d)
  g2 : w.cell? ⟨g, off + k * 4 + 2, none⟩ = some (.int .i64 x.u)
  g3 : w.cell? ⟨g, off + k * 4 + 3, none⟩ = some (.int .i64 x.p)
theorem SumR.drew {o b g off k n ca : Nat} {S x : Cnt} {w : World} (h : SumR o b g off k n ca S x w) : SumR o b g off k n ca S x w.drew := ⟨h.o1, h.o2, h.o3, h.b0, h.g1, h.g2, h.g3⟩
theorem SumR.of {o b g off k n ca : Nat} {S S' x : Cnt} {w w' : World} {F F' : Fp} (h : SumR o b g off k n ca S x w) (hu : Upd F F' w w') (hb : b < w.heap.size) (hg : g < w.heap.size) (nb : ¬ F b) (ng : ¬ F g)
    (ho : (Asrt.blk o (.cells S'.cells 36 (0, 0))).on w' F) : SumR o b g off k n ca S' x w' :=
  ⟨(blk_facts ho.1).1 1, (blk_facts ho.1).1 2, (blk_facts ho.1).1 3, (hu.cell hb nb).trans h.b0, (hu.cell hg ng).trans h.g1, (hu.cell hg ng).trans h.g2, (hu.cell hg ng).trans h.g3⟩
theorem still_of {P : Program} {f : FuncId} {args : Array Value} {v : Value} {w : World} (h : Calls P f args w (Ret v fun w' => w = w')) : Calls P f args w fun e w' => e = .returned v ∧ w' = w :=
  h.mono fun _ _ ⟨he, hw⟩ => ⟨he, hw.symm⟩
set_option maxRecDepth 100000 in
set_option maxHeartbeats 4000000 in
theorem rsum_c {b : Nat} {L : List Cnt} {w : World} {F : Fp} (hM : (refT b L).on w F) (hok : ∀ c ∈ L, Ok c) (hl : L.length ≤ 1000) :
    Calls Try.prog 21 #[.pointer (some ⟨b, 0, none⟩)] w (Ret (aggC (sumOf L)) fun w' => Quiet w w') := by
  obtain ⟨v, hS⟩ := hM
  obtain ⟨hc, hf, hlt⟩ := Asrt.blk_of hS 0 rfl
  obtain ⟨_, hr, _⟩ := Asrt.stars_get hS 1 rfl
  have hR := row_at hr
  obtain ⟨a, ca, rfl⟩ := hR.slice
  have HR := Keep.mk hR.at.2
  have hc0 : w.cell? ⟨b, 0, none⟩ = some (.slice a L.length ca) := hc 0
  have HOK := Keep.mk hok
  obtain ⟨F1, h1, u1⟩ := Go.Sub.new_blk (l := []) (w := w) (F := none') rfl (.cells (Cnt.cells ⟨ByteArray.empty, 0, 0, 0⟩) 36 (0, 0))
  obtain ⟨F2, h2, u2⟩ := Go.Sub.new_blk h1 (.cells (Cnt.cells ⟨ByteArray.empty, 0, 0, 0⟩) 36 (0, 0))
  rw [Go.Sub.size_alloc'] at h2
  clear hR hr hS hc hok h1
  go_enter Try.func21, Try.ntmps21
  go_wp2_with fail
  go_loopw [4] (fun i wr => ∃ (k : Nat) (F' : Fp), k ≤ L.length ∧ i = .int .i64 k ∧ (Asrt.stars [.blk (w.heap.size + 1) (.cells (sumOf (L.take k)).cells 36 (0, 0)), .blk w.heap.size (.cells (Cnt.cells ⟨ByteArray.empty, 0, 0, 0⟩) 36 (0, 0))]).on wr F' ∧ Upd none' F' w wr) (fun i _ => L.length - (intOf i).toNat)
  case atStart => exact ⟨0, F2, by omega, rfl, h2, u1.trans u2⟩
  case round =>
    clear h2 u1 u2
    obtain ⟨k, F', hk, rfl, hSt, hU⟩ := hrel
    have q0 : wr.cell? ⟨b, 0, none⟩ = some (.slice a L.length ca) := (hU.cell hlt id).trans hc0
    by_cases hk' : k < L.length
    · obtain ⟨g, off, rfl, hg, c0, c1, c2, c3⟩ := HR.out k hk'
      have hokx := HOK.out L[k] (List.getElem_mem hk')
      have hpre : ∀ c ∈ L.take k, Ok c := fun c hc => HOK.out c (List.mem_of_mem_take hc)
      have e1 := upto_step (f := Cnt.d) (fun c hc => (hpre c hc).d0) hokx.d0
      have e2 := upto_step (f := Cnt.u) (fun c hc => (hpre c hc).u0) hokx.u0
      have e3 := upto_step (f := Cnt.p) (fun c hc => (hpre c hc).p0) hokx.p0
      have b1 := upto_in (f := Cnt.d) (fun c hc => (hpre c hc).d0)
      have b2 := upto_in (f := Cnt.u) (fun c hc => (hpre c hc).u0)
      have b3 := upto_in (f := Cnt.p) (fun c hc => (hpre c hc).p0)
      rw [← List.take_succ_eq_append_getElem hk'] at e1 e2 e3
      have hsn : sumOf (L.take (k + 1)) = ⟨ByteArray.empty, cap (upto Cnt.d (L.take k)) L[k].d, cap (upto Cnt.u (L.take k)) L[k].u, cap (upto Cnt.p (L.take k)) L[k].p⟩ := by rw [e1, e2, e3]; rfl
      have hso : sumOf (L.take k) = ⟨ByteArray.empty, upto Cnt.d (L.take k), upto Cnt.u (L.take k), upto Cnt.p (L.take k)⟩ := rfl
      rw [hso] at hSt
      have hbr : b < wr.heap.size := Nat.lt_of_lt_of_le hlt hU.size
      have hgr : g < wr.heap.size := Nat.lt_of_lt_of_le hg hU.size
      have x1 := (hU.cell (a := ⟨g, off + k * 4 + 1, none⟩) hg id).trans c1
      have x2 := (hU.cell (a := ⟨g, off + k * 4 + 2, none⟩) hg id).trans c2
      have x3 := (hU.cell (a := ⟨g, off + k * 4 + 3, none⟩) hg id).trans c3
      generalize L[k] = x at *
      generalize upto Cnt.d (L.take k) = D at *
      generalize upto Cnt.u (L.take k) = U at *
      generalize upto Cnt.p (L.take k) = P at *
      clear e1 e2 e3 hso c0 c1 c2 c3 hpre
      obtain ⟨Fo, ho, _, hgo⟩ := Asrt.stars_upd _ 0 _ rfl hSt
      have hFo : Fo = fun k => k = w.heap.size + 1 := ho.2
      have nb : ¬ Fo b := by rw [hFo]; intro e; omega
      have ng : ¬ Fo g := by rw [hFo]; intro e; omega
      have s1 : SumR (w.heap.size + 1) b g off k L.length ca ⟨ByteArray.empty, D, U, P⟩ x wr := ⟨(blk_facts ho.1).1 1, (blk_facts ho.1).1 2, (blk_facts ho.1).1 3, q0, x1, x2, x3⟩
      have ho1 := ho
      have hb1 := hbr
      have hg1 := hgr
      have nb' : b ≠ w.heap.size + 1 := by omega
      have ng' : g ≠ w.heap.size + 1 := by omega
      have m1 := more_c D x.d
      have m2 := more_c U x.u
      have m3 := more_c P x.p
      have HX := Keep.mk hokx
      have HB := Keep.mk (And.intro b1 (And.intro b2 b3))
      have HS := Keep.mk hsn
      clear hokx b1 b2 b3 hsn hSt q0 x1 x2 x3 ho hbr hgr
      obtain ⟨B1, v1⟩ := Go.Sub.blk_set ho1 1 (.int .i64 (cap D x.d))
      have B1 := Asrt.drew B1
      have v1 := v1.drew
      have t1 := s1.of (S' := ⟨ByteArray.empty, cap D x.d, U, P⟩) v1 hb1 hg1 nb ng B1
      obtain ⟨o1, o2, o3, q0, x1, x2, x3⟩ := s1
      have hb2 : b < _ := Nat.lt_of_lt_of_le hb1 v1.size
      have hg2 : g < _ := Nat.lt_of_lt_of_le hg1 v1.size
      have fz := (blk_facts ho1.1).2.1
      have ol := (blk_facts ho1.1).2.2
      go_wp2_with fail
      go_still_tail 12, (by kernel_rfl)
      still_call (still_of (m1 _ HB.out.1.1 HB.out.1.2 HX.out.d0))
      repeat still_step
      refine wpStill_nil ?_
      change wpList _ _ _ _ _ (World.drew wr)
      go_wp2_with fail
      clear o1 o2 o3 q0 x1 x2 x3 fz ol
      generalize (wr.setCell ⟨w.heap.size + 1, 1, none⟩ (.int .i64 (cap D x.d))).drew = W1 at *
      have ho2 := B1
      have s2 := t1
      obtain ⟨B2, v2⟩ := Go.Sub.blk_set ho2 2 (.int .i64 (cap U x.u))
      have B2 := Asrt.drew B2
      have v2 := v2.drew
      have t2 := s2.of (S' := ⟨ByteArray.empty, cap D x.d, cap U x.u, P⟩) v2 hb2 hg2 nb ng B2
      obtain ⟨o1, o2, o3, q0, x1, x2, x3⟩ := s2
      have hb3 : b < _ := Nat.lt_of_lt_of_le hb2 v2.size
      have hg3 : g < _ := Nat.lt_of_lt_of_le hg2 v2.size
      have fz := (blk_facts ho2.1).2.1
      have ol := (blk_facts ho2.1).2.2
      go_wp2_with fail
      go_still_tail 12, (by kernel_rfl)
      still_call (still_of (m2 _ HB.out.2.1.1 HB.out.2.1.2 HX.out.u0))
      repeat still_step
      refine wpStill_nil ?_
      change wpList _ _ _ _ _ (World.drew W1)
      go_wp2_with fail
      clear o1 o2 o3 q0 x1 x2 x3 fz ol
      generalize (W1.setCell ⟨w.heap.size + 1, 2, none⟩ (.int .i64 (cap U x.u))).drew = W2 at *
      have ho3 := B2
      have s3 := t2
      obtain ⟨B3, v3⟩ := Go.Sub.blk_set ho3 3 (.int .i64 (cap P x.p))
      have B3 := Asrt.drew B3
      have v3 := v3.drew
      have t3 := s3.of (S' := ⟨ByteArray.empty, cap D x.d, cap U x.u, cap P x.p⟩) v3 hb3 hg3 nb ng B3
      obtain ⟨o1, o2, o3, q0, x1, x2, x3⟩ := s3
      have hb4 : b < _ := Nat.lt_of_lt_of_le hb3 v3.size
      have hg4 : g < _ := Nat.lt_of_lt_of_le hg3 v3.size
      have fz := (blk_facts ho3.1).2.1
      have ol := (blk_facts ho3.1).2.2
      go_wp2_with fail
      go_still_tail 12, (by kernel_rfl)
      still_call (still_of (m3 _ HB.out.2.2.1 HB.out.2.2.2 HX.out.p0))
      repeat still_step
      refine wpStill_nil ?_
      change wpList _ _ _ _ _ (World.drew W2)
      go_wp2_with fail
      clear o1 o2 o3 q0 x1 x2 x3 fz ol
      generalize (W2.setCell ⟨w.heap.size + 1, 3, none⟩ (.int .i64 (cap P x.p))).drew = W3 at *
      have ho4 := B3
      have s4 := t3
      go_roundw
      case measure => simp [intOf]; omega
      case rel =>
        obtain ⟨F5, h5, u5'⟩ := hgo _ _ (.blk (w.heap.size + 1) (.cells (sumOf (L.take (k + 1))).cells 36 (0, 0))) (by rw [HS.out]; exact B3) ((v1.trans v2).trans v3)
        exact ⟨k + 1, F5, by omega, by go_num, h5, hU.trans u5'⟩
    · have hkk : k = L.length := by omega
      subst hkk
      rw [List.take_length] at hSt
      obtain ⟨k1, f1, l1⟩ := Asrt.blk_of hSt 0 rfl
      obtain ⟨k0, f0, l0⟩ := Asrt.blk_of hSt 1 rfl
      have hUQ := hU.quiet
      obtain ⟨S, hSd⟩ : ∃ S, S = sumOf L := ⟨_, rfl⟩
      have HS := Keep.mk hSd
      rw [← hSd] at k1
      clear hSd hSt
      go_wp2_with fail
      refine bodyPost_ret (by simp [results, Try.results21, go_sem, k0]; try rfl) rfl ?_
      exact ⟨by rw [← HS.out], ((((hU.setCell (.inr (Nat.le_refl _)) _).setCell (.inr (Nat.le_refl _)) _).setCell (.inr (Nat.le_refl _)) _).setCell (.inr (Nat.le_refl _)) _).quiet⟩
end Go.Proofs.Ytglfkkaldeblhaa
