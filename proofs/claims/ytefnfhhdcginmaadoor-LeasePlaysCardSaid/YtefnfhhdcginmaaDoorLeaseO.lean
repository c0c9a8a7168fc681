/- The book of leases: Lapse. -/
import Derived.Test.YtefnfhhdcginmaaDoorLeaseN
set_option linter.unusedVariables false
namespace Go.Proofs.YtefnfhhdcginmaaDoor
open Go.RowKit Go.Sub Go.ChangeMaps
theorem ent_lapse1 : Enters 52 := fun _ _ => by go_simp
theorem ent_lapse2 : Enters 53 := fun _ _ => by go_simp
theorem ent_lapse3 : Enters 55 := fun _ _ => by go_simp
def soLapse (now : Int) (x : Lz) : Bool := x.held && decide (x.til ≤ now)
theorem stepL_all {P : Lz → Prop} (so : Lz → Bool) (dof : Lz → Lz) (hd : ∀ x, P x → so x = true → P (dof x)) {M : LT} (h : ∀ p ∈ M, P p.2) (nm : ByteArray) : ∀ p ∈ stepL so dof M nm, P p.2 := by
  unfold stepL
  split
  · exact h
  · rename_i x hx
    split
    · rename_i hs
      have hPx := hd x (h _ (mget_mem hx)) hs
      intro p hp
      clear hx
      induction M with
      | nil => simp [mset] at hp; rw [hp]; exact hPx
      | cons q M ih =>
        obtain ⟨k, u⟩ := q
        by_cases e : k = nm
        · simp only [mset, if_pos e, List.mem_cons] at hp
          rcases hp with rfl | hp
          · exact hPx
          · exact h p (List.mem_cons_of_mem _ hp)
        · simp only [mset, if_neg e, List.mem_cons] at hp
          rcases hp with rfl | hp
          · exact h _ (List.mem_cons_self ..)
          · exact ih (fun p hp => h p (List.mem_cons_of_mem _ hp)) hp
    · exact h
theorem foldL_all {P : Lz → Prop} (so : Lz → Bool) (dof : Lz → Lz) (hd : ∀ x, P x → so x = true → P (dof x)) : ∀ (ns : List ByteArray) {M : LT}, (∀ p ∈ M, P p.2) → ∀ p ∈ foldL so dof ns M, P p.2
  | [], M, h => h
  | n :: ns, M, h => foldL_all so dof hd ns (stepL_all so dof hd h n)
theorem stepL_keys (so : Lz → Bool) (dof : Lz → Lz) (M : LT) (nm : ByteArray) : (stepL so dof M nm).map (·.1) = M.map (·.1) := by
  unfold stepL
  split
  · rfl
  · rename_i x hx
    split
    · exact mset_keys hx _
    · rfl
theorem foldL_keys (so : Lz → Bool) (dof : Lz → Lz) : ∀ (ns : List ByteArray) (M : LT), (foldL so dof ns M).map (·.1) = M.map (·.1)
  | [], M => rfl
  | n :: ns, M => (foldL_keys so dof ns (stepL so dof M n)).trans (stepL_keys so dof M n)
set_option maxHeartbeats 1000000 in
set_option maxRecDepth 100000 in
theorem lapse1_c {cb bn : Nat} {x : Lz} {w : World} {Fi : Fp} (h : (Asrt.blk cb (blkL x)).on w Fi) {now : Int} (kn : w.cell? ⟨bn, 0, none⟩ = some (.int .i64 now)) :
    Calls Tryd.prog 52 #[.pointer (some ⟨cb, 0, none⟩), .pointer (some ⟨bn, 0, none⟩)] w (Ret (.bool (soLapse now x)) fun w' => ∃ n, w' = w.drewN n) := by
  obtain ⟨hc, hf, hl⟩ := blk_facts h.1
  have k4 := hc 4
  have k5 := hc 5
  obtain ⟨x0, x1, xc, x3, til, held⟩ := x
  simp only at k4 k5
  unfold soLapse
  simp only
  clear h hc hf
  cases held with
  | false =>
    go_enter Tryd.func52, Tryd.ntmps52
    go_wp2_with fail
    go_quiet (fail)
    go_wp2_with fail
    go_ret
    exact ⟨rfl, _, rfl⟩
  | true =>
    go_enter Tryd.func52, Tryd.ntmps52
    go_wp2_with fail
    go_quiet (fail)
    go_wp2_with fail
    go_ret
    exact ⟨by simp, _, rfl⟩
set_option maxHeartbeats 1000000 in
set_option maxRecDepth 100000 in
theorem lapse2_c {cb bb b : Nat} {x : Lz} {w : World} {Fi : Fp} (h : (Asrt.blk cb (blkL x)).on w Fi) {g : Int} (kb : w.cell? ⟨bb, 0, none⟩ = some (.pointer (some ⟨b, 0, none⟩))) (kg : w.cell? ⟨b, 0, none⟩ = some (.int .i64 g))
    (g0 : 0 ≤ g) (g1 : g ≤ 1073741824) (ht : TilOk x.til) :
    Calls Tryd.prog 53 #[.pointer (some ⟨cb, 0, none⟩), .pointer (some ⟨bb, 0, none⟩)] w (Ret (.tuple #[]) fun w' => (Asrt.blk cb (blkL (keptL x (x.til + g)))).on w' Fi ∧ Upd Fi Fi w w') := by
  have hd := (Asrt.blk cb (blkL x)).frame h (Upd.drew (Upd.refl none' w)) fun _ _ h => h
  have C := Keep.mk (keep_c hd (x.til + g))
  obtain ⟨t0, t1⟩ := ht
  obtain ⟨hc, hf, hl⟩ := blk_facts h.1
  have k4 := hc 4
  obtain ⟨x0, x1, xc, x3, til, held⟩ := x
  simp only at k4 t0 t1 C ⊢
  have es : IntKind.i64.wrap (til + g) = til + g := by rw [IntKind.wrap_i64]; omega
  clear h hd hc hf
  go_enter Tryd.func53, Tryd.ntmps53
  go_wp2_with fail
  go_still_tail 10, (by kernel_rfl)
  go_wp2_with fail
  refine C.out.mono ?_
  rintro e1 w1 ⟨rfl, h1, u1⟩
  go_wp2_with fail
  go_returns
  exact ⟨rfl, h1, (Upd.drew (Upd.refl Fi w)).trans u1⟩
set_option maxHeartbeats 1000000 in
set_option maxRecDepth 100000 in
theorem lapse3_c {b bb bn : Nat} {g m e : Int} {M : LT} {w : World} {F : Fp} (hM : (bookT b g m e M).on w F) (g0 : 0 ≤ g) (g1 : g ≤ 1073741824) {nm : ByteArray} {x : Lz} (hx : mget M nm = some x) (ht : TilOk x.til) (v : Value) {now : Int}
    (kb : w.cell? ⟨bb, 0, none⟩ = some (.pointer (some ⟨b, 0, none⟩))) (kn : w.cell? ⟨bn, 0, none⟩ = some (.int .i64 now)) :
    Calls Tryd.prog 55 #[.string nm, v, .pointer (some ⟨bb, 0, none⟩), .pointer (some ⟨bn, 0, none⟩)] w (Ret (.bool (statS g x now == 0)) fun w' => ∃ n, w' = w.drewN n) := by
  obtain ⟨mb, h0, h1, h2, h3, hb, hmb, hf, hFb, hFm, ⟨hn, hl⟩ | ⟨cb, x', Fi, hs, hl, hC, hsub, _⟩⟩ := book_open hM nm
  · rw [hx] at hn; cases hn
  · rw [hx] at hs
    cases hs
    obtain ⟨hcb, hcf, hcl⟩ := blk_facts hC.1
    have C := Keep.mk (at_some h0 h3 hl (hcb 4) (hcb 5) g0 g1 ht now)
    clear h0 h1 h2 h3 hl hcb hcf hC hM hf
    generalize statS g x now = st at *
    go_enter Tryd.func55, Tryd.ntmps55
    go_wp2_with fail
    refine C.out.mono ?_
    rintro e1 w1 ⟨rfl, n, rfl⟩
    go_wp2_with fail
    go_ret
    exact ⟨rfl, n, rfl⟩
/-- Lapse, on what the book has -/
def lapseS (g : Int) (M : LT) (now : Int) : LT × List Lz := if clockB now = true then ((foldL (soLapse now) (fun x => keptL x (x.til + g)) (keysOf (M.map (·.1))) M).filter fun p => !(statS g p.2 now == 0), outL (soLapse now) M (keysOf (M.map (·.1)))) else (M, [])
set_option maxHeartbeats 4000000 in
set_option maxRecDepth 100000 in
theorem lapse_c {b : Nat} {g m e : Int} {M : LT} {w : World} {F : Fp} (hM : (bookT b g m e M).on w F) (hnd : (M.map (·.1)).Nodup) (hsz : ∀ p ∈ M, p.1.size ≤ maxLen) (hlen : M.length ≤ 1000) (g0 : 0 ≤ g) (g1 : g ≤ 1073741824) (ht : TilsOk M) (now : Int) :
    Calls Tryd.prog 26 #[.pointer (some ⟨b, 0, none⟩), .int .i64 now] w (RowEnds b g m e (lapseS g M now).1 (lapseS g M now).2 F w) := by
  have HMW := hM
  have u0 := ((Upd.refl F w).alloc (.cells #[.pointer (some ⟨b, 0, none⟩)] 23)).alloc (.cells #[.int .i64 now] 2)
  have hM3 := Asrt.alloc (Asrt.alloc hM (.cells #[.pointer (some ⟨b, 0, none⟩)] 23)) (.cells #[.int .i64 now] 2)
  obtain ⟨F1, S1, _⟩ := Asrt.stars_box (l := []) (w := w) (F := none') rfl (.cells #[.pointer (some ⟨b, 0, none⟩)] 23)
  obtain ⟨F2, S2, _⟩ := Asrt.stars_box S1 (.cells #[.int .i64 now] 2)
  simp only [size_alloc'] at S2
  obtain ⟨kn, _, ln⟩ := box_cell (i := 0) S2 rfl
  obtain ⟨kb, _, lb⟩ := box_cell (i := 1) S2 rfl
  have kn := kn 0
  have kb := kb 0
  have CK := Keep.mk (fun w' : World => clock_c (w := w') now)
  clear S1 S2
  unfold lapseS
  cases hck : clockB now with
  | false =>
    rw [hck] at CK
    rw [if_neg (by simp)]
    unfold RowEnds
    have HM3 := Keep.mk hM3
    have HU := Keep.mk u0
    clear hM hM3 HMW u0 kn kb ln lb
    go_enter Tryd.func26, Tryd.ntmps26
    go_wp2_with fail
    refine (CK.out _).mono ?_
    rintro e1 w1 ⟨rfl, rfl⟩
    go_wp2_with fail
    go_ret
    exact ⟨_, rfl, F, swap2 (Asrt.stars_emp (row_nil _ 26 6 encL) (Asrt.stars_one HM3.out)), HU.out⟩
  | true =>
    rw [hck] at CK
    rw [if_pos rfl]
    obtain ⟨n0, n1⟩ := clockB_iff.1 hck
    have C := some_c hM3 hnd hsz hlen ent_lapse1 ent_lapse2 (cs := #[.pointer (some ⟨w.heap.size + 1, 0, none⟩)]) (cd := #[.pointer (some ⟨w.heap.size, 0, none⟩)]) (soLapse now) (fun x => keptL x (x.til + g)) (fun M' w' F' nm cb x hB hL hU => by
      obtain ⟨Fi, h1, _, _⟩ := hL
      obtain ⟨Fk, hu⟩ := hU
      exact lapse1_c h1 (old_cell HMW kn (by simp) ln hu)) (fun M' w' F' nm cb x hB hL hU hx _ => by
      obtain ⟨Fi, h1, _, h3⟩ := hL
      obtain ⟨Fk, hu⟩ := hU
      refine (lapse2_c h1 (old_cell HMW kb (by simp) lb hu) (book_cells hB).1 g0 g1 (ht _ (mget_mem hx))).mono ?_
      rintro e1 w'' ⟨rfl, h4, h5⟩
      obtain ⟨F'', h6, h7⟩ := h3 w'' Fi _ h4 h5
      exact ⟨rfl, F'', h6, h7⟩)
    have hnd2 : ((foldL (soLapse now) (fun x => keptL x (x.til + g)) (keysOf (M.map (·.1))) M).map (·.1)).Nodup := by rw [foldL_keys]; exact hnd
    have ht2 : TilsOk (foldL (soLapse now) (fun x => keptL x (x.til + g)) (keysOf (M.map (·.1))) M) := foldL_all (P := fun x => TilOk x.til) _ _ (fun x h1 h2 => by
      unfold soLapse at h2
      simp only [Bool.and_eq_true, decide_eq_true_eq] at h2
      exact ⟨by simp only; omega, by simp only; omega⟩) _ ht
    unfold SomeEnds at C
    unfold RowEnds
    generalize foldL (soLapse now) (fun x => keptL x (x.til + g)) (keysOf (M.map (·.1))) M = M2 at *
    generalize outL (soLapse now) M (keysOf (M.map (·.1))) = O2 at *
    replace C := Keep.mk C
    have HU := Keep.mk u0
    have jb := (book_cells hM).2.2.1
    have OLD := Keep.mk (fun {w' : World} {Fk : Fp} {a : Addr} {v : Value} (h : ((w.alloc (.cells #[.pointer (some ⟨b, 0, none⟩)] 23)).alloc (.cells #[.int .i64 now] 2)).cell? a = some v) (hw : w.heap.size ≤ a.block) (hl : a.block < ((w.alloc (.cells #[.pointer (some ⟨b, 0, none⟩)] 23)).alloc (.cells #[.int .i64 now] 2)).heap.size) (hu : Upd F Fk ((w.alloc (.cells #[.pointer (some ⟨b, 0, none⟩)] 23)).alloc (.cells #[.int .i64 now] 2)) w') => old_cell HMW h hw hl hu)
    have KN := Keep.mk (And.intro kn (And.intro kb (And.intro ln lb)))
    have HND := Keep.mk (And.intro hnd2 ht2)
    have OUT := Keep.mk (fun {Fk : Fp} {w' : World} {k : Nat} (hw : w.heap.size ≤ k) (hl : k < ((w.alloc (.cells #[.pointer (some ⟨b, 0, none⟩)] 23)).alloc (.cells #[.int .i64 now] 2)).heap.size) (hu : Upd F Fk ((w.alloc (.cells #[.pointer (some ⟨b, 0, none⟩)] 23)).alloc (.cells #[.int .i64 now] 2)) w') (hk : Fk k) => show False from (hu.fp k hk).elim (fun h => absurd ((bookT b g m e M).lt HMW _ h) (by omega)) (fun h => by omega))
    clear hM hM3 HMW u0 kn ln lb hck hnd2 ht2
    go_enter Tryd.func26, Tryd.ntmps26
    go_wp2_with fail
    refine (CK.out _).mono ?_
    rintro e1 w1 ⟨rfl, rfl⟩
    go_wp2_with fail
    refine C.out.mono ?_
    rintro e1 w1 ⟨v, rfl, F', h', u'⟩
    have kb1 := OLD.out KN.out.2.1 (by simp) KN.out.2.2.2 u'
    have kn1 := OLD.out KN.out.1 (by simp) KN.out.2.2.1 u'
    obtain ⟨Fb, hB, hFb⟩ := Asrt.stars_get h' 0 rfl
    obtain ⟨mb, j0, j1, j2, j3, _, _, _, _, _, _⟩ := book_open hB ⟨#[]⟩
    have C2 := Keep.mk (on_head h' (A' := bookT b g m e (M2.filter fun p => !(statS g p.2 now == 0))) fun Fi h hsub => delfunc_c h j3 HND.out.1 ent_lapse3 (cd := #[.pointer (some ⟨w.heap.size, 0, none⟩), .pointer (some ⟨w.heap.size + 1, 0, none⟩)]) (fun x => statS g x now == 0) (fun M' w' F' nm x v hB hx hx' hu => by
      obtain ⟨Fk, hu⟩ := hu
      have q0 := hu.cell (a := ⟨w.heap.size, 0, none⟩) (Nat.lt_of_lt_of_le KN.out.2.2.2 u'.size) (fun h => OUT.out (Nat.le_refl _) KN.out.2.2.2 u' (hsub _ h))
      have q1 := hu.cell (a := ⟨w.heap.size + 1, 0, none⟩) (Nat.lt_of_lt_of_le KN.out.2.2.1 u'.size) (fun h => OUT.out (by omega) KN.out.2.2.1 u' (hsub _ h))
      exact lapse3_c hB g0 g1 hx (HND.out.2 _ (mget_mem hx')) v (q0.trans kb1) (q1.trans kn1)))
    clear hB hFb j0 j1 j2
    go_wp2_with fail
    refine C2.out.mono ?_
    rintro e1 w5 ⟨rfl, F5, h5, u5⟩
    go_wp2_with fail
    go_ret
    exact ⟨v, rfl, F5, h5, (HU.out.trans u').trans u5⟩
end Go.Proofs.YtefnfhhdcginmaaDoor
