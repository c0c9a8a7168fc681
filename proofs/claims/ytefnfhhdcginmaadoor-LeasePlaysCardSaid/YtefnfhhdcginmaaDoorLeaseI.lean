/- The book of leases: Leave. -/
import Derived.Test.YtefnfhhdcginmaaDoorLeaseH
set_option linter.unusedVariables false
namespace Go.Proofs.YtefnfhhdcginmaaDoor
open Go.RowKit Go.Sub Go.ChangeMaps
theorem book_cells {b : Nat} {g m e : Int} {M : LT} {w : World} {F : Fp} (hM : (bookT b g m e M).on w F) : w.cell? ⟨b, 0, none⟩ = some (.int .i64 g) ∧ w.cell? ⟨b, 1, none⟩ = some (.int .i64 m) ∧ b < w.heap.size ∧ F b := by
  obtain ⟨mb, h0, h1, _, _, hb, _, _, hF, _⟩ := book_open hM ⟨#[]⟩
  exact ⟨h0, h1, hb, hF⟩
theorem old_cell {A : Asrt} {W w w' : World} {F Fk : Fp} (hA : A.on W F) {a : Addr} {v : Value} (h : w.cell? a = some v) (hw : W.heap.size ≤ a.block) (hl : a.block < w.heap.size) (hu : Upd F Fk w w') : w'.cell? a = some v :=
  (hu.cell hl fun hF => absurd (A.lt hA _ hF) (by omega)).trans h
/-- Leave, on what the book has -/
def leaveS (g : Int) (M : LT) (conn now : Int) : LT × List Lz := if clockB now = true then (foldL (soLeave conn now) (fun x => keptL x (now + g)) (keysOf (M.map (·.1))) M, outL (soLeave conn now) M (keysOf (M.map (·.1)))) else (M, [])
set_option maxHeartbeats 4000000 in
set_option maxRecDepth 100000 in
theorem leave_c {b : Nat} {g m e : Int} {M : LT} {w : World} {F : Fp} (hM : (bookT b g m e M).on w F) (hnd : (M.map (·.1)).Nodup) (hsz : ∀ p ∈ M, p.1.size ≤ maxLen) (hlen : M.length ≤ 1000) (g0 : 0 ≤ g) (g1 : g ≤ 1073741824) (conn now : Int) :
    Calls Tryd.prog 24 #[.pointer (some ⟨b, 0, none⟩), .int .i64 conn, .int .i64 now] w (RowEnds b g m e (leaveS g M conn now).1 (leaveS g M conn now).2 F w) := by
  have HMW := hM
  have u0 := ((((Upd.refl F w).alloc (.cells #[.pointer (some ⟨b, 0, none⟩)] 23)).alloc (.cells #[.int .i64 conn] 3)).alloc (.cells #[.int .i64 now] 2))
  have hM3 := Asrt.alloc (Asrt.alloc (Asrt.alloc hM (.cells #[.pointer (some ⟨b, 0, none⟩)] 23)) (.cells #[.int .i64 conn] 3)) (.cells #[.int .i64 now] 2)
  obtain ⟨F1, S1, _⟩ := Asrt.stars_box (l := []) (w := w) (F := none') rfl (.cells #[.pointer (some ⟨b, 0, none⟩)] 23)
  obtain ⟨F2, S2, _⟩ := Asrt.stars_box S1 (.cells #[.int .i64 conn] 3)
  obtain ⟨F3, S3, _⟩ := Asrt.stars_box S2 (.cells #[.int .i64 now] 2)
  simp only [size_alloc'] at S2 S3
  obtain ⟨kn, _, ln⟩ := box_cell (i := 0) S3 rfl
  obtain ⟨kc, _, lc⟩ := box_cell (i := 1) S3 rfl
  obtain ⟨kb, _, lb⟩ := box_cell (i := 2) S3 rfl
  have kn := kn 0
  have kc := kc 0
  have kb := kb 0
  have CK := Keep.mk (fun w' : World => clock_c (w := w') now)
  clear S1 S2 S3
  unfold leaveS
  cases hck : clockB now with
  | false =>
    rw [hck] at CK
    rw [if_neg (by simp)]
    unfold RowEnds
    have HM3 := Keep.mk hM3
    have HU := Keep.mk u0
    clear hM hM3 HMW u0 kn kc kb ln lc lb
    go_enter Tryd.func24, Tryd.ntmps24
    go_wp2_with fail
    refine (CK.out _).mono ?_
    rintro e1 w1 ⟨rfl, rfl⟩
    go_wp2_with fail
    go_ret
    exact ⟨_, rfl, F, swap2 (Asrt.stars_emp (row_nil _ 26 6 encL) (Asrt.stars_one HM3.out)), HU.out⟩
  | true =>
    rw [hck] at CK
    rw [if_pos rfl]
    obtain ⟨n0, n1⟩ := clockB_iff.1 hck
    have C := some_c hM3 hnd hsz hlen ent_leave1 ent_leave2 (cs := #[.pointer (some ⟨w.heap.size + 1, 0, none⟩), .pointer (some ⟨w.heap.size + 1 + 1, 0, none⟩)]) (cd := #[.pointer (some ⟨w.heap.size + 1 + 1, 0, none⟩), .pointer (some ⟨w.heap.size, 0, none⟩)]) (soLeave conn now) (fun x => keptL x (now + g)) (fun M' w' F' nm cb x hB hL hU => by
      obtain ⟨Fi, h1, _, _⟩ := hL
      obtain ⟨Fk, hu⟩ := hU
      exact leave1_c h1 (old_cell HMW kc (by simp) lc hu) (old_cell HMW kn (by simp; omega) ln hu)) (fun M' w' F' nm cb x hB hL hU _ _ => by
      obtain ⟨Fi, h1, _, h3⟩ := hL
      obtain ⟨Fk, hu⟩ := hU
      refine (leave2_c h1 (old_cell HMW kn (by simp; omega) ln hu) (old_cell HMW kb (by simp) lb hu) (book_cells hB).1 g0 g1 n0 n1).mono ?_
      rintro e1 w'' ⟨rfl, h4, h5⟩
      obtain ⟨F'', h6, h7⟩ := h3 w'' Fi _ h4 h5
      exact ⟨rfl, F'', h6, h7⟩)
    unfold SomeEnds at C
    unfold RowEnds
    generalize foldL (soLeave conn now) (fun x => keptL x (now + g)) (keysOf (M.map (·.1))) M = M2 at *
    generalize outL (soLeave conn now) M (keysOf (M.map (·.1))) = O2 at *
    replace C := Keep.mk C
    have HU := Keep.mk u0
    have jb := (book_cells hM).2.2.1
    clear hM hM3 HMW u0 kn kc ln lc lb hck
    go_enter Tryd.func24, Tryd.ntmps24
    go_wp2_with fail
    refine (CK.out _).mono ?_
    rintro e1 w1 ⟨rfl, rfl⟩
    go_wp2_with fail
    refine C.out.mono ?_
    rintro e1 w1 ⟨v, rfl, F', h', u'⟩
    go_wp2_with fail
    go_ret
    exact ⟨v, rfl, F', h', HU.out.trans u'⟩
end Go.Proofs.YtefnfhhdcginmaaDoor
