/- The book of leases: Release. -/
import Derived.Test.YtpjfakmalhenjaaDoorLpJ
set_option linter.unusedVariables false
namespace Go.Proofs.YtpjfakmalhenjaaDoor
open Go.RowKit Go.Sub Go.ChangeMaps
theorem ent_release1 : Enters 38 := fun _ _ => by go_simp
set_option maxHeartbeats 1000000 in
set_option maxRecDepth 100000 in
theorem release1_c {cb bb bn b : Nat} {x : Lz} {w : World} {Fi : Fp} (h : (Asrt.blk cb (blkL x)).on w Fi) {g now : Int} (kn : w.cell? ⟨bn, 0, none⟩ = some (.int .i64 now)) (kb : w.cell? ⟨bb, 0, none⟩ = some (.pointer (some ⟨b, 0, none⟩))) (kg : w.cell? ⟨b, 0, none⟩ = some (.int .i64 g))
    (g0 : 0 ≤ g) (g1 : g ≤ 1073741824) (n0 : 0 ≤ now) (n1 : now ≤ 1099511627776) :
    Calls Tryd.prog 38 #[.pointer (some ⟨cb, 0, none⟩), .pointer (some ⟨bn, 0, none⟩), .pointer (some ⟨bb, 0, none⟩)] w (Ret (.tuple #[]) fun w' => (Asrt.blk cb (blkL (keptL x (now + g)))).on w' Fi ∧ Upd Fi Fi w w') := by
  have hd := (Asrt.blk cb (blkL x)).frame h (Upd.drew (Upd.refl none' w)) fun _ _ h => h
  have C := Keep.mk (keep_c hd (now + g))
  have es : IntKind.i64.wrap (now + g) = now + g := by rw [IntKind.wrap_i64]; omega
  clear h hd
  go_enter Tryd.func38, Tryd.ntmps38
  go_wp2_with fail
  go_still_tail 7, (by kernel_rfl)
  go_wp2_with fail
  refine C.out.mono ?_
  rintro e1 w1 ⟨rfl, h1, u1⟩
  go_wp2_with fail
  go_returns
  exact ⟨rfl, h1, (Upd.drew (Upd.refl Fi w)).trans u1⟩
/-- Release, on what the book has -/
def releaseS (g : Int) (M : LT) (tenant nm : ByteArray) (epoch now : Int) : LT × Int :=
  if ownErr g M tenant nm epoch now = 0 then (match mget M nm with | none => M | some x => mset M nm (keptL x (now + g)), 0) else (M, ownErr g M tenant nm epoch now)
def RelEnds (b : Nat) (g m e : Int) (R : LT × Int) (F : Fp) (w : World) : Ending → World → Prop := Ret (.int .i64 R.2) fun w' => ∃ F', (bookT b g m e R.1).on w' F' ∧ Upd F F' w w'
set_option maxHeartbeats 4000000 in
set_option maxRecDepth 100000 in
theorem release_c {b : Nat} {g m e : Int} {M : LT} {w : World} {F : Fp} (hM : (bookT b g m e M).on w F) (g0 : 0 ≤ g) (g1 : g ≤ 1073741824) (ht : TilsOk M) (tenant nm : ByteArray) (epoch now : Int) :
    Calls Tryd.prog 22 #[.pointer (some ⟨b, 0, none⟩), .string tenant, .string nm, .int .i64 epoch, .int .i64 now] w (RelEnds b g m e (releaseS g M tenant nm epoch now) F w) := by
  have HMW := hM
  have u0 := ((Upd.refl F w).alloc (.cells #[.pointer (some ⟨b, 0, none⟩)] 40)).alloc (.cells #[.int .i64 now] 2)
  have hM3 := Asrt.alloc (Asrt.alloc hM (.cells #[.pointer (some ⟨b, 0, none⟩)] 40)) (.cells #[.int .i64 now] 2)
  obtain ⟨F1, S1, _⟩ := Asrt.stars_box (l := []) (w := w) (F := none') rfl (.cells #[.pointer (some ⟨b, 0, none⟩)] 40)
  obtain ⟨F2, S2, _⟩ := Asrt.stars_box S1 (.cells #[.int .i64 now] 2)
  simp only [size_alloc'] at S2
  obtain ⟨kn, _, ln⟩ := box_cell (i := 0) S2 rfl
  obtain ⟨kb, _, lb⟩ := box_cell (i := 1) S2 rfl
  have kn := kn 0
  have kb := kb 0
  clear S1 S2
  unfold releaseS RelEnds
  by_cases he : ownErr g M tenant nm epoch now = 0
  · rw [if_pos he]
    have C := own_ok hM3 g0 g1 ht tenant nm epoch now ent_release1 (cd := #[.pointer (some ⟨w.heap.size + 1, 0, none⟩), .pointer (some ⟨w.heap.size, 0, none⟩)]) he (fun w' => ∃ F', (bookT b g m e (match mget M nm with | none => M | some x => mset M nm (keptL x (now + g)))).on w' F' ∧ Upd F F' w w') (fun n cb x hB hL hx hck => by
      obtain ⟨n0, n1⟩ := clockB_iff.1 hck
      obtain ⟨Fi, h1, _, h3⟩ := hL
      refine (release1_c h1 kn kb (book_cells hB).1 g0 g1 n0 n1).mono ?_
      rintro e1 w'' ⟨rfl, h4, h5⟩
      obtain ⟨F'', h6, h7⟩ := h3 w'' Fi _ h4 h5
      rw [hx]
      exact ⟨rfl, F'', h6, (u0.drewN n).trans h7⟩)
    simp only
    generalize (match mget M nm with | none => M | some x => mset M nm (keptL x (now + g))) = M2 at *
    replace C := Keep.mk C
    clear hM hM3 HMW u0 ln lb he kb
    go_enter Tryd.func22, Tryd.ntmps22
    go_wp2_with fail
    refine C.out.mono ?_
    rintro e1 w1 ⟨rfl, h⟩
    go_wp2_with fail
    go_ret
    exact ⟨rfl, h⟩
  · rw [if_neg he]
    have C := own_bad hM3 g0 g1 ht tenant nm epoch now (.func (.func 38) #[] #[.pointer (some ⟨w.heap.size + 1, 0, none⟩), .pointer (some ⟨w.heap.size, 0, none⟩)]) rfl he
    simp only
    generalize ownErr g M tenant nm epoch now = er at *
    replace C := Keep.mk C
    have HM3 := Keep.mk hM3
    have HU := Keep.mk u0
    clear hM hM3 HMW u0 ln lb he kb
    go_enter Tryd.func22, Tryd.ntmps22
    go_wp2_with fail
    refine C.out.mono ?_
    rintro e1 w1 ⟨rfl, n, rfl⟩
    go_wp2_with fail
    go_ret
    exact ⟨rfl, F, Asrt.drewN HM3.out n, HU.out.drewN n⟩
end Go.Proofs.YtpjfakmalhenjaaDoor
