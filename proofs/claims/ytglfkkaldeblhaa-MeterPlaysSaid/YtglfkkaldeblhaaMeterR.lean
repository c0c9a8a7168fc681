/- The document's meter: Down, Up, Paired, Sum. -/
import Derived.Test.YtglfkkaldeblhaaMeterQ
import Derived.Test.YtglfkkaldeblhaaMeterD
import Derived.Test.YtglfkkaldeblhaaSubH
namespace Go.Proofs.Ytglfkkaldeblhaa
open Go.ChangeShapes Go.WideShapes Go.ChangeAt Go.RowKit Go.Sub Go.ChangeMaps
/-- a call of the document's meter -/
def rstep (L : List Cnt) (t : ByteArray) (j : Nat) (n : Int) : List Cnt × Int := if n < 0 then (L, 1) else rput L (bump j n (cof L t))
theorem blk_at (b : Nat) (o : Obj) (w : World) (h : w.obj b = some o) : (Asrt.blk b o).on w (fun k => k = b) := ⟨h, rfl⟩
set_option maxHeartbeats 1000000 in
theorem rdown_c {b : Nat} {L : List Cnt} {w : World} {F : Fp} (hM : (refT b L).on w F) (hok : ∀ c ∈ L, Ok c) (hl : L.length ≤ 1000) (t : ByteArray) (n : Int) :
    Calls Try.prog 13 #[.pointer (some ⟨b, 0, none⟩), .string t, .int .i64 n] w (Ret (.int .i64 (rstep L t 1 n).2) fun w' => ∃ F', (refT b (rstep L t 1 n).1).on w' F' ∧ Upd F F' w w') := by
  by_cases hn : n < 0
  · have e1 : decide (n < 0) = true := by simp [hn]
    rw [show rstep L t 1 n = (L, 1) from by simp [rstep, hn]]
    clear hn
    go_enter Try.func13, Try.ntmps13
    go_wp2_with fail
    go_returns
    exact ⟨rfl, F, hM, Upd.refl _ _⟩
  · have e1 : decide (n < 0) = false := by simp [hn]
    rw [show rstep L t 1 n = rput L (bump 1 n (cof L t)) from by simp [rstep, hn]]
    have hc := cof_ok hok t
    have RO := rof_c hM (by omega) t
    have HO := Keep.mk hc
    generalize cof L t = c at *
    clear hc
    go_enter Try.func13, Try.ntmps13
    go_wp2_with fail
    refine RO.mono ?_
    rintro e w1 ⟨rfl, q1⟩
    have hM1 := (refT b L).frame hM q1 fun _ _ h => h
    go_wp2_with fail
    refine (more_c c.d n _ HO.out.d0 HO.out.d1 (by omega)).mono ?_
    rintro e w2 ⟨rfl, rfl⟩
    go_wp2_with fail
    refine (rput_c (b := b) (L := L) (F := F) ?hm hl (bump 1 n c)).mono ?next
    case hm => exact Asrt.alloc hM1 _
    case next =>
      rintro e w3 ⟨rfl, F', h, u⟩
      go_wp2_with fail
      go_returns
      exact ⟨rfl, F', h, ((((Upd.refl F w).thenQ q1).alloc _)).trans u⟩
set_option maxHeartbeats 1000000 in
theorem rup_c {b : Nat} {L : List Cnt} {w : World} {F : Fp} (hM : (refT b L).on w F) (hok : ∀ c ∈ L, Ok c) (hl : L.length ≤ 1000) (t : ByteArray) (n : Int) :
    Calls Try.prog 14 #[.pointer (some ⟨b, 0, none⟩), .string t, .int .i64 n] w (Ret (.int .i64 (rstep L t 2 n).2) fun w' => ∃ F', (refT b (rstep L t 2 n).1).on w' F' ∧ Upd F F' w w') := by
  by_cases hn : n < 0
  · have e1 : decide (n < 0) = true := by simp [hn]
    rw [show rstep L t 2 n = (L, 1) from by simp [rstep, hn]]
    clear hn
    go_enter Try.func14, Try.ntmps14
    go_wp2_with fail
    go_returns
    exact ⟨rfl, F, hM, Upd.refl _ _⟩
  · have e1 : decide (n < 0) = false := by simp [hn]
    rw [show rstep L t 2 n = rput L (bump 2 n (cof L t)) from by simp [rstep, hn]]
    have hc := cof_ok hok t
    have RO := rof_c hM (by omega) t
    have HO := Keep.mk hc
    generalize cof L t = c at *
    clear hc
    go_enter Try.func14, Try.ntmps14
    go_wp2_with fail
    refine RO.mono ?_
    rintro e w1 ⟨rfl, q1⟩
    have hM1 := (refT b L).frame hM q1 fun _ _ h => h
    go_wp2_with fail
    refine (more_c c.u n _ HO.out.u0 HO.out.u1 (by omega)).mono ?_
    rintro e w2 ⟨rfl, rfl⟩
    go_wp2_with fail
    refine (rput_c (b := b) (L := L) (F := F) ?hm hl (bump 2 n c)).mono ?next
    case hm => exact Asrt.alloc hM1 _
    case next =>
      rintro e w3 ⟨rfl, F', h, u⟩
      go_wp2_with fail
      go_returns
      exact ⟨rfl, F', h, ((((Upd.refl F w).thenQ q1).alloc _)).trans u⟩
set_option maxHeartbeats 1000000 in
theorem rpaired_c {b : Nat} {L : List Cnt} {w : World} {F : Fp} (hM : (refT b L).on w F) (hok : ∀ c ∈ L, Ok c) (hl : L.length ≤ 1000) (t : ByteArray) :
    Calls Try.prog 15 #[.pointer (some ⟨b, 0, none⟩), .string t] w (Ret (.int .i64 (rstep L t 3 1).2) fun w' => ∃ F', (refT b (rstep L t 3 1).1).on w' F' ∧ Upd F F' w w') := by
  rw [show rstep L t 3 1 = rput L (bump 3 1 (cof L t)) from by simp [rstep]]
  have hc := cof_ok hok t
  have RO := rof_c hM (by omega) t
  have HO := Keep.mk hc
  generalize cof L t = c at *
  clear hc
  go_enter Try.func15, Try.ntmps15
  go_wp2_with fail
  refine RO.mono ?_
  rintro e w1 ⟨rfl, q1⟩
  have hM1 := (refT b L).frame hM q1 fun _ _ h => h
  go_wp2_with fail
  refine (more_c c.p 1 _ HO.out.p0 HO.out.p1 (by omega)).mono ?_
  rintro e w2 ⟨rfl, rfl⟩
  go_wp2_with fail
  refine (rput_c (b := b) (L := L) (F := F) ?hm hl (bump 3 1 c)).mono ?next
  case hm => exact Asrt.alloc hM1 _
  case next =>
    rintro e w3 ⟨rfl, F', h, u⟩
    go_wp2_with fail
    go_returns
    exact ⟨rfl, F', h, ((((Upd.refl F w).thenQ q1).alloc _)).trans u⟩
end Go.Proofs.Ytglfkkaldeblhaa
