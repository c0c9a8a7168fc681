/- The document's bytes that wait: Take. -/
import Derived.Test.YtimkbpcdbbdjlaaCrA
set_option linter.unusedVariables false
namespace Go.Proofs.Ytimkbpcdbbdjlaa.Cr
open Go.RowKit Go.Sub Go.ChangeMaps
theorem size_alloc' (w : World) (o : Obj) : (w.alloc o).heap.size = w.heap.size + 1 := by simp
theorem ring_put2 {r N : Nat} {v0 v1 v2 : Value} {B X Y : List UInt8} {w w2 : World} {F F1 F2 : Fp} (hS : (Asrt.stars [.blk r (.cells #[v0, .int .i64 (N : Int)] 104 (0, 0)), row 5 1 encB v0 B]).on w F)
    (h1 : (row 5 1 encB v1 Y).on w2 F1) (hn : ∀ k, F1 k → w.heap.size ≤ k) (hq : (row 5 1 encB v2 X).on w2 F2) (hu : Upd none' F2 w w2) (hd : ∀ k, F1 k → F2 k → False) :
    ∃ F', (Asrt.stars [row 5 1 encB v1 Y, rringT r N X]).on (w2.setCell ⟨r, 0, none⟩ v2) F' ∧ Upd F F' w (w2.setCell ⟨r, 0, none⟩ v2) := by
  have hA : (Asrt.star (row 5 1 encB v1 Y) (row 5 1 encB v2 X)).on w2 (fun k => F1 k ∨ F2 k) := ⟨F1, F2, h1, hq, hd, rfl⟩
  have hu2 : Upd none' (fun k => F1 k ∨ F2 k) w w2 := hu.re fun k hk => hk.elim (fun h => .inr (hn k h)) (fun h => hu.fp k h)
  obtain ⟨F3, s3, u3⟩ := Asrt.stars_new hS hA hu2
  have s4 := Asrt.stars_split s3
  obtain ⟨Fb, hb, hsub, hgo⟩ := Asrt.stars_upd _ 2 _ rfl s4
  obtain ⟨hob, rfl⟩ := hb
  obtain ⟨F5, s5, u5⟩ := hgo (w2.setCell ⟨r, 0, none⟩ v2) (fun k => k = r) (.blk r (.cells #[v2, .int .i64 (N : Int)] 104 (0, 0))) ⟨obj_setCell_at hob 0 v2, rfl⟩ ((Upd.refl (fun k => k = r) w2).setCell (a := ⟨r, 0, none⟩) (.inl rfl) _)
  obtain ⟨F7, s7, hs⟩ := Asrt.stars_drop (Asrt.stars_order 4 [3, 1, 2, 0] (by decide) rfl s5)
  exact ⟨_, Asrt.stars_fold (fun G h => ⟨v2, h⟩) s7, (u3.trans u5).re fun k hk => (u3.trans u5).fp k (hs k hk)⟩
set_option maxHeartbeats 1000000 in
theorem rtake_c {r N : Nat} {B : List UInt8} {w : World} {F : Fp} (hR : (rringT r N B).on w F) (hB : B.length ≤ 1000000) (z : Int) {n : Nat} (hn : n = min z.toNat B.length) :
    Calls Try.prog 91 #[.pointer (some ⟨r, 0, none⟩), .int .i64 z] w fun e w' => ∃ v, Ret v (fun w' => ∃ F', (Asrt.stars [row 5 1 encB v (B.take n), rringT r N (B.drop n)]).on w' F' ∧ Upd F F' w w') e w' := by
  obtain ⟨v0, hS⟩ := hR
  obtain ⟨kc, kf, hr⟩ := box_cell (i := 0) hS rfl
  obtain ⟨_, hrow, _⟩ := Asrt.stars_get hS 1 rfl
  have hrb := row_bytes hrow
  obtain ⟨a0, c0, rfl, hc0⟩ := hrb.slice
  have k0 := kc 0
  have kf0 := kf 0
  simp only [List.getElem?_toArray, List.getElem?_cons_zero, List.getElem?_cons_succ] at k0
  have en : min (max z 0) (B.length : Int) = (n : Int) := by omega
  have n1 : n ≤ c0 := by omega
  have n2 : n ≤ B.length := by omega
  have HS := Keep.mk hS
  have HR := Keep.mk hrb
  obtain ⟨i, hi, hz⟩ := Option.map_eq_some_iff.1 infoB
  simp only [Prod.mk.injEq] at hz
  obtain ⟨hz0, hz1, hz2⟩ := hz
  have HW := Keep.mk (fun (w' : World) (q : Quiet w w') => show w'.cell? ⟨r, 0, none⟩ = some (.slice a0 B.length c0) from (q.cell (a := ⟨r, 0, none⟩) hr (fun h => h)).trans k0)
  have HF := Keep.mk (fun (w' : World) (q : Quiet w w') => show w'.frozen? ⟨r, 0, none⟩ = false from (q.frozen (a := ⟨r, 0, none⟩) hr (fun h => h)).trans kf0)
  have HZ := Keep.mk (And.intro hi (And.intro hz0 (And.intro hz1 hz2)))
  clear hn hS hrb hrow kc kf hi hz0 hz1 hz2 kf0
  have kB := HW.out _ ((Upd.refl none' w).alloc (.cells #[] 5))
  have Q0 := (Upd.refl none' w).alloc (.cells #[] 5)
  have HC := run_cut Try.underlying22 (show (Try.prog.info? 5).map (·.size) = some 1 by kernel_rfl) a0 B.length c0 n n2
  go_enter Try.func91, Try.ntmps91
  go_wp2_with (at_builtin; refine at_append_reads (enc := encB) (k := 1) 1 rfl (.tmp 14) (.tmp 20) 22 rfl 5 i (.int .u8 0) Try.underlying22 HZ.out.1 HZ.out.2.1 HZ.out.2.2.1 HZ.out.2.2.2 rfl (by decide) (.slice (some ⟨w.heap.size, 0, none⟩) 0 0) (.slice a0 n c0) [] (B.take n) _ rfl (row_empty _ _ _ _) rfl (take_reads (HR.out.quiet Q0) n2) (fun _ => rfl) oneB (by simp [maxLen]; omega) (by simp; omega) ?_)
  intro v1 w1 F1 hr1 hu1
  obtain ⟨a1, c1, rfl, _⟩ := row_form hr1
  have Q1 := own_quiet Q0 (fun k hk => by rw [hk]; exact Nat.le_refl _) hu1
  have el : (B.take n).length = n := by simp; omega
  rw [el] at hr1 ⊢
  have kC := HW.out _ Q1.1
  have Q2 := Q1.1.alloc (.cells #[] 5)
  have kD := HW.out _ Q2
  go_wp2_with (at_builtin; refine at_append_reads (enc := encB) (k := 1) 1 rfl (.tmp 23) (.tmp 29) 22 rfl 5 i (.int .u8 0) Try.underlying22 HZ.out.1 HZ.out.2.1 HZ.out.2.2.1 HZ.out.2.2.2 rfl (by decide) (.slice (some ⟨w1.heap.size, 0, none⟩) 0 0) (.slice (cutAt a0 c0 n) (B.length - n) (c0 - n)) [] (B.drop n) _ rfl (row_empty _ _ _ _) rfl (drop_reads (HR.out.quiet Q2) n2) (fun _ => rfl) oneB (by simp [maxLen]; omega) (by simp; omega) ?_)
  intro v2 w2 F2 hr2 hu2
  obtain ⟨a2, c2, rfl, _⟩ := row_form hr2
  have Q3 := own_quiet Q2 (fun k hk => by rw [hk]; exact Q1.1.size) hu2
  have el2 : (B.drop n).length = B.length - n := by simp
  rw [el2] at hr2 ⊢
  have kE := HW.out _ Q3.1
  have kF := HF.out _ Q3.1
  have hr1a : (row 5 1 encB (.slice a1 n c1) (B.take n)).on w2 F1 := (row 5 1 encB _ _).frame (Asrt.alloc hr1 _) hu2 fun k h1 h2 => by
    have := (row 5 1 encB _ _).lt hr1 k h1
    omega
  have hdj : ∀ k, F1 k → F2 k → False := fun k h1 h2 => by
    have := (row 5 1 encB _ _).lt hr1 k h1
    rcases hu2.fp k h2 with h | h
    · omega
    · have : w1.heap.size < (w1.alloc (.cells #[] 5)).heap.size := by rw [size_alloc']; omega
      omega
  have HE := Keep.mk (ring_put2 HS.out hr1a Q1.2 hr2 (own_upd Q3.1 Q3.2) hdj)
  clear hr1 hr2 hr1a hdj hu1 hu2 el el2
  go_wp2_with fail
  go_ret
  exact ⟨_, rfl, HE.out⟩
end Go.Proofs.Ytimkbpcdbbdjlaa.Cr
