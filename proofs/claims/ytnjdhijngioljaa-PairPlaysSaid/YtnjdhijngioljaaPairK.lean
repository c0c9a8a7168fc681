/- Same, of two rows of pairs. -/
import Derived.Test.YtnjdhijngioljaaPairB
import Derived.Deep.QuietTactic
import Derived.BigQuiet
namespace Go.Proofs.Ytnjdhijngioljaa
open Go.RowKit Go.Sub Go.ChangeMaps
theorem neqP (x y : Int × Int) (w : World) : (binOp .neq 43 (.agg #[.int .i64 x.1, .int .i64 x.2]) (.agg #[.int .i64 y.1, .int .i64 y.2])).run Try.prog w = .ok (.bool (!(x.1 == y.1 && x.2 == y.2))) w := by
  have u3 := Try.underlying3
  have a3 := Try.isAgg3
  have z3 := Try.sizeOf3
  have hS : Try.prog.underlying 43 = some (.struct (Try.prog.fieldsOf 43)) := by kernel_rfl
  have hp : Try.prog.stoodInHeld 43 = false := by kernel_rfl
  rw [run_neq_struct, show (10000 : Nat) = 9999 + 1 from rfl, run_equalIn_agg w 9999 43 _ _ hS hp]
  simp only [Program.fieldsOf, Try.underlying43]
  go_simp
  by_cases h1 : x.fst = y.fst <;> by_cases h2 : x.snd = y.snd <;> simp [h1, h2]

set_option maxHeartbeats 400000 in
theorem same_c {w : World} {u v : Value} {K L : List (Int × Int)} (hu : Reads w 2 encP u K) (hv : Reads w 2 encP v L) (hk : K.length ≤ 1000000) (hl : L.length ≤ 1000000) :
    Calls Try.prog 20 #[u, v] w (Ret (.bool (decide (K = L))) fun w' => Quiet w w') := by
  obtain ⟨a, ca, rfl, ha⟩ := hu
  obtain ⟨b, cb, rfl, hb⟩ := hv
  by_cases hlen : K.length = L.length
  · have e1 : ((K.length : Int) != (L.length : Int)) = false := by simp [hlen]
    have H := Keep.mk hlen
    clear hlen
    go_enter Try.func20, Try.ntmps20
    go_wp2_with fail
    go_loopw [5] (fun i wr => ∃ k : Nat, k ≤ K.length ∧ i = .int .i64 k ∧ Quiet w wr ∧ K.take k = L.take k) (fun i _ => K.length - (intOf i).toNat)
    case atStart => exact ⟨0, by omega, rfl, Upd.refl _ _, rfl⟩
    case round =>
      obtain ⟨k, hk1, rfl, hq, ht⟩ := hrel
      by_cases hlt : k < K.length
      · have hlt2 : k < L.length := by rw [← H.out]; exact hlt
        obtain ⟨g1, o1, rfl, hg1, hc1⟩ := ha k K[k] (List.getElem?_eq_getElem hlt)
        obtain ⟨g2, o2, rfl, hg2, hc2⟩ := hb k L[k] (List.getElem?_eq_getElem hlt2)
        have c10 : wr.cell? ⟨g1, o1 + k * 2, none⟩ = some (.int .i64 K[k].1) := by rw [hq.cell hg1 id]; exact hc1 0 _ rfl
        have c11 : wr.cell? ⟨g1, o1 + k * 2 + 1, none⟩ = some (.int .i64 K[k].2) := by rw [hq.cell hg1 id]; exact hc1 1 _ rfl
        have c20 : wr.cell? ⟨g2, o2 + k * 2, none⟩ = some (.int .i64 L[k].1) := by rw [hq.cell hg2 id]; exact hc2 0 _ rfl
        have c21 : wr.cell? ⟨g2, o2 + k * 2 + 1, none⟩ = some (.int .i64 L[k].2) := by rw [hq.cell hg2 id]; exact hc2 1 _ rfl
        have hne := neqP K[k] L[k]
        generalize hx : K[k] = x at *
        generalize hy : L[k] = y at *
        have HX := Keep.mk hx
        have HY := Keep.mk hy
        have HT := Keep.mk ht
        clear hx hy ht ha hb hc1 hc2
        by_cases he : x = y
        · subst he
          have hne' : ∀ w, (binOp .neq 43 (.agg #[.int .i64 x.1, .int .i64 x.2]) (.agg #[.int .i64 x.1, .int .i64 x.2])).run Try.prog w = .ok (.bool false) w := fun w => by rw [hne w]; simp
          clear hne
          go_wp2_with fail
          go_quiet (fail)
          go_wp2_with fail
          go_roundw
          case rel =>
            refine ⟨k + 1, by omega, by go_num, hq.drewN _, ?_⟩
            rw [List.take_add_one, List.take_add_one, HT.out, List.getElem?_eq_getElem hlt, List.getElem?_eq_getElem hlt2, HX.out, HY.out]
          case measure => simp [intOf]; omega
        · have hne' : ∀ w, (binOp .neq 43 (.agg #[.int .i64 x.1, .int .i64 x.2]) (.agg #[.int .i64 y.1, .int .i64 y.2])).run Try.prog w = .ok (.bool true) w := fun w => by
            rw [hne w]
            by_cases h1 : x.1 = y.1 <;> by_cases h2 : x.2 = y.2 <;> simp [h1, h2]
            exact he (Prod.ext h1 h2)
          clear hne
          have hKL : decide (K = L) = false := by
            rw [decide_eq_false_iff_not]
            intro e
            subst e
            exact he (HX.out.symm.trans HY.out)
          have HKL := Keep.mk hKL
          clear hKL
          go_wp2_with fail
          go_quiet (fail)
          go_wp2_with fail
          go_ret
          exact ⟨by rw [HKL.out]; rfl, hq.drewN _⟩
      · have hKL : decide (K = L) = true := by
          rw [decide_eq_true_iff]
          have hk' : k = K.length := by omega
          subst hk'
          have h1 : K.take K.length = K := List.take_length
          have h2 : L.take K.length = L := by rw [H.out]; exact List.take_length
          rw [h1, h2] at ht
          exact ht
        have HKL := Keep.mk hKL
        clear hKL ht
        go_wp2_with fail
        go_ret
        exact ⟨by rw [HKL.out]; rfl, hq⟩
  · have e1 : ((K.length : Int) != (L.length : Int)) = true := by rw [bne_iff_ne]; omega
    have hKL : decide (K = L) = false := by
      rw [decide_eq_false_iff_not]
      intro e
      exact hlen (by rw [e])
    have HKL := Keep.mk hKL
    clear hKL hlen
    go_enter Try.func20, Try.ntmps20
    go_wp2_with fail
    go_ret
    exact ⟨by rw [HKL.out]; rfl, Upd.refl _ _⟩

end Go.Proofs.Ytnjdhijngioljaa
