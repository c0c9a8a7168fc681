/- The document's connections: New, First, Next. -/
import Derived.Test.YtimkbpcdbbdjlaaCrF
set_option linter.unusedVariables false
namespace Go.Proofs.Ytimkbpcdbbdjlaa.Cr
open Go.RowKit Go.Sub Go.ChangeMaps
def CNew (w : World) (e : Ending) (w' : World) : Prop := ∃ b, Ret (.pointer (some ⟨b, 0, none⟩)) (fun w' => ∃ F', (crT b 0 []).on w' F' ∧ Upd none' F' w w') e w'
theorem rtnew_c (w : World) : Calls Try.prog 35 #[] w (CNew w) := by
  go_enter Try.func35, Try.ntmps35
  go_wp2_with fail
  go_ret
  obtain ⟨F', h', u'⟩ := Asrt.stars_new (l := [rowR (.slice none 0 0) []]) (w := w) (A := .blk w.heap.size (tabO (.slice none 0 0) 0)) (w' := w.alloc (.cells #[.slice none 0 0, .int .i64 0] 92)) (Fn := fun k => k = w.heap.size) (Asrt.stars_one (row_nil w 95 6 encR)) ⟨obj_alloc_at rfl, rfl⟩ (((Upd.refl none' w).alloc _).re fun k hk => .inr (by rw [hk]; exact Nat.le_refl _))
  exact ⟨_, rfl, F', ⟨(.slice none 0 0, []), rfl, h'⟩, u'⟩
def FirstR (b : List UInt8) (w : World) (e : Ending) (w' : World) : Prop := ∃ v, Ret (.tuple #[v, .int .i64 ((firstS b).2.1 : Nat), .int .i64 (firstS b).2.2]) (fun w' => ∃ Fv, (row 5 1 encB v (firstS b).1).on w' Fv ∧ Upd none' Fv w w') e w'
theorem r_nil {b : List UInt8} {w : World} {n e : Int} (h : firstS b = ([], n.toNat, e)) (hn : 0 ≤ n) : FirstR b w (.returned (.tuple #[.slice none 0 0, .int .i64 n, .int .i64 e])) w := by
  refine ⟨.slice none 0 0, ?_, none', ?_, Upd.refl _ _⟩
  · rw [h]
    simp only [Int.toNat_of_nonneg hn]
  · rw [h]; exact row_nil _ _ _ _
set_option maxHeartbeats 2000000 in
set_option maxRecDepth 100000 in
theorem rfirst_c {v : Value} {b : List UInt8} {w : World} (hv : Bytes w v b) (hl : b.length ≤ 1000000) : Calls Try.prog 46 #[v] w (FirstR b w) := by
  obtain ⟨av, cv, rfl, hcap⟩ := hv.slice
  match b, hv, hl, hcap with
  | [], hv, hl, hcap =>
    go_enter Try.func46, Try.ntmps46
    go_wp2_with fail
    go_ret3
    exact r_nil (n := 0) (e := 0) rfl (by omega)
  | x :: r, hv, hl, hcap =>
    obtain ⟨g, off, rfl, hg, hc0⟩ := hv.at' 0 (by simp)
    simp only [List.getElem_cons_zero, Nat.add_zero] at hc0
    have hlen : (x :: r).length = r.length + 1 := rfl
    by_cases hx : x = 170
    · subst hx
      match r, hv, hl, hcap with
      | [], hv, hl, hcap =>
        go_enter Try.func46, Try.ntmps46
        go_wp2_with fail
        go_ret3
        exact r_nil (n := 0) (e := 0) rfl (by omega)
      | n :: q, hv, hl, hcap =>
        obtain ⟨_, _, he, _, hc1⟩ := hv.at' 1 (by simp)
        cases he
        simp only [List.getElem_cons_succ, List.getElem_cons_zero] at hc1
        have hn256 := n.toNat_lt
        have hz : ((n.toNat : Int) == 0) = decide (n = 0) := by
          rw [Bool.eq_iff_iff, beq_iff_eq, decide_eq_true_eq]
          exact ⟨fun h => UInt8.toNat_inj.1 (by have : (0 : UInt8).toNat = 0 := rfl; omega), fun h => by rw [h]; rfl⟩
        by_cases h0 : n = 0 ∨ 200 < n.toNat
        · have HE := Keep.mk (show firstS (170 :: n :: q) = ([], 0, 61) from by simp [firstS, h0])
          by_cases h00 : n = 0
          · have e1 : ((n.toNat : Int) == 0) = true := by rw [hz, decide_eq_true h00]
            clear hz h0 h00
            go_enter Try.func46, Try.ntmps46
            go_wp2_with fail
            go_ret3
            exact r_nil (n := 0) (e := 61) HE.out (by omega)
          · have e1 : ((n.toNat : Int) == 0) = false := by rw [hz, decide_eq_false h00]
            have e2 : decide ((200 : Int) < (n.toNat : Int)) = true := by rw [decide_eq_true_eq]; have := h0.resolve_left h00; omega
            clear hz h0 h00
            go_enter Try.func46, Try.ntmps46
            go_wp2_with fail
            go_ret3
            exact r_nil (n := 0) (e := 61) HE.out (by omega)
        · have h00 : ¬ n = 0 := fun h => h0 (.inl h)
          have h200 : ¬ 200 < n.toNat := fun h => h0 (.inr h)
          have e1 : ((n.toNat : Int) == 0) = false := by rw [hz, decide_eq_false h00]
          have e2 : decide ((200 : Int) < (n.toNat : Int)) = false := by rw [decide_eq_false_iff_not]; omega
          have hnp : 0 < n.toNat := Nat.pos_of_ne_zero fun h => h00 (UInt8.toNat_inj.1 h)
          have e4 : IntKind.i64.wrap (2 + (n.toNat : Int)) = 2 + (n.toNat : Int) := by rw [IntKind.wrap_i64]; omega
          by_cases hs : q.length < n.toNat
          · have HE := Keep.mk (show firstS (170 :: n :: q) = ([], 0, 0) from by simp [firstS, h0, hs])
            have e3 : decide ((q.length : Int) + 1 + 1 < 2 + (n.toNat : Int)) = true := by rw [decide_eq_true_eq]; omega
            clear hz h0 h00 h200 hs
            go_enter Try.func46, Try.ntmps46
            go_wp2_with fail
            go_ret3
            exact r_nil (n := 0) (e := 0) HE.out (by omega)
          · have HE := Keep.mk (show firstS (170 :: n :: q) = (q.take n.toNat, 2 + n.toNat, 0) from by simp [firstS, h0, hs])
            have e3 : decide ((q.length : Int) + 1 + 1 < 2 + (n.toNat : Int)) = false := by rw [decide_eq_false_iff_not]; omega
            have hcut : Bytes w (.slice (cutAt (some ⟨g, off, none⟩) cv 2) n.toNat (cv - 2)) (q.take n.toNat) := by
              have h1 := (hv.drop (k := 2) (by simp)).take (k := n.toNat) (by simp; omega)
              exact h1
            have hc2 : cutAt (some ⟨g, off, none⟩) cv 2 = some ⟨g, off + 2, none⟩ := by
              rw [cutAt, if_neg (by simp at hcap; omega)]; rfl
            have hrun : ∀ W : World, (Instr.slice 22 (.slice (some ⟨g, off, none⟩) (q.length + 1 + 1) cv) (some (.int .i64 2)) (some (.int .i64 (2 + (n.toNat : Int)))) none).run Try.prog W = .ok (.slice (some ⟨g, off + 2, none⟩) n.toNat (cv - 2)) W := by
              intro W
              have h := run_cut_mid Try.underlying22 (show (Try.prog.info? 5).map (·.size) = some 1 by kernel_rfl) (some ⟨g, off, none⟩) (q.length + 1 + 1) cv 2 (2 + n.toNat) (by omega) (by simp at hcap; omega) W
              rw [hc2, show 2 + n.toNat - 2 = n.toNat by omega] at h
              rw [← h]
              simp
            rw [hc2] at hcut
            obtain ⟨i, hi, hz'⟩ := Option.map_eq_some_iff.1 infoB
            simp only [Prod.mk.injEq] at hz'
            have HZ := Keep.mk (And.intro hi hz')
            have Q0 : Quiet w (w.alloc (.cells #[] 5)) := (Upd.refl none' w).alloc _
            have HC := Keep.mk (bytes_reads (hcut.quiet Q0))
            have HQ := Keep.mk Q0
            have hle : 2 + (n.toNat : Int) ≤ (cv : Int) := by simp at hcap; omega
            have hlq : n.toNat ≤ q.length := by omega
            have hl2 : (q.take n.toNat).length = n.toNat := by simp; omega
            have HL2 := Keep.mk hl2
            have h2n : n.toNat ≤ 1000000 := by omega
            clear hz h0 h00 h200 hs hcut hc2 Q0 hl2 hi hz'
            go_enter Try.func46, Try.ntmps46
            go_wp2_with (at_builtin; refine at_append_reads (enc := encB) (k := 1) 1 rfl (.tmp 50) (.tmp 53) 22 rfl 5 i (.int .u8 0) Try.underlying22 HZ.out.1 HZ.out.2.1 HZ.out.2.2.1 HZ.out.2.2.2 rfl (by decide) (.slice (some ⟨w.heap.size, 0, none⟩) 0 0) (.slice (some ⟨g, off + 2, none⟩) n.toNat (cv - 2)) [] (q.take n.toNat) _ rfl (row_empty _ _ _ _) rfl HC.out (fun _ => rfl) oneB (by simp [maxLen]; omega) (by simp; omega) ?_)
            intro v' w1 F1 hr1 hu1
            have Q1 := own_quiet HQ.out (fun k hk => by rw [hk]; exact Nat.le_refl _) hu1
            have HF := Keep.mk (And.intro hr1 (own_upd Q1.1 Q1.2))
            clear hr1 hu1 Q1
            go_wp2_with fail
            go_ret3
            exact ⟨v', by rw [HE.out]; rfl, F1, by rw [HE.out]; exact HF.out.1, HF.out.2⟩
    · have e1 : ((x.toNat : Int) != 170) = true := by
        rw [bne_iff_ne]
        intro h
        have h7 : (170 : UInt8).toNat = 170 := rfl
        exact hx (UInt8.toNat_inj.1 (by omega))
      have HE := Keep.mk (show firstS (x :: r) = ([], 0, 61) from by simp [firstS, hx])
      clear hx
      go_enter Try.func46, Try.ntmps46
      go_wp2_with fail
      go_ret3
      exact r_nil (n := 0) (e := 61) HE.out (by omega)
end Go.Proofs.Ytimkbpcdbbdjlaa.Cr
