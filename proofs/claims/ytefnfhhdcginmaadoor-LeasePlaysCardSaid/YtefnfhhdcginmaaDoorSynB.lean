/- May a text be a name? The document's answer. -/
import Derived.Test.YtefnfhhdcginmaaDoorSynC
set_option linter.unusedVariables false
namespace Go.Proofs.YtefnfhhdcginmaaDoor
open Go.RowKit Go.Sub Go.Shelf
set_option maxHeartbeats 2000000 in
set_option maxRecDepth 100000 in
theorem nref_c {w : World} (s : ByteArray) (hs : s.size ≤ maxLen) : Calls Tryd.prog 32 #[.string s] w (Ret (.bool (nameB s.data.toList)) fun w' => w = w') := by
  unfold maxLen at hs
  have hsl : s.data.toList.length = s.size := by simp
  have hI : ∀ (k : Nat) (hk : k < s.size), ∀ W : World, (Instr.index 9 (.string s) (.int .i64 (k : Int))).run Tryd.prog W = .ok (.int .u8 ((s.data.toList[k]'(by rw [hsl]; exact hk)).toNat : Int)) W := by
    intro k hk W
    rw [run_index_string W 9 s .i64 k Tryd.underlying9, dif_pos ⟨by omega, by omega⟩]
    congr 3
  have HI := Keep.mk hI
  have HSL := Keep.mk hsl
  clear hI
  go_enter Tryd.func32, Tryd.ntmps32
  go_wp2_with fail
  go_loopw [3] (fun i wr => ∃ k : Nat, k ≤ s.size ∧ i = .int .i64 k ∧ wr = w ∧ ∀ (j : Nat) (hj : j < s.data.toList.length), j < k → okc s.data.toList.length j s.data.toList[j] = true) (fun i _ => s.size - (intOf i).toNat)
  case atStart => exact ⟨0, by omega, rfl, rfl, fun j _ h => by omega⟩
  case round =>
    obtain ⟨k, hk, rfl, rfl, hall⟩ := hrel
    have HA := Keep.mk hall
    clear hall
    by_cases hlt : k < s.size
    · have hlt' : k < s.data.toList.length := by rw [HSL.out]; exact hlt
      have i0 := HI.out k hlt
      have HB := Keep.mk (fun (h : okc s.data.toList.length k s.data.toList[k] = true) (j : Nat) (hj : j < s.data.toList.length) (hjk : j < k + 1) => show okc s.data.toList.length j s.data.toList[j] = true from by
        rcases Nat.lt_or_ge j k with e | e
        · exact HA.out j hj e
        · obtain rfl : j = k := by omega
          exact h)
      have HF := Keep.mk (fun (h : okc s.data.toList.length k s.data.toList[k] = false) => show nameB s.data.toList = false from by
        rw [Bool.eq_false_iff]
        intro hn
        have := ((nameB_iff _).1 hn).2 k hlt'
        rw [h] at this
        cases this)
      have h256 : (s.data.toList[k]).toNat < 256 := UInt8.toNat_lt _
      have h45 : (s.data.toList[k] == 45) = decide ((s.data.toList[k]).toNat = 45) := by
        rw [Bool.eq_iff_iff, beq_iff_eq, decide_eq_true_eq]
        exact ⟨fun h => by rw [h]; rfl, fun h => UInt8.toNat_inj.1 h⟩
      have HO : Keep (okc s.data.toList.length k s.data.toList[k] = ((decide ((s.data.toList[k]).toNat = 45) && (decide (0 < k) && decide (k + 1 < s.size))) || (decide (97 ≤ (s.data.toList[k]).toNat) && decide ((s.data.toList[k]).toNat ≤ 122)) || (decide (48 ≤ (s.data.toList[k]).toNat) && decide ((s.data.toList[k]).toNat ≤ 57)))) := Keep.mk (by unfold okc; rw [h45, HSL.out])
      clear h45
      generalize okc s.data.toList.length k s.data.toList[k] = ok at *
      generalize (s.data.toList[k]).toNat = c at *
      by_cases c45 : c = 45
      · subst c45
        by_cases hin : 0 < k ∧ k + 1 < s.size
        · have e1 : decide (0 < k) = true := by simp; omega
          have e2 : decide ((k : Int) < (s.size : Int) - 1) = true := by simp; omega
          have HR := Keep.mk (HB.out (by rw [HO.out]; simp [hin.1, hin.2]))
          clear hin
          go_wp2_with fail
          go_roundw
          case rel => exact ⟨k + 1, by omega, by go_num, by trivial, HR.out⟩
          case measure => simp [intOf]; omega
        · have HR := Keep.mk (HF.out (by rw [HO.out]; simp; omega))
          by_cases h0 : 0 < k
          · have e1 : decide (0 < k) = true := by simp; omega
            have e2 : decide ((k : Int) < (s.size : Int) - 1) = false := by simp; omega
            clear hin h0
            go_wp2_with fail
            go_returns
            exact ⟨(by rw [HR.out]; try rfl), rfl⟩
          · have e1 : decide (0 < k) = false := by simp; omega
            clear hin h0
            go_wp2_with fail
            go_returns
            exact ⟨(by rw [HR.out]; try rfl), rfl⟩
      · have e0 : ((c : Int) == 45) = false := by simp; omega
        by_cases c97 : 97 ≤ c ∧ c ≤ 122
        · have e1 : decide ((c : Int) < 97) = false := by simp; omega
          have e2 : decide (122 < (c : Int)) = false := by simp; omega
          have HR := Keep.mk (HB.out (by rw [HO.out]; simp [c97]))
          clear c97 c45
          go_wp2_with fail
          go_roundw
          case rel => exact ⟨k + 1, by omega, by go_num, by trivial, HR.out⟩
          case measure => simp [intOf]; omega
        · have e12 : (decide ((c : Int) < 97) || decide (122 < (c : Int))) = true := by simp; omega
          by_cases c48 : 48 ≤ c ∧ c ≤ 57
          · have e1 : decide ((c : Int) < 97) = true := by simp; omega
            have e3 : decide ((c : Int) < 48) = false := by simp; omega
            have e4 : decide (57 < (c : Int)) = false := by simp; omega
            have HR := Keep.mk (HB.out (by rw [HO.out]; simp [c48]))
            clear c48 c97 c45 e12
            go_wp2_with fail
            go_roundw
            case rel => exact ⟨k + 1, by omega, by go_num, by trivial, HR.out⟩
            case measure => simp [intOf]; omega
          · have HR := Keep.mk (HF.out (by rw [HO.out]; simp [c45]; omega))
            have e34 : (decide ((c : Int) < 48) || decide (57 < (c : Int))) = true := by simp; omega
            cases e1 : decide ((c : Int) < 97) with
            | true =>
              cases e3 : decide ((c : Int) < 48) with
              | true =>
                clear c48 c97 c45 e12 e34
                go_wp2_with fail
                go_returns
                exact ⟨(by rw [HR.out]; try rfl), rfl⟩
              | false =>
                have e4 : decide (57 < (c : Int)) = true := by simpa [e3] using e34
                clear c48 c97 c45 e12 e34
                go_wp2_with fail
                go_returns
                exact ⟨(by rw [HR.out]; try rfl), rfl⟩
            | false =>
              have e2 : decide (122 < (c : Int)) = true := by simpa [e1] using e12
              have e3 : decide ((c : Int) < 48) = false := by simp at e1 ⊢; omega
              have e4 : decide (57 < (c : Int)) = true := by simpa [e3] using e34
              clear c48 c97 c45 e12 e34
              go_wp2_with fail
              go_returns
              exact ⟨(by rw [HR.out]; try rfl), rfl⟩
    · have HR : Keep (nameB s.data.toList = (decide (1 ≤ s.size) && decide (s.size ≤ 20))) := Keep.mk (by
        have hl := HSL.out
        rw [Bool.eq_iff_iff, nameB_iff, Bool.and_eq_true, decide_eq_true_eq, decide_eq_true_eq]
        exact ⟨fun h => by omega, fun h => ⟨by omega, fun j hj => HA.out j hj (by omega)⟩⟩)
      by_cases h1 : 1 ≤ s.size
      · have e1 : decide (1 ≤ (s.size : Int)) = true := by simp; omega
        by_cases h2 : s.size ≤ 20
        · have e2 : decide ((s.size : Int) ≤ 20) = true := by simp; omega
          have HR := Keep.mk (HR.out.trans (by rw [decide_eq_true h1, decide_eq_true h2]; rfl : _ = true))
          clear h1 h2
          go_wp2_with fail
          go_returns
          exact ⟨(by rw [HR.out]; try rfl), rfl⟩
        · have e2 : decide ((s.size : Int) ≤ 20) = false := by simp; omega
          have HR := Keep.mk (HR.out.trans (by rw [decide_eq_false h2]; simp : _ = false))
          clear h1 h2
          go_wp2_with fail
          go_returns
          exact ⟨(by rw [HR.out]; try rfl), rfl⟩
      · have e1 : decide (1 ≤ (s.size : Int)) = false := by simp; omega
        have HR := Keep.mk (HR.out.trans (by rw [decide_eq_false h1]; simp : _ = false))
        clear h1
        go_wp2_with fail
        go_returns
        exact ⟨(by rw [HR.out]; try rfl), rfl⟩
end Go.Proofs.YtefnfhhdcginmaaDoor
