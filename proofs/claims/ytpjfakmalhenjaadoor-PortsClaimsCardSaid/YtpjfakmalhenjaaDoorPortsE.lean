/- The document's ports: Decimal, Name, Port, counts, taken, Next. -/
import Derived.Test.YtpjfakmalhenjaaDoorPortsD
set_option linter.unusedVariables false
namespace Go.Proofs.YtpjfakmalhenjaaDoor
open Go.RowKit Go.Sub Go.Shelf Go.Sort Go.ChangeMaps Go.Lib
def digB (d : Nat) : UInt8 := UInt8.ofNat (48 + d)
theorem decDigits_cut (m : Nat) (h : 0 < m) (O : List UInt8) : decDigits m ++ O = (if m / 10 = 0 then [] else decDigits (m / 10)) ++ ([digB (m % 10)] ++ O) := by
  rw [decDigits]
  by_cases h10 : m < 10
  · rw [dif_pos h10, if_pos (by omega), show m % 10 = m by omega]; rfl
  · rw [dif_neg h10, if_neg (by omega), List.append_assoc]; rfl
theorem digit_text (w : World) (d : Nat) (hd : d < 10) : (convert 39 9 (.slice (some ⟨w.heap.size, 0, none⟩) 1 1)).run Tryd.prog (w.alloc (.cells #[.int .u8 (48 + (d : Int))] 5)) =
    .ok (.string (strB [digB d])) (w.alloc (.cells #[.int .u8 (48 + (d : Int))] 5)) := by
  refine run_text Tryd.underlying39 Tryd.underlying5 Tryd.underlying9 ⟨_, _, rfl, Nat.le_refl _, fun i x hx => ?_⟩
  cases i with
  | succ i => simp at hx
  | zero =>
    simp only [List.getElem?_cons_zero, Option.some.injEq] at hx
    subst hx
    refine ⟨_, _, rfl, by rw [size_alloc']; exact Nat.lt_succ_self _, ?_⟩
    rw [World.cell?_alloc_mark]
    simp only [bv, digB, UInt8.toNat_ofNat', Nat.zero_add]
    have : (48 + d) % 2 ^ 8 = 48 + d := Nat.mod_eq_of_lt (by omega)
    rw [this]
    simp
set_option maxHeartbeats 1000000 in
set_option maxRecDepth 100000 in
theorem decimal1_c {w : World} (N : Nat) (hN : N ≤ 1099511627776) : Calls Tryd.prog 31 #[.int .i64 (N : Int)] w (Ret (.string (strB (decDigits N))) fun w' => Quiet w w') := by
  have e0 : decide ((N : Int) < 0) = false := by simp
  have e1 : decide (1099511627776 < (N : Int)) = false := by simp; omega
  obtain ⟨d, hd⟩ : ∃ d : Nat, d = N % 10 := ⟨_, rfl⟩
  obtain ⟨q, hq⟩ : ∃ q : Nat, q = N / 10 := ⟨_, rfl⟩
  have r1 : Int.tmod (N : Int) 10 = (d : Int) := by rw [hd]; rfl
  have r2 : (N : Int) % 10 = (d : Int) := by omega
  have r3 : Int.tdiv (N : Int) 10 = (q : Int) := by rw [hq]; rfl
  have r4 : (N : Int) / 10 = (q : Int) := by omega
  have hd10 : d < 10 := by omega
  have TX := digit_text w d hd10
  have HI : Keep (decDigits N = (if q = 0 then [] else decDigits q) ++ [digB d]) := Keep.mk (by
    by_cases h0 : 0 < N
    · have := decDigits_cut N h0 []
      rw [List.append_nil, List.append_nil] at this
      rw [this, hq, hd]
    · obtain rfl : N = 0 := by omega
      subst hq hd
      rw [decDigits_one (by omega)]; rfl)
  have hqN : q + 1 ≤ N + 1 := by omega
  clear hd hq
  go_enter Tryd.func31, Tryd.ntmps31
  go_wp2_with fail
  have u1 := (Upd.refl none' w).alloc (.cells #[.int .u8 (48 + (d : Int))] 5)
  generalize w.alloc (.cells #[.int .u8 (48 + (d : Int))] 5) = w1 at *
  clear TX
  go_loopw [0, 3] (fun n s wr => ∃ (m : Nat) (O : List UInt8), n = .int .i64 (m : Nat) ∧ s = .string (strB O) ∧ decDigits N = (if m = 0 then [] else decDigits m) ++ O ∧ O.length + m ≤ N + 1 ∧ Quiet w wr) (fun n _ _ => (RowKit.intOf n).toNat)
  case atStart => exact ⟨q, _, rfl, rfl, HI.out, by simp; omega, u1⟩
  case round =>
    obtain ⟨m, O, rfl, rfl, hI, hlen, hQ⟩ := hrel
    clear u1 HI r1 r2 r3 r4 hd10 hqN
    by_cases hm : 0 < m
    · obtain ⟨d, hd⟩ : ∃ d : Nat, d = m % 10 := ⟨_, rfl⟩
      obtain ⟨q, hq⟩ : ∃ q : Nat, q = m / 10 := ⟨_, rfl⟩
      have r1 : Int.tmod (m : Int) 10 = (d : Int) := by rw [hd]; rfl
      have r2 : (m : Int) % 10 = (d : Int) := by omega
      have r3 : Int.tdiv (m : Int) 10 = (q : Int) := by rw [hq]; rfl
      have r4 : (m : Int) / 10 = (q : Int) := by omega
      have hd10 : d < 10 := by omega
      have TX := digit_text wr d hd10
      have hI2 : decDigits N = (if q = 0 then [] else decDigits q) ++ ([digB d] ++ O) := by
        rw [hI, if_neg (by omega), decDigits_cut m hm, hq, hd]
      have AD : ∀ w : World, (Op.stringOp .add (strB [digB d]) (strB O)).run Tryd.prog w = .ok (.string (strB ([digB d] ++ O))) w := by
        intro w
        rw [run_string_add_sum (P := Tryd.prog) w _ _ (by rw [strB_size, strB_size]; simp; omega)]
        congr 2
      have HI := Keep.mk hI2
      have hlen2 : ([digB d] ++ O).length + q ≤ N + 1 := by simp; omega
      have hqm : q < m := by omega
      have em : decide (0 < (m : Int)) = true := by simp; omega
      have em2 : decide (0 < m) = true := by simp; omega
      generalize [digB d] ++ O = O' at *
      generalize strB [digB d] = sd at *
      have u2 := hQ.alloc (.cells #[.int .u8 (48 + (d : Int))] 5)
      clear hd hq hI hI2 hQ
      go_wp2_with fail
      go_roundw
      case rel => exact ⟨q, O', rfl, rfl, HI.out, hlen2, u2⟩
      case measure => simp [RowKit.intOf]; omega
    · have em : decide (0 < (m : Int)) = false := by simp; omega
      have em2 : decide (0 < m) = false := by simp; omega
      have hm0 : m = 0 := by omega
      have HI := Keep.mk hI
      have HM := Keep.mk hm0
      clear hI hm hm0
      go_wp2_with fail
      go_ret
      have := HI.out
      simp only [HM.out, if_true, List.nil_append] at this
      exact ⟨by rw [this]; rfl, hQ⟩
set_option maxHeartbeats 400000 in
theorem name22_c {w : World} (p : Int) : Calls Tryd.prog 18 #[.int .i64 p] w (Ret (.string (strB (nameS p))) fun w' => Quiet w w') := by
  by_cases h0 : p < 20000
  · have e : strB (nameS p) = ⟨#[]⟩ := by simp [nameS, h0, strB]
    rw [e]
    go_enter Tryd.func18, Tryd.ntmps18
    go_wp2_with fail
    go_ret
    exact ⟨rfl, Upd.refl _ _⟩
  · by_cases h1 : 20063 < p
    · have e : strB (nameS p) = ⟨#[]⟩ := by simp [nameS, h1, strB]
      rw [e]
      go_enter Tryd.func18, Tryd.ntmps18
      go_wp2_with fail
      go_ret
      exact ⟨rfl, Upd.refl _ _⟩
    · obtain ⟨N, rfl⟩ : ∃ N : Nat, p = (N : Int) := ⟨p.toNat, by omega⟩
      have hl : (itoa (N : Int)).length ≤ 21 := itoa_length_le _ (by omega) (by omega)
      have C := Keep.mk (decimal1_c (w := w) N (by omega))
      rw [← show itoa (N : Int) = decDigits N from by unfold itoa; rw [if_neg (by omega)]; simp] at C
      have eq : (⟨#[116, 99, 112, 45]⟩ : ByteArray) ++ strB (itoa (N : Int)) = strB (nameS N) := by
        apply ByteArray.ext
        apply Array.toList_inj.1
        rw [ByteArray.data_append, Array.toList_append, strB_toList, strB_toList, nameS, if_neg (by omega)]
      have ea : ∀ w : World, (Op.stringOp .add (⟨#[116, 99, 112, 45]⟩ : ByteArray) (strB (itoa (N : Int)))).run Tryd.prog w = .ok (.string (strB (nameS N))) w := by
        intro w
        rw [run_string_add_sum (P := Tryd.prog) w _ _ (by rw [strB_size]; show 4 + _ ≤ _; omega), eq]
      generalize strB (itoa (N : Int)) = d at *
      generalize strB (nameS (N : Int)) = nm at *
      clear hl eq
      go_enter Tryd.func18, Tryd.ntmps18
      go_wp2_with fail
      refine C.out.mono ?_
      rintro e w' ⟨rfl, q⟩
      go_wp2_with fail
      go_ret
      exact ⟨rfl, q⟩
set_option maxHeartbeats 1000000 in
set_option maxRecDepth 100000 in
theorem port22_c {w : World} (s : ByteArray) : Calls Tryd.prog 13 #[.string s] w (PortEnds s.data.toList w) := by
  have hE := Keep.mk (ByteArray.toList_eq s)
  go_enter Tryd.func13, Tryd.ntmps13
  go_wp2_with fail
  go_loopw [4] (fun i wr => ∃ k : Nat, k ≤ 64 ∧ i = .int .i64 (20000 + (k : Nat)) ∧ Quiet w wr ∧ ∀ j < k, s.data.toList ≠ nameS (20000 + (j : Int))) (fun i _ => 20064 - (RowKit.intOf i).toNat)
  case atStart => exact ⟨0, by omega, rfl, Upd.refl _ _, fun j hj => absurd hj (by omega)⟩
  case round =>
    obtain ⟨k, hk, rfl, hQ, hb⟩ := hrel
    replace hb := Keep.mk hb
    by_cases hlt : k < 64
    · have C := Keep.mk (name22_c (w := wr) (20000 + (k : Int)))
      have e1 : decide (20000 + (k : Int) ≤ 20063) = true := by simp; omega
      by_cases he : s.data.toList = nameS (20000 + (k : Int))
      · have hP : portS s.data.toList = some (20000 + (k : Int)) := portS_iff.2 ⟨by omega, by omega, he⟩
        have ee : ((strB (nameS (20000 + (k : Int)))).toList == s.toList) = true := by rw [hE.out, he, ByteArray.toList_eq, strB_toList]; simp
        have HP := Keep.mk hP
        generalize strB (nameS (20000 + (k : Int))) = nm at *
        clear he hP
        go_wp2_with fail
        refine C.out.mono ?_
        rintro e w2 ⟨rfl, q2⟩
        have Q2 := hQ.trans q2
        go_wp2_with fail
        go_ret2
        unfold PortEnds
        rw [HP.out]
        exact ⟨rfl, Q2⟩
      · have ee : ((strB (nameS (20000 + (k : Int)))).toList == s.toList) = false := by rw [hE.out, ByteArray.toList_eq, strB_toList]; simpa using fun h => he h.symm
        have hb' : ∀ j < k + 1, s.data.toList ≠ nameS (20000 + (j : Int)) := fun j hj => by
          by_cases e : j = k
          · subst e; exact he
          · exact hb.out j (by omega)
        replace hb' := Keep.mk hb'
        generalize strB (nameS (20000 + (k : Int))) = nm at *
        clear he
        go_wp2_with fail
        refine C.out.mono ?_
        rintro e w2 ⟨rfl, q2⟩
        have Q2 := hQ.trans q2
        go_wp2_with fail
        go_roundw
        case rel => exact ⟨k + 1, by omega, by go_num, Q2, hb'.out⟩
        case measure => simp [RowKit.intOf]; omega
    · have hP : portS s.data.toList = none := by
        cases h : portS s.data.toList with
        | none => rfl
        | some p =>
          obtain ⟨h0, h1, h2⟩ := portS_iff.1 h
          exact absurd (by rw [h2]; congr 1; omega) (hb.out (p - 20000).toNat (by omega))
      have e1 : decide (20000 + (k : Int) ≤ 20063) = false := by simp; omega
      have HP := Keep.mk hP
      clear hP
      go_wp2_with fail
      go_ret2
      unfold PortEnds
      rw [HP.out]
      exact ⟨rfl, hQ⟩
end Go.Proofs.YtpjfakmalhenjaaDoor
