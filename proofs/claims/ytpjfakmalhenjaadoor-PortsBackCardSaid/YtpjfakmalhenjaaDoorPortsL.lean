/- PortsBack: its walk. -/
import Derived.Test.YtpjfakmalhenjaaDoorPortsJ
import Derived.Test.YtpjfakmalhenjaaDoorSynC
set_option linter.unusedVariables false
namespace Go.Proofs.YtpjfakmalhenjaaDoor
open Go.RowKit Go.Sub Go.Shelf Go.Sort Go.ChangeMaps Go.Lib
theorem dec_port {a b : Nat} (ha : a < 10) (hb : b < 10) : decDigits (20000 + 10 * a + b) = [50, 48, 48, digB a, digB b] := by
  have h1 := decDigits_cut (20000 + 10 * a + b) (by omega) []
  have h2 := decDigits_cut (2000 + a) (by omega) []
  rw [show (20000 + 10 * a + b) / 10 = 2000 + a by omega, show (20000 + 10 * a + b) % 10 = b by omega, if_neg (by omega)] at h1
  rw [show (2000 + a) / 10 = 200 by omega, show (2000 + a) % 10 = a by omega, if_neg (by omega)] at h2
  rw [List.append_nil] at h1 h2
  rw [h1, h2, show decDigits 200 = [50, 48, 48] from by simp [decDigits]]
  rfl
theorem port_names : ∀ a b : Fin 10, nameB (tcp ++ [50, 48, 48, digB a.1, digB b.1]) = true := by decide
theorem name_port {p : Int} (h0 : 20000 ≤ p) (h1 : p ≤ 20063) : nameB (nameS p) = true := by
  obtain ⟨n, rfl⟩ : ∃ n : Nat, p = (n : Int) := ⟨p.toNat, by omega⟩
  unfold nameS
  rw [if_neg (by omega)]
  have e : n = 20000 + 10 * ((n - 20000) / 10) + (n - 20000) % 10 := by omega
  have : itoa (n : Int) = decDigits n := by simp [itoa]
  rw [this, e, dec_port (by omega) (by omega)]
  exact port_names ⟨(n - 20000) / 10, by omega⟩ ⟨(n - 20000) % 10, by omega⟩
theorem port_name {p : Int} (h0 : 20000 ≤ p) (h1 : p ≤ 20063) : portS (nameS p) = some p := portS_iff.2 ⟨h0, h1, rfl⟩
theorem name_none {p : Int} (h : p < 20000 ∨ 20063 < p) : nameS p = [] := by unfold nameS; rw [if_pos h]
theorem port_nil : portS [] = none := by
  rcases h : portS [] with _ | p
  · rfl
  · obtain ⟨h0, h1, h2⟩ := portS_iff.1 h
    unfold nameS at h2
    rw [if_neg (by omega)] at h2
    simp at h2
namespace portsBack
set_option maxHeartbeats 16000000 in
set_option maxRecDepth 100000 in
theorem walk {W : World} (ht : Tab10 W) (port : Int) (hp : (Lit.int .i64 port).wf = true) (name : ByteArray) (hns : name.size ≤ maxLen) :
    Calls Tryd.prog 6 #[.int .i64 port, .string name] W (Ret (.bool true) fun W' => Quiet W W') := by
  have HT := Keep.mk ht
  clear ht hp
  go_enter Tryd.func6, Tryd.ntmps6
  go_wp2_with fail
  refine (head_c HT.out).mono ?_
  rintro e w1 ⟨rfl, q1⟩
  have Q1 := Keep.mk q1
  clear q1
  cases hz : decide ((1000 : Int) < (name.size : Int)) with
  | true =>
    go_wp2_with fail
    go_ret
    exact ⟨rfl, Q1.out⟩
  | false =>
    have C1 := Keep.mk (fun (w' : World) (hq : Quiet W w') => name_c (tab_upd HT.out hq) port)
    have C3 := Keep.mk (fun (w' : World) (hq : Quiet W w') => port_c (tab_upd HT.out hq) name hns)
    have C2 := Keep.mk (fun (w' : World) (hq : Quiet W w') => port_c (tab_upd HT.out hq) (strB (nameS port)) (by
      rw [strB_size]
      have : (nameS port).length ≤ 100 := by
        by_cases h : port < 20000 ∨ 20063 < port
        · rw [name_none h]; decide
        · have := (nameB_iff _).1 (name_port (p := port) (by omega) (by omega)); omega
      unfold maxLen; omega))
    have CS := Keep.mk (fun w' : World => sname_c (w := w') (strB (nameS port)) (by
      rw [strB_size]
      have : (nameS port).length ≤ 100 := by
        by_cases h : port < 20000 ∨ 20063 < port
        · rw [name_none h]; decide
        · have := (nameB_iff _).1 (name_port (p := port) (by omega) (by omega)); omega
      unfold maxLen; omega))
    have hfin : ∀ p, portS name.data.toList = some p → strB (nameS p) = name := fun p h => by
      rw [← (portS_iff.1 h).2.2]; exact strB_of name
    have HF := Keep.mk hfin
    clear hfin
    unfold PortEnds at C2 C3
    rw [strB_toList] at C2 CS
    -- the ways
    by_cases hf : port < 20000 ∨ 20063 < port
    · rw [name_none hf, port_nil] at C2
      rw [name_none hf] at C1
      simp only [Option.getD, Option.isSome] at C2
      clear CS
      have e0 : (strB ([] : List UInt8)).toList = [] := by rw [ByteArray.toList_eq]; rfl
      have e2 : (strB ([] : List UInt8)).toList.isEmpty = true := by rw [e0]; rfl
      generalize strB ([] : List UInt8) = sN at *
      rcases hf with hf | hf
      · have hd : decide (port ≤ 20063) = true := by simp; omega
        cases hp : portS name.data.toList with
        | none =>
          rw [hp] at C3
          simp only [Option.getD, Option.isSome] at C3
          clear hp
          go_wp2_with fail
          refine (C1.out _ Q1.out).mono ?_
          rintro e w2 ⟨rfl, q2⟩
          have Q2 := Keep.mk (Q1.out.trans q2)
          clear q2
          go_wp2_with fail
          refine (C2.out _ Q2.out).mono ?_
          rintro e w3 ⟨rfl, q3⟩
          have Q3 := Keep.mk (Q2.out.trans q3)
          clear q3
          go_wp2_with fail
          refine (C3.out _ Q3.out).mono ?_
          rintro e w4 ⟨rfl, q4⟩
          have Q4 := Keep.mk (Q3.out.trans q4)
          clear q4
          go_wp2_with fail
          go_ret
          exact ⟨rfl, Q4.out⟩
        | some q =>
          have hq := portS_iff.1 hp
          have C4 := Keep.mk (fun (w' : World) (hq : Quiet W w') => name_c (tab_upd HT.out hq) q)
          rw [HF.out q hp] at C4
          have hq0 := hq.1
          have hq1 := hq.2.1
          have eN : (name.toList == name.toList) = true := by simp
          rw [hp] at C3
          simp only [Option.getD, Option.isSome] at C3
          clear hp hq
          go_wp2_with fail
          refine (C1.out _ Q1.out).mono ?_
          rintro e w2 ⟨rfl, q2⟩
          have Q2 := Keep.mk (Q1.out.trans q2)
          clear q2
          go_wp2_with fail
          refine (C2.out _ Q2.out).mono ?_
          rintro e w3 ⟨rfl, q3⟩
          have Q3 := Keep.mk (Q2.out.trans q3)
          clear q3
          go_wp2_with fail
          refine (C3.out _ Q3.out).mono ?_
          rintro e w4 ⟨rfl, q4⟩
          have Q4 := Keep.mk (Q3.out.trans q4)
          clear q4
          go_wp2_with fail
          refine (C4.out _ Q4.out).mono ?_
          rintro e w6 ⟨rfl, q6⟩
          have Q6 := Keep.mk (Q4.out.trans q6)
          clear q6
          go_wp2_with fail
          go_ret
          exact ⟨rfl, Q6.out⟩
      · have hd : decide (port ≤ 20063) = false := by simp; omega
        cases hp : portS name.data.toList with
        | none =>
          rw [hp] at C3
          simp only [Option.getD, Option.isSome] at C3
          clear hp
          go_wp2_with fail
          refine (C1.out _ Q1.out).mono ?_
          rintro e w2 ⟨rfl, q2⟩
          have Q2 := Keep.mk (Q1.out.trans q2)
          clear q2
          go_wp2_with fail
          refine (C2.out _ Q2.out).mono ?_
          rintro e w3 ⟨rfl, q3⟩
          have Q3 := Keep.mk (Q2.out.trans q3)
          clear q3
          go_wp2_with fail
          refine (C3.out _ Q3.out).mono ?_
          rintro e w4 ⟨rfl, q4⟩
          have Q4 := Keep.mk (Q3.out.trans q4)
          clear q4
          go_wp2_with fail
          go_ret
          exact ⟨rfl, Q4.out⟩
        | some q =>
          have hq := portS_iff.1 hp
          have C4 := Keep.mk (fun (w' : World) (hq : Quiet W w') => name_c (tab_upd HT.out hq) q)
          rw [HF.out q hp] at C4
          have hq0 := hq.1
          have hq1 := hq.2.1
          have eN : (name.toList == name.toList) = true := by simp
          rw [hp] at C3
          simp only [Option.getD, Option.isSome] at C3
          clear hp hq
          go_wp2_with fail
          refine (C1.out _ Q1.out).mono ?_
          rintro e w2 ⟨rfl, q2⟩
          have Q2 := Keep.mk (Q1.out.trans q2)
          clear q2
          go_wp2_with fail
          refine (C2.out _ Q2.out).mono ?_
          rintro e w3 ⟨rfl, q3⟩
          have Q3 := Keep.mk (Q2.out.trans q3)
          clear q3
          go_wp2_with fail
          refine (C3.out _ Q3.out).mono ?_
          rintro e w4 ⟨rfl, q4⟩
          have Q4 := Keep.mk (Q3.out.trans q4)
          clear q4
          go_wp2_with fail
          refine (C4.out _ Q4.out).mono ?_
          rintro e w6 ⟨rfl, q6⟩
          have Q6 := Keep.mk (Q4.out.trans q6)
          clear q6
          go_wp2_with fail
          go_ret
          exact ⟨rfl, Q6.out⟩
    · have f0 : 20000 ≤ port := by omega
      have f1 : port ≤ 20063 := by omega
      rw [port_name f0 f1] at C2
      rw [name_port f0 f1] at CS
      have hne : nameS port ≠ [] := by
        unfold nameS
        rw [if_neg hf]
        simp
      simp only [Option.getD, Option.isSome] at C2
      clear hf
      generalize nameS port = N at *
      obtain ⟨c, N', rfl⟩ : ∃ c N', N = c :: N' := by cases N with
        | nil => exact absurd rfl hne
        | cons c N' => exact ⟨c, N', rfl⟩
      clear hne
      have e1 : ((strB (c :: N')).toList == ([] : List UInt8)) = false := by rw [ByteArray.toList_eq]; rfl
      have e2 : (strB (c :: N')).toList.isEmpty = false := by rw [ByteArray.toList_eq]; rfl
      generalize strB (c :: N') = sN at *
      cases hp : portS name.data.toList with
      | none =>
        rw [hp] at C3
        simp only [Option.getD, Option.isSome] at C3
        clear hp
        go_wp2_with fail
        refine (C1.out _ Q1.out).mono ?_
        rintro e w2 ⟨rfl, q2⟩
        have Q2 := Keep.mk (Q1.out.trans q2)
        clear q2
        go_wp2_with fail
        refine (C2.out _ Q2.out).mono ?_
        rintro e w3 ⟨rfl, q3⟩
        have Q3 := Keep.mk (Q2.out.trans q3)
        clear q3
        go_wp2_with fail
        refine (C3.out _ Q3.out).mono ?_
        rintro e w4 ⟨rfl, q4⟩
        have Q4 := Keep.mk (Q3.out.trans q4)
        clear q4
        go_wp2_with fail
        refine (CS.out _).mono ?_
        rintro e w5 ⟨rfl, q5⟩
        have Q5 := Keep.mk (Q4.out.trans q5)
        clear q5
        go_wp2_with fail
        go_ret
        exact ⟨rfl, Q5.out⟩
      | some q =>
        have hq := portS_iff.1 hp
        have C4 := Keep.mk (fun (w' : World) (hq : Quiet W w') => name_c (tab_upd HT.out hq) q)
        rw [HF.out q hp] at C4
        have hq0 := hq.1
        have hq1 := hq.2.1
        have eN : (name.toList == name.toList) = true := by simp
        rw [hp] at C3
        simp only [Option.getD, Option.isSome] at C3
        clear hp hq
        go_wp2_with fail
        refine (C1.out _ Q1.out).mono ?_
        rintro e w2 ⟨rfl, q2⟩
        have Q2 := Keep.mk (Q1.out.trans q2)
        clear q2
        go_wp2_with fail
        refine (C2.out _ Q2.out).mono ?_
        rintro e w3 ⟨rfl, q3⟩
        have Q3 := Keep.mk (Q2.out.trans q3)
        clear q3
        go_wp2_with fail
        refine (C3.out _ Q3.out).mono ?_
        rintro e w4 ⟨rfl, q4⟩
        have Q4 := Keep.mk (Q3.out.trans q4)
        clear q4
        go_wp2_with fail
        refine (CS.out _).mono ?_
        rintro e w5 ⟨rfl, q5⟩
        have Q5 := Keep.mk (Q4.out.trans q5)
        clear q5
        go_wp2_with fail
        refine (C4.out _ Q5.out).mono ?_
        rintro e w6 ⟨rfl, q6⟩
        have Q6 := Keep.mk (Q5.out.trans q6)
        clear q6
        go_wp2_with fail
        go_ret
        exact ⟨rfl, Q6.out⟩
end portsBack
end Go.Proofs.YtpjfakmalhenjaaDoor
