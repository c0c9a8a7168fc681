/- The statements on ports: leases that come in; is it too much? PortsTells: its walk. -/
import Derived.Test.YtpjfakmalhenjaaDoorPortsH
import Derived.Test.YtpjfakmalhenjaaDoorSubF
set_option linter.unusedVariables false
namespace Go.Proofs.YtpjfakmalhenjaaDoor
open Go.RowKit Go.Sub Go.Shelf Go.Sort Go.ChangeMaps Go.Lib
theorem decL {H : Type} {enc : TypeId × Value → H} {w : World} {base : Nat} {spare : Nat → Bool} {held : Bool} : ∀ n cs y, DataW.trod enc Tryd.prog w base spare held n 34 cs = some y → ∃ a : Lz, cs = encL a ∧ a.name.size ≤ maxLen := by
  intro n cs y h
  obtain ⟨hl, hf⟩ := field_cell Tryd.underlying34 h
  have hl' : cs.length = 6 := by rw [hl]; kernel_rfl
  obtain ⟨m0, v0, y0, c0, t0⟩ := hf 0 _ rfl rfl (by kernel_rfl) (by omega)
  obtain ⟨m1, v1, y1, c1, t1⟩ := hf 1 _ rfl rfl (by kernel_rfl) (by omega)
  obtain ⟨m2, v2, y2, c2, t2⟩ := hf 2 _ rfl rfl (by kernel_rfl) (by omega)
  obtain ⟨m3, v3, y3, c3, t3⟩ := hf 3 _ rfl rfl (by kernel_rfl) (by omega)
  obtain ⟨m4, v4, y4, c4, t4⟩ := hf 4 _ rfl rfl (by kernel_rfl) (by omega)
  obtain ⟨m5, v5, y5, c5, t5⟩ := hf 5 _ rfl rfl (by kernel_rfl) (by omega)
  obtain ⟨s0, e0, _, hs0⟩ := DataW.trod_string Tryd.underlying9 t0
  obtain ⟨s1, e1, _, hs1⟩ := DataW.trod_string Tryd.underlying9 t1
  obtain ⟨n2, e2, _⟩ := DataW.trod_int Tryd.underlying3 t2
  obtain ⟨n3, e3, _⟩ := DataW.trod_int Tryd.underlying2 t3
  obtain ⟨n4, e4, _⟩ := DataW.trod_int Tryd.underlying2 t4
  obtain ⟨b5, e5, _⟩ := DataW.trod_bool Tryd.underlying4 t5
  simp only [List.cons.injEq, and_true] at e0 e1 e2 e3 e4 e5
  subst e0 e1 e2 e3 e4 e5
  refine ⟨⟨s0, s1, n2, n3, n4, b5⟩, ?_, hs0⟩
  match cs, hl' with
  | [a, b, c, d, e, f], _ => simp at c0 c1 c2 c3 c4 c5; simp [c0, c1, c2, c3, c4, c5]
set_option maxHeartbeats 1000000 in
set_option maxRecDepth 100000 in
theorem great_c {w : World} {v : Value} {L : List Lz} (hv : Reads w 6 encL v L) (hl : L.length ≤ maxLen) :
    Calls Tryd.prog 9 #[v] w fun e w' => ∃ r : Bool, Ret (.bool r) (fun w' => (∃ n, w' = w.drewN n) ∧ (r = false → L.length ≤ 200)) e w' := by
  obtain ⟨a, ca, rfl, ha⟩ := hv
  unfold maxLen at hl
  have HA := Keep.mk ha
  clear ha
  go_enter Tryd.func9, Tryd.ntmps9
  go_wp2_with fail
  go_loopw [3] (fun i wr => ∃ k n : Nat, k ≤ L.length ∧ k ≤ 300 ∧ i = .int .i64 k ∧ wr = w.drewN n) (fun i _ => L.length - (RowKit.intOf i).toNat)
  case atStart => exact ⟨0, 0, by omega, by omega, rfl, rfl⟩
  case round =>
    obtain ⟨k, n, hk, hk3, rfl, rfl⟩ := hrel
    by_cases hlt : k < L.length
    · by_cases h3 : k < 300
      · obtain ⟨g, off, rfl, hg, hc⟩ := HA.out k L[k] (List.getElem?_eq_getElem hlt)
        have k0 : w.cell? ⟨g, off + k * 6, none⟩ = some (.string L[k].name) := hc 0 _ rfl
        have k1 : w.cell? ⟨g, off + k * 6 + 1, none⟩ = some (.string L[k].tenant) := hc 1 _ rfl
        clear hc
        generalize L[k].name = x0 at *
        generalize L[k].tenant = x1 at *
        go_wp2_with fail
        go_quiet (fail)
        cases hz : decide ((1000 : Int) < wrap64 ((x0.size : Int) + (x1.size : Int))) with
        | true =>
          go_wp2_with fail
          go_ret
          exact ⟨true, rfl, ⟨n + nq, World.drewN_drewN ..⟩, by simp⟩
        | false =>
          go_wp2_with fail
          go_roundw
          case rel => exact ⟨k + 1, n + nq, by omega, by omega, by go_num, rfl⟩
          case measure => simp [RowKit.intOf]; omega
      · have e3 : decide ((k : Int) < 300) = false := by simp; omega
        have e4 : decide (200 < (L.length : Int)) = true := by simp; omega
        clear h3 hk3
        go_wp2_with fail
        go_ret
        exact ⟨_, rfl, ⟨n, rfl⟩, by simp⟩
    · by_cases h4 : 200 < L.length
      · have e4 : decide (200 < (L.length : Int)) = true := by simp; omega
        clear h4
        go_wp2_with fail
        go_ret
        exact ⟨_, rfl, ⟨n, rfl⟩, by simp⟩
      · have e4 : decide (200 < (L.length : Int)) = false := by simp; omega
        have h4 := Keep.mk h4
        go_wp2_with fail
        go_ret
        exact ⟨_, rfl, ⟨n, rfl⟩, fun _ => by have := h4.out; omega⟩
namespace portsTells
set_option maxHeartbeats 4000000 in
set_option maxRecDepth 100000 in
theorem walk {W : World} (ht : Tab10 W) (v : Value) (L : List Lz) (hL : Reads W 6 encL v L ∧ ∀ x ∈ L, x.name.size ≤ maxLen) (hmax : L.length ≤ maxLen) (grace : Int) (hg : (Lit.int .i64 grace).wf = true) (tenant : ByteArray) (hts : tenant.size ≤ maxLen) (now : Int) (hnw : (Lit.int .i64 now).wf = true) (port : Int) (hp : (Lit.int .i64 port).wf = true) (name : ByteArray) (hns : name.size ≤ maxLen) :
    Calls Tryd.prog 3 #[v, .int .i64 grace, .string tenant, .int .i64 now, .int .i64 port, .string name] W (Ret (.bool true) fun W' => Quiet W W') := by
  obtain ⟨hR, hN⟩ := hL
  obtain ⟨a, cap, rfl, ha⟩ := id hR
  have HN := Keep.mk hN
  have HR := Keep.mk hR
  have HT := Keep.mk ht
  clear hN ha hR ht
  go_enter Tryd.func3, Tryd.ntmps3
  go_wp2_with fail
  refine (head_c HT.out).mono ?_
  rintro e w1 ⟨rfl, q1⟩
  go_wp2_with fail
  refine (great_c (HR.out.upd q1 fun _ _ h => h) hmax).mono ?_
  rintro e w2 ⟨r, rfl, ⟨n2, rfl⟩, hr⟩
  have Q2 := Keep.mk (q1.drewN n2)
  clear q1
  generalize w1.drewN n2 = w2 at *
  cases r with
  | true =>
    clear hr
    go_wp2_with fail
    go_ret
    exact ⟨rfl, Q2.out⟩
  | false =>
    have hlen := hr rfl
    clear hr
    cases hz : decide ((1000 : Int) < wrap64 ((tenant.size : Int) + (name.size : Int))) with
    | true =>
      go_wp2_with fail
      go_ret
      exact ⟨rfl, Q2.out⟩
    | false =>
      have C1 := Keep.mk (fun (w' : World) (hq : Quiet W w') => pnext_c (tab_upd HT.out hq) (.slice a L.length cap) L (HR.out.upd hq fun _ _ h => h) (by omega) HN.out grace tenant now)
      have C2 := Keep.mk (fun (w' : World) (hq : Quiet W w') => next22_c (.slice a L.length cap) L (HR.out.upd hq fun _ _ h => h) (by omega) grace tenant now)
      have C3 := Keep.mk (fun (w' : World) (hq : Quiet W w') => port_c (tab_upd HT.out hq) name hns)
      have C4 := Keep.mk (fun (w' : World) (hq : Quiet W w') => port22_c (w := w') name)
      have C5 := Keep.mk (fun (w' : World) (hq : Quiet W w') => pheld_c (tab_upd HT.out hq) (.slice a L.length cap) L (HR.out.upd hq fun _ _ h => h) (by omega) HN.out tenant now)
      have C6 := Keep.mk (fun (w' : World) (hq : Quiet W w') => held22_c (.slice a L.length cap) L (HR.out.upd hq fun _ _ h => h) (by omega) tenant now)
      have C7 := Keep.mk (fun (w' : World) (hq : Quiet W w') => name_c (tab_upd HT.out hq) port)
      have C8 := Keep.mk (fun (w' : World) (hq : Quiet W w') => name22_c (w := w') port)
      unfold PNextEnds at C1 C2
      unfold PortEnds at C3 C4
      unfold PHeldEnds at C5 C6
      have hhl : (heldP tenant now L).length ≤ 1000000 := Nat.le_trans (heldI_len _ 64) (by omega)
      generalize (nextP grace tenant now L).getD 0 = n1 at *
      generalize (nextP grace tenant now L).isSome = b1 at *
      generalize (portS name.data.toList).getD 0 = n3 at *
      generalize (portS name.data.toList).isSome = b3 at *
      generalize heldP tenant now L = X at *
      generalize strB (nameS port) = nm at *
      have e1 : (n1 == n1) = true := by simp
      have e2 : (b1 == b1) = true := by simp
      have e3 : (n3 == n3) = true := by simp
      have e4 : (b3 == b3) = true := by simp
      have e5 : (nm.toList == nm.toList) = true := by simp
      clear HT HR HN
      go_wp2_with fail
      refine (C1.out _ Q2.out).mono ?_
      rintro e w3 ⟨rfl, q3⟩
      have Q3 := Keep.mk (Q2.out.trans q3)
      go_wp2_with fail
      refine (C2.out _ Q3.out).mono ?_
      rintro e w4 ⟨rfl, q4⟩
      have Q4 := Keep.mk (Q3.out.trans q4)
      go_wp2_with fail
      refine (C3.out _ Q4.out).mono ?_
      rintro e w5 ⟨rfl, q5⟩
      have Q5 := Keep.mk (Q4.out.trans q5)
      go_wp2_with fail
      refine (C4.out _ Q5.out).mono ?_
      rintro e w6 ⟨rfl, q6⟩
      have Q6 := Keep.mk (Q5.out.trans q6)
      go_wp2_with fail
      refine (C5.out _ Q6.out).mono ?_
      rintro e w7 ⟨v7, rfl, F7, h7, u7⟩
      have Q7 := Keep.mk (Q6.out.trans u7.quiet)
      have R7 := row_readsI h7
      obtain ⟨a7, c7, rfl⟩ := R7.slice
      replace R7 := Keep.mk R7
      clear h7 u7 q3 q4 q5 q6
      go_wp2_with fail
      refine (C6.out _ Q7.out).mono ?_
      rintro e w8 ⟨v8, rfl, F8, h8, u8⟩
      have Q8 := Keep.mk (Q7.out.trans u8.quiet)
      have R8 := row_readsI h8
      obtain ⟨a8, c8, rfl⟩ := R8.slice
      have S8 := same8_c (R7.out.quiet u8.quiet) R8 hhl hhl
      rw [sameI_refl] at S8
      replace S8 := Keep.mk S8
      clear h8 u8 R7 R8
      go_wp2_with fail
      refine S8.out.mono ?_
      rintro e w9 ⟨rfl, n9, rfl⟩
      have Q9 := Keep.mk (Q8.out.drewN n9)
      clear S8
      generalize w8.drewN n9 = w9 at *
      go_wp2_with fail
      refine (C7.out _ Q9.out).mono ?_
      rintro e w10 ⟨rfl, q10⟩
      have Q10 := Keep.mk (Q9.out.trans q10)
      go_wp2_with fail
      refine (C8.out _ Q10.out).mono ?_
      rintro e w11 ⟨rfl, q11⟩
      have Q11 := Keep.mk (Q10.out.trans q11)
      go_wp2_with fail
      go_ret
      exact ⟨rfl, Q11.out⟩
end portsTells
end Go.Proofs.YtpjfakmalhenjaaDoor
