/- What the statements on pairs lean on: Same, has, and the live question. -/
import Derived.Test.YtnjdhijngioljaaPairC
import Derived.Deep.QuietTactic
import Derived.BigQuiet
import Derived.Deep.RegionHeld3
namespace Go.Proofs.Ytnjdhijngioljaa
open Go.RowKit Go.Sub Go.ChangeMaps
abbrev encI1 (x : Int) : List Value := [.int .i64 x]
theorem eqP (x y : Int × Int) (w : World) : (binOp .eql 43 (.agg #[.int .i64 x.1, .int .i64 x.2]) (.agg #[.int .i64 y.1, .int .i64 y.2])).run Try.prog w = .ok (.bool (x.1 == y.1 && x.2 == y.2)) w := by
  have u3 := Try.underlying3
  have a3 := Try.isAgg3
  have z3 := Try.sizeOf3
  have hS : Try.prog.underlying 43 = some (.struct (Try.prog.fieldsOf 43)) := by kernel_rfl
  have hp : Try.prog.stoodInHeld 43 = false := by kernel_rfl
  rw [run_eql_struct, show (10000 : Nat) = 9999 + 1 from rfl, run_equalIn_agg w 9999 43 _ _ hS hp]
  simp only [Program.fieldsOf, Try.underlying43]
  go_simp
  by_cases h1 : x.fst = y.fst <;> by_cases h2 : x.snd = y.snd <;> simp [h1, h2]
set_option maxHeartbeats 400000 in
theorem has_c {w : World} {v : Value} {L : List Int} (hv : Reads w 1 encI1 v L) (n : Int) (hk : L.length ≤ 1000000) :
    Calls Try.prog 22 #[v, .int .i64 n] w (Ret (.bool (decide (n ∈ L))) fun w' => w = w') := by
  obtain ⟨a, ca, rfl, ha⟩ := hv
  go_enter Try.func22, Try.ntmps22
  go_wp2_with fail
  go_loop [5] (fun i => ∃ k : Nat, k ≤ L.length ∧ i = .int .i64 k ∧ n ∉ L.take k) (fun i => L.length - (intOf i).toNat)
  case atStart => exact ⟨0, by omega, rfl, by simp⟩
  case round =>
    obtain ⟨k, hk1, rfl, hn⟩ := hrel
    have HN := Keep.mk hn
    clear hn
    by_cases hlt : k < L.length
    · obtain ⟨g1, o1, rfl, hg1, hc1⟩ := ha k L[k] (List.getElem?_eq_getElem hlt)
      have c10 : w.cell? ⟨g1, o1 + k, none⟩ = some (.int .i64 L[k]) := by simpa using hc1 0 _ rfl
      generalize hx : L[k] = x at *
      have HX := Keep.mk hx
      clear hx ha hc1
      by_cases he : x = n
      · have hw : decide (n ∈ L) = true := by subst he; simp [← HX.out]
        have HW := Keep.mk hw
        subst he
        clear hw
        go_wp2_with fail
        go_ret
        exact ⟨by rw [HW.out]; rfl, rfl⟩
      · have e1 : (x == n) = false := by simp [he]
        go_wp2_with fail
        go_round
        case rel =>
          refine ⟨k + 1, by omega, by go_num, ?_⟩
          rw [List.take_add_one, List.getElem?_eq_getElem hlt, HX.out]
          simp only [Option.toList_some, List.mem_append, List.mem_singleton, not_or]
          exact ⟨HN.out, fun h => he h.symm⟩
        case measure => simp [intOf]; omega
    · have hw : decide (n ∈ L) = false := by
        have hk' : k = L.length := by omega
        subst hk'
        simpa using HN.out
      have HW := Keep.mk hw
      clear hw
      go_wp2_with fail
      go_ret
      exact ⟨by rw [HW.out]; rfl, rfl⟩
def H1 : Tab := ⟨[(5, (2, true)), (2, (5, false))], [(5, 1), (2, 1)]⟩
def H2 : Tab := ⟨[(5, (2, true)), (2, (5, false)), (3, (4, true)), (4, (3, false))], [(5, 1), (2, 1), (3, 1), (4, 1)]⟩
def H3 : Tab := ⟨[(3, (4, true)), (4, (3, false))], [(5, 1), (2, 1), (3, 1), (4, 1)]⟩
section
variable {b : Nat} {w : World} {F : Fp}
abbrev JoinsTo (b : Nat) (w : World) (F : Fp) (v c : Int) (T' : Tab) (r : Int) : Prop := Calls Try.prog 14 #[.pointer (some ⟨b, 0, none⟩), .int .i64 v, .int .i64 c] w (Ret (.int .i64 r) fun w' => ∃ F', (pairT b T').on w' F' ∧ Upd F F' w w')
theorem hd1 (h : (pairT b ⟨[], []⟩).on w F) : JoinsTo b w F 5 2 H1 0 := join_c h 5 2
theorem hd2 (h : (pairT b H1).on w F) : JoinsTo b w F 3 4 H2 0 := join_c h 3 4
theorem hd3 (h : (pairT b H2).on w F) : JoinsTo b w F 1 2 H2 4 := join_c h 1 2
theorem hd4 (h : (pairT b H2).on w F) : JoinsTo b w F 6 6 H2 1 := join_c h 6 6
theorem hd7 (h : (pairT b H3).on w F) : JoinsTo b w F 5 9 H3 4 := join_c h 5 9
theorem hd5 (h : (pairT b H2).on w F) : Calls Try.prog 12 #[.pointer (some ⟨b, 0, none⟩), .int .i64 2] w (Ret (.tuple #[.int .i64 5, .bool true]) fun w' => ∃ F', (pairT b H3).on w' F' ∧ Upd F F' w w') := part_c h 2
theorem hd6 (h : (pairT b H3).on w F) : Calls Try.prog 16 #[.pointer (some ⟨b, 0, none⟩), .int .i64 5] w (Ret (.tuple #[.int .i64 0, .bool false]) fun w' => Quiet w w') := other_c h 5
theorem hd8 (h : (pairT b H3).on w F) : Calls Try.prog 16 #[.pointer (some ⟨b, 0, none⟩), .int .i64 4] w (Ret (.tuple #[.int .i64 3, .bool true]) fun w' => Quiet w w') := other_c h 4
theorem hd9 (h : (pairT b H3).on w F) : Calls Try.prog 18 #[.pointer (some ⟨b, 0, none⟩), .int .i64 5] w (Ret (.bool true) fun w' => w = w') := was_c h 5
theorem hd10 (h : (pairT b H3).on w F) : Calls Try.prog 18 #[.pointer (some ⟨b, 0, none⟩), .int .i64 9] w (Ret (.bool false) fun w' => w = w') := was_c h 9
end
theorem hdl {L : List (Int × Int)} (h : AllOf H2 L) : L = [(3, 4), (5, 2)] := by
  have hv : vis H2.ends = [(5, 2), (3, 4)] := rfl
  have hp := h.perm
  rw [hv] at hp
  refine List.Perm.eq_of_pairwise (le := fun x y : Int × Int => x.1 ≤ y.1) (fun x y hx hy h1 h2 => ?_) h.rising (by simp) (hp.trans (by decide))
  have hx' := hp.mem_iff.1 hx
  simp only [List.mem_cons, List.not_mem_nil, or_false] at hx' hy
  rcases hx' with rfl | rfl <;> rcases hy with rfl | rfl <;> first | rfl | (simp at h1 h2)
set_option maxHeartbeats 2000000 in
set_option maxRecDepth 100000 in
theorem head_c (w : World) : Calls Try.prog 9 #[] w (Ret (.bool true) fun w' => Quiet w w') := by
  go_enter Try.func9, Try.ntmps9
  go_wp2_with fail
  refine (new_c _).mono ?_
  rintro e w1 ⟨b, rfl, F1, t1, u1⟩
  go_wp2_with fail
  refine (hd1 t1).mono ?_
  rintro e w2 ⟨rfl, F2, t2, u2⟩
  go_wp2_with fail
  refine (hd2 t2).mono ?_
  rintro e w3 ⟨rfl, F3, t3, u3⟩
  go_wp2_with fail
  refine (hd3 t3).mono ?_
  rintro e w4 ⟨rfl, F4, t4, u4⟩
  go_wp2_with fail
  refine (hd4 t4).mono ?_
  rintro e w5 ⟨rfl, F5, t5, u5⟩
  go_wp2_with fail
  refine (all_c t5 (by decide)).mono ?_
  rintro e w6 ⟨v, rfl, F6, L, hL, u6, hA⟩
  obtain rfl := hdl hA
  have t6 := (pairT b H2).frame t5 u6 (fun _ _ h => h)
  go_wp2_with fail
  refine (hd5 t6).mono ?_
  rintro e w7 ⟨rfl, F7, t7, u7⟩
  go_wp2_with fail
  refine (hd6 t7).mono ?_
  rintro e w8 ⟨rfl, u8⟩
  have t8 := (pairT b H3).frame t7 u8 (fun _ _ h => h)
  go_wp2_with fail
  refine (hd7 t8).mono ?_
  rintro e w9 ⟨rfl, F9, t9, u9⟩
  go_wp2_with fail
  refine (hd8 t9).mono ?_
  rintro e w10 ⟨rfl, u10⟩
  have t10 := (pairT b H3).frame t9 u10 (fun _ _ h => h)
  have d6 := (pairT b H2).new_apart t5 u6
  obtain ⟨r7, d7⟩ := Asrt.frame2 _ hL u7 d6
  obtain ⟨r8, d8⟩ := Asrt.frame2 _ r7 u8 (fun _ _ h => h)
  obtain ⟨r9, d9⟩ := Asrt.frame2 _ r8 u9 d7
  obtain ⟨r10, d10⟩ := Asrt.frame2 _ r9 u10 (fun _ _ h => h)
  obtain ⟨a, cap, rfl, ha⟩ := (row_reads (enc := encP) (fun _ => rfl) r10).1
  obtain ⟨g, off, rfl, hg, hc⟩ := ha 0 (3, 4) rfl
  have k0 : w10.cell? ⟨g, off, none⟩ = some (.int .i64 3) := hc 0 _ rfl
  have k1 : w10.cell? ⟨g, off + 1, none⟩ = some (.int .i64 4) := hc 1 _ rfl
  have he : ∀ w, (binOp .eql 43 (.agg #[.int .i64 3, .int .i64 4]) (.agg #[.int .i64 3, .int .i64 4])).run Try.prog w = .ok (.bool true) w := eqP (3, 4) (3, 4)
  have Q : Quiet w w10 := (((((((((u1.trans u2).trans u3).trans u4).trans u5).thenQ u6).trans u7).thenQ u8).trans u9).thenQ u10).quiet
  clear u1 u2 u3 u4 u5 u6 u7 u8 u9 u10 t1 t2 t3 t4 t5 t6 t7 t8 t9 r7 r8 r9 r10 d6 d7 d8 d9 d10 hL hA ha hc
  go_wp2_with fail
  refine (hd9 t10).mono ?_
  rintro e w11 ⟨rfl, rfl⟩
  go_wp2_with fail
  refine (hd10 t10).mono ?_
  rintro e w11 ⟨rfl, rfl⟩
  go_wp2_with fail
  go_ret
  exact ⟨rfl, Q⟩
end Go.Proofs.Ytnjdhijngioljaa
