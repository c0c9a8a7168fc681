/- What the statements on the meter lean on: does, great, equality of counts. -/
import Derived.Test.YtglfkkaldeblhaaMeterA
import Derived.Test.YtglfkkaldeblhaaSubF
import Derived.Deep.QuietTactic
import Derived.BigQuiet
import Derived.Deep.RegionHeld3
namespace Go.Proofs.Ytglfkkaldeblhaa
open Go.ChangeShapes Go.WideShapes Go.ChangeAt Go.RowKit Go.Sub
abbrev MOp := Int × ByteArray × Int
abbrev encOp (o : MOp) : List Value := [.int .i64 o.1, .string o.2.1, .int .i64 o.2.2]
theorem decOp {H : Type} {enc : TypeId × Value → H} {w : World} {base : Nat} {spare : Nat → Bool} {held : Bool} : ∀ n cs y, DataW.trod enc Try.prog w base spare held n 30 cs = some y → ∃ a : MOp, cs = encOp a ∧ True := by
  intro n cs y h
  obtain ⟨hl, hf⟩ := field_cell Try.underlying30 h
  have hl' : cs.length = 3 := by rw [hl]; kernel_rfl
  obtain ⟨m0, v0, y0, c0, t0⟩ := hf 0 _ rfl rfl (by kernel_rfl) (by omega)
  obtain ⟨m1, v1, y1, c1, t1⟩ := hf 1 _ rfl rfl (by kernel_rfl) (by omega)
  obtain ⟨m2, v2, y2, c2, t2⟩ := hf 2 _ rfl rfl (by kernel_rfl) (by omega)
  obtain ⟨n0, e0, _⟩ := DataW.trod_int Try.underlying3 t0
  obtain ⟨n1, e1, _⟩ := DataW.trod_string Try.underlying9 t1
  obtain ⟨n2, e2, _⟩ := DataW.trod_int Try.underlying2 t2
  simp only [List.cons.injEq, and_true] at e0 e1 e2
  subst e0 e1 e2
  refine ⟨(n0, n1, n2), ?_, trivial⟩
  match cs, hl' with
  | [a, b, c], _ => simp at c0 c1 c2; simp [c0, c1, c2]
open Go.ChangeMaps
def ceq (x y : Cnt) : Bool := decide (x.t = y.t) && decide (x.d = y.d) && decide (x.u = y.u) && decide (x.p = y.p)
theorem ceq_iff {x y : Cnt} : ceq x y = true ↔ x = y := by
  obtain ⟨a, b, c, d⟩ := x
  obtain ⟨e, f, g, h⟩ := y
  simp [ceq, and_assoc]
theorem ceq_refl (x : Cnt) : ceq x x = true := ceq_iff.2 rfl
theorem eqC (x y : Cnt) (w : World) : (binOp .eql 36 (aggC x) (aggC y)).run Try.prog w = .ok (.bool (ceq x y)) w := by
  have u3 := Try.underlying9
  have a3 := Try.isAgg9
  have z3 := Try.sizeOf9
  have u2 := Try.underlying2
  have a2 := Try.isAgg2
  have z2 := Try.sizeOf2
  have hS : Try.prog.underlying 36 = some (.struct (Try.prog.fieldsOf 36)) := by kernel_rfl
  have hp : Try.prog.stoodInHeld 36 = false := by kernel_rfl
  rw [run_eql_struct, show (10000 : Nat) = 9999 + 1 from rfl, run_equalIn_agg w 9999 36 _ _ hS hp]
  simp only [Program.fieldsOf, Try.underlying36]
  go_simp
  have e0 : (x.t.toList = y.t.toList) = (x.t = y.t) := propext ⟨fun h => WideShapes.bytes_inj (by rwa [ByteArray.toList_eq, ByteArray.toList_eq] at h), fun h => by rw [h]⟩
  simp only [e0]
  by_cases h1 : x.t = y.t <;> by_cases h2 : x.d = y.d <;> by_cases h3 : x.u = y.u <;> by_cases h4 : x.p = y.p <;> simp [ceq, h1, h2, h3, h4]
theorem neqC (x y : Cnt) (w : World) : (binOp .neq 36 (aggC x) (aggC y)).run Try.prog w = .ok (.bool (!ceq x y)) w := by
  have u3 := Try.underlying9
  have a3 := Try.isAgg9
  have z3 := Try.sizeOf9
  have u2 := Try.underlying2
  have a2 := Try.isAgg2
  have z2 := Try.sizeOf2
  have hS : Try.prog.underlying 36 = some (.struct (Try.prog.fieldsOf 36)) := by kernel_rfl
  have hp : Try.prog.stoodInHeld 36 = false := by kernel_rfl
  rw [run_neq_struct, show (10000 : Nat) = 9999 + 1 from rfl, run_equalIn_agg w 9999 36 _ _ hS hp]
  simp only [Program.fieldsOf, Try.underlying36]
  go_simp
  have e0 : (x.t.toList = y.t.toList) = (x.t = y.t) := propext ⟨fun h => WideShapes.bytes_inj (by rwa [ByteArray.toList_eq, ByteArray.toList_eq] at h), fun h => by rw [h]⟩
  simp only [e0]
  by_cases h1 : x.t = y.t <;> by_cases h2 : x.d = y.d <;> by_cases h3 : x.u = y.u <;> by_cases h4 : x.p = y.p <;> simp [ceq, h1, h2, h3, h4]
theorem fldT (c : Cnt) (w : World) : (Instr.field 36 (aggC c) 0).run Try.prog w = .ok (.string c.t) w := by kernel_rfl
theorem fldD (c : Cnt) (w : World) : (Instr.field 36 (aggC c) 1).run Try.prog w = .ok (.int .i64 c.d) w := by kernel_rfl
theorem fldU (c : Cnt) (w : World) : (Instr.field 36 (aggC c) 2).run Try.prog w = .ok (.int .i64 c.u) w := by kernel_rfl
theorem fldP (c : Cnt) (w : World) : (Instr.field 36 (aggC c) 3).run Try.prog w = .ok (.int .i64 c.p) w := by kernel_rfl
def jn (o : MOp) : Nat × Int := if o.1 = 0 then (1, o.2.2) else if o.1 = 1 then (2, o.2.2) else (3, 1)
abbrev doStep (M : List Cnt) (o : MOp) : List Cnt × Int := cstep M o.2.1 (jn o).1 (jn o).2
set_option maxHeartbeats 400000 in
theorem does_c {b : Nat} {M : List Cnt} {w : World} {F : Fp} (hM : (meterT b M).on w F) (hok : ∀ c ∈ M, Ok c) (o : MOp) :
    Calls Try.prog 12 #[.pointer (some ⟨b, 0, none⟩), .agg #[.int .i64 o.1, .string o.2.1, .int .i64 o.2.2]] w (Ret (.int .i64 (doStep M o).2) fun w' => ∃ F', (meterT b (doStep M o).1).on w' F' ∧ Upd F F' w w') := by
  obtain ⟨k, t, n⟩ := o
  have hMa := Asrt.alloc hM (.cells #[.int .i64 k, .string t, .int .i64 n] 30)
  have ua := (Upd.refl F w).alloc (.cells #[.int .i64 k, .string t, .int .i64 n] 30)
  by_cases h0 : k = 0
  · subst h0
    go_enter Try.func12, Try.ntmps12
    go_wp2_with fail
    refine (down_c hMa hok t n).mono ?_
    rintro e w1 ⟨rfl, F', h, u⟩
    go_wp2_with fail
    go_returns
    exact ⟨rfl, F', h, ua.trans u⟩
  · have e1 : (k == 0) = false := by simp [h0]
    by_cases h1 : k = 1
    · subst h1
      go_enter Try.func12, Try.ntmps12
      go_wp2_with fail
      refine (up_c hMa hok t n).mono ?_
      rintro e w1 ⟨rfl, F', h, u⟩
      go_wp2_with fail
      go_returns
      exact ⟨rfl, F', h, ua.trans u⟩
    · have e2 : (k == 1) = false := by simp [h1]
      rw [show doStep M (k, t, n) = cstep M t 3 1 from by simp [doStep, jn, h0, h1]]
      clear h0 h1
      go_enter Try.func12, Try.ntmps12
      go_wp2_with fail
      refine (paired_c hMa hok t).mono ?_
      rintro e w1 ⟨rfl, F', h, u⟩
      go_wp2_with fail
      go_returns
      exact ⟨rfl, F', h, ua.trans u⟩
def GreatSays (L : List MOp) (w : World) (e : Ending) (w' : World) : Prop := ∃ r, Ret (.bool r) (fun w' => w = w' ∧ (r = false → L.length ≤ 400 ∧ ∀ o ∈ L, o.2.1.size ≤ 1000)) e w'
set_option maxRecDepth 100000 in
set_option maxHeartbeats 400000 in
theorem great_c {w : World} {v : Value} {L : List MOp} (hv : Reads w 3 encOp v L) (hl : L.length ≤ maxLen) :
    Calls Try.prog 11 #[v] w (GreatSays L w) := by
  obtain ⟨a, ca, rfl, ha⟩ := hv
  unfold maxLen at hl
  go_enter Try.func11, Try.ntmps11
  go_wp2_with fail
  go_loop [3] (fun i => ∃ k : Nat, k ≤ L.length ∧ k ≤ 600 ∧ i = .int .i64 k ∧ ∀ o ∈ L.take k, o.2.1.size ≤ 1000) (fun i => 600 - (intOf i).toNat)
  case atStart => exact ⟨0, by omega, by omega, rfl, by simp⟩
  case round =>
    obtain ⟨k, hk1, hk6, rfl, hn⟩ := hrel
    have HN := Keep.mk hn
    clear hn
    by_cases hlt : k < L.length
    · by_cases h6 : k < 600
      · obtain ⟨g1, o1, rfl, hg1, hc1⟩ := ha k L[k] (List.getElem?_eq_getElem hlt)
        have c11 : w.cell? ⟨g1, o1 + k * 3 + 1, none⟩ = some (.string L[k].2.1) := hc1 1 _ rfl
        generalize hx : L[k] = x at *
        obtain ⟨x0, x1, x2⟩ := x
        have HX := Keep.mk hx
        clear hx ha hc1
        by_cases he : 1000 < x1.size
        · have e1 : decide (1000 < (x1.size : Int)) = true := by simp; omega
          go_wp2_with fail
          go_ret
          exact ⟨_, rfl, rfl, by simp⟩
        · have e1 : decide (1000 < (x1.size : Int)) = false := by simp; omega
          go_wp2_with fail
          go_round
          case rel =>
            refine ⟨k + 1, by omega, by omega, by go_num, ?_⟩
            rw [List.take_add_one, List.getElem?_eq_getElem hlt, HX.out]
            intro o ho
            rcases List.mem_append.1 ho with ho | ho
            · exact HN.out o ho
            · simp at ho
              subst ho
              simp only; omega
          case measure => simp [intOf]; omega
      · go_wp2_with fail
        go_ret
        refine ⟨_, rfl, rfl, fun hr => ?_⟩
        simp at hr
        omega
    · go_wp2_with fail
      go_ret
      refine ⟨_, rfl, rfl, fun hr => ⟨by simp at hr; omega, fun o ho => HN.out o (by rw [List.take_of_length_le (by omega)]; exact ho)⟩⟩
end Go.Proofs.Ytglfkkaldeblhaa
