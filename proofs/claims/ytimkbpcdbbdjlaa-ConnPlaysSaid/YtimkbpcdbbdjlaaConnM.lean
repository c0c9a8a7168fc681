/- What the statements on connections lean on: calls that come in, does, Great. -/
import Derived.Test.YtimkbpcdbbdjlaaConnL
import Derived.Test.YtimkbpcdbbdjlaaSubF
namespace Go.Sub
open Go.RowKit
/-- A slice of bytes that came in. -/
theorem bytes_of_trod {H : Type} {enc : TypeId × Value → H} {P : Program} {w : World} {base : Nat} {spare : Nat → Bool} {held : Bool} {t e : TypeId} {fuel : Nat} {v : Value} {x : DataW H × List MemPlace} (ht : P.underlying t = some (.slice e)) (he : P.underlying e = some (.int .u8)) (hk : P.cellsOf e = 1)
    (h : DataW.trod enc P w base spare held fuel t [v] = some x) : ∃ L : List UInt8, Bytes w v L ∧ L.length ≤ maxLen := by
  obtain ⟨L, hR, _, hl⟩ := reads_of_trod (encA := fun b : UInt8 => [bv b]) (φ := fun _ => True) ht hk (by omega) (fun n cs y hy => by
    obtain ⟨m, rfl, _, hw⟩ := DataW.trod_int he hy
    have h2 : 0 ≤ m ∧ m ≤ 255 := by simpa [Lit.wf, IntKind.min, IntKind.max, IntKind.signed, IntKind.bits] using hw
    refine ⟨UInt8.ofNat m.toNat, ?_, trivial⟩
    simp only [bv, List.cons.injEq, Value.int.injEq, true_and, and_true]
    rw [UInt8.toNat_ofNat']
    omega) h
  obtain ⟨a, cap, rfl, hr⟩ := hR
  refine ⟨L, ⟨a, cap, rfl, ?_, fun i x hx => ?_⟩, hl⟩
  · rcases Go.Deep.open_slice ht h with ⟨hv, _⟩ | ⟨a', len, cap', m, n, D, Pl, hv, hb, hl, hm, hmm, _, _⟩
    · simp only [List.cons.injEq, and_true, Value.slice.injEq] at hv
      omega
    · simp only [List.cons.injEq, and_true, Value.slice.injEq] at hv
      omega
  · obtain ⟨g, off, rfl, hg, hc⟩ := hr i x hx
    exact ⟨g, off, rfl, hg, by have := hc 0 _ rfl; simpa using this⟩
end Go.Sub
namespace Go.Proofs.Ytimkbpcdbbdjlaa
open Go.ChangeShapes Go.WideShapes Go.ChangeAt Go.RowKit Go.Sub
/-- A call. -/
structure COp where
  what : Int
  id : Int
  n : Int
  v : Value
  b : List UInt8
abbrev encCO (o : COp) : List Value := [.int .i64 o.what, .int .i64 o.id, .int .i64 o.n, o.v]
abbrev aggCO (o : COp) : Value := .agg #[.int .i64 o.what, .int .i64 o.id, .int .i64 o.n, o.v]
abbrev boxCO (o : COp) : Obj := .cells #[.int .i64 o.what, .int .i64 o.id, .int .i64 o.n, o.v] 49
theorem decCO {H : Type} {enc : TypeId × Value → H} {w : World} {base : Nat} {spare : Nat → Bool} {held : Bool} : ∀ n cs y, DataW.trod enc Try.prog w base spare held n 49 cs = some y → ∃ a : COp, cs = encCO a ∧ Bytes w a.v a.b := by
  intro n cs y h
  obtain ⟨hl, hf⟩ := field_cell Try.underlying49 h
  have hl' : cs.length = 4 := by rw [hl]; kernel_rfl
  obtain ⟨m0, v0, y0, c0, t0⟩ := hf 0 _ rfl rfl (by kernel_rfl) (by omega)
  obtain ⟨m1, v1, y1, c1, t1⟩ := hf 1 _ rfl rfl (by kernel_rfl) (by omega)
  obtain ⟨m2, v2, y2, c2, t2⟩ := hf 2 _ rfl rfl (by kernel_rfl) (by omega)
  obtain ⟨m3, v3, y3, c3, t3⟩ := hf 3 _ rfl rfl (by kernel_rfl) (by omega)
  obtain ⟨n0, e0, _⟩ := DataW.trod_int Try.underlying3 t0
  obtain ⟨n1, e1, _⟩ := DataW.trod_int Try.underlying3 t1
  obtain ⟨n2, e2, _⟩ := DataW.trod_int Try.underlying3 t2
  obtain ⟨L, hL, _⟩ := bytes_of_trod Try.underlying22 Try.underlying5 (by kernel_rfl) t3
  simp only [List.cons.injEq, and_true] at e0 e1 e2
  subst e0 e1 e2
  refine ⟨⟨n0, n1, n2, v3, L⟩, ?_, hL⟩
  match cs, hl' with
  | [a, b, c, d], _ => simp at c0 c1 c2 c3; simp [c0, c1, c2, c3]
open Go.ChangeMaps
/-- what the statements take as an argument: calls, each with its bytes -/
def ReadsO (w : World) (v : Value) (L : List COp) : Prop := Reads w 4 encCO v L ∧ ∀ o ∈ L, Bytes w o.v o.b
def GreatSays (L : List COp) (w : World) (e : Ending) (w' : World) : Prop := ∃ r, Ret (.bool r) (fun w' => w = w' ∧ (r = false → L.length ≤ 400 ∧ ∀ o ∈ L, o.b.length ≤ 40000)) e w'
set_option maxRecDepth 100000 in
set_option maxHeartbeats 1000000 in
theorem great_c {w : World} {v : Value} {L : List COp} (hv : ReadsO w v L) (hl : L.length ≤ maxLen) :
    Calls Try.prog 22 #[v] w (GreatSays L w) := by
  obtain ⟨⟨a, ca, rfl, ha⟩, hb⟩ := hv
  unfold maxLen at hl
  have HB := Keep.mk hb
  have HA := Keep.mk ha
  clear hb ha
  go_enter Try.func22, Try.ntmps22
  go_wp2_with fail
  go_loop [3, 4] (fun n i => ∃ k m : Nat, k ≤ L.length ∧ i = .int .i64 k ∧ n = .int .i64 m ∧ L.length ≤ m ∧ m ≤ 9223372036854775807 ∧ (m < 40000 → ∀ o ∈ L.take k, o.b.length ≤ m)) (fun _ i => L.length - (intOf i).toNat)
  case atStart => exact ⟨0, L.length, by omega, rfl, rfl, by omega, by omega, by simp⟩
  case round =>
    obtain ⟨k, m, hk, rfl, rfl, hm, hm2, hn⟩ := hrel
    have HN := Keep.mk hn
    clear hn
    by_cases hb : m < 40000
    · by_cases hlt : k < L.length
      · obtain ⟨g1, o1, rfl, hg1, hc1⟩ := HA.out k L[k] (List.getElem?_eq_getElem hlt)
        have hbx := HB.out L[k] (List.getElem_mem hlt)
        have c13 : w.cell? ⟨g1, o1 + k * 4 + 3, none⟩ = some L[k].v := hc1 3 _ rfl
        generalize hx : L[k] = x at *
        obtain ⟨x0, x1, x2, x3, x4⟩ := x
        obtain ⟨av, cv, hv3, hcv⟩ := hbx.slice
        simp only at hv3 hcv
        subst hv3
        have HX := Keep.mk hx
        clear hx hc1 hbx
        obtain ⟨z, hz⟩ : ∃ z : Nat, z = min x4.length 40000 := ⟨_, rfl⟩
        have ez : min (x4.length : Int) 40000 = (z : Int) := by omega
        have eb : decide ((m : Int) < 40000) = true := by simp; omega
        have hz2 : z ≤ 65000 := by omega
        have hm3 : m ≤ 65000 := by omega
        have HZ := Keep.mk hz
        have HB2 := Keep.mk hb
        clear hz hb
        go_wp2_with fail
        go_round
        case rel =>
          refine ⟨k + 1, m + z, by omega, by go_num, by go_num, by omega, by omega, fun hlt2 o ho => ?_⟩
          rw [List.take_add_one, List.getElem?_eq_getElem hlt, HX.out] at ho
          have := HZ.out
          rcases List.mem_append.1 ho with ho | ho
          · have := HN.out HB2.out o ho; omega
          · simp at ho; subst ho; simp only; omega
        case measure => simp [intOf]; omega
      · by_cases h4 : 400 < L.length
        · have e0 : decide (40000 ≤ (m : Int)) = false := by simp; omega
          have e1 : decide (400 < (L.length : Int)) = true := by simp; omega
          have eb : decide ((m : Int) < 40000) = true := by simp; omega
          clear hb
          go_wp2_with fail
          go_ret
          exact ⟨_, rfl, rfl, by simp⟩
        · have e0 : decide (40000 ≤ (m : Int)) = false := by simp; omega
          have e1 : decide (400 < (L.length : Int)) = false := by simp; omega
          have eb : decide ((m : Int) < 40000) = true := by simp; omega
          have hb := Keep.mk hb
          go_wp2_with fail
          go_ret
          refine ⟨_, rfl, rfl, fun _ => ⟨by omega, fun o ho => ?_⟩⟩
          have hb := hb.out
          have := HN.out hb o (by rw [List.take_of_length_le (by omega)]; exact ho)
          omega
    · have e0 : decide (40000 ≤ (m : Int)) = true := by simp; omega
      have e1 : decide ((m : Int) < 40000) = false := by simp; omega
      clear hb HN HA HB hm
      by_cases hlt : k < L.length
      all_goals
        go_wp2_with fail
        go_ret
        exact ⟨_, rfl, rfl, by simp⟩
end Go.Proofs.Ytimkbpcdbbdjlaa
