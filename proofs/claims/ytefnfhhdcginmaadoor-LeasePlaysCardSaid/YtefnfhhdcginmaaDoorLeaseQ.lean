/- The statements on leases: calls that come in; is it too much?; alike? -/
import Derived.Test.YtefnfhhdcginmaaDoorLeaseP
import Derived.Test.YtefnfhhdcginmaaDoorSubF
import Derived.Deep.QuietTactic
import Derived.BigQuiet
set_option linter.unusedVariables false
namespace Go.Proofs.YtefnfhhdcginmaaDoor
open Go.ChangeShapes Go.WideShapes Go.ChangeAt Go.RowKit Go.Sub Go.ChangeMaps
/-- what is known of a call that comes in -/
def OkLO (o : LO) : Prop := o.tenant.size ≤ maxLen ∧ o.name.size ≤ maxLen ∧ (Lit.int .i64 o.now).wf = true ∧ (Lit.int .i64 o.epoch).wf = true ∧ (Lit.int .i64 o.ttl).wf = true
theorem decLO {H : Type} {enc : TypeId × Value → H} {w : World} {base : Nat} {spare : Nat → Bool} {held : Bool} : ∀ n cs y, DataW.trod enc Tryd.prog w base spare held n 39 cs = some y → ∃ a : LO, cs = encLO a ∧ OkLO a := by
  intro n cs y h
  obtain ⟨hl, hf⟩ := field_cell Tryd.underlying39 h
  have hl' : cs.length = 7 := by rw [hl]; kernel_rfl
  obtain ⟨m0, v0, y0, c0, t0⟩ := hf 0 _ rfl rfl (by kernel_rfl) (by omega)
  obtain ⟨m1, v1, y1, c1, t1⟩ := hf 1 _ rfl rfl (by kernel_rfl) (by omega)
  obtain ⟨m2, v2, y2, c2, t2⟩ := hf 2 _ rfl rfl (by kernel_rfl) (by omega)
  obtain ⟨m3, v3, y3, c3, t3⟩ := hf 3 _ rfl rfl (by kernel_rfl) (by omega)
  obtain ⟨m4, v4, y4, c4, t4⟩ := hf 4 _ rfl rfl (by kernel_rfl) (by omega)
  obtain ⟨m5, v5, y5, c5, t5⟩ := hf 5 _ rfl rfl (by kernel_rfl) (by omega)
  obtain ⟨m6, v6, y6, c6, t6⟩ := hf 6 _ rfl rfl (by kernel_rfl) (by omega)
  obtain ⟨n0, e0, _⟩ := DataW.trod_int Tryd.underlying3 t0
  obtain ⟨s1, e1, _, hs1⟩ := DataW.trod_string Tryd.underlying9 t1
  obtain ⟨s2, e2, _, hs2⟩ := DataW.trod_string Tryd.underlying9 t2
  obtain ⟨n3, e3, _⟩ := DataW.trod_int Tryd.underlying3 t3
  obtain ⟨n4, e4, _, w4⟩ := DataW.trod_int Tryd.underlying2 t4
  obtain ⟨n5, e5, _, w5⟩ := DataW.trod_int Tryd.underlying2 t5
  obtain ⟨n6, e6, _, w6⟩ := DataW.trod_int Tryd.underlying2 t6
  simp only [List.cons.injEq, and_true] at e0 e1 e2 e3 e4 e5 e6
  subst e0 e1 e2 e3 e4 e5 e6
  refine ⟨⟨n0, s1, s2, n3, n4, n5, n6⟩, ?_, hs1, hs2, w5, w4, w6⟩
  match cs, hl' with
  | [a, b, c, d, e, f, g], _ => simp at c0 c1 c2 c3 c4 c5 c6; simp [c0, c1, c2, c3, c4, c5, c6]
def ReadsLO (w : World) (v : Value) (L : List LO) : Prop := Reads w 7 encLO v L ∧ ∀ o ∈ L, OkLO o
/-- what is not too much -/
def Fine (L : List LO) : Prop := L.length ≤ 300
def GreatEnds (L : List LO) (w : World) (e : Ending) (w' : World) : Prop := ∃ r : Bool, Ret (.bool r) (fun w' => (∃ n, w' = w.drewN n) ∧ (r = false → Fine L)) e w'
set_option maxHeartbeats 1000000 in
set_option maxRecDepth 100000 in
theorem great_c {w : World} {v : Value} {L : List LO} (hv : ReadsLO w v L) (hl : L.length ≤ maxLen) :
    Calls Tryd.prog 16 #[v] w (GreatEnds L w) := by
  obtain ⟨⟨a, ca, rfl, ha⟩, hok⟩ := hv
  unfold maxLen at hl
  have HA := Keep.mk ha
  have HO := Keep.mk hok
  clear ha hok
  go_enter Tryd.func16, Tryd.ntmps16
  go_wp2_with fail
  go_loopw [3] (fun i wr => ∃ k n : Nat, k ≤ L.length ∧ k ≤ 400 ∧ i = .int .i64 k ∧ wr = w.drewN n) (fun i _ => L.length - (RowKit.intOf i).toNat)
  case atStart => exact ⟨0, 0, by omega, by omega, rfl, rfl⟩
  case round =>
    obtain ⟨k, n, hk, hk3, rfl, rfl⟩ := hrel
    by_cases hlt : k < L.length
    · by_cases h3 : k < 400
      · obtain ⟨g, off, rfl, hg, hc⟩ := HA.out k L[k] (List.getElem?_eq_getElem hlt)
        have k1 : w.cell? ⟨g, off + k * 7 + 1, none⟩ = some (.string L[k].tenant) := hc 1 _ rfl
        have k2 : w.cell? ⟨g, off + k * 7 + 2, none⟩ = some (.string L[k].name) := hc 2 _ rfl
        clear hc
        generalize L[k].name = x0 at *
        generalize L[k].tenant = x1 at *
        go_wp2_with fail
        go_quiet (fail)
        cases hz : decide ((1000 : Int) < wrap64 ((x1.size : Int) + (x0.size : Int))) with
        | true =>
          go_wp2_with fail
          go_ret
          exact ⟨true, rfl, ⟨n + nq, World.drewN_drewN ..⟩, by simp⟩
        | false =>
          go_wp2_with fail
          go_roundw
          case rel => exact ⟨k + 1, n + nq, by omega, by omega, by go_num, rfl⟩
          case measure => simp [RowKit.intOf]; omega
      · have e3 : decide ((k : Int) < 400) = false := by simp; omega
        have e4 : decide (300 < (L.length : Int)) = true := by simp; omega
        clear h3 hk3
        go_wp2_with fail
        go_ret
        exact ⟨_, rfl, ⟨n, rfl⟩, by simp⟩
    · by_cases h4 : 300 < L.length
      · have e4 : decide (300 < (L.length : Int)) = true := by simp; omega
        clear h4
        go_wp2_with fail
        go_ret
        exact ⟨_, rfl, ⟨n, rfl⟩, by simp⟩
      · have e4 : decide (300 < (L.length : Int)) = false := by simp; omega
        have HF := Keep.mk (show Fine L from by unfold Fine; omega)
        clear h4
        go_wp2_with fail
        go_ret
        exact ⟨_, rfl, ⟨n, rfl⟩, fun _ => HF.out⟩
set_option maxHeartbeats 1000000 in
set_option maxRecDepth 100000 in
theorem same_c {w : World} {v v' : Value} {L : List Lz} (hv : Reads w 6 encL v L) (hv' : Reads w 6 encL v' L) (hl : L.length ≤ 1000000) :
    Calls Tryd.prog 23 #[v, v'] w (Ret (.bool true) fun w' => ∃ n, w' = w.drewN n) := by
  obtain ⟨a, ca, rfl, ha⟩ := hv
  obtain ⟨b, cb, rfl, hb⟩ := hv'
  have HA := Keep.mk ha
  have HB := Keep.mk hb
  clear ha hb
  go_enter Tryd.func23, Tryd.ntmps23
  go_wp2_with fail
  go_loopw [5] (fun i wr => ∃ k n : Nat, k ≤ L.length ∧ i = .int .i64 k ∧ wr = w.drewN n) (fun i _ => L.length - (RowKit.intOf i).toNat)
  case atStart => exact ⟨0, 0, by omega, rfl, rfl⟩
  case round =>
    obtain ⟨k, n, hk, rfl, rfl⟩ := hrel
    by_cases hlt : k < L.length
    · obtain ⟨g, off, rfl, hg, hc⟩ := HA.out k L[k] (List.getElem?_eq_getElem hlt)
      obtain ⟨g', off', rfl, hg', hc'⟩ := HB.out k L[k] (List.getElem?_eq_getElem hlt)
      have k0 : w.cell? ⟨g, off + k * 6, none⟩ = some (.string L[k].name) := hc 0 _ rfl
      have k1 : w.cell? ⟨g, off + k * 6 + 1, none⟩ = some (.string L[k].tenant) := hc 1 _ rfl
      have k2 : w.cell? ⟨g, off + k * 6 + 2, none⟩ = some (.int .i64 L[k].conn) := hc 2 _ rfl
      have k3 : w.cell? ⟨g, off + k * 6 + 3, none⟩ = some (.int .i64 L[k].epoch) := hc 3 _ rfl
      have k4 : w.cell? ⟨g, off + k * 6 + 4, none⟩ = some (.int .i64 L[k].til) := hc 4 _ rfl
      have k5 : w.cell? ⟨g, off + k * 6 + 5, none⟩ = some (.bool L[k].held) := hc 5 _ rfl
      have j0 : w.cell? ⟨g', off' + k * 6, none⟩ = some (.string L[k].name) := hc' 0 _ rfl
      have j1 : w.cell? ⟨g', off' + k * 6 + 1, none⟩ = some (.string L[k].tenant) := hc' 1 _ rfl
      have j2 : w.cell? ⟨g', off' + k * 6 + 2, none⟩ = some (.int .i64 L[k].conn) := hc' 2 _ rfl
      have j3 : w.cell? ⟨g', off' + k * 6 + 3, none⟩ = some (.int .i64 L[k].epoch) := hc' 3 _ rfl
      have j4 : w.cell? ⟨g', off' + k * 6 + 4, none⟩ = some (.int .i64 L[k].til) := hc' 4 _ rfl
      have j5 : w.cell? ⟨g', off' + k * 6 + 5, none⟩ = some (.bool L[k].held) := hc' 5 _ rfl
      clear hc hc'
      generalize L[k] = x at *
      obtain ⟨x0, x1, x2, x3, x4, x5⟩ := x
      simp only at k0 k1 k2 k3 k4 k5 j0 j1 j2 j3 j4 j5
      go_wp2_with fail
      go_quiet (fail)
      go_wp2_with fail
      go_roundw
      case rel => exact ⟨k + 1, n + nq, by omega, by go_num, rfl⟩
      case measure => simp [RowKit.intOf]; omega
    · go_wp2_with fail
      go_ret
      exact ⟨rfl, n, rfl⟩
end Go.Proofs.YtefnfhhdcginmaaDoor
