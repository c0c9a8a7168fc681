/- The statements on the meter: Same. -/
import Derived.Test.YtglfkkaldeblhaaMeterE
namespace Go.Proofs.Ytglfkkaldeblhaa
open Go.ChangeShapes Go.WideShapes Go.ChangeAt Go.RowKit Go.Sub Go.ChangeMaps
def sameL : List Cnt → List Cnt → Bool
  | [], [] => true
  | x :: a, y :: b => ceq x y && sameL a b
  | _, _ => false
theorem sameL_iff {a b : List Cnt} : sameL a b = true ↔ a = b := by
  induction a generalizing b with
  | nil => cases b <;> simp [sameL]
  | cons x a ih => cases b with
    | nil => simp [sameL]
    | cons y b => simp [sameL, ceq_iff, ih]
/-- A row of counts that is there. -/
def ReadsC (w : World) (v : Value) (L : List Cnt) : Prop := Reads w 4 encC v L
theorem ReadsC.at {w : World} {a : Option Addr} {n cap : Nat} {L : List Cnt} (h : ReadsC w (.slice a n cap) L) : n = L.length ∧ ∀ (i : Nat) (hi : i < L.length), ∃ g off, a = some ⟨g, off, none⟩ ∧ g < w.heap.size ∧
    w.cell? ⟨g, off + i * 4, none⟩ = some (.string L[i].t) ∧ w.cell? ⟨g, off + i * 4 + 1, none⟩ = some (.int .i64 L[i].d) ∧ w.cell? ⟨g, off + i * 4 + 2, none⟩ = some (.int .i64 L[i].u) ∧ w.cell? ⟨g, off + i * 4 + 3, none⟩ = some (.int .i64 L[i].p) := by
  obtain ⟨a', c', he, hr⟩ := h
  cases he
  refine ⟨rfl, fun i hi => ?_⟩
  obtain ⟨g, off, rfl, hg, hc⟩ := hr i L[i] (List.getElem?_eq_getElem hi)
  exact ⟨g, off, rfl, hg, hc 0 _ rfl, hc 1 _ rfl, hc 2 _ rfl, hc 3 _ rfl⟩
theorem ReadsC.slice {w : World} {v : Value} {L : List Cnt} (h : ReadsC w v L) : ∃ a cap, v = .slice a L.length cap := by
  obtain ⟨a, c, rfl, _⟩ := h
  exact ⟨a, c, rfl⟩
set_option maxRecDepth 100000 in
set_option maxHeartbeats 1000000 in
theorem same_c {w : World} {v v' : Value} {L L' : List Cnt} (hv : ReadsC w v L) (hv' : ReadsC w v' L') (hl : L.length ≤ 1000000) (hl' : L'.length ≤ 1000000) :
    Calls Try.prog 18 #[v, v'] w (Ret (.bool (sameL L L')) fun w' => ∃ n, w' = w.drewN n) := by
  obtain ⟨a, ca, rfl⟩ := hv.slice
  obtain ⟨b, cb, rfl⟩ := hv'.slice
  have HV := Keep.mk hv.at.2
  have HV' := Keep.mk hv'.at.2
  clear hv hv'
  by_cases hlen : L.length = L'.length
  · have e0 : ((L.length : Int) != (L'.length : Int)) = false := by simp [hlen]
    have HL := Keep.mk hlen
    clear hlen
    go_enter Try.func18, Try.ntmps18
    go_wp2_with fail
    go_loopw [5] (fun i wr => ∃ k n : Nat, k ≤ L.length ∧ i = .int .i64 k ∧ wr = w.drewN n ∧ sameL L L' = sameL (L.drop k) (L'.drop k)) (fun i _ => L.length - (intOf i).toNat)
    case atStart => exact ⟨0, 0, by omega, rfl, rfl, by simp⟩
    case round =>
      obtain ⟨k, n, hk, rfl, rfl, hs⟩ := hrel
      have HS := Keep.mk hs
      clear hs
      by_cases hlt : k < L.length
      · have hlt' : k < L'.length := by have := HL.out; omega
        obtain ⟨g, off, rfl, hg, c0, c1, c2, c3⟩ := HV.out k hlt
        obtain ⟨g', off', rfl, hg', c0', c1', c2', c3'⟩ := HV'.out k hlt'
        have d1 : L.drop k = L[k] :: L.drop (k + 1) := List.drop_eq_getElem_cons hlt
        have d2 : L'.drop k = L'[k] :: L'.drop (k + 1) := List.drop_eq_getElem_cons hlt'
        have hs : sameL L L' = (ceq L[k] L'[k] && sameL (L.drop (k + 1)) (L'.drop (k + 1))) := by rw [HS.out, d1, d2, sameL]
        have HS := Keep.mk hs
        have NE := neqC L[k] L'[k]
        clear hs d1 d2
        generalize L[k] = x at *
        generalize L'[k] = y at *
        simp only [aggC] at NE
        cases hc : ceq x y with
        | true =>
          rw [hc] at NE HS
          clear hc
          go_wp2_with fail
          go_quiet (fail)
          go_wp2_with fail
          go_roundw
          case rel => exact ⟨k + 1, n + nq, by omega, by go_num, rfl, by rw [HS.out, Bool.true_and]⟩
          case measure => simp [intOf]; omega
        | false =>
          rw [hc] at NE HS
          clear hc
          go_wp2_with fail
          go_quiet (fail)
          go_wp2_with fail
          go_returns
          exact ⟨by rw [HS.out]; rfl, n + nq, World.drewN_drewN ..⟩
      · go_wp2_with fail
        go_returns
        have : L'.drop k = [] := List.drop_eq_nil_of_le (by have := HL.out; omega)
        have h2 : L.drop k = [] := List.drop_eq_nil_of_le (by omega)
        exact ⟨by rw [HS.out, this, h2]; rfl, n, rfl⟩
  · have e0 : ((L.length : Int) != (L'.length : Int)) = true := by simp; omega
    have es : sameL L L' = false := Bool.eq_false_iff.2 fun h => hlen (by rw [sameL_iff.1 h])
    rw [es]
    clear hlen
    go_enter Try.func18, Try.ntmps18
    go_wp2_with fail
    go_returns
    exact ⟨rfl, 0, rfl⟩
end Go.Proofs.Ytglfkkaldeblhaa
