/- The document's test of two rows of numbers. -/
import Derived.Test.YtpjfakmalhenjaaDoorRows
import Derived.Test.YtpjfakmalhenjaaDoorSubF
import Derived.Test.YtpjfakmalhenjaaDoorSubH
import Derived.Test.YtpjfakmalhenjaaDoorSubI
import Derived.Handy
import Derived.Deep.QuietTactic
import Derived.BigQuiet
namespace Go.Proofs.YtpjfakmalhenjaaDoor
open Go.RowKit Go.Sub Go.ChangeMaps
abbrev encIL (x : Int) : List Value := [.int .i64 x]
def sameI : List Int → List Int → Bool
  | [], [] => true
  | x :: a, y :: b => !(x != y) && sameI a b
  | _, _ => false
theorem sameI_iff {a b : List Int} : sameI a b = true ↔ a = b := by
  induction a generalizing b with
  | nil => cases b <;> simp [sameI]
  | cons x a ih => cases b with
    | nil => simp [sameI]
    | cons y b => simp [sameI, ih]
theorem sameI_refl (a : List Int) : sameI a a = true := sameI_iff.2 rfl
theorem sameI_eq (a b : List Int) : sameI a b = decide (a = b) := by
  rw [Bool.eq_iff_iff, sameI_iff, decide_eq_true_eq]
/-- A row of numbers that is there. -/
def ReadsI (w : World) (v : Value) (L : List Int) : Prop := Reads w 1 encIL v L
theorem ReadsI.at {w : World} {a : Option Addr} {n cap : Nat} {L : List Int} (h : ReadsI w (.slice a n cap) L) : n = L.length ∧ ∀ (i : Nat) (hi : i < L.length), ∃ g off, a = some ⟨g, off, none⟩ ∧ g < w.heap.size ∧
    w.cell? ⟨g, off + i, none⟩ = some (.int .i64 L[i]) := by
  obtain ⟨a', c', he, hr⟩ := h
  cases he
  refine ⟨rfl, fun i hi => ?_⟩
  obtain ⟨g, off, rfl, hg, hc⟩ := hr i L[i] (List.getElem?_eq_getElem hi)
  exact ⟨g, off, rfl, hg, by have := hc 0 _ rfl; simpa using this⟩
theorem ReadsI.slice {w : World} {v : Value} {L : List Int} (h : ReadsI w v L) : ∃ a cap, v = .slice a L.length cap := by
  obtain ⟨a, c, rfl, _⟩ := h
  exact ⟨a, c, rfl⟩
theorem ReadsI.quiet {w w' : World} {v : Value} {L : List Int} (h : ReadsI w v L) (hq : Quiet w w') : ReadsI w' v L := Reads.upd h hq fun _ _ h => h
theorem row_readsI {e : TypeId} {v : Value} {L : List Int} {w : World} {F : Fp} (h : (row e 1 encIL v L).on w F) : ReadsI w v L := (row_reads (enc := encIL) (fun _ => rfl) h).1
set_option maxRecDepth 100000 in
set_option maxHeartbeats 1000000 in
theorem same8_c {w : World} {v v' : Value} {L L' : List Int} (hv : ReadsI w v L) (hv' : ReadsI w v' L') (hl : L.length ≤ 1000000) (hl' : L'.length ≤ 1000000) :
    Calls Tryd.prog 14 #[v, v'] w (Ret (.bool (sameI L L')) fun w' => ∃ n, w' = w.drewN n) := by
  obtain ⟨a, ca, rfl⟩ := hv.slice
  obtain ⟨b, cb, rfl⟩ := hv'.slice
  have HV := Keep.mk hv.at.2
  have HV' := Keep.mk hv'.at.2
  clear hv hv'
  by_cases hlen : L.length = L'.length
  · have e0 : ((L.length : Int) != (L'.length : Int)) = false := by simp [hlen]
    have HL := Keep.mk hlen
    clear hlen
    go_enter Tryd.func14, Tryd.ntmps14
    go_wp2_with fail
    go_loopw [5] (fun i wr => ∃ k n : Nat, k ≤ L.length ∧ i = .int .i64 k ∧ wr = w.drewN n ∧ sameI L L' = sameI (L.drop k) (L'.drop k)) (fun i _ => L.length - (intOf i).toNat)
    case atStart => exact ⟨0, 0, by omega, rfl, rfl, by simp⟩
    case round =>
      obtain ⟨k, n, hk, rfl, rfl, hs⟩ := hrel
      have HS := Keep.mk hs
      clear hs
      by_cases hlt : k < L.length
      · have hlt' : k < L'.length := by have := HL.out; omega
        obtain ⟨g, off, rfl, hg, c0⟩ := HV.out k hlt
        obtain ⟨g', off', rfl, hg', c0'⟩ := HV'.out k hlt'
        have d1 : L.drop k = L[k] :: L.drop (k + 1) := List.drop_eq_getElem_cons hlt
        have d2 : L'.drop k = L'[k] :: L'.drop (k + 1) := List.drop_eq_getElem_cons hlt'
        have hs : sameI L L' = (!(L[k] != L'[k]) && sameI (L.drop (k + 1)) (L'.drop (k + 1))) := by rw [HS.out, d1, d2, sameI]
        have HS := Keep.mk hs
        clear hs d1 d2
        generalize L[k] = x at *
        generalize L'[k] = y at *
        cases hc : x != y with
        | false =>
          rw [hc] at HS
          go_wp2_with fail
          go_quiet (fail)
          go_wp2_with fail
          go_roundw
          case rel => exact ⟨k + 1, n + nq, by omega, by go_num, rfl, by rw [HS.out, Bool.not_false, Bool.true_and]⟩
          case measure => simp [intOf]; omega
        | true =>
          rw [hc] at HS
          go_wp2_with fail
          go_quiet (fail)
          go_wp2_with fail
          go_returns
          exact ⟨by rw [HS.out]; rfl, n + nq, World.drewN_drewN ..⟩
      · go_wp2_with fail
        go_returns
        have : L'.drop k = [] := List.drop_eq_nil_of_le (by have := HL.out; omega)
        have h2 : L.drop k = [] := List.drop_eq_nil_of_le (by omega)
        exact ⟨by rw [HS.out, this, h2]; rfl, n, rfl⟩
  · have e0 : ((L.length : Int) != (L'.length : Int)) = true := by simp; omega
    have es : sameI L L' = false := Bool.eq_false_iff.2 fun h => hlen (by rw [sameI_iff.1 h])
    rw [es]
    clear hlen
    go_enter Tryd.func14, Tryd.ntmps14
    go_wp2_with fail
    go_returns
    exact ⟨rfl, 0, rfl⟩
end Go.Proofs.YtpjfakmalhenjaaDoor
