/- Part Z: a slice of bytes that came in. No program's text. -/
import Derived.Test.YtpjfakmalhenjaaDoorSubF
import Derived.Test.YtpjfakmalhenjaaDoorSubJ
namespace Go.Sub
open Go.RowKit
/-- A slice of bytes that came in. -/
theorem bytes_of_trod {H : Type} {enc : TypeId × Value → H} {P : Program} {w : World} {base : Nat} {spare : Nat → Bool} {held : Bool} {t e : TypeId} {fuel : Nat} {v : Value} {x : DataW H × List MemPlace} (ht : P.underlying t = some (.slice e)) (he : P.underlying e = some (.int .u8)) (hk : P.cellsOf e = 1)
    (h : DataW.trod enc P w base spare held fuel t [v] = some x) : ∃ L : List UInt8, Bytes w v L ∧ L.length ≤ maxLen := by
  obtain ⟨L, hR, _, hl⟩ := reads_of_trod (encA := fun b : UInt8 => [bv b]) (φ := fun _ => True) ht hk (by omega) (fun n cs y hy => by
    obtain ⟨m, rfl, _, hw⟩ := DataW.trod_int he hy
    have h2 : 0 ≤ m ∧ m ≤ 255 := by simpa [Lit.wf, IntKind.min, IntKind.max, IntKind.signed, IntKind.bits] using hw
    refine ⟨UInt8.ofNat m.toNat, ?_, trivial⟩
    simp only [bv, List.cons.injEq, Value.int.injEq, true_and, and_true]
    rw [UInt8.toNat_ofNat']
    omega) h
  obtain ⟨a, cap, rfl, hr⟩ := hR
  refine ⟨L, ⟨a, cap, rfl, ?_, fun i x hx => ?_⟩, hl⟩
  · rcases Go.Deep.open_slice ht h with ⟨hv, _⟩ | ⟨a', len, cap', m, n, D, Pl, hv, hb, hl, hm, hmm, _, _⟩
    · simp only [List.cons.injEq, and_true, Value.slice.injEq] at hv
      omega
    · simp only [List.cons.injEq, and_true, Value.slice.injEq] at hv
      omega
  · obtain ⟨g, off, rfl, hg, hc⟩ := hr i x hx
    exact ⟨g, off, rfl, hg, by have := hc 0 _ rfl; simpa using this⟩
end Go.Sub
