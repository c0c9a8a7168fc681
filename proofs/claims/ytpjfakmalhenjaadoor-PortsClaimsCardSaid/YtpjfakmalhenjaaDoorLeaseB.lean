/- The book of leases: time, clock, at. -/
import Derived.Test.YtpjfakmalhenjaaDoorLeaseA
set_option linter.unusedVariables false
namespace Go.Proofs.YtpjfakmalhenjaaDoor
open Go.RowKit Go.Sub Go.ChangeMaps
def timeB (n : Int) : Bool := decide (0 < n) && decide (n ≤ 1073741824)
def clockB (n : Int) : Bool := decide (0 ≤ n) && decide (n ≤ 1099511627776)
theorem timeB_iff {n : Int} : timeB n = true ↔ 1 ≤ n ∧ n ≤ 1073741824 := by simp [timeB]; omega
theorem clockB_iff {n : Int} : clockB n = true ↔ 0 ≤ n ∧ n ≤ 1099511627776 := by simp [clockB]
set_option maxHeartbeats 400000 in
theorem time_c {w : World} (n : Int) : Calls Tryd.prog 33 #[.int .i64 n] w (Ret (.bool (timeB n)) fun w' => w = w') := by
  unfold timeB
  cases h : decide (0 < n) with
  | false =>
    go_enter Tryd.func33, Tryd.ntmps33
    go_wp2_with fail
    go_ret
    exact ⟨rfl, rfl⟩
  | true =>
    go_enter Tryd.func33, Tryd.ntmps33
    go_wp2_with fail
    go_ret
    exact ⟨by simp, rfl⟩
set_option maxHeartbeats 400000 in
theorem clock_c {w : World} (n : Int) : Calls Tryd.prog 40 #[.int .i64 n] w (Ret (.bool (clockB n)) fun w' => w = w') := by
  unfold clockB
  cases h : decide (0 ≤ n) with
  | false =>
    go_enter Tryd.func40, Tryd.ntmps40
    go_wp2_with fail
    go_ret
    exact ⟨rfl, rfl⟩
  | true =>
    go_enter Tryd.func40, Tryd.ntmps40
    go_wp2_with fail
    go_ret
    exact ⟨by simp, rfl⟩
/-- what a lease is at a time: free 0, kept 1, held 2 -/
def statS (g : Int) (x : Lz) (now : Int) : Int := if x.held = true then (if now < x.til then 2 else if now < x.til + g then 1 else 0) else if now < x.til then 1 else 0
set_option maxHeartbeats 400000 in
theorem at_none {b mb : Nat} {w : World} {nm : ByteArray} (h3 : w.cell? ⟨b, 3, none⟩ = some (.map (some mb))) (hl : Finds mb w nm none) (now : Int) :
    Calls Tryd.prog 41 #[.pointer (some ⟨b, 0, none⟩), .string nm, .int .i64 now] w (Ret (.tuple #[.pointer none, .int .i64 0]) fun w' => w = w') := by
  unfold Finds at hl
  simp only [Option.map_none, Option.isSome_none] at hl
  go_enter Tryd.func41, Tryd.ntmps41
  go_wp2_with fail
  go_ret2
  exact ⟨rfl, rfl⟩
/-- the bounds of a lease's time -/
abbrev TilOk (til : Int) : Prop := -4611686018427387904 ≤ til ∧ til ≤ 4611686018427387904
set_option maxHeartbeats 1000000 in
theorem at_held {b mb cb : Nat} {w : World} {nm : ByteArray} {g : Int} {til : Int} (h0 : w.cell? ⟨b, 0, none⟩ = some (.int .i64 g)) (h3 : w.cell? ⟨b, 3, none⟩ = some (.map (some mb))) (hl : Finds mb w nm (some cb)) (k4 : w.cell? ⟨cb, 4, none⟩ = some (.int .i64 til)) (k5 : w.cell? ⟨cb, 5, none⟩ = some (.bool true))
    (g0 : 0 ≤ g) (g1 : g ≤ 1073741824) (ht : TilOk til) (now : Int) (h1 : now < til) :
    Calls Tryd.prog 41 #[.pointer (some ⟨b, 0, none⟩), .string nm, .int .i64 now] w (Ret (.tuple #[.pointer (some ⟨cb, 0, none⟩), .int .i64 2]) fun w' => ∃ n, w' = w.drewN n) := by
  unfold Finds at hl
  obtain ⟨t0, t1⟩ := ht
  simp only [Option.map_some, Option.isSome_some] at hl
  have e4 : decide (now < til) = true := by simpa using h1
  clear h1
  go_enter Tryd.func41, Tryd.ntmps41
  go_wp2_with fail
  go_ret2
  exact ⟨rfl, 0, rfl⟩
set_option maxHeartbeats 1000000 in
theorem at_kept {b mb cb : Nat} {w : World} {nm : ByteArray} {g : Int} {til : Int} (h0 : w.cell? ⟨b, 0, none⟩ = some (.int .i64 g)) (h3 : w.cell? ⟨b, 3, none⟩ = some (.map (some mb))) (hl : Finds mb w nm (some cb)) (k4 : w.cell? ⟨cb, 4, none⟩ = some (.int .i64 til)) (k5 : w.cell? ⟨cb, 5, none⟩ = some (.bool true))
    (g0 : 0 ≤ g) (g1 : g ≤ 1073741824) (ht : TilOk til) (now : Int) (h1 : ¬ now < til) (h2 : now < til + g) :
    Calls Tryd.prog 41 #[.pointer (some ⟨b, 0, none⟩), .string nm, .int .i64 now] w (Ret (.tuple #[.pointer (some ⟨cb, 0, none⟩), .int .i64 1]) fun w' => ∃ n, w' = w.drewN n) := by
  unfold Finds at hl
  obtain ⟨t0, t1⟩ := ht
  simp only [Option.map_some, Option.isSome_some] at hl
  have e4 : decide (now < til) = false := by simpa using h1
  have e5 : decide (now < til + g) = true := by simpa using h2
  clear h1 h2
  go_enter Tryd.func41, Tryd.ntmps41
  go_wp2_with fail
  go_quiet (fail)
  go_wp2_with fail
  go_ret2
  exact ⟨rfl, _, rfl⟩
set_option maxHeartbeats 1000000 in
theorem at_free {b mb cb : Nat} {w : World} {nm : ByteArray} {g : Int} {til : Int} (h0 : w.cell? ⟨b, 0, none⟩ = some (.int .i64 g)) (h3 : w.cell? ⟨b, 3, none⟩ = some (.map (some mb))) (hl : Finds mb w nm (some cb)) (k4 : w.cell? ⟨cb, 4, none⟩ = some (.int .i64 til)) (k5 : w.cell? ⟨cb, 5, none⟩ = some (.bool true))
    (g0 : 0 ≤ g) (g1 : g ≤ 1073741824) (ht : TilOk til) (now : Int) (h1 : ¬ now < til) (h2 : ¬ now < til + g) :
    Calls Tryd.prog 41 #[.pointer (some ⟨b, 0, none⟩), .string nm, .int .i64 now] w (Ret (.tuple #[.pointer (some ⟨cb, 0, none⟩), .int .i64 0]) fun w' => ∃ n, w' = w.drewN n) := by
  unfold Finds at hl
  obtain ⟨t0, t1⟩ := ht
  simp only [Option.map_some, Option.isSome_some] at hl
  have e4 : decide (now < til) = false := by simpa using h1
  have e5 : decide (now < til + g) = false := by simpa using h2
  clear h1 h2
  go_enter Tryd.func41, Tryd.ntmps41
  go_wp2_with fail
  go_quiet (fail)
  go_wp2_with fail
  go_ret2
  exact ⟨rfl, _, rfl⟩
set_option maxHeartbeats 1000000 in
theorem at_rest {b mb cb : Nat} {w : World} {nm : ByteArray} {g : Int} {til : Int} (h0 : w.cell? ⟨b, 0, none⟩ = some (.int .i64 g)) (h3 : w.cell? ⟨b, 3, none⟩ = some (.map (some mb))) (hl : Finds mb w nm (some cb)) (k4 : w.cell? ⟨cb, 4, none⟩ = some (.int .i64 til)) (k5 : w.cell? ⟨cb, 5, none⟩ = some (.bool false))
    (g0 : 0 ≤ g) (g1 : g ≤ 1073741824) (ht : TilOk til) (now : Int) (h1 : now < til) :
    Calls Tryd.prog 41 #[.pointer (some ⟨b, 0, none⟩), .string nm, .int .i64 now] w (Ret (.tuple #[.pointer (some ⟨cb, 0, none⟩), .int .i64 1]) fun w' => ∃ n, w' = w.drewN n) := by
  unfold Finds at hl
  obtain ⟨t0, t1⟩ := ht
  simp only [Option.map_some, Option.isSome_some] at hl
  have e4 : decide (now < til) = true := by simpa using h1
  clear h1
  go_enter Tryd.func41, Tryd.ntmps41
  go_wp2_with fail
  go_quiet (fail)
  go_wp2_with fail
  go_ret2
  exact ⟨rfl, _, rfl⟩
set_option maxHeartbeats 1000000 in
theorem at_over {b mb cb : Nat} {w : World} {nm : ByteArray} {g : Int} {til : Int} (h0 : w.cell? ⟨b, 0, none⟩ = some (.int .i64 g)) (h3 : w.cell? ⟨b, 3, none⟩ = some (.map (some mb))) (hl : Finds mb w nm (some cb)) (k4 : w.cell? ⟨cb, 4, none⟩ = some (.int .i64 til)) (k5 : w.cell? ⟨cb, 5, none⟩ = some (.bool false))
    (g0 : 0 ≤ g) (g1 : g ≤ 1073741824) (ht : TilOk til) (now : Int) (h1 : ¬ now < til) :
    Calls Tryd.prog 41 #[.pointer (some ⟨b, 0, none⟩), .string nm, .int .i64 now] w (Ret (.tuple #[.pointer (some ⟨cb, 0, none⟩), .int .i64 0]) fun w' => ∃ n, w' = w.drewN n) := by
  unfold Finds at hl
  obtain ⟨t0, t1⟩ := ht
  simp only [Option.map_some, Option.isSome_some] at hl
  have e4 : decide (now < til) = false := by simpa using h1
  clear h1
  go_enter Tryd.func41, Tryd.ntmps41
  go_wp2_with fail
  go_quiet (fail)
  go_wp2_with fail
  go_ret2
  exact ⟨rfl, _, rfl⟩
theorem at_some {b mb cb : Nat} {w : World} {nm : ByteArray} {g : Int} {x : Lz} (h0 : w.cell? ⟨b, 0, none⟩ = some (.int .i64 g)) (h3 : w.cell? ⟨b, 3, none⟩ = some (.map (some mb))) (hl : Finds mb w nm (some cb)) (k4 : w.cell? ⟨cb, 4, none⟩ = some (.int .i64 x.til)) (k5 : w.cell? ⟨cb, 5, none⟩ = some (.bool x.held))
    (g0 : 0 ≤ g) (g1 : g ≤ 1073741824) (ht : TilOk x.til) (now : Int) :
    Calls Tryd.prog 41 #[.pointer (some ⟨b, 0, none⟩), .string nm, .int .i64 now] w (Ret (.tuple #[.pointer (some ⟨cb, 0, none⟩), .int .i64 (statS g x now)]) fun w' => ∃ n, w' = w.drewN n) := by
  unfold statS
  cases hh : x.held with
  | true =>
    rw [hh] at k5
    by_cases h1 : now < x.til
    · rw [if_pos rfl, if_pos h1]; exact at_held h0 h3 hl k4 k5 g0 g1 ht now h1
    · by_cases h2 : now < x.til + g
      · rw [if_pos rfl, if_neg h1, if_pos h2]; exact at_kept h0 h3 hl k4 k5 g0 g1 ht now h1 h2
      · rw [if_pos rfl, if_neg h1, if_neg h2]; exact at_free h0 h3 hl k4 k5 g0 g1 ht now h1 h2
  | false =>
    rw [hh] at k5
    by_cases h1 : now < x.til
    · rw [if_neg (by simp), if_pos h1]; exact at_rest h0 h3 hl k4 k5 g0 g1 ht now h1
    · rw [if_neg (by simp), if_neg h1]; exact at_over h0 h3 hl k4 k5 g0 g1 ht now h1
end Go.Proofs.YtpjfakmalhenjaaDoor
