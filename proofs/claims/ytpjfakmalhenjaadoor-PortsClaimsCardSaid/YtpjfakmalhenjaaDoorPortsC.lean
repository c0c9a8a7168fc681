/- Ports: the closures. -/
import Derived.Test.YtpjfakmalhenjaaDoorPortsB
set_option linter.unusedVariables false
namespace Go.Proofs.YtpjfakmalhenjaaDoor
open Go.RowKit Go.Sub Go.Shelf Go.Sort
/-- may a tenant not claim what is leased so? -/
def soNext (grace : Int) (tenant : ByteArray) (now : Int) (x : Lz) : Bool :=
  if x.til < 0 ∨ 2199023255552 < x.til then false
  else if x.held = true then
    if now < x.til then true else decide (now < x.til + grace) && !(x.tenant.toList == tenant.toList)
  else decide (now < x.til) && !(x.tenant.toList == tenant.toList)
/-- does a tenant hold it? -/
def soHeld (tenant : ByteArray) (now : Int) (x : Lz) : Bool := (x.tenant.toList == tenant.toList) && (x.held && decide (now < x.til))
theorem cell_new {w : World} {b : Nat} {v : Value} (h : w.cell? ⟨b, 0, none⟩ = some v) : ∀ o : Obj, (w.alloc o).cell? ⟨b, 0, none⟩ = some v := fun o => (World.cell?_alloc_lt _ _ _ (World.block_lt_of_cell? w _ h)).trans h
theorem ent_next : EntersP 25 := fun _ _ => by go_simp
theorem ent_held : EntersP 29 := fun _ _ => by go_simp

set_option maxHeartbeats 400000 in
theorem next1_neg {w : World} {bn bg bt : Nat} {now grace : Int} {tenant : ByteArray} (kn : w.cell? ⟨bn, 0, none⟩ = some (.int .i64 now)) (kg : w.cell? ⟨bg, 0, none⟩ = some (.int .i64 grace)) (kt : w.cell? ⟨bt, 0, none⟩ = some (.string tenant))
    (g0 : 1 ≤ grace) (g1 : grace ≤ 1073741824) (n0 : 0 ≤ now) (n1 : now ≤ 1099511627776) (x : Lz) (h1 : x.til < 0) :
    Calls Tryd.prog 25 #[aggL x, .pointer (some ⟨bn, 0, none⟩), .pointer (some ⟨bg, 0, none⟩), .pointer (some ⟨bt, 0, none⟩)] w (Ret (.bool (soNext grace tenant now x)) fun w' => Quiet w w') := by
  obtain ⟨x0, x1, x2, x3, til, held⟩ := x
  simp only at *
  have jn := cell_new kn
  have jg := cell_new kg
  have jt := cell_new kt
  have e1 : decide (til < 0) = true := by simp; omega
  rw [show soNext grace tenant now ⟨x0, x1, x2, x3, til, held⟩ = false from by unfold soNext; rw [if_pos (.inl h1)]]
  clear h1
  go_enter Tryd.func25, Tryd.ntmps25
  go_wp2_with fail
  go_ret
  exact ⟨rfl, (Upd.refl none' w).alloc _⟩
set_option maxHeartbeats 400000 in
theorem next1_far {w : World} {bn bg bt : Nat} {now grace : Int} {tenant : ByteArray} (kn : w.cell? ⟨bn, 0, none⟩ = some (.int .i64 now)) (kg : w.cell? ⟨bg, 0, none⟩ = some (.int .i64 grace)) (kt : w.cell? ⟨bt, 0, none⟩ = some (.string tenant))
    (g0 : 1 ≤ grace) (g1 : grace ≤ 1073741824) (n0 : 0 ≤ now) (n1 : now ≤ 1099511627776) (x : Lz) (h1 : ¬ x.til < 0) (h2 : 2199023255552 < x.til) :
    Calls Tryd.prog 25 #[aggL x, .pointer (some ⟨bn, 0, none⟩), .pointer (some ⟨bg, 0, none⟩), .pointer (some ⟨bt, 0, none⟩)] w (Ret (.bool (soNext grace tenant now x)) fun w' => Quiet w w') := by
  obtain ⟨x0, x1, x2, x3, til, held⟩ := x
  simp only at *
  have jn := cell_new kn
  have jg := cell_new kg
  have jt := cell_new kt
  have e1 : decide (til < 0) = false := by simp; omega
  have e2 : decide (2199023255552 < til) = true := by simp; omega
  rw [show soNext grace tenant now ⟨x0, x1, x2, x3, til, held⟩ = false from by unfold soNext; rw [if_pos (.inr h2)]]
  clear h1 h2
  go_enter Tryd.func25, Tryd.ntmps25
  go_wp2_with fail
  go_ret
  exact ⟨rfl, (Upd.refl none' w).alloc _⟩
set_option maxHeartbeats 400000 in
theorem next1_held_true {w : World} {bn bg bt : Nat} {now grace : Int} {tenant : ByteArray} (kn : w.cell? ⟨bn, 0, none⟩ = some (.int .i64 now)) (kg : w.cell? ⟨bg, 0, none⟩ = some (.int .i64 grace)) (kt : w.cell? ⟨bt, 0, none⟩ = some (.string tenant))
    (g0 : 1 ≤ grace) (g1 : grace ≤ 1073741824) (n0 : 0 ≤ now) (n1 : now ≤ 1099511627776) (x : Lz) (h1 : ¬ x.til < 0) (h2 : ¬ 2199023255552 < x.til) (hh : x.held = true) (h3 : now < x.til) (ht : (x.tenant.toList == tenant.toList) = false) :
    Calls Tryd.prog 25 #[aggL x, .pointer (some ⟨bn, 0, none⟩), .pointer (some ⟨bg, 0, none⟩), .pointer (some ⟨bt, 0, none⟩)] w (Ret (.bool (soNext grace tenant now x)) fun w' => Quiet w w') := by
  obtain ⟨x0, x1, x2, x3, til, held⟩ := x
  simp only at *
  have jn := cell_new kn
  have jg := cell_new kg
  have jt := cell_new kt
  subst hh
  have e1 : decide (til < 0) = false := by simp; omega
  have e2 : decide (2199023255552 < til) = false := by simp; omega
  have e3 : decide (til ≤ now) = false := by simp; omega
  have e4 : decide (now < til) = true := by simp; omega
  rw [show soNext grace tenant now ⟨x0, x1, x2, x3, til, true⟩ = true from by unfold soNext; rw [if_neg (fun h => h.elim h1 h2)]; simp [h3]]
  clear h1 h2 h3
  go_enter Tryd.func25, Tryd.ntmps25
  go_wp2_with fail
  go_ret
  exact ⟨rfl, (Upd.refl none' w).alloc _⟩
set_option maxHeartbeats 400000 in
theorem next1_kept_true {w : World} {bn bg bt : Nat} {now grace : Int} {tenant : ByteArray} (kn : w.cell? ⟨bn, 0, none⟩ = some (.int .i64 now)) (kg : w.cell? ⟨bg, 0, none⟩ = some (.int .i64 grace)) (kt : w.cell? ⟨bt, 0, none⟩ = some (.string tenant))
    (g0 : 1 ≤ grace) (g1 : grace ≤ 1073741824) (n0 : 0 ≤ now) (n1 : now ≤ 1099511627776) (x : Lz) (h1 : ¬ x.til < 0) (h2 : ¬ 2199023255552 < x.til) (hh : x.held = true) (h3 : ¬ now < x.til) (h4 : now < x.til + grace) (ht : (x.tenant.toList == tenant.toList) = false) :
    Calls Tryd.prog 25 #[aggL x, .pointer (some ⟨bn, 0, none⟩), .pointer (some ⟨bg, 0, none⟩), .pointer (some ⟨bt, 0, none⟩)] w (Ret (.bool (soNext grace tenant now x)) fun w' => Quiet w w') := by
  obtain ⟨x0, x1, x2, x3, til, held⟩ := x
  simp only at *
  have jn := cell_new kn
  have jg := cell_new kg
  have jt := cell_new kt
  subst hh
  have e1 : decide (til < 0) = false := by simp; omega
  have e2 : decide (2199023255552 < til) = false := by simp; omega
  have e3 : decide (til ≤ now) = true := by simp; omega
  have e4 : decide (now < til) = false := by simp; omega
  have e5 : decide (now < til + grace) = true := by simp; omega
  rw [show soNext grace tenant now ⟨x0, x1, x2, x3, til, true⟩ = true from by unfold soNext; rw [if_neg (fun h => h.elim h1 h2)]; simp only [h3, h4, ht]; simp]
  clear h3 h4
  go_enter Tryd.func25, Tryd.ntmps25
  go_wp2_with fail
  go_ret
  exact ⟨rfl, (Upd.refl none' w).alloc _⟩
set_option maxHeartbeats 400000 in
theorem next1_free_true {w : World} {bn bg bt : Nat} {now grace : Int} {tenant : ByteArray} (kn : w.cell? ⟨bn, 0, none⟩ = some (.int .i64 now)) (kg : w.cell? ⟨bg, 0, none⟩ = some (.int .i64 grace)) (kt : w.cell? ⟨bt, 0, none⟩ = some (.string tenant))
    (g0 : 1 ≤ grace) (g1 : grace ≤ 1073741824) (n0 : 0 ≤ now) (n1 : now ≤ 1099511627776) (x : Lz) (h1 : ¬ x.til < 0) (h2 : ¬ 2199023255552 < x.til) (hh : x.held = false) (h3 : now < x.til) (ht : (x.tenant.toList == tenant.toList) = false) :
    Calls Tryd.prog 25 #[aggL x, .pointer (some ⟨bn, 0, none⟩), .pointer (some ⟨bg, 0, none⟩), .pointer (some ⟨bt, 0, none⟩)] w (Ret (.bool (soNext grace tenant now x)) fun w' => Quiet w w') := by
  obtain ⟨x0, x1, x2, x3, til, held⟩ := x
  simp only at *
  have jn := cell_new kn
  have jg := cell_new kg
  have jt := cell_new kt
  subst hh
  have e1 : decide (til < 0) = false := by simp; omega
  have e2 : decide (2199023255552 < til) = false := by simp; omega
  have e4 : decide (now < til) = true := by simp; omega
  rw [show soNext grace tenant now ⟨x0, x1, x2, x3, til, false⟩ = true from by unfold soNext; rw [if_neg (fun h => h.elim h1 h2)]; simp only [h3, ht]; simp]
  clear h1 h2 h3
  go_enter Tryd.func25, Tryd.ntmps25
  go_wp2_with fail
  go_ret
  exact ⟨rfl, (Upd.refl none' w).alloc _⟩
set_option maxHeartbeats 400000 in
theorem next1_held_false {w : World} {bn bg bt : Nat} {now grace : Int} {tenant : ByteArray} (kn : w.cell? ⟨bn, 0, none⟩ = some (.int .i64 now)) (kg : w.cell? ⟨bg, 0, none⟩ = some (.int .i64 grace)) (kt : w.cell? ⟨bt, 0, none⟩ = some (.string tenant))
    (g0 : 1 ≤ grace) (g1 : grace ≤ 1073741824) (n0 : 0 ≤ now) (n1 : now ≤ 1099511627776) (x : Lz) (h1 : ¬ x.til < 0) (h2 : ¬ 2199023255552 < x.til) (hh : x.held = true) (h3 : now < x.til) (ht : (x.tenant.toList == tenant.toList) = true) :
    Calls Tryd.prog 25 #[aggL x, .pointer (some ⟨bn, 0, none⟩), .pointer (some ⟨bg, 0, none⟩), .pointer (some ⟨bt, 0, none⟩)] w (Ret (.bool (soNext grace tenant now x)) fun w' => Quiet w w') := by
  obtain ⟨x0, x1, x2, x3, til, held⟩ := x
  simp only at *
  have jn := cell_new kn
  have jg := cell_new kg
  have jt := cell_new kt
  subst hh
  have e1 : decide (til < 0) = false := by simp; omega
  have e2 : decide (2199023255552 < til) = false := by simp; omega
  have e3 : decide (til ≤ now) = false := by simp; omega
  have e4 : decide (now < til) = true := by simp; omega
  rw [show soNext grace tenant now ⟨x0, x1, x2, x3, til, true⟩ = true from by unfold soNext; rw [if_neg (fun h => h.elim h1 h2)]; simp [h3]]
  clear h1 h2 h3
  go_enter Tryd.func25, Tryd.ntmps25
  go_wp2_with fail
  go_ret
  exact ⟨rfl, (Upd.refl none' w).alloc _⟩
set_option maxHeartbeats 400000 in
theorem next1_kept_false {w : World} {bn bg bt : Nat} {now grace : Int} {tenant : ByteArray} (kn : w.cell? ⟨bn, 0, none⟩ = some (.int .i64 now)) (kg : w.cell? ⟨bg, 0, none⟩ = some (.int .i64 grace)) (kt : w.cell? ⟨bt, 0, none⟩ = some (.string tenant))
    (g0 : 1 ≤ grace) (g1 : grace ≤ 1073741824) (n0 : 0 ≤ now) (n1 : now ≤ 1099511627776) (x : Lz) (h1 : ¬ x.til < 0) (h2 : ¬ 2199023255552 < x.til) (hh : x.held = true) (h3 : ¬ now < x.til) (h4 : now < x.til + grace) (ht : (x.tenant.toList == tenant.toList) = true) :
    Calls Tryd.prog 25 #[aggL x, .pointer (some ⟨bn, 0, none⟩), .pointer (some ⟨bg, 0, none⟩), .pointer (some ⟨bt, 0, none⟩)] w (Ret (.bool (soNext grace tenant now x)) fun w' => Quiet w w') := by
  obtain ⟨x0, x1, x2, x3, til, held⟩ := x
  simp only at *
  have jn := cell_new kn
  have jg := cell_new kg
  have jt := cell_new kt
  subst hh
  have e1 : decide (til < 0) = false := by simp; omega
  have e2 : decide (2199023255552 < til) = false := by simp; omega
  have e3 : decide (til ≤ now) = true := by simp; omega
  have e4 : decide (now < til) = false := by simp; omega
  have e5 : decide (now < til + grace) = true := by simp; omega
  rw [show soNext grace tenant now ⟨x0, x1, x2, x3, til, true⟩ = false from by unfold soNext; rw [if_neg (fun h => h.elim h1 h2)]; simp only [h3, h4, ht]; simp]
  clear h3 h4
  go_enter Tryd.func25, Tryd.ntmps25
  go_wp2_with fail
  go_ret
  exact ⟨rfl, (Upd.refl none' w).alloc _⟩
set_option maxHeartbeats 400000 in
theorem next1_free_false {w : World} {bn bg bt : Nat} {now grace : Int} {tenant : ByteArray} (kn : w.cell? ⟨bn, 0, none⟩ = some (.int .i64 now)) (kg : w.cell? ⟨bg, 0, none⟩ = some (.int .i64 grace)) (kt : w.cell? ⟨bt, 0, none⟩ = some (.string tenant))
    (g0 : 1 ≤ grace) (g1 : grace ≤ 1073741824) (n0 : 0 ≤ now) (n1 : now ≤ 1099511627776) (x : Lz) (h1 : ¬ x.til < 0) (h2 : ¬ 2199023255552 < x.til) (hh : x.held = false) (h3 : now < x.til) (ht : (x.tenant.toList == tenant.toList) = true) :
    Calls Tryd.prog 25 #[aggL x, .pointer (some ⟨bn, 0, none⟩), .pointer (some ⟨bg, 0, none⟩), .pointer (some ⟨bt, 0, none⟩)] w (Ret (.bool (soNext grace tenant now x)) fun w' => Quiet w w') := by
  obtain ⟨x0, x1, x2, x3, til, held⟩ := x
  simp only at *
  have jn := cell_new kn
  have jg := cell_new kg
  have jt := cell_new kt
  subst hh
  have e1 : decide (til < 0) = false := by simp; omega
  have e2 : decide (2199023255552 < til) = false := by simp; omega
  have e4 : decide (now < til) = true := by simp; omega
  rw [show soNext grace tenant now ⟨x0, x1, x2, x3, til, false⟩ = false from by unfold soNext; rw [if_neg (fun h => h.elim h1 h2)]; simp only [h3, ht]; simp]
  clear h1 h2 h3
  go_enter Tryd.func25, Tryd.ntmps25
  go_wp2_with fail
  go_ret
  exact ⟨rfl, (Upd.refl none' w).alloc _⟩
set_option maxHeartbeats 400000 in
theorem next1_kept_no {w : World} {bn bg bt : Nat} {now grace : Int} {tenant : ByteArray} (kn : w.cell? ⟨bn, 0, none⟩ = some (.int .i64 now)) (kg : w.cell? ⟨bg, 0, none⟩ = some (.int .i64 grace)) (kt : w.cell? ⟨bt, 0, none⟩ = some (.string tenant))
    (g0 : 1 ≤ grace) (g1 : grace ≤ 1073741824) (n0 : 0 ≤ now) (n1 : now ≤ 1099511627776) (x : Lz) (h1 : ¬ x.til < 0) (h2 : ¬ 2199023255552 < x.til) (hh : x.held = true) (h3 : ¬ now < x.til) (h4 : ¬ now < x.til + grace) :
    Calls Tryd.prog 25 #[aggL x, .pointer (some ⟨bn, 0, none⟩), .pointer (some ⟨bg, 0, none⟩), .pointer (some ⟨bt, 0, none⟩)] w (Ret (.bool (soNext grace tenant now x)) fun w' => Quiet w w') := by
  obtain ⟨x0, x1, x2, x3, til, held⟩ := x
  simp only at *
  have jn := cell_new kn
  have jg := cell_new kg
  have jt := cell_new kt
  subst hh
  have e1 : decide (til < 0) = false := by simp; omega
  have e2 : decide (2199023255552 < til) = false := by simp; omega
  have e3 : decide (til ≤ now) = true := by simp; omega
  have e4 : decide (now < til) = false := by simp; omega
  have e5 : decide (now < til + grace) = false := by simp; omega
  rw [show soNext grace tenant now ⟨x0, x1, x2, x3, til, true⟩ = false from by unfold soNext; rw [if_neg (fun h => h.elim h1 h2)]; simp [h3, h4]]
  clear h3 h4
  go_enter Tryd.func25, Tryd.ntmps25
  go_wp2_with fail
  go_ret
  exact ⟨rfl, (Upd.refl none' w).alloc _⟩
set_option maxHeartbeats 400000 in
theorem next1_free_no {w : World} {bn bg bt : Nat} {now grace : Int} {tenant : ByteArray} (kn : w.cell? ⟨bn, 0, none⟩ = some (.int .i64 now)) (kg : w.cell? ⟨bg, 0, none⟩ = some (.int .i64 grace)) (kt : w.cell? ⟨bt, 0, none⟩ = some (.string tenant))
    (g0 : 1 ≤ grace) (g1 : grace ≤ 1073741824) (n0 : 0 ≤ now) (n1 : now ≤ 1099511627776) (x : Lz) (h1 : ¬ x.til < 0) (h2 : ¬ 2199023255552 < x.til) (hh : x.held = false) (h3 : ¬ now < x.til) :
    Calls Tryd.prog 25 #[aggL x, .pointer (some ⟨bn, 0, none⟩), .pointer (some ⟨bg, 0, none⟩), .pointer (some ⟨bt, 0, none⟩)] w (Ret (.bool (soNext grace tenant now x)) fun w' => Quiet w w') := by
  obtain ⟨x0, x1, x2, x3, til, held⟩ := x
  simp only at *
  have jn := cell_new kn
  have jg := cell_new kg
  have jt := cell_new kt
  subst hh
  have e1 : decide (til < 0) = false := by simp; omega
  have e2 : decide (2199023255552 < til) = false := by simp; omega
  have e4 : decide (now < til) = false := by simp; omega
  rw [show soNext grace tenant now ⟨x0, x1, x2, x3, til, false⟩ = false from by unfold soNext; rw [if_neg (fun h => h.elim h1 h2)]; simp [h3]]
  clear h1 h2 h3
  go_enter Tryd.func25, Tryd.ntmps25
  go_wp2_with fail
  go_ret
  exact ⟨rfl, (Upd.refl none' w).alloc _⟩
theorem next1_c {w : World} {bn bg bt : Nat} {now grace : Int} {tenant : ByteArray} (kn : w.cell? ⟨bn, 0, none⟩ = some (.int .i64 now)) (kg : w.cell? ⟨bg, 0, none⟩ = some (.int .i64 grace)) (kt : w.cell? ⟨bt, 0, none⟩ = some (.string tenant))
    (g0 : 1 ≤ grace) (g1 : grace ≤ 1073741824) (n0 : 0 ≤ now) (n1 : now ≤ 1099511627776) (x : Lz) :
    Calls Tryd.prog 25 #[aggL x, .pointer (some ⟨bn, 0, none⟩), .pointer (some ⟨bg, 0, none⟩), .pointer (some ⟨bt, 0, none⟩)] w (Ret (.bool (soNext grace tenant now x)) fun w' => Quiet w w') := by
  by_cases h1 : x.til < 0
  · exact next1_neg kn kg kt g0 g1 n0 n1 x h1
  by_cases h2 : 2199023255552 < x.til
  · exact next1_far kn kg kt g0 g1 n0 n1 x h1 h2
  cases hh : x.held with
  | true =>
    by_cases h3 : now < x.til
    · cases ht : (x.tenant.toList == tenant.toList) with
      | false => exact next1_held_true kn kg kt g0 g1 n0 n1 x h1 h2 hh h3 ht
      | true => exact next1_held_false kn kg kt g0 g1 n0 n1 x h1 h2 hh h3 ht
    · by_cases h4 : now < x.til + grace
      · cases ht : (x.tenant.toList == tenant.toList) with
        | false => exact next1_kept_true kn kg kt g0 g1 n0 n1 x h1 h2 hh h3 h4 ht
        | true => exact next1_kept_false kn kg kt g0 g1 n0 n1 x h1 h2 hh h3 h4 ht
      · exact next1_kept_no kn kg kt g0 g1 n0 n1 x h1 h2 hh h3 h4
  | false =>
    by_cases h3 : now < x.til
    · cases ht : (x.tenant.toList == tenant.toList) with
      | false => exact next1_free_true kn kg kt g0 g1 n0 n1 x h1 h2 hh h3 ht
      | true => exact next1_free_false kn kg kt g0 g1 n0 n1 x h1 h2 hh h3 ht
    · exact next1_free_no kn kg kt g0 g1 n0 n1 x h1 h2 hh h3
set_option maxHeartbeats 400000 in
theorem held1_c {w : World} {bn bt : Nat} {now : Int} {tenant : ByteArray} (kn : w.cell? ⟨bn, 0, none⟩ = some (.int .i64 now)) (kt : w.cell? ⟨bt, 0, none⟩ = some (.string tenant)) (x : Lz) :
    Calls Tryd.prog 29 #[aggL x, .pointer (some ⟨bt, 0, none⟩), .pointer (some ⟨bn, 0, none⟩)] w (Ret (.bool (soHeld tenant now x)) fun w' => Quiet w w') := by
  obtain ⟨x0, x1, x2, x3, til, held⟩ := x
  simp only [soHeld] at *
  have jn := cell_new kn
  have jt := cell_new kt
  cases ht : (x1.toList == tenant.toList) with
  | false =>
    rw [show (false && (held && decide (now < til))) = false from by simp]
    go_enter Tryd.func29, Tryd.ntmps29
    go_wp2_with fail
    go_ret
    exact ⟨rfl, (Upd.refl none' w).alloc _⟩
  | true =>
    cases held with
    | false =>
      rw [show (true && (false && decide (now < til))) = false from by simp]
      go_enter Tryd.func29, Tryd.ntmps29
      go_wp2_with fail
      go_ret
      exact ⟨rfl, (Upd.refl none' w).alloc _⟩
    | true =>
      rw [show (true && (true && decide (now < til))) = decide (now < til) from by simp]
      go_enter Tryd.func29, Tryd.ntmps29
      go_wp2_with fail
      go_ret
      exact ⟨rfl, (Upd.refl none' w).alloc _⟩
end Go.Proofs.YtpjfakmalhenjaaDoor
