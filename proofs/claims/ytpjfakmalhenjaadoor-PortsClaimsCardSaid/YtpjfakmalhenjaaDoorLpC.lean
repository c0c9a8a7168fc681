/- The book of leases: New, Holder, Evict. -/
import Derived.Test.YtpjfakmalhenjaaDoorLeaseB
import Derived.Laws.ResultCell
set_option linter.unusedVariables false
namespace Go.Proofs.YtpjfakmalhenjaaDoor
open Go.RowKit Go.Sub Go.ChangeMaps
set_option maxHeartbeats 400000 in
theorem new_no {w : World} {g m : Int} (h : (timeB g && timeB m) = false) : Calls Tryd.prog 20 #[.int .i64 g, .int .i64 m] w (Ret (.pointer none) fun w' => w = w') := by
  have C1 := Keep.mk (time_c (w := w) g)
  have C2 := Keep.mk (time_c (w := w) m)
  cases h1 : timeB g with
  | false =>
    rw [h1] at C1
    clear h
    go_enter Tryd.func20, Tryd.ntmps20
    go_wp2_with fail
    refine C1.out.mono ?_
    rintro e w' ⟨rfl, rfl⟩
    go_wp2_with fail
    go_ret
    exact ⟨rfl, rfl⟩
  | true =>
    have h2 : timeB m = false := by simpa [h1] using h
    rw [h1] at C1
    rw [h2] at C2
    clear h
    go_enter Tryd.func20, Tryd.ntmps20
    go_wp2_with fail
    refine C1.out.mono ?_
    rintro e w' ⟨rfl, rfl⟩
    go_wp2_with fail
    refine C2.out.mono ?_
    rintro e w' ⟨rfl, rfl⟩
    go_wp2_with fail
    go_ret
    exact ⟨rfl, rfl⟩
set_option maxHeartbeats 400000 in
theorem new_yes {w : World} {g m : Int} (h1 : timeB g = true) (h2 : timeB m = true) : Calls Tryd.prog 20 #[.int .i64 g, .int .i64 m] w fun e w' => ∃ b, Ret (.pointer (some ⟨b, 0, none⟩)) (fun w' => ∃ F, (bookT b g m 0 []).on w' F ∧ Upd none' F w w') e w' := by
  have C1 := Keep.mk (time_c (w := w) g)
  have C2 := Keep.mk (time_c (w := w) m)
  rw [h1] at C1
  rw [h2] at C2
  have hmm := @run_makeMap Tryd.prog
  clear h1 h2
  go_enter Tryd.func20, Tryd.ntmps20
  go_wp2_with fail
  refine C1.out.mono ?_
  rintro e w' ⟨rfl, rfl⟩
  go_wp2_with fail
  refine C2.out.mono ?_
  rintro e w' ⟨rfl, rfl⟩
  go_wp2_with fail
  go_ret
  obtain ⟨F, h, u⟩ := Asrt.stars_new (l := []) (A := .map encS evP w.heap.size []) (w := w) (w' := w.alloc (.map #[] 0)) (F := none') (Fn := fun k => k = w.heap.size) rfl ⟨_, mapObj_new, obj_alloc_at rfl, rfl⟩ (((Upd.refl none' w).alloc _).re fun k hk => .inr (by rw [hk]; exact Nat.le_refl _))
  obtain ⟨F', h', u'⟩ := Asrt.stars_new (A := .blk (w.heap.size + 1) (bookO g m 0 w.heap.size)) (w' := (w.alloc (.map #[] 0)).alloc (bookO g m 0 w.heap.size)) (Fn := fun k => k = w.heap.size + 1) h ⟨obj_alloc_at (Array.size_push ..).symm, rfl⟩ (((Upd.refl none' _).alloc _).re fun k hk => .inr (by rw [hk]; exact Nat.le_of_eq (Array.size_push ..)))
  refine ⟨_, rfl, F', ⟨(w.heap.size, []), rfl, h'⟩, u.trans u'⟩
/-- who holds a name -/
def holdS (g : Int) (M : LT) (nm : ByteArray) (now : Int) : Lz × Bool := match mget M nm with
  | none => (zeroL, false)
  | some x => if statS g x now = 2 then (x, true) else (zeroL, false)
abbrev TilsOk (M : LT) : Prop := ∀ p ∈ M, TilOk p.2.til
theorem mget_mem {κ V : Type} [DecidableEq κ] {M : List (κ × V)} {x : κ} {v : V} (h : mget M x = some v) : (x, v) ∈ M := by
  induction M with
  | nil => cases h
  | cons p M ih =>
    obtain ⟨k, u⟩ := p
    by_cases e : k = x
    · simp only [mget, if_pos e, Option.some.injEq] at h; subst h; subst e; exact List.mem_cons_self ..
    · simp only [mget, if_neg e] at h; exact List.mem_cons_of_mem _ (ih h)
end Go.Proofs.YtpjfakmalhenjaaDoor
