/- The table of connections: the functions that are asked of one. -/
import Derived.Test.YtimkbpcdbbdjlaaConnB
import Derived.Deep.RegionHeld3
import Derived.Deep.RegionLaw
import Derived.StillTailTactics
namespace Go.Proofs.Ytimkbpcdbbdjlaa
open Go.RowKit Go.Sub Go.ChangeMaps
theorem con_open {cb ri ro : Nat} {c : Con} {w : World} {F : Fp} (h : (conT cb ri ro c).on w F) :
    w.cell? ⟨cb, 0, none⟩ = some (.int .u32 c.addr) ∧ w.cell? ⟨cb, 1, none⟩ = some (.pointer (some ⟨ri, 0, none⟩)) ∧ w.cell? ⟨cb, 2, none⟩ = some (.pointer (some ⟨ro, 0, none⟩)) ∧ w.cell? ⟨cb, 3, none⟩ = some (.int .i64 c.credit) ∧ w.cell? ⟨cb, 4, none⟩ = some (.bool c.ended) ∧
    cb < w.heap.size ∧ (∀ j, w.frozen? ⟨cb, j, none⟩ = false) := by
  obtain ⟨hc, hf, hl⟩ := Asrt.blk_of h 0 rfl
  exact ⟨hc 0, hc 1, hc 2, hc 3, hc 4, hl, hf⟩
/-- one cell of a connection is set -/
theorem con_set {cb ri ro : Nat} {c c' : Con} {w : World} {F : Fp} (h : (conT cb ri ro c).on w F) (i : Nat) (v : Value) (he : conB ri ro c' = .cells ((#[Value.int .u32 c.addr, .pointer (some ⟨ri, 0, none⟩), .pointer (some ⟨ro, 0, none⟩), .int .i64 c.credit, .bool c.ended]).setIfInBounds i v) 71 (0, 0)) (hi : c'.inn = c.inn) (ho : c'.out = c.out) :
    ∃ F', (conT cb ri ro c').on (w.setCell ⟨cb, i, none⟩ v) F' ∧ Upd F F' w (w.setCell ⟨cb, i, none⟩ v) := by
  obtain ⟨Fb, hb, _, hgo⟩ := Asrt.stars_upd _ 0 _ rfl h
  obtain ⟨b1, u1⟩ := blk_set hb i v
  obtain ⟨F', h', u'⟩ := hgo _ _ (.blk cb (conB ri ro c')) (by rw [he]; exact b1) u1
  exact ⟨F', by rw [conT, hi, ho]; exact h', u'⟩
theorem zero_drewN (w : World) (n : Nat) : Upd none' none' w (w.drewN n) := (Upd.refl none' w).drewN n
set_option maxHeartbeats 400000 in
theorem addr1_c {cb ri ro : Nat} {c : Con} {w : World} {F : Fp} (h : (conT cb ri ro c).on w F) : Calls Try.prog 48 #[.pointer (some ⟨cb, 0, none⟩)] w (Ret (.int .u32 c.addr) fun w' => w = w') := by
  obtain ⟨c0, c1, c2, c3, c4, hl, hf⟩ := con_open h
  go_enter Try.func48, Try.ntmps48
  go_wp2_with fail
  go_returns
  exact ⟨rfl, rfl⟩
set_option maxHeartbeats 400000 in
theorem has1_c {cb ri ro : Nat} {c : Con} {w : World} {F : Fp} (h : (conT cb ri ro c).on w F) : Calls Try.prog 52 #[.pointer (some ⟨cb, 0, none⟩)] w (Ret (.bool true) fun w' => w = w') := by
  obtain ⟨c0, c1, c2, c3, c4, hl, hf⟩ := con_open h
  go_enter Try.func52, Try.ntmps52
  go_wp2_with fail
  go_returns
  exact ⟨rfl, rfl⟩
set_option maxHeartbeats 400000 in
theorem credit1_c {cb ri ro : Nat} {c : Con} {w : World} {F : Fp} (h : (conT cb ri ro c).on w F) : Calls Try.prog 61 #[.pointer (some ⟨cb, 0, none⟩)] w (Ret (.int .i64 c.credit) fun w' => w = w') := by
  obtain ⟨c0, c1, c2, c3, c4, hl, hf⟩ := con_open h
  go_enter Try.func61, Try.ntmps61
  go_wp2_with fail
  go_returns
  exact ⟨rfl, rfl⟩
set_option maxHeartbeats 400000 in
theorem ended1_c {cb ri ro : Nat} {c : Con} {w : World} {F : Fp} (h : (conT cb ri ro c).on w F) : Calls Try.prog 62 #[.pointer (some ⟨cb, 0, none⟩)] w (Ret (.bool c.ended) fun w' => w = w') := by
  obtain ⟨c0, c1, c2, c3, c4, hl, hf⟩ := con_open h
  go_enter Try.func62, Try.ntmps62
  go_wp2_with fail
  go_returns
  exact ⟨rfl, rfl⟩
set_option maxHeartbeats 400000 in
theorem came1_c {cb ri ro : Nat} {c : Con} {w : World} {F : Fp} (h : (conT cb ri ro c).on w F) : Calls Try.prog 64 #[.pointer (some ⟨cb, 0, none⟩)] w (Ret (.int .i64 (c.inn.length : Nat)) fun w' => w = w') := by
  obtain ⟨c0, c1, c2, c3, c4, hl, hf⟩ := con_open h
  obtain ⟨_, hr, _⟩ := Asrt.stars_get h 1 rfl
  go_enter Try.func64, Try.ntmps64
  go_wp2_with fail
  refine (many_c hr).mono ?_
  rintro e w1 ⟨rfl, rfl⟩
  go_wp2_with fail
  go_returns
  exact ⟨rfl, rfl⟩
set_option maxHeartbeats 400000 in
theorem waits1_c {cb ri ro : Nat} {c : Con} {w : World} {F : Fp} (h : (conT cb ri ro c).on w F) : Calls Try.prog 59 #[.pointer (some ⟨cb, 0, none⟩)] w (Ret (.int .i64 (c.out.length : Nat)) fun w' => w = w') := by
  obtain ⟨c0, c1, c2, c3, c4, hl, hf⟩ := con_open h
  obtain ⟨_, hr, _⟩ := Asrt.stars_get h 2 rfl
  go_enter Try.func59, Try.ntmps59
  go_wp2_with fail
  refine (many_c hr).mono ?_
  rintro e w1 ⟨rfl, rfl⟩
  go_wp2_with fail
  go_returns
  exact ⟨rfl, rfl⟩
set_option maxHeartbeats 400000 in
theorem room1_c {cb ri ro : Nat} {c : Con} {w : World} {F : Fp} (h : (conT cb ri ro c).on w F) : Calls Try.prog 53 #[.pointer (some ⟨cb, 0, none⟩)] w (Ret (.int .i64 ((1024 - c.out.length : Nat))) fun w' => ∃ n, w' = w.drewN n) := by
  obtain ⟨c0, c1, c2, c3, c4, hl, hf⟩ := con_open h
  obtain ⟨_, hr, _⟩ := Asrt.stars_get h 2 rfl
  have RC := room_c hr
  generalize 1024 - c.out.length = z at *
  go_enter Try.func53, Try.ntmps53
  go_wp2_with fail
  refine RC.mono ?_
  rintro e w1 ⟨rfl, n, rfl⟩
  go_wp2_with fail
  go_returns
  exact ⟨rfl, n, rfl⟩
set_option maxHeartbeats 400000 in
theorem half1_c {cb ri ro : Nat} {c : Con} {w : World} {F : Fp} (h : (conT cb ri ro c).on w F) : Calls Try.prog 63 #[.pointer (some ⟨cb, 0, none⟩)] w (Ret (.bool (!c.ended)) fun w' => ∃ F', (conT cb ri ro { c with ended := true }).on w' F' ∧ Upd F F' w w') := by
  obtain ⟨c0, c1, c2, c3, c4, hl, hf⟩ := con_open h
  have FIN := con_set (c' := { c with ended := true }) h 4 (.bool true) rfl rfl rfl
  have FIN := Keep.mk FIN
  go_enter Try.func63, Try.ntmps63
  go_wp2_with fail
  go_returns
  exact ⟨rfl, FIN.out⟩
set_option maxHeartbeats 1000000 in
set_option maxRecDepth 100000 in
theorem budget1_no {cb ri ro bx : Nat} {c : Con} {w : World} {F : Fp} (h : (conT cb ri ro c).on w F) {n : Int} (hx : w.cell? ⟨bx, 0, none⟩ = some (.int .i64 n)) (hn : n < 0 ∨ 1073741824 < n) :
    Calls Try.prog 56 #[.pointer (some ⟨cb, 0, none⟩), .pointer (some ⟨bx, 0, none⟩)] w (Ret (.bool false) fun w' => w = w') := by
  by_cases h0 : n < 0
  · have e0 : decide (n < 0) = true := by simp [h0]
    clear hn h0
    go_enter Try.func56, Try.ntmps56
    go_wp2_with fail
    go_returns
    exact ⟨rfl, rfl⟩
  · have e0 : decide (n < 0) = false := by simp [h0]
    have e1 : decide (1073741824 < n) = true := by rw [decide_eq_true_eq]; omega
    clear hn h0
    go_enter Try.func56, Try.ntmps56
    go_wp2_with fail
    go_returns
    exact ⟨rfl, rfl⟩
set_option maxHeartbeats 1000000 in
set_option maxRecDepth 100000 in
theorem budget1_yes {cb ri ro bx : Nat} {c : Con} {w : World} {F : Fp} (h : (conT cb ri ro c).on w F) {n : Int} (hx : w.cell? ⟨bx, 0, none⟩ = some (.int .i64 n)) (h0 : 0 ≤ n) (h1 : n ≤ 1073741824) (k0 : 0 ≤ c.credit) (k1 : c.credit ≤ 1073741824) :
    Calls Try.prog 56 #[.pointer (some ⟨cb, 0, none⟩), .pointer (some ⟨bx, 0, none⟩)] w (Ret (.bool true) fun w' => ∃ F', (conT cb ri ro { c with credit := min (c.credit + n) 1073741824 }).on w' F' ∧ Upd F F' w w') := by
  obtain ⟨c0, c1, c2, c3, c4, hl, hf⟩ := con_open h
  have e0 : decide (n < 0) = false := by rw [decide_eq_false_iff_not]; omega
  have e1 : decide (1073741824 < n) = false := by rw [decide_eq_false_iff_not]; omega
  have e2 : IntKind.i64.wrap (c.credit + n) = c.credit + n := by rw [IntKind.wrap_i64]; omega
  have FIN := con_set (c' := { c with credit := min (c.credit + n) 1073741824 }) h 3 (.int .i64 (min (c.credit + n) 1073741824)) rfl rfl rfl
  have FIN := Keep.mk FIN
  clear h0 h1 k0 k1 h
  go_enter Try.func56, Try.ntmps56
  go_wp2_with fail
  go_region
  go_wp2_with fail
  go_returns
  obtain ⟨F', h', u'⟩ := FIN.out
  exact ⟨rfl, F', Asrt.drew h', u'.drew⟩
set_option maxHeartbeats 1000000 in
set_option maxRecDepth 100000 in
theorem feed1_c {cb ri ro bx : Nat} {c : Con} {w : World} {F : Fp} (h : (conT cb ri ro c).on w F) {v : Value} {b : List UInt8} (hx : w.cell? ⟨bx, 0, none⟩ = some v) (hb : Bytes w v b) (hd : ∀ g, v.ownBlock = some g → b ≠ [] → ¬ F g) (hl : b.length ≤ 1000000) (he : c.ended = false) :
    Calls Try.prog 41 #[.pointer (some ⟨cb, 0, none⟩), .pointer (some ⟨bx, 0, none⟩)] w (Ret (.int .i64 ((min b.length (512 - c.inn.length) : Nat))) fun w' => ∃ F', (conT cb ri ro { c with inn := c.inn ++ b.take (min b.length (512 - c.inn.length)) }).on w' F' ∧ Upd F F' w w') := by
  obtain ⟨c0, c1, c2, c3, c4, hcl, hf⟩ := con_open h
  rw [he] at c4
  obtain ⟨Fr, hr, hsub, hgo⟩ := Asrt.stars_upd _ 1 _ rfl h
  have AC := add_c (Asrt.drew hr) (hb.upd (zero_drewN w 1) fun _ _ _ h => h) (fun g hg hn hF => hd g hg hn (hsub g hF)) hl
  obtain ⟨av, cv, rfl, _⟩ := hb.slice
  generalize min b.length (512 - c.inn.length) = n at *
  have AC := Keep.mk AC
  clear h hr he hb
  go_enter Try.func41, Try.ntmps41
  go_wp2_with fail
  go_still_tail 5, (by kernel_rfl)
  go_wp2_with fail
  refine AC.out.mono ?_
  rintro e w1 ⟨rfl, F1, h1, u1⟩
  go_wp2_with fail
  go_returns
  obtain ⟨F', h', u'⟩ := hgo w1 F1 _ h1 ((Upd.refl Fr w).drew.trans u1)
  exact ⟨rfl, F', h', u'⟩
set_option maxHeartbeats 400000 in
theorem feed1_ended {cb ri ro bx : Nat} {c : Con} {w : World} {F : Fp} (h : (conT cb ri ro c).on w F) (he : c.ended = true) :
    Calls Try.prog 41 #[.pointer (some ⟨cb, 0, none⟩), .pointer (some ⟨bx, 0, none⟩)] w (Ret (.int .i64 0) fun w' => w = w') := by
  obtain ⟨c0, c1, c2, c3, c4, hcl, hf⟩ := con_open h
  rw [he] at c4
  clear h he
  go_enter Try.func41, Try.ntmps41
  go_wp2_with fail
  go_returns
  exact ⟨rfl, rfl⟩
end Go.Proofs.Ytimkbpcdbbdjlaa
