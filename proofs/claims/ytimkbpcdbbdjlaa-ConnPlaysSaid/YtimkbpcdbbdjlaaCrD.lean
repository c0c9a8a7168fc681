/- The document's connections: what is asked of one. -/
import Derived.Test.YtimkbpcdbbdjlaaCrC
set_option linter.unusedVariables false
namespace Go.Proofs.Ytimkbpcdbbdjlaa.Cr
open Go.RowKit Go.Sub Go.ChangeMaps
theorem cells_of {w : World} {v : Value} {L : List RE} (h : Reads w 6 encR v L) {i : Nat} (hi : i < L.length) {x : RE} (hx : L[i] = x) : ∃ g off ca, v = .slice (some ⟨g, off, none⟩) L.length ca ∧ g < w.heap.size ∧
    w.cell? ⟨g, off + i * 6 + 1, none⟩ = some (.int .u32 x.c.addr) ∧ w.cell? ⟨g, off + i * 6 + 2, none⟩ = some (.pointer (some ⟨x.ri, 0, none⟩)) ∧ w.cell? ⟨g, off + i * 6 + 3, none⟩ = some (.pointer (some ⟨x.ro, 0, none⟩)) ∧
    w.cell? ⟨g, off + i * 6 + 4, none⟩ = some (.int .i64 x.c.credit) ∧ w.cell? ⟨g, off + i * 6 + 5, none⟩ = some (.bool x.c.ended) := by
  obtain ⟨a, ca, e, ha⟩ := h
  obtain ⟨g, off, rfl, hg, hc⟩ := ha i x (by rw [List.getElem?_eq_getElem hi, hx])
  exact ⟨g, off, ca, e, hg, hc 1 _ rfl, hc 2 _ rfl, hc 3 _ rfl, hc 4 _ rfl, hc 5 _ rfl⟩
theorem ring_cell {r N : Nat} {B : List UInt8} {w : World} {F : Fp} (h : (rringT r N B).on w F) : ∃ a c, w.cell? ⟨r, 0, none⟩ = some (.slice a B.length c) ∧ w.cell? ⟨r, 1, none⟩ = some (.int .i64 (N : Int)) ∧ r < w.heap.size ∧ Bytes w (.slice a B.length c) B := by
  obtain ⟨v, hS⟩ := h
  obtain ⟨kc, kf, hr⟩ := box_cell (i := 0) hS rfl
  obtain ⟨_, hrow, _⟩ := Asrt.stars_get hS 1 rfl
  have hb := row_bytes hrow
  obtain ⟨a, c, rfl, _⟩ := hb.slice
  exact ⟨a, c, kc 0, kc 1, hr, hb⟩
theorem rings_cells {b : Nat} {last : Int} {v : Value} {L : List RE} {i : Nat} {x : RE} {R : Asrt} {w : World} {F : Fp} (h : (Opened b last v L i x R).on w F) :
    (∃ a c, w.cell? ⟨x.ri, 0, none⟩ = some (.slice a x.c.inn.length c) ∧ Bytes w (.slice a x.c.inn.length c) x.c.inn) ∧ (∃ a c, w.cell? ⟨x.ro, 0, none⟩ = some (.slice a x.c.out.length c) ∧ Bytes w (.slice a x.c.out.length c) x.c.out) := by
  obtain ⟨_, hg, _⟩ := Asrt.stars_get h 2 rfl
  obtain ⟨_, h1, _⟩ := Asrt.stars_get hg 0 rfl
  obtain ⟨_, h2, _⟩ := Asrt.stars_get hg 1 rfl
  obtain ⟨a, c, k, _, _, hb⟩ := ring_cell h1
  obtain ⟨a', c', k', _, _, hb'⟩ := ring_cell h2
  exact ⟨⟨a, c, k, hb⟩, ⟨a', c', k', hb'⟩⟩
set_option maxHeartbeats 1000000 in
theorem raddr_c {b : Nat} {last : Int} {M : List (Int × Con)} {w : World} {F : Fp} (hM : (crT b last M).on w F) (hl : M.length ≤ 1000000) (id : Int) :
    Calls Try.prog 76 #[.pointer (some ⟨b, 0, none⟩), .int .i64 id] w (Ret (.int .u32 (ofC M id 0 Con.addr)) fun w' => ∃ n, w' = w.drewN n) := by
  obtain ⟨v, L, k0, k1, hb, hf, rfl, hr, h⟩ := cr_open hM id
  have hlL : L.length ≤ 1000000 := by simpa using hl
  rcases h with ⟨h1, h2⟩ | ⟨i, x, R, hi, hx, hid, h1, hbef, hO, _⟩
  · have C := Keep.mk (rfind_no k0 hr hlL id h2)
    have E := Keep.mk (show (ofC (L.map RE.val) id 0 Con.addr) = 0 by unfold ofC; rw [h1])
    clear hr h2 h1 hM
    go_enter Try.func76, Try.ntmps76
    go_wp2_with fail
    refine C.out.mono ?_
    rintro e w1 ⟨rfl, rfl⟩
    go_wp2_with fail
    go_ret
    exact ⟨(by rw [E.out]; try rfl), 0, rfl⟩
  · have C := Keep.mk (rfind_at k0 hr hlL id hi (by rw [hx]; exact hid) hbef)
    obtain ⟨⟨ai, ci, ki, _⟩, ⟨ao, co, ko, _⟩⟩ := rings_cells hO
    obtain ⟨g, off, ca, rfl, hg, q1, q2, q3, q4, q5⟩ := cells_of hr hi hx
    have hneg : decide ((i : Int) < 0) = false := by simp
    have hi0 : (0 : Int) ≤ (i : Int) := by simp
    have hiL : (i : Int) < (L.length : Int) := by omega
    have E := Keep.mk (show (ofC (L.map RE.val) id 0 Con.addr) = x.c.addr by unfold ofC; rw [h1])
    clear hr h1 hM hO hbef hid hx
    obtain ⟨xid, ri, ro, ⟨addr, inn, out, credit, ended⟩⟩ := x
    simp only at *
    go_enter Try.func76, Try.ntmps76
    go_wp2_with fail
    refine C.out.mono ?_
    rintro e w1 ⟨rfl, rfl⟩
    go_wp2_with fail
    go_ret
    exact ⟨(by rw [E.out]; try rfl), 0, rfl⟩
set_option maxHeartbeats 1000000 in
theorem rcame_c {b : Nat} {last : Int} {M : List (Int × Con)} {w : World} {F : Fp} (hM : (crT b last M).on w F) (hl : M.length ≤ 1000000) (id : Int) :
    Calls Try.prog 77 #[.pointer (some ⟨b, 0, none⟩), .int .i64 id] w (Ret (.int .i64 (ofC M id 0 fun c => ((c.inn.length : Nat) : Int))) fun w' => ∃ n, w' = w.drewN n) := by
  obtain ⟨v, L, k0, k1, hb, hf, rfl, hr, h⟩ := cr_open hM id
  have hlL : L.length ≤ 1000000 := by simpa using hl
  rcases h with ⟨h1, h2⟩ | ⟨i, x, R, hi, hx, hid, h1, hbef, hO, _⟩
  · have C := Keep.mk (rfind_no k0 hr hlL id h2)
    have E := Keep.mk (show (ofC (L.map RE.val) id 0 fun c => ((c.inn.length : Nat) : Int)) = 0 by unfold ofC; rw [h1])
    clear hr h2 h1 hM
    go_enter Try.func77, Try.ntmps77
    go_wp2_with fail
    refine C.out.mono ?_
    rintro e w1 ⟨rfl, rfl⟩
    go_wp2_with fail
    go_ret
    exact ⟨(by rw [E.out]; try rfl), 0, rfl⟩
  · have C := Keep.mk (rfind_at k0 hr hlL id hi (by rw [hx]; exact hid) hbef)
    obtain ⟨⟨ai, ci, ki, _⟩, ⟨ao, co, ko, _⟩⟩ := rings_cells hO
    obtain ⟨g, off, ca, rfl, hg, q1, q2, q3, q4, q5⟩ := cells_of hr hi hx
    have hneg : decide ((i : Int) < 0) = false := by simp
    have hi0 : (0 : Int) ≤ (i : Int) := by simp
    have hiL : (i : Int) < (L.length : Int) := by omega
    have E := Keep.mk (show (ofC (L.map RE.val) id 0 fun c => ((c.inn.length : Nat) : Int)) = ((x.c.inn.length : Nat) : Int) by unfold ofC; rw [h1])
    clear hr h1 hM hO hbef hid hx
    obtain ⟨xid, ri, ro, ⟨addr, inn, out, credit, ended⟩⟩ := x
    simp only at *
    go_enter Try.func77, Try.ntmps77
    go_wp2_with fail
    refine C.out.mono ?_
    rintro e w1 ⟨rfl, rfl⟩
    go_wp2_with fail
    go_ret
    exact ⟨(by rw [E.out]; try rfl), 0, rfl⟩
set_option maxHeartbeats 1000000 in
theorem rwaits_c {b : Nat} {last : Int} {M : List (Int × Con)} {w : World} {F : Fp} (hM : (crT b last M).on w F) (hl : M.length ≤ 1000000) (id : Int) :
    Calls Try.prog 78 #[.pointer (some ⟨b, 0, none⟩), .int .i64 id] w (Ret (.int .i64 (ofC M id 0 fun c => ((c.out.length : Nat) : Int))) fun w' => ∃ n, w' = w.drewN n) := by
  obtain ⟨v, L, k0, k1, hb, hf, rfl, hr, h⟩ := cr_open hM id
  have hlL : L.length ≤ 1000000 := by simpa using hl
  rcases h with ⟨h1, h2⟩ | ⟨i, x, R, hi, hx, hid, h1, hbef, hO, _⟩
  · have C := Keep.mk (rfind_no k0 hr hlL id h2)
    have E := Keep.mk (show (ofC (L.map RE.val) id 0 fun c => ((c.out.length : Nat) : Int)) = 0 by unfold ofC; rw [h1])
    clear hr h2 h1 hM
    go_enter Try.func78, Try.ntmps78
    go_wp2_with fail
    refine C.out.mono ?_
    rintro e w1 ⟨rfl, rfl⟩
    go_wp2_with fail
    go_ret
    exact ⟨(by rw [E.out]; try rfl), 0, rfl⟩
  · have C := Keep.mk (rfind_at k0 hr hlL id hi (by rw [hx]; exact hid) hbef)
    obtain ⟨⟨ai, ci, ki, _⟩, ⟨ao, co, ko, _⟩⟩ := rings_cells hO
    obtain ⟨g, off, ca, rfl, hg, q1, q2, q3, q4, q5⟩ := cells_of hr hi hx
    have hneg : decide ((i : Int) < 0) = false := by simp
    have hi0 : (0 : Int) ≤ (i : Int) := by simp
    have hiL : (i : Int) < (L.length : Int) := by omega
    have E := Keep.mk (show (ofC (L.map RE.val) id 0 fun c => ((c.out.length : Nat) : Int)) = ((x.c.out.length : Nat) : Int) by unfold ofC; rw [h1])
    clear hr h1 hM hO hbef hid hx
    obtain ⟨xid, ri, ro, ⟨addr, inn, out, credit, ended⟩⟩ := x
    simp only at *
    go_enter Try.func78, Try.ntmps78
    go_wp2_with fail
    refine C.out.mono ?_
    rintro e w1 ⟨rfl, rfl⟩
    go_wp2_with fail
    go_ret
    exact ⟨(by rw [E.out]; try rfl), 0, rfl⟩
set_option maxHeartbeats 1000000 in
theorem rroom_c {b : Nat} {last : Int} {M : List (Int × Con)} {w : World} {F : Fp} (hM : (crT b last M).on w F) (hl : M.length ≤ 1000000) (id : Int) (hok : ∀ c, mget M id = some c → c.out.length ≤ 1024) :
    Calls Try.prog 79 #[.pointer (some ⟨b, 0, none⟩), .int .i64 id] w (Ret (.int .i64 (ofC M id 0 fun c => ((1024 - c.out.length : Nat) : Int))) fun w' => ∃ n, w' = w.drewN n) := by
  obtain ⟨v, L, k0, k1, hb, hf, rfl, hr, h⟩ := cr_open hM id
  have hlL : L.length ≤ 1000000 := by simpa using hl
  rcases h with ⟨h1, h2⟩ | ⟨i, x, R, hi, hx, hid, h1, hbef, hO, _⟩
  · have C := Keep.mk (rfind_no k0 hr hlL id h2)
    have E := Keep.mk (show (ofC (L.map RE.val) id 0 fun c => ((1024 - c.out.length : Nat) : Int)) = 0 by unfold ofC; rw [h1])
    clear hr h2 h1 hM
    go_enter Try.func79, Try.ntmps79
    go_wp2_with fail
    refine C.out.mono ?_
    rintro e w1 ⟨rfl, rfl⟩
    go_wp2_with fail
    go_ret
    exact ⟨(by rw [E.out]; try rfl), 0, rfl⟩
  · have C := Keep.mk (rfind_at k0 hr hlL id hi (by rw [hx]; exact hid) hbef)
    obtain ⟨⟨ai, ci, ki, _⟩, ⟨ao, co, ko, _⟩⟩ := rings_cells hO
    obtain ⟨g, off, ca, rfl, hg, q1, q2, q3, q4, q5⟩ := cells_of hr hi hx
    have hneg : decide ((i : Int) < 0) = false := by simp
    have hi0 : (0 : Int) ≤ (i : Int) := by simp
    have hiL : (i : Int) < (L.length : Int) := by omega
    have hcok := hok x.c h1
    have hroom : IntKind.i64.wrap (1024 - (x.c.out.length : Int)) = ((1024 - x.c.out.length : Nat) : Int) := by rw [IntKind.wrap_i64]; omega
    have E := Keep.mk (show (ofC (L.map RE.val) id 0 fun c => ((1024 - c.out.length : Nat) : Int)) = ((1024 - x.c.out.length : Nat) : Int) by unfold ofC; rw [h1])
    clear hr h1 hM hO hbef hid hx
    obtain ⟨xid, ri, ro, ⟨addr, inn, out, credit, ended⟩⟩ := x
    simp only at *
    go_enter Try.func79, Try.ntmps79
    go_wp2_with fail
    refine C.out.mono ?_
    rintro e w1 ⟨rfl, rfl⟩
    go_wp2_with fail
    go_ret
    exact ⟨(by rw [E.out]; try rfl), 0, rfl⟩
set_option maxHeartbeats 1000000 in
theorem rcredit_c {b : Nat} {last : Int} {M : List (Int × Con)} {w : World} {F : Fp} (hM : (crT b last M).on w F) (hl : M.length ≤ 1000000) (id : Int) :
    Calls Try.prog 80 #[.pointer (some ⟨b, 0, none⟩), .int .i64 id] w (Ret (.int .i64 (ofC M id 0 Con.credit)) fun w' => ∃ n, w' = w.drewN n) := by
  obtain ⟨v, L, k0, k1, hb, hf, rfl, hr, h⟩ := cr_open hM id
  have hlL : L.length ≤ 1000000 := by simpa using hl
  rcases h with ⟨h1, h2⟩ | ⟨i, x, R, hi, hx, hid, h1, hbef, hO, _⟩
  · have C := Keep.mk (rfind_no k0 hr hlL id h2)
    have E := Keep.mk (show (ofC (L.map RE.val) id 0 Con.credit) = 0 by unfold ofC; rw [h1])
    clear hr h2 h1 hM
    go_enter Try.func80, Try.ntmps80
    go_wp2_with fail
    refine C.out.mono ?_
    rintro e w1 ⟨rfl, rfl⟩
    go_wp2_with fail
    go_ret
    exact ⟨(by rw [E.out]; try rfl), 0, rfl⟩
  · have C := Keep.mk (rfind_at k0 hr hlL id hi (by rw [hx]; exact hid) hbef)
    obtain ⟨⟨ai, ci, ki, _⟩, ⟨ao, co, ko, _⟩⟩ := rings_cells hO
    obtain ⟨g, off, ca, rfl, hg, q1, q2, q3, q4, q5⟩ := cells_of hr hi hx
    have hneg : decide ((i : Int) < 0) = false := by simp
    have hi0 : (0 : Int) ≤ (i : Int) := by simp
    have hiL : (i : Int) < (L.length : Int) := by omega
    have E := Keep.mk (show (ofC (L.map RE.val) id 0 Con.credit) = x.c.credit by unfold ofC; rw [h1])
    clear hr h1 hM hO hbef hid hx
    obtain ⟨xid, ri, ro, ⟨addr, inn, out, credit, ended⟩⟩ := x
    simp only at *
    go_enter Try.func80, Try.ntmps80
    go_wp2_with fail
    refine C.out.mono ?_
    rintro e w1 ⟨rfl, rfl⟩
    go_wp2_with fail
    go_ret
    exact ⟨(by rw [E.out]; try rfl), 0, rfl⟩
set_option maxHeartbeats 1000000 in
theorem rhas_c {b : Nat} {last : Int} {M : List (Int × Con)} {w : World} {F : Fp} (hM : (crT b last M).on w F) (hl : M.length ≤ 1000000) (id : Int) :
    Calls Try.prog 75 #[.pointer (some ⟨b, 0, none⟩), .int .i64 id] w (Ret (.bool (ofC M id false fun _ => true)) fun w' => ∃ n, w' = w.drewN n) := by
  obtain ⟨v, L, k0, k1, hb, hf, rfl, hr, h⟩ := cr_open hM id
  have hlL : L.length ≤ 1000000 := by simpa using hl
  rcases h with ⟨h1, h2⟩ | ⟨i, x, R, hi, hx, hid, h1, hbef, hO, _⟩
  · have C := Keep.mk (rfind_no k0 hr hlL id h2)
    have E := Keep.mk (show (ofC (L.map RE.val) id false fun _ => true) = false by unfold ofC; rw [h1])
    clear hr h2 h1 hM
    go_enter Try.func75, Try.ntmps75
    go_wp2_with fail
    refine C.out.mono ?_
    rintro e w1 ⟨rfl, rfl⟩
    go_wp2_with fail
    go_ret
    exact ⟨(by rw [E.out]; try rfl), 0, rfl⟩
  · have C := Keep.mk (rfind_at k0 hr hlL id hi (by rw [hx]; exact hid) hbef)
    obtain ⟨⟨ai, ci, ki, _⟩, ⟨ao, co, ko, _⟩⟩ := rings_cells hO
    obtain ⟨g, off, ca, rfl, hg, q1, q2, q3, q4, q5⟩ := cells_of hr hi hx
    have hneg : decide ((i : Int) < 0) = false := by simp
    have hi0 : (0 : Int) ≤ (i : Int) := by simp
    have hiL : (i : Int) < (L.length : Int) := by omega
    have E := Keep.mk (show (ofC (L.map RE.val) id false fun _ => true) = true by unfold ofC; rw [h1])
    clear hr h1 hM hO hbef hid hx
    obtain ⟨xid, ri, ro, ⟨addr, inn, out, credit, ended⟩⟩ := x
    simp only at *
    go_enter Try.func75, Try.ntmps75
    go_wp2_with fail
    refine C.out.mono ?_
    rintro e w1 ⟨rfl, rfl⟩
    go_wp2_with fail
    go_ret
    exact ⟨(by rw [E.out]; try rfl), 0, rfl⟩
set_option maxHeartbeats 1000000 in
theorem rended_c {b : Nat} {last : Int} {M : List (Int × Con)} {w : World} {F : Fp} (hM : (crT b last M).on w F) (hl : M.length ≤ 1000000) (id : Int) :
    Calls Try.prog 81 #[.pointer (some ⟨b, 0, none⟩), .int .i64 id] w (Ret (.bool (ofC M id false Con.ended)) fun w' => ∃ n, w' = w.drewN n) := by
  obtain ⟨v, L, k0, k1, hb, hf, rfl, hr, h⟩ := cr_open hM id
  have hlL : L.length ≤ 1000000 := by simpa using hl
  rcases h with ⟨h1, h2⟩ | ⟨i, x, R, hi, hx, hid, h1, hbef, hO, _⟩
  · have C := Keep.mk (rfind_no k0 hr hlL id h2)
    have E := Keep.mk (show (ofC (L.map RE.val) id false Con.ended) = false by unfold ofC; rw [h1])
    clear hr h2 h1 hM
    go_enter Try.func81, Try.ntmps81
    go_wp2_with fail
    refine C.out.mono ?_
    rintro e w1 ⟨rfl, rfl⟩
    go_wp2_with fail
    go_ret
    exact ⟨(by rw [E.out]; try rfl), 0, rfl⟩
  · have C := Keep.mk (rfind_at k0 hr hlL id hi (by rw [hx]; exact hid) hbef)
    obtain ⟨⟨ai, ci, ki, _⟩, ⟨ao, co, ko, _⟩⟩ := rings_cells hO
    obtain ⟨g, off, ca, rfl, hg, q1, q2, q3, q4, q5⟩ := cells_of hr hi hx
    have hneg : decide ((i : Int) < 0) = false := by simp
    have hi0 : (0 : Int) ≤ (i : Int) := by simp
    have hiL : (i : Int) < (L.length : Int) := by omega
    have E := Keep.mk (show (ofC (L.map RE.val) id false Con.ended) = x.c.ended by unfold ofC; rw [h1])
    clear hr h1 hM hO hbef hid hx
    obtain ⟨xid, ri, ro, ⟨addr, inn, out, credit, ended⟩⟩ := x
    simp only at *
    go_enter Try.func81, Try.ntmps81
    go_wp2_with fail
    refine C.out.mono ?_
    rintro e w1 ⟨rfl, rfl⟩
    go_wp2_with fail
    go_ret
    exact ⟨(by rw [E.out]; try rfl), 0, rfl⟩
end Go.Proofs.Ytimkbpcdbbdjlaa.Cr
