/- The document's ports: counts, taken, Next. -/
import Derived.Test.YtpjfakmalhenjaaDoorPortsE
set_option linter.unusedVariables false
namespace Go.Proofs.YtpjfakmalhenjaaDoor
open Go.RowKit Go.Sub Go.Shelf Go.Sort Go.ChangeMaps
def cntB (x : Lz) : Bool := decide (0 ≤ x.til) && decide (x.til ≤ 2199023255552)
set_option maxHeartbeats 400000 in
theorem counts_c {w : World} (x : Lz) : Calls Tryd.prog 42 #[aggL x] w (Ret (.bool (cntB x)) fun w' => Quiet w w') := by
  obtain ⟨x0, x1, x2, x3, til, held⟩ := x
  unfold cntB
  simp only
  by_cases h0 : 0 ≤ til
  · have e0 : decide (0 ≤ til) = true := by simpa using h0
    rw [e0]
    clear h0
    go_enter Tryd.func42, Tryd.ntmps42
    go_wp2_with fail
    go_ret
    exact ⟨rfl, (Upd.refl none' w).alloc _⟩
  · have e0 : decide (0 ≤ til) = false := by simpa using h0
    rw [e0]
    clear h0
    go_enter Tryd.func42, Tryd.ntmps42
    go_wp2_with fail
    go_ret
    exact ⟨rfl, (Upd.refl none' w).alloc _⟩
/-- is it that name's, and so? -/
def hitS (nm : ByteArray) (so : Lz → Bool) (x : Lz) : Bool := (x.name.toList == nm.toList) && so x
theorem any_snoc {f : Lz → Bool} {L : List Lz} {k : Nat} (hk : k < L.length) (h : (L.take k).any f = false) (hx : f L[k] = false) : (L.take (k + 1)).any f = false := by
  rw [List.take_succ_eq_append_getElem hk, List.any_append, h]
  simp [hx]
theorem any_hit {f : Lz → Bool} {L : List Lz} {k : Nat} (hk : k < L.length) (hx : f L[k] = true) : L.any f = true := List.any_eq_true.2 ⟨_, List.getElem_mem hk, hx⟩
theorem so_val {grace : Int} {tenant : ByteArray} {now : Int} {x : Lz} (h1 : ¬ x.til < 0) (h2 : ¬ 2199023255552 < x.til) : soNext grace tenant now x =
    if x.held = true then (if now < x.til then true else decide (now < x.til + grace) && !(x.tenant.toList == tenant.toList)) else decide (now < x.til) && !(x.tenant.toList == tenant.toList) := by
  unfold soNext; rw [if_neg (fun h => h.elim h1 h2)]
set_option maxHeartbeats 16000000 in
set_option maxRecDepth 100000 in
theorem taken_c {w : World} (v : Value) (L : List Lz) (hv : Reads w 6 encL v L) (hl : L.length ≤ 1000000) (grace : Int) (tenant : ByteArray) (now : Int) (nm : ByteArray) (g0 : 1 ≤ grace) (g1 : grace ≤ 1073741824) (n0 : 0 ≤ now) (n1 : now ≤ 1099511627776) :
    Calls Tryd.prog 26 #[v, .int .i64 grace, .string tenant, .int .i64 now, .string nm] w (Ret (.bool (L.any (hitS nm (soNext grace tenant now)))) fun w' => Quiet w w') := by
  obtain ⟨a, cap, rfl, ha⟩ := hv
  have HA := Keep.mk ha
  clear ha
  go_enter Tryd.func26, Tryd.ntmps26
  go_wp2_with fail
  go_loopw [11] (fun i wr => ∃ k : Nat, k ≤ L.length ∧ i = .int .i64 (k : Nat) ∧ Quiet w wr ∧ (L.take k).any (hitS nm (soNext grace tenant now)) = false) (fun i _ => L.length - (intOf i).toNat)
  case atStart => exact ⟨0, by omega, rfl, Upd.refl _ _, by simp⟩
  case round =>
    obtain ⟨k, hk, rfl, hQ, hany⟩ := hrel
    replace hany := Keep.mk hany
    by_cases hlt : k < L.length
    · obtain ⟨g, off, rfl, hg, hc⟩ := HA.out k L[k] (List.getElem?_eq_getElem hlt)
      have hno := Keep.mk (fun h => any_snoc (f := hitS nm (soNext grace tenant now)) hlt hany.out h)
      have hyes := Keep.mk (fun h => any_hit (f := hitS nm (soNext grace tenant now)) hlt h)
      have hcl : ∀ j u, (encL L[k])[j]? = some u → wr.cell? ⟨g, off + k * 6 + j, none⟩ = some u := fun j u hu => by rw [hQ.cell hg fun h => h]; exact hc j u hu
      generalize L[k] = x at *
      obtain ⟨x0, x1, x2, x3, til, held⟩ := x
      have k0 : wr.cell? ⟨g, off + k * 6, none⟩ = some (.string x0) := hcl 0 _ rfl
      have k1 : wr.cell? ⟨g, off + k * 6 + 1, none⟩ = some (.string x1) := hcl 1 _ rfl
      have k2 : wr.cell? ⟨g, off + k * 6 + 2, none⟩ = some (.int .i64 x2) := hcl 2 _ rfl
      have k3 : wr.cell? ⟨g, off + k * 6 + 3, none⟩ = some (.int .i64 x3) := hcl 3 _ rfl
      have k4 : wr.cell? ⟨g, off + k * 6 + 4, none⟩ = some (.int .i64 til) := hcl 4 _ rfl
      have k5 : wr.cell? ⟨g, off + k * 6 + 5, none⟩ = some (.bool held) := hcl 5 _ rfl
      obtain ⟨F4, S4, u4⟩ := Asrt.stars_box (l := []) (w := wr) (F := none') rfl (boxL ⟨x0, x1, x2, x3, til, held⟩)
      have Q4 := (hQ.trans u4).quiet
      have CC := Keep.mk (counts_c (w := wr.alloc (boxL ⟨x0, x1, x2, x3, til, held⟩)) ⟨x0, x1, x2, x3, til, held⟩)
      clear hc hcl u4
      cases hne : (x0.toList == nm.toList) with
      | false =>
        have hh := Keep.mk (hno.out (by simp [hitS, hne]))
        go_wp2_with fail
        go_roundw
        case rel => exact ⟨k + 1, by omega, by go_num, Q4, hh.out⟩
        case measure => simp [intOf]; omega
      | true =>
        cases hcn : cntB ⟨x0, x1, x2, x3, til, held⟩ with
        | false =>
          rw [hcn] at CC
          have hh := Keep.mk (hno.out (by
            have : soNext grace tenant now ⟨x0, x1, x2, x3, til, held⟩ = false := by
              unfold soNext; rw [if_pos ?_]
              simp only [cntB, Bool.and_eq_false_iff, decide_eq_false_iff_not] at hcn
              simp only; omega
            simp [hitS, this]))
          clear hcn
          go_wp2_with fail
          refine CC.out.mono ?_
          rintro e w2 ⟨rfl, q2⟩
          have Q2 := Q4.trans q2
          go_wp2_with fail
          go_roundw
          case rel => exact ⟨k + 1, by omega, by go_num, Q2, hh.out⟩
          case measure => simp [intOf]; omega
        | true =>
          rw [hcn] at CC
          have hr : ¬ til < 0 ∧ ¬ 2199023255552 < til := by
            simp only [cntB, Bool.and_eq_true, decide_eq_true_eq] at hcn
            omega
          have SO := so_val (grace := grace) (tenant := tenant) (now := now) (x := ⟨x0, x1, x2, x3, til, held⟩) hr.1 hr.2
          simp only at SO
          obtain ⟨r0, r1⟩ := hr
          clear hcn
          cases held with
          | true =>
            by_cases h3 : now < til
            · have e4 : decide (now < til) = true := by simpa using h3
              have hs : soNext grace tenant now ⟨x0, x1, x2, x3, til, true⟩ = true := by rw [SO]; simp [h3]
              have hh := Keep.mk (hyes.out (by simp only [hitS, hne, hs]; rfl))
              clear hs SO h3
              go_wp2_with fail
              refine CC.out.mono ?_
              rintro e w2 ⟨rfl, q2⟩
              have Q2 := Q4.trans q2
              obtain ⟨S', _⟩ := Asrt.stars_same S4 q2
              obtain ⟨kc, _, _⟩ := box_cell (i := 0) S' rfl
              have j1 : w2.cell? ⟨wr.heap.size, 1, none⟩ = some (.string x1) := kc 1
              have j4 : w2.cell? ⟨wr.heap.size, 4, none⟩ = some (.int .i64 til) := kc 4
              have j5 : w2.cell? ⟨wr.heap.size, 5, none⟩ = some (.bool true) := kc 5
              clear kc S' q2
              go_wp2_with fail
              go_ret
              exact ⟨by rw [hh.out]; rfl, Q2⟩
            · have e4 : decide (now < til) = false := by simpa using h3
              by_cases h4 : now < til + grace
              · have e5 : decide (now < til + grace) = true := by simpa using h4
                cases ht : (x1.toList == tenant.toList) with
                | true =>
                  have hs : soNext grace tenant now ⟨x0, x1, x2, x3, til, true⟩ = false := by rw [SO, ht]; simp [h3]
                  have hh := Keep.mk (hno.out (by simp only [hitS, hne, hs]; rfl))
                  clear hs SO h3 h4
                  go_wp2_with fail
                  refine CC.out.mono ?_
                  rintro e w2 ⟨rfl, q2⟩
                  have Q2 := Q4.trans q2
                  obtain ⟨S', _⟩ := Asrt.stars_same S4 q2
                  obtain ⟨kc, _, _⟩ := box_cell (i := 0) S' rfl
                  have j1 : w2.cell? ⟨wr.heap.size, 1, none⟩ = some (.string x1) := kc 1
                  have j4 : w2.cell? ⟨wr.heap.size, 4, none⟩ = some (.int .i64 til) := kc 4
                  have j5 : w2.cell? ⟨wr.heap.size, 5, none⟩ = some (.bool true) := kc 5
                  clear kc S' q2
                  go_wp2_with fail
                  go_roundw
                  case rel => exact ⟨k + 1, by omega, by go_num, Q2, hh.out⟩
                  case measure => simp [intOf]; omega
                | false =>
                  have hs : soNext grace tenant now ⟨x0, x1, x2, x3, til, true⟩ = true := by rw [SO, ht]; simp [h3, h4]
                  have hh := Keep.mk (hyes.out (by simp only [hitS, hne, hs]; rfl))
                  clear hs SO h3 h4
                  go_wp2_with fail
                  refine CC.out.mono ?_
                  rintro e w2 ⟨rfl, q2⟩
                  have Q2 := Q4.trans q2
                  obtain ⟨S', _⟩ := Asrt.stars_same S4 q2
                  obtain ⟨kc, _, _⟩ := box_cell (i := 0) S' rfl
                  have j1 : w2.cell? ⟨wr.heap.size, 1, none⟩ = some (.string x1) := kc 1
                  have j4 : w2.cell? ⟨wr.heap.size, 4, none⟩ = some (.int .i64 til) := kc 4
                  have j5 : w2.cell? ⟨wr.heap.size, 5, none⟩ = some (.bool true) := kc 5
                  clear kc S' q2
                  go_wp2_with fail
                  go_ret
                  exact ⟨by rw [hh.out]; rfl, Q2⟩
              · have e5 : decide (now < til + grace) = false := by simpa using h4
                have hs : soNext grace tenant now ⟨x0, x1, x2, x3, til, true⟩ = false := by rw [SO]; simp [h3, h4]
                have hh := Keep.mk (hno.out (by simp only [hitS, hne, hs]; rfl))
                clear hs SO h3 h4
                go_wp2_with fail
                refine CC.out.mono ?_
                rintro e w2 ⟨rfl, q2⟩
                have Q2 := Q4.trans q2
                obtain ⟨S', _⟩ := Asrt.stars_same S4 q2
                obtain ⟨kc, _, _⟩ := box_cell (i := 0) S' rfl
                have j1 : w2.cell? ⟨wr.heap.size, 1, none⟩ = some (.string x1) := kc 1
                have j4 : w2.cell? ⟨wr.heap.size, 4, none⟩ = some (.int .i64 til) := kc 4
                have j5 : w2.cell? ⟨wr.heap.size, 5, none⟩ = some (.bool true) := kc 5
                clear kc S' q2
                go_wp2_with fail
                go_roundw
                case rel => exact ⟨k + 1, by omega, by go_num, Q2, hh.out⟩
                case measure => simp [intOf]; omega
          | false =>
            by_cases h3 : now < til
            · have e4 : decide (now < til) = true := by simpa using h3
              cases ht : (x1.toList == tenant.toList) with
              | true =>
                have hs : soNext grace tenant now ⟨x0, x1, x2, x3, til, false⟩ = false := by rw [SO, ht]; simp
                have hh := Keep.mk (hno.out (by simp only [hitS, hne, hs]; rfl))
                clear hs SO h3
                go_wp2_with fail
                refine CC.out.mono ?_
                rintro e w2 ⟨rfl, q2⟩
                have Q2 := Q4.trans q2
                obtain ⟨S', _⟩ := Asrt.stars_same S4 q2
                obtain ⟨kc, _, _⟩ := box_cell (i := 0) S' rfl
                have j1 : w2.cell? ⟨wr.heap.size, 1, none⟩ = some (.string x1) := kc 1
                have j4 : w2.cell? ⟨wr.heap.size, 4, none⟩ = some (.int .i64 til) := kc 4
                have j5 : w2.cell? ⟨wr.heap.size, 5, none⟩ = some (.bool false) := kc 5
                clear kc S' q2
                go_wp2_with fail
                go_roundw
                case rel => exact ⟨k + 1, by omega, by go_num, Q2, hh.out⟩
                case measure => simp [intOf]; omega
              | false =>
                have hs : soNext grace tenant now ⟨x0, x1, x2, x3, til, false⟩ = true := by rw [SO, ht]; simp [h3]
                have hh := Keep.mk (hyes.out (by simp only [hitS, hne, hs]; rfl))
                clear hs SO h3
                go_wp2_with fail
                refine CC.out.mono ?_
                rintro e w2 ⟨rfl, q2⟩
                have Q2 := Q4.trans q2
                obtain ⟨S', _⟩ := Asrt.stars_same S4 q2
                obtain ⟨kc, _, _⟩ := box_cell (i := 0) S' rfl
                have j1 : w2.cell? ⟨wr.heap.size, 1, none⟩ = some (.string x1) := kc 1
                have j4 : w2.cell? ⟨wr.heap.size, 4, none⟩ = some (.int .i64 til) := kc 4
                have j5 : w2.cell? ⟨wr.heap.size, 5, none⟩ = some (.bool false) := kc 5
                clear kc S' q2
                go_wp2_with fail
                go_ret
                exact ⟨by rw [hh.out]; rfl, Q2⟩
            · have e4 : decide (now < til) = false := by simpa using h3
              have hs : soNext grace tenant now ⟨x0, x1, x2, x3, til, false⟩ = false := by rw [SO]; simp [h3]
              have hh := Keep.mk (hno.out (by simp only [hitS, hne, hs]; rfl))
              clear hs SO h3
              go_wp2_with fail
              refine CC.out.mono ?_
              rintro e w2 ⟨rfl, q2⟩
              have Q2 := Q4.trans q2
              obtain ⟨S', _⟩ := Asrt.stars_same S4 q2
              obtain ⟨kc, _, _⟩ := box_cell (i := 0) S' rfl
              have j1 : w2.cell? ⟨wr.heap.size, 1, none⟩ = some (.string x1) := kc 1
              have j4 : w2.cell? ⟨wr.heap.size, 4, none⟩ = some (.int .i64 til) := kc 4
              have j5 : w2.cell? ⟨wr.heap.size, 5, none⟩ = some (.bool false) := kc 5
              clear kc S' q2
              go_wp2_with fail
              go_roundw
              case rel => exact ⟨k + 1, by omega, by go_num, Q2, hh.out⟩
              case measure => simp [intOf]; omega
    · obtain rfl : k = L.length := by omega
      have hh := hany.out
      rw [List.take_length] at hh
      replace hh := Keep.mk hh
      go_wp2_with fail
      go_ret
      exact ⟨by rw [hh.out]; rfl, hQ⟩
/-- what is marked is what is hit -/
theorem hit_port (so : Lz → Bool) (L : List Lz) {j : Nat} (hj : j < 64) : (L.any (hitS (strB (nameS (20000 + (j : Int)))) so) = true) ↔ (markS so L).getD j 0 ≠ 0 := by
  rw [Ne, markS_zero so L hj, List.any_eq_true]
  have key : ∀ x : Lz, hitS (strB (nameS (20000 + (j : Int)))) so x = isPort so j x := fun x => by
    unfold hitS isPort
    congr 1
    rw [ByteArray.toList_eq, ByteArray.toList_eq, strB_toList, Bool.eq_iff_iff, beq_iff_eq, decide_eq_true_eq, portS_iff]
    exact ⟨fun h => ⟨by omega, by omega, h⟩, fun h => h.2.2⟩
  constructor
  · rintro ⟨x, hx, h⟩ hall
    have := hall x hx
    rw [← key, h] at this
    cases this
  · intro h
    refine Classical.byContradiction fun hn => h fun x hx => ?_
    rw [← key]
    cases hb : hitS (strB (nameS (20000 + (j : Int)))) so x with
    | false => rfl
    | true => exact absurd ⟨x, hx, hb⟩ hn
theorem hit_no {so : Lz → Bool} {L : List Lz} {j : Nat} (hj : j < 64) (h : (markS so L).getD j 0 = 0) : L.any (hitS (strB (nameS (20000 + (j : Int)))) so) = false := by
  cases hb : L.any (hitS (strB (nameS (20000 + (j : Int)))) so) with
  | false => rfl
  | true => exact absurd h ((hit_port so L hj).1 hb)

set_option maxHeartbeats 400000 in
theorem next22_g0 {w : World} (v : Value) (L : List Lz) (grace : Int) (tenant : ByteArray) (now : Int) (h0 : grace < 1) (a : Option Addr) (n cap : Nat) (hv : v = .slice a n cap) :
    Calls Tryd.prog 11 #[v, .int .i64 grace, .string tenant, .int .i64 now] w (PNextEnds grace tenant now L w) := by
  subst hv
  have e : nextP grace tenant now L = none := by unfold nextP; rw [if_pos (by omega)]
  unfold PNextEnds
  rw [e]
  clear e
  have e0 : decide (grace < 1) = true := by simp; omega
  clear h0
  go_enter Tryd.func11, Tryd.ntmps11
  go_wp2_with fail
  go_ret2
  exact ⟨rfl, Upd.refl _ _⟩
set_option maxHeartbeats 400000 in
theorem next22_g1 {w : World} (v : Value) (L : List Lz) (grace : Int) (tenant : ByteArray) (now : Int) (h0 : ¬ grace < 1) (h1 : 1073741824 < grace) (a : Option Addr) (n cap : Nat) (hv : v = .slice a n cap) :
    Calls Tryd.prog 11 #[v, .int .i64 grace, .string tenant, .int .i64 now] w (PNextEnds grace tenant now L w) := by
  subst hv
  have e : nextP grace tenant now L = none := by unfold nextP; rw [if_pos (by omega)]
  unfold PNextEnds
  rw [e]
  clear e
  have e0 : decide (grace < 1) = false := by simp; omega
  have e1 : decide (1073741824 < grace) = true := by simp; omega
  clear h0 h1
  go_enter Tryd.func11, Tryd.ntmps11
  go_wp2_with fail
  go_ret2
  exact ⟨rfl, Upd.refl _ _⟩
set_option maxHeartbeats 400000 in
theorem next22_n0 {w : World} (v : Value) (L : List Lz) (grace : Int) (tenant : ByteArray) (now : Int) (h0 : ¬ grace < 1) (h1 : ¬ 1073741824 < grace) (h2 : now < 0) (a : Option Addr) (n cap : Nat) (hv : v = .slice a n cap) :
    Calls Tryd.prog 11 #[v, .int .i64 grace, .string tenant, .int .i64 now] w (PNextEnds grace tenant now L w) := by
  subst hv
  have e : nextP grace tenant now L = none := by unfold nextP; rw [if_pos (by omega)]
  unfold PNextEnds
  rw [e]
  clear e
  have e0 : decide (grace < 1) = false := by simp; omega
  have e1 : decide (1073741824 < grace) = false := by simp; omega
  have e2 : decide (now < 0) = true := by simp; omega
  clear h0 h1 h2
  go_enter Tryd.func11, Tryd.ntmps11
  go_wp2_with fail
  go_ret2
  exact ⟨rfl, Upd.refl _ _⟩
set_option maxHeartbeats 400000 in
theorem next22_n1 {w : World} (v : Value) (L : List Lz) (grace : Int) (tenant : ByteArray) (now : Int) (h0 : ¬ grace < 1) (h1 : ¬ 1073741824 < grace) (h2 : ¬ now < 0) (h3 : 1099511627776 < now) (a : Option Addr) (n cap : Nat) (hv : v = .slice a n cap) :
    Calls Tryd.prog 11 #[v, .int .i64 grace, .string tenant, .int .i64 now] w (PNextEnds grace tenant now L w) := by
  subst hv
  have e : nextP grace tenant now L = none := by unfold nextP; rw [if_pos (by omega)]
  unfold PNextEnds
  rw [e]
  clear e
  have e0 : decide (grace < 1) = false := by simp; omega
  have e1 : decide (1073741824 < grace) = false := by simp; omega
  have e2 : decide (now < 0) = false := by simp; omega
  have e3 : decide (1099511627776 < now) = true := by simp; omega
  clear h0 h1 h2 h3
  go_enter Tryd.func11, Tryd.ntmps11
  go_wp2_with fail
  go_ret2
  exact ⟨rfl, Upd.refl _ _⟩
set_option maxHeartbeats 4000000 in
set_option maxRecDepth 100000 in
theorem next22_c {w : World} (v : Value) (L : List Lz) (hv : Reads w 6 encL v L) (hl : L.length ≤ 1000000) (grace : Int) (tenant : ByteArray) (now : Int) :
    Calls Tryd.prog 11 #[v, .int .i64 grace, .string tenant, .int .i64 now] w (PNextEnds grace tenant now L w) := by
  obtain ⟨a, cap, rfl, ha⟩ := id hv
  by_cases h0 : grace < 1
  · exact next22_g0 _ L grace tenant now h0 _ _ _ rfl
  by_cases h1 : 1073741824 < grace
  · exact next22_g1 _ L grace tenant now h0 h1 _ _ _ rfl
  by_cases h2 : now < 0
  · exact next22_n0 _ L grace tenant now h0 h1 h2 _ _ _ rfl
  by_cases h3 : 1099511627776 < now
  · exact next22_n1 _ L grace tenant now h0 h1 h2 h3 _ _ _ rfl
  have e : nextP grace tenant now L = (nextI (markS (soNext grace tenant now) L)).map fun i : Nat => 20000 + (i : Int) := by unfold nextP; rw [if_neg (by omega)]
  unfold PNextEnds
  rw [e]
  have e0 : decide (grace < 1) = false := by simp; omega
  have e1 : decide (1073741824 < grace) = false := by simp; omega
  have e2 : decide (now < 0) = false := by simp; omega
  have e3 : decide (1099511627776 < now) = false := by simp; omega
  have TK := Keep.mk (fun (w' : World) (hq : Quiet w w') (nm : ByteArray) => taken_c (w := w') (.slice a L.length cap) L (hv.upd hq fun _ _ h => h) hl grace tenant now nm (by omega) (by omega) (by omega) (by omega))
  clear e h0 h1 h2 h3 ha hv
  go_enter Tryd.func11, Tryd.ntmps11
  go_wp2_with fail
  go_loopw [10] (fun i wr => ∃ k : Nat, k ≤ 64 ∧ i = .int .i64 (20000 + (k : Nat)) ∧ Quiet w wr ∧ ∀ j < k, (markS (soNext grace tenant now) L).getD j 0 ≠ 0) (fun i _ => 20064 - (intOf i).toNat)
  case atStart => exact ⟨0, by omega, rfl, Upd.refl _ _, fun j hj => absurd hj (by omega)⟩
  case round =>
    obtain ⟨k, hk, rfl, hQ, hb⟩ := hrel
    replace hb := Keep.mk hb
    by_cases hlt : k < 64
    · have C := Keep.mk (name22_c (w := wr) (20000 + (k : Int)))
      have el : decide (20000 + (k : Int) ≤ 20063) = true := by simp; omega
      by_cases he : (markS (soNext grace tenant now) L).getD k 0 = 0
      · have hn := hit_no hlt he
        have HN := Keep.mk (nextI_some hlt he hb.out)
        generalize strB (nameS (20000 + (k : Int))) = nm at *
        have TN := Keep.mk (fun (w' : World) (hq : Quiet w w') => by have := TK.out w' hq nm; rw [hn] at this; exact this)
        clear hn he
        go_wp2_with fail
        refine C.out.mono ?_
        rintro e w2 ⟨rfl, q2⟩
        have Q2 := hQ.trans q2
        go_wp2_with fail
        refine (TN.out _ Q2).mono ?_
        rintro e w3 ⟨rfl, q3⟩
        have Q3 := Q2.trans q3
        go_wp2_with fail
        go_ret2
        exact ⟨by rw [HN.out]; rfl, Q3⟩
      · have hn := (hit_port _ _ hlt).2 he
        have hb' : ∀ j < k + 1, (markS (soNext grace tenant now) L).getD j 0 ≠ 0 := fun j hj => by
          by_cases e : j = k
          · subst e; exact he
          · exact hb.out j (by omega)
        replace hb' := Keep.mk hb'
        generalize strB (nameS (20000 + (k : Int))) = nm at *
        have TN := Keep.mk (fun (w' : World) (hq : Quiet w w') => by have := TK.out w' hq nm; rw [hn] at this; exact this)
        clear hn he
        go_wp2_with fail
        refine C.out.mono ?_
        rintro e w2 ⟨rfl, q2⟩
        have Q2 := hQ.trans q2
        go_wp2_with fail
        refine (TN.out _ Q2).mono ?_
        rintro e w3 ⟨rfl, q3⟩
        have Q3 := Q2.trans q3
        go_wp2_with fail
        go_roundw
        case rel => exact ⟨k + 1, by omega, by go_num, Q3, hb'.out⟩
        case measure => simp [intOf]; omega
    · have HN := Keep.mk (nextI_none (c := markS (soNext grace tenant now) L) fun j hj => hb.out j (by omega))
      have el : decide (20000 + (k : Int) ≤ 20063) = false := by simp; omega
      go_wp2_with fail
      go_ret2
      exact ⟨by rw [HN.out]; rfl, hQ⟩
end Go.Proofs.YtpjfakmalhenjaaDoor
