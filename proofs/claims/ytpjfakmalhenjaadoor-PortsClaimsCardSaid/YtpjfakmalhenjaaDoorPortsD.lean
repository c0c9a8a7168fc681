/- Ports: Next, Held. -/
import Derived.Test.YtpjfakmalhenjaaDoorPortsC
import Derived.Test.YtpjfakmalhenjaaDoorSame8
namespace Go.Proofs.YtpjfakmalhenjaaDoor
open Go.RowKit Go.Sub Go.Shelf Go.Sort Go.ChangeMaps
/-- the first that is none -/
def nextI (c : List Int) : Option Nat := (List.range 64).find? fun i => c.getD i 0 == 0
theorem nextI_some {c : List Int} {k : Nat} (hk : k < 64) (h0 : c.getD k 0 = 0) (hb : ∀ j < k, c.getD j 0 ≠ 0) : nextI c = some k := by
  unfold nextI
  rw [List.find?_range_eq_some]
  exact ⟨by simpa using h0, List.mem_range.2 hk, fun j hj => by simpa using hb j hj⟩
theorem nextI_none {c : List Int} (hb : ∀ j < 64, c.getD j 0 ≠ 0) : nextI c = none := by
  unfold nextI
  rw [List.find?_eq_none]
  intro x hx
  simpa using hb x (List.mem_range.1 hx)
/-- the first port that a tenant may claim -/
def nextP (grace : Int) (tenant : ByteArray) (now : Int) (L : List Lz) : Option Int :=
  if grace < 1 ∨ 1073741824 < grace ∨ now < 0 ∨ 1099511627776 < now then none else (nextI (markS (soNext grace tenant now) L)).map fun i : Nat => 20000 + (i : Int)
def PNextEnds (grace : Int) (tenant : ByteArray) (now : Int) (L : List Lz) (w : World) : Ending → World → Prop := Ret (.tuple #[.int .i64 ((nextP grace tenant now L).getD 0), .bool (nextP grace tenant now L).isSome]) fun w' => Quiet w w'
/-- what a tenant holds -/
def heldI (c : List Int) (k : Nat) : List Int := ((List.range k).filter fun i => decide (0 < c.getD i 0)).map fun i : Nat => 20000 + (i : Int)
def heldP (tenant : ByteArray) (now : Int) (L : List Lz) : List Int := heldI (markS (soHeld tenant now) L) 64
theorem heldI_yes {c : List Int} {k : Nat} (h : 0 < c.getD k 0) : heldI c (k + 1) = heldI c k ++ [20000 + (k : Int)] := by
  unfold heldI
  rw [List.range_succ, List.filter_append, List.map_append]
  congr 1
  rw [List.filter_cons, if_pos (by simpa using h)]
  rfl
theorem heldI_no {c : List Int} {k : Nat} (h : ¬ 0 < c.getD k 0) : heldI c (k + 1) = heldI c k := by
  unfold heldI
  rw [List.range_succ, List.filter_append, List.map_append, List.filter_cons, if_neg (by simpa using h)]
  simp
theorem heldI_len (c : List Int) (k : Nat) : (heldI c k).length ≤ k := by
  unfold heldI
  rw [List.length_map]
  exact Nat.le_trans (List.length_filter_le ..) (by simp)
theorem infoI8 : (Tryd.prog.info? 3).map (fun i => (i.zero, i.size, i.bytes)) = some (some (.int .i64 0), 1, 8) := by kernel_rfl
theorem one_rowI (c : List Int) : (rowI c).all (·.oneCell') = true := by
  rw [Array.all_eq_true_iff_forall_mem]
  intro x hx
  obtain ⟨y, _, rfl⟩ := List.mem_map.1 (by simpa [rowI] using hx)
  rfl
theorem rowI_size {c : List Int} (h : c.length = 64) : (rowI c).size = 64 := by simp [rowI, h]
theorem size_rowI64 {c : List Int} (h : c.length = 64) : (Tryd.prog.info? 48).map (·.size) = some (rowI c).size := by rw [rowI_size h]; kernel_rfl
theorem rowI_get {c : List Int} (h : c.length = 64) {i : Nat} (hi : i < 64) : (rowI c)[i]? = some (.int .i64 (c.getD i 0)) := by simp [rowI, List.getD, h, hi]
/-- the row that 'marks' made is laid into a block of its own -/
theorem row_lay {w : World} {l : List Asrt} {F : Fp} (hS : (Asrt.stars l).on w F) (c : List Int) :
    ∃ F', (Asrt.stars (.blk w.heap.size (blkI c) :: l)).on ((w.alloc (blkI zeros64)).setRow w.heap.size (rowI c)) F' ∧ Upd F F' w ((w.alloc (blkI zeros64)).setRow w.heap.size (rowI c)) := by
  obtain ⟨F1, S1, u1⟩ := Asrt.stars_box hS (blkI zeros64)
  obtain ⟨Fb, hbk, _, hgo⟩ := Asrt.stars_upd _ 0 _ rfl S1
  obtain ⟨hb2, ub⟩ := setRow_blk hbk (rowI c)
  obtain ⟨F7, S7, u7⟩ := hgo _ _ _ hb2 ub
  exact ⟨F7, S7, u1.trans u7⟩
set_option maxHeartbeats 400000 in
theorem pnext_g0 {w : World} (v : Value) (L : List Lz) (grace : Int) (tenant : ByteArray) (now : Int) (h0 : grace < 1) (a : Option Addr) (n cap : Nat) (hv : v = .slice a n cap) :
    Calls Tryd.prog 10 #[v, .int .i64 grace, .string tenant, .int .i64 now] w (PNextEnds grace tenant now L w) := by
  subst hv
  have e : nextP grace tenant now L = none := by unfold nextP; rw [if_pos (by omega)]
  unfold PNextEnds
  rw [e]
  clear e
  have e0 : decide (grace < 1) = true := by simp; omega
  clear h0
  go_enter Tryd.func10, Tryd.ntmps10
  go_wp2_with fail
  go_ret2
  exact ⟨rfl, (((Upd.refl none' w).alloc _).alloc _).alloc _⟩
set_option maxHeartbeats 400000 in
theorem pnext_g1 {w : World} (v : Value) (L : List Lz) (grace : Int) (tenant : ByteArray) (now : Int) (h0 : ¬ grace < 1) (h1 : 1073741824 < grace) (a : Option Addr) (n cap : Nat) (hv : v = .slice a n cap) :
    Calls Tryd.prog 10 #[v, .int .i64 grace, .string tenant, .int .i64 now] w (PNextEnds grace tenant now L w) := by
  subst hv
  have e : nextP grace tenant now L = none := by unfold nextP; rw [if_pos (by omega)]
  unfold PNextEnds
  rw [e]
  clear e
  have e0 : decide (grace < 1) = false := by simp; omega
  have e1 : decide (1073741824 < grace) = true := by simp; omega
  clear h0 h1
  go_enter Tryd.func10, Tryd.ntmps10
  go_wp2_with fail
  go_ret2
  exact ⟨rfl, (((Upd.refl none' w).alloc _).alloc _).alloc _⟩
set_option maxHeartbeats 400000 in
theorem pnext_n0 {w : World} (v : Value) (L : List Lz) (grace : Int) (tenant : ByteArray) (now : Int) (h0 : ¬ grace < 1) (h1 : ¬ 1073741824 < grace) (h2 : now < 0) (a : Option Addr) (n cap : Nat) (hv : v = .slice a n cap) :
    Calls Tryd.prog 10 #[v, .int .i64 grace, .string tenant, .int .i64 now] w (PNextEnds grace tenant now L w) := by
  subst hv
  have e : nextP grace tenant now L = none := by unfold nextP; rw [if_pos (by omega)]
  unfold PNextEnds
  rw [e]
  clear e
  have e0 : decide (grace < 1) = false := by simp; omega
  have e1 : decide (1073741824 < grace) = false := by simp; omega
  have e2 : decide (now < 0) = true := by simp; omega
  clear h0 h1 h2
  go_enter Tryd.func10, Tryd.ntmps10
  go_wp2_with fail
  go_ret2
  exact ⟨rfl, (((Upd.refl none' w).alloc _).alloc _).alloc _⟩
set_option maxHeartbeats 400000 in
theorem pnext_n1 {w : World} (v : Value) (L : List Lz) (grace : Int) (tenant : ByteArray) (now : Int) (h0 : ¬ grace < 1) (h1 : ¬ 1073741824 < grace) (h2 : ¬ now < 0) (h3 : 1099511627776 < now) (a : Option Addr) (n cap : Nat) (hv : v = .slice a n cap) :
    Calls Tryd.prog 10 #[v, .int .i64 grace, .string tenant, .int .i64 now] w (PNextEnds grace tenant now L w) := by
  subst hv
  have e : nextP grace tenant now L = none := by unfold nextP; rw [if_pos (by omega)]
  unfold PNextEnds
  rw [e]
  clear e
  have e0 : decide (grace < 1) = false := by simp; omega
  have e1 : decide (1073741824 < grace) = false := by simp; omega
  have e2 : decide (now < 0) = false := by simp; omega
  have e3 : decide (1099511627776 < now) = true := by simp; omega
  clear h0 h1 h2 h3
  go_enter Tryd.func10, Tryd.ntmps10
  go_wp2_with fail
  go_ret2
  exact ⟨rfl, (((Upd.refl none' w).alloc _).alloc _).alloc _⟩
set_option maxHeartbeats 4000000 in
set_option maxRecDepth 100000 in
theorem pnext_c {w : World} (ht : Tab10 w) (v : Value) (L : List Lz) (hv : Reads w 6 encL v L) (hl : L.length ≤ 1000000) (hn : ∀ x ∈ L, x.name.size ≤ maxLen) (grace : Int) (tenant : ByteArray) (now : Int) :
    Calls Tryd.prog 10 #[v, .int .i64 grace, .string tenant, .int .i64 now] w (PNextEnds grace tenant now L w) := by
  obtain ⟨a, cap, rfl, ha⟩ := id hv
  by_cases h0 : grace < 1
  · exact pnext_g0 _ L grace tenant now h0 _ _ _ rfl
  by_cases h1 : 1073741824 < grace
  · exact pnext_g1 _ L grace tenant now h0 h1 _ _ _ rfl
  by_cases h2 : now < 0
  · exact pnext_n0 _ L grace tenant now h0 h1 h2 _ _ _ rfl
  by_cases h3 : 1099511627776 < now
  · exact pnext_n1 _ L grace tenant now h0 h1 h2 h3 _ _ _ rfl
  have e : nextP grace tenant now L = (nextI (markS (soNext grace tenant now) L)).map fun i : Nat => 20000 + (i : Int) := by unfold nextP; rw [if_neg (by omega)]
  unfold PNextEnds
  rw [e]
  have e0 : decide (grace < 1) = false := by simp; omega
  have e1 : decide (1073741824 < grace) = false := by simp; omega
  have e2 : decide (now < 0) = false := by simp; omega
  have e3 : decide (1099511627776 < now) = false := by simp; omega
  obtain ⟨F1, S1, u1⟩ := Asrt.stars_box (l := []) (w := w) (F := none') rfl (.cells #[.int .i64 grace] 2)
  obtain ⟨F2, S2, u2⟩ := Asrt.stars_box S1 (.cells #[.string tenant] 9)
  obtain ⟨F3, S3, u3⟩ := Asrt.stars_box S2 (.cells #[.int .i64 now] 2)
  have U3 := (u1.trans u2).trans u3
  simp only [size_alloc'] at S2 S3
  have hq3 := U3.quiet
  have MC := marks_c (tab_upd ht U3) (.slice a L.length cap) L (hv.upd U3 fun _ _ h => h) hl hn ent_next (caps := #[.pointer (some ⟨w.heap.size + 1 + 1, 0, none⟩), .pointer (some ⟨w.heap.size, 0, none⟩), .pointer (some ⟨w.heap.size + 1, 0, none⟩)]) (soNext grace tenant now) (fun x _ w' hq => by
    obtain ⟨S', _⟩ := Asrt.stars_same S3 hq
    obtain ⟨k3, _, _⟩ := box_cell (i := 0) S' rfl
    obtain ⟨k2, _, _⟩ := box_cell (i := 1) S' rfl
    obtain ⟨k1, _, _⟩ := box_cell (i := 2) S' rfl
    exact next1_c (k3 0) (k1 0) (k2 0) (by omega) (by omega) (by omega) (by omega) x)
  have hlen := markS_len (soNext grace tenant now) L
  have hbd := fun i (hi : i < 64) => markS_bd (soNext grace tenant now) L hi
  generalize markS (soNext grace tenant now) L = c at *
  replace MC := Keep.mk MC
  have hz := rowI_zeros
  clear e h0 h1 h2 h3 ha hv hn ht u1 u2 u3 S1 S2
  go_enter Tryd.func10, Tryd.ntmps10
  go_wp2_with fail
  refine MC.out.mono ?_
  rintro e w4 ⟨rfl, q4⟩
  obtain ⟨F5, S5, u5⟩ := row_lay (l := []) (w := w4) (F := none') rfl c
  have U5 := (U3.quiet.trans q4).trans u5
  have h0 : (w4.alloc (blkI zeros64)).heap[w4.heap.size]? = some (.cells (rowI zeros64) 48 (0, 0)) := obj_alloc_at (w := w4) rfl
  have hsz := size_rowI64 hlen
  have hone := one_rowI c
  have hs64 := rowI_size hlen
  obtain ⟨kc, kf, kl⟩ := box_cell (i := 0) S5 rfl
  have hg : ∀ k, k < 64 → ((w4.alloc (blkI zeros64)).setRow w4.heap.size (rowI c)).cell? ⟨w4.heap.size, k, none⟩ = some (.int .i64 (c.getD k 0)) := fun k hk => by rw [kc, rowI_get hlen hk]
  have HG := Keep.mk hg
  replace U5 := Keep.mk U5
  simp only [blkI, hz] at h0 HG U5
  replace hbd := Keep.mk hbd
  generalize rowI c = R at *
  clear kc kf kl S5 u5 q4 S3 U3 hg hz
  go_wp2_with (refine wpList_store_row rfl 48 _ _ rfl w4.heap.size R rfl rfl 48 _ h0 hsz (by rw [hs64]; rfl) hone ?_)
  generalize ((w4.alloc (Obj.cells _ 48 (0, 0))).setRow w4.heap.size R) = w5 at *
  clear h0 MC hq3
  go_wp2_with fail
  go_loopw [29] (fun i wr => ∃ k : Nat, k ≤ 64 ∧ i = .int .i64 (k : Nat) ∧ wr = w5 ∧ ∀ j < k, c.getD j 0 ≠ 0) (fun i _ => 64 - (intOf i).toNat)
  case atStart => exact ⟨0, by omega, rfl, rfl, fun j hj => absurd hj (by omega)⟩
  case round =>
    obtain ⟨k, hk, rfl, rfl, hb⟩ := hrel
    replace hb := Keep.mk hb
    by_cases hlt : k < 64
    · have kc := HG.out k hlt
      obtain ⟨y, hy⟩ : ∃ y, c.getD k 0 = y := ⟨_, rfl⟩
      rw [hy] at kc
      have HY := Keep.mk hy
      clear hy
      by_cases h0 : y = 0
      · subst h0
        have HN := Keep.mk (nextI_some hlt HY.out hb.out)
        go_wp2_with fail
        go_ret2
        exact ⟨by rw [HN.out]; rfl, U5.out.quiet⟩
      · have ey : (y == 0) = false := by simp [h0]
        have hb' : ∀ j < k + 1, c.getD j 0 ≠ 0 := fun j hj => by
          by_cases e : j = k
          · subst e; rw [HY.out]; exact h0
          · exact hb.out j (by omega)
        replace hb' := Keep.mk hb'
        clear h0
        go_wp2_with fail
        go_roundw
        case rel => first | exact ⟨k + 1, by omega, by go_num, rfl, hb'.out⟩ | exact ⟨k + 1, by omega, by go_num, trivial, hb'.out⟩
        case measure => simp [intOf]; omega
    · have HN := Keep.mk (nextI_none (c := c) fun j hj => hb.out j (by omega))
      go_wp2_with fail
      go_ret2
      exact ⟨by rw [HN.out]; rfl, U5.out.quiet⟩
theorem run_index_row {c : List Int} (h : c.length = 64) (k : Nat) (hk : k < 64) (w : World) : (Instr.index 48 (.agg (rowI c)) (.int .i64 k)).run Tryd.prog w = .ok (.int .i64 (c.getD k 0)) w := by
  have hs : (Tryd.prog.info? 3).map (·.size) = some 1 := by kernel_rfl
  obtain ⟨i, hi, hz⟩ := Option.map_eq_some_iff.1 hs
  have hk2 : (k : Int) < 64 := by omega
  simp [Instr.index, run_underlying Tryd.underlying48, asIntOf, sizeOf, typeInfo, hi, hz, part, isAgg, run_underlying Tryd.underlying3, hk2, Result.andThen]
  rw [if_pos hk, List.getElem?_eq_getElem (by omega)]
  simp
def PHeldEnds (tenant : ByteArray) (now : Int) (L : List Lz) (w : World) (e : Ending) (w' : World) : Prop := ∃ v, Ret v (fun w' => ∃ F, (row 3 1 encIL v (heldP tenant now L)).on w' F ∧ Upd none' F w w') e w'
set_option maxHeartbeats 4000000 in
set_option maxRecDepth 100000 in
theorem pheld_c {w : World} (ht : Tab10 w) (v : Value) (L : List Lz) (hv : Reads w 6 encL v L) (hl : L.length ≤ 1000000) (hn : ∀ x ∈ L, x.name.size ≤ maxLen) (tenant : ByteArray) (now : Int) :
    Calls Tryd.prog 15 #[v, .string tenant, .int .i64 now] w (PHeldEnds tenant now L w) := by
  obtain ⟨a, cap, rfl, ha⟩ := id hv
  unfold PHeldEnds heldP
  obtain ⟨F1, S1, u1⟩ := Asrt.stars_box (l := []) (w := w) (F := none') rfl (.cells #[.string tenant] 9)
  obtain ⟨F2, S2, u2⟩ := Asrt.stars_box S1 (.cells #[.int .i64 now] 2)
  have U2 := u1.trans u2
  simp only [size_alloc'] at S2
  have MC := marks_c (tab_upd ht U2) (.slice a L.length cap) L (hv.upd U2 fun _ _ h => h) hl hn ent_held (caps := #[.pointer (some ⟨w.heap.size, 0, none⟩), .pointer (some ⟨w.heap.size + 1, 0, none⟩)]) (soHeld tenant now) (fun x _ w' hq => by
    obtain ⟨S', _⟩ := Asrt.stars_same S2 hq
    obtain ⟨k2, _, _⟩ := box_cell (i := 0) S' rfl
    obtain ⟨k1, _, _⟩ := box_cell (i := 1) S' rfl
    exact held1_c (k2 0) (k1 0) x)
  have hlen := markS_len (soHeld tenant now) L
  have hbd := fun i (hi : i < 64) => markS_bd (soHeld tenant now) L hi
  generalize markS (soHeld tenant now) L = c at *
  replace MC := Keep.mk MC
  have hz := rowI_zeros
  obtain ⟨i3, hi, hz0, hz1, hz2⟩ := info_parts infoI8
  have hI := Keep.mk (And.intro hi (And.intro hz0 (And.intro hz1 hz2)))
  clear ha hv hn ht u1 u2 S1 hi hz0 hz1 hz2
  go_enter Tryd.func15, Tryd.ntmps15
  go_wp2_with fail
  refine MC.out.mono ?_
  rintro e w4 ⟨rfl, q4⟩
  obtain ⟨F5, S5, u5⟩ := row_lay (l := []) (w := w4) (F := none') rfl c
  have U5 := (U2.quiet.trans q4).trans u5
  have h0 : (w4.alloc (blkI zeros64)).heap[w4.heap.size]? = some (.cells (rowI zeros64) 48 (0, 0)) := obj_alloc_at (w := w4) rfl
  have hsz := size_rowI64 hlen
  have hone := one_rowI c
  have hs64 := rowI_size hlen
  obtain ⟨_, ⟨hb5, _⟩, _⟩ := Asrt.stars_get S5 0 rfl
  have h5 : ((w4.alloc (blkI zeros64)).setRow w4.heap.size (rowI c)).heap[w4.heap.size]? = some (.cells (rowI c) 48 (0, 0)) := hb5
  obtain ⟨F6, S6⟩ : ∃ F, (Asrt.stars [row 3 1 encIL (.slice none 0 0) [], .blk w4.heap.size (blkI c)]).on ((w4.alloc (blkI zeros64)).setRow w4.heap.size (rowI c)) F ∧ Upd none' F w ((w4.alloc (blkI zeros64)).setRow w4.heap.size (rowI c)) :=
    ⟨F5, Asrt.stars_emp (row_nil _ 3 1 encIL) S5, U5⟩
  have RI := Keep.mk (run_index_row hlen)
  obtain ⟨F7, S7, s7⟩ := Asrt.stars_fst S6.1
  have U7 := S6.2.re fun k hk => S6.2.fp k (s7 k hk)
  simp only [blkI, hz] at h0 h5 S7 U7
  replace hbd := Keep.mk hbd
  generalize rowI c = R at *
  clear S5 u5 q4 S2 U2 S6 U5 s7 hb5 hz MC
  go_wp2_with (first | (refine wpList_store_row rfl 48 _ _ rfl w4.heap.size R rfl rfl 48 _ h0 hsz (by rw [hs64]; rfl) hone ?_) | (refine wpList_load_row rfl 48 _ rfl w4.heap.size rfl 48 R (0, 0) _ h5 Tryd.underlying48 rfl hsz ?_))
  generalize ((w4.alloc (Obj.cells _ 48 (0, 0))).setRow w4.heap.size R) = w5 at *
  clear h0 h5 hone
  go_wp2_with fail
  go_loopw [8, 15] (fun vo i wr => ∃ (k : Nat) (F : Fp) (ao : Option Addr) (co : Nat), k ≤ 64 ∧ i = .int .i64 (k : Nat) ∧ vo = .slice ao (heldI c k).length co ∧ (Asrt.stars [row 3 1 encIL (.slice ao (heldI c k).length co) (heldI c k)]).on wr F ∧ Upd none' F w wr) (fun _ i _ => 64 - (intOf i).toNat)
  case atStart => exact ⟨0, F7, none, 0, by omega, rfl, rfl, S7, U7⟩
  case round =>
    obtain ⟨k, F, ao, co, hk, rfl, rfl, S, U⟩ := hrel
    clear S7 U7
    have hkl := heldI_len c k
    by_cases hlt : k < 64
    · have ki := RI.out k hlt
      have hp := hbd.out k hlt
      by_cases h0 : 0 < c.getD k 0
      · have hh := Keep.mk (heldI_yes h0)
        have eh : decide (0 < c.getD k 0) = true := by simpa using h0
        obtain ⟨Fo, hrow, _, hgo⟩ := Asrt.stars_upd _ 0 _ rfl S
        obtain ⟨hi, hz0, hz1, hz2⟩ := hI.out
        generalize hq : heldI c k = q at *
        generalize c.getD k 0 = y at *
        clear hq h0 hp
        go_wp2_with (at_builtin; refine at_append_row encIL 1 8 rfl (.tmp 21) (.tmp 24) 29 rfl 3 i3 _ Tryd.underlying29 hi hz0 hz1 hz2 rfl (by decide) (.slice ao q.length co) q (20000 + (k : Int)) Fo rfl (Asrt.alloc hrow _) ⟨wr.heap.size, 0, none⟩ 1 rfl rfl (cells_new wr (encIL (20000 + (k : Int))) _) ?hone ?h63 ?hby ?next)
        case hone => intro u hu; exact one_cell_int _ u hu
        case h63 => unfold maxLen; omega
        case hby => omega
        case next =>
          intro v' w8 F8 hr8 u8
          obtain ⟨F9, S9, u9⟩ := hgo w8 F8 _ hr8 (((Upd.refl Fo wr).alloc _).trans u8)
          have U9 := U.trans u9
          obtain ⟨a', c', rfl⟩ := (row_readsI hr8).slice
          simp only [List.set_cons_zero] at S9
          clear S U hr8 u8 u9 hi hz0 hz1 hz2 hgo hrow
          go_wp2_with fail
          go_roundw
          case rel => exact ⟨k + 1, F9, a', c', by omega, by go_num, by rw [hh.out], by rw [hh.out]; exact S9, U9⟩
          case measure => simp [intOf]; omega
      · have hh := Keep.mk (heldI_no h0)
        have eh : decide (0 < c.getD k 0) = false := by simpa using h0
        generalize c.getD k 0 = y at *
        clear h0 hp
        go_wp2_with fail
        go_roundw
        case rel => exact ⟨k + 1, F, ao, co, by omega, by go_num, by rw [hh.out], by rw [hh.out]; exact S, U⟩
        case measure => simp [intOf]; omega
    · obtain rfl : k = 64 := by omega
      go_wp2_with fail
      go_ret
      obtain ⟨Fz, hz, sz⟩ := Asrt.stars_get S 0 rfl
      exact ⟨_, rfl, Fz, hz, U.re fun k hk => U.fp k (sz k hk)⟩
end Go.Proofs.YtpjfakmalhenjaaDoor
