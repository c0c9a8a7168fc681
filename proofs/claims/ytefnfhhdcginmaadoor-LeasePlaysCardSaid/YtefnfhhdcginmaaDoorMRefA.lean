/- joined: RefA RefB RefC RefD RefE RefF RefG RefH RefJ RefK -/
import Derived.Test.YtefnfhhdcginmaaDoorLeaseB
import Derived.Test.YtefnfhhdcginmaaDoorSubP
import Derived.Test.YtefnfhhdcginmaaDoorSubH
import Derived.Deep.RegionLaw
import Derived.Deep.DeepCutAuto
import Derived.Test.YtefnfhhdcginmaaDoorSubQ
import Derived.Test.YtefnfhhdcginmaaDoorLeaseM
import Derived.Test.YtefnfhhdcginmaaDoorSubV
/- The document's book of leases: time, New, held, kept. -/
set_option linter.unusedVariables false
namespace Go.Proofs.YtefnfhhdcginmaaDoor
open Go.ChangeShapes Go.WideShapes Go.ChangeAt Go.RowKit Go.Sub Go.ChangeMaps
abbrev refO (v : Value) (g m n : Int) : Obj := .cells #[v, .int .i64 g, .int .i64 m, .int .i64 n] 48 (0, 0)
abbrev rowL (v : Value) (L : List Lz) : Asrt := row 26 6 encL v L
def refT (b : Nat) (g m n : Int) (L : List Lz) : Asrt := .ex fun v : Value => .stars [.blk b (refO v g m n), rowL v L]
set_option maxHeartbeats 400000 in
theorem rtime_c {w : World} (n : Int) : Calls Tryd.prog 40 #[.int .i64 n] w (Ret (.bool (timeB n)) fun w' => w = w') := by
  unfold timeB
  have e0 : decide (0 < n) = decide (1 ≤ n) := by rw [decide_eq_decide]; omega
  rw [e0]
  cases h : decide (1 ≤ n) with
  | false =>
    go_enter Tryd.func40, Tryd.ntmps40
    go_wp2_with fail
    go_ret
    exact ⟨rfl, rfl⟩
  | true =>
    go_enter Tryd.func40, Tryd.ntmps40
    go_wp2_with fail
    go_ret
    exact ⟨by simp, rfl⟩
set_option maxHeartbeats 400000 in
theorem rclock_c {w : World} (n : Int) : Calls Tryd.prog 47 #[.int .i64 n] w (Ret (.bool (clockB n)) fun w' => w = w') := by
  unfold clockB
  cases h : decide (0 ≤ n) with
  | false =>
    go_enter Tryd.func47, Tryd.ntmps47
    go_wp2_with fail
    go_ret
    exact ⟨rfl, rfl⟩
  | true =>
    go_enter Tryd.func47, Tryd.ntmps47
    go_wp2_with fail
    go_ret
    exact ⟨by simp, rfl⟩
set_option maxHeartbeats 400000 in
theorem rnew_no {w : World} {g m : Int} (h : (timeB g && timeB m) = false) : Calls Tryd.prog 15 #[.int .i64 g, .int .i64 m] w (Ret (.pointer none) fun w' => w = w') := by
  cases hg : timeB g with
  | false =>
    go_enter Tryd.func15, Tryd.ntmps15
    go_wp2_with fail
    refine (rtime_c g).mono ?_
    rintro e w1 ⟨rfl, rfl⟩
    rw [hg]
    go_wp2_with fail
    go_ret
    exact ⟨rfl, rfl⟩
  | true =>
    have hm : timeB m = false := by rw [hg] at h; simpa using h
    go_enter Tryd.func15, Tryd.ntmps15
    go_wp2_with fail
    refine (rtime_c g).mono ?_
    rintro e w1 ⟨rfl, rfl⟩
    rw [hg]
    go_wp2_with fail
    refine (rtime_c m).mono ?_
    rintro e w1 ⟨rfl, rfl⟩
    rw [hm]
    go_wp2_with fail
    go_ret
    exact ⟨rfl, rfl⟩
set_option maxHeartbeats 400000 in
theorem rnew_yes {w : World} {g m : Int} (h1 : timeB g = true) (h2 : timeB m = true) : Calls Tryd.prog 15 #[.int .i64 g, .int .i64 m] w fun e w' => ∃ b, Ret (.pointer (some ⟨b, 0, none⟩)) (fun w' => ∃ F, (refT b g m 1 []).on w' F ∧ Upd none' F w w') e w' := by
  go_enter Tryd.func15, Tryd.ntmps15
  go_wp2_with fail
  refine (rtime_c g).mono ?_
  rintro e w1 ⟨rfl, rfl⟩
  rw [h1]
  go_wp2_with fail
  refine (rtime_c m).mono ?_
  rintro e w1 ⟨rfl, rfl⟩
  rw [h2]
  go_wp2_with fail
  go_ret
  obtain ⟨F', h', u'⟩ := Asrt.stars_new (l := [rowL (.slice none 0 0) []]) (w := w) (A := .blk w.heap.size (refO (.slice none 0 0) g m 1)) (w' := w.alloc (.cells #[.slice none 0 0, .int .i64 g, .int .i64 m, .int .i64 1] 48)) (Fn := fun k => k = w.heap.size) (Asrt.stars_one (row_nil w 26 6 encL)) ⟨obj_alloc_at rfl, rfl⟩ (((Upd.refl none' w).alloc _).re fun k hk => .inr (by rw [hk]; exact Nat.le_refl _))
  exact ⟨_, rfl, F', ⟨_, h'⟩, u'⟩
def heldB (x : Lz) (now : Int) : Bool := x.held && decide (now < x.til)
def keptB (g : Int) (x : Lz) (now : Int) : Bool := if x.held = true then decide (x.til ≤ now) && decide (now < x.til + g) else decide (now < x.til)
theorem stat_held (g : Int) (x : Lz) (now : Int) : heldB x now = decide (statS g x now = 2) := by
  unfold heldB statS
  cases x.held
  · by_cases h : now < x.til <;> simp [h]
  · by_cases h : now < x.til
    · simp [h]
    · by_cases h2 : now < x.til + g <;> simp [h, h2]
theorem stat_kept (g : Int) (x : Lz) (now : Int) : keptB g x now = decide (statS g x now = 1) := by
  unfold keptB statS
  cases x.held
  · by_cases h : now < x.til <;> simp [h]
  · by_cases h : now < x.til
    · have : ¬ x.til ≤ now := by omega
      simp [h, this]
    · have h' : x.til ≤ now := by omega
      by_cases h2 : now < x.til + g <;> simp [h, h', h2]
set_option maxHeartbeats 400000 in
theorem held_c {w : World} (x : Lz) (now : Int) : Calls Tryd.prog 51 #[aggL x, .int .i64 now] w (Ret (.bool (heldB x now)) fun w' => Quiet w w') := by
  unfold heldB
  cases hx : x.held with
  | false =>
    go_enter Tryd.func51, Tryd.ntmps51
    go_wp2_with fail
    go_ret
    exact ⟨by simp, (Upd.refl none' w).alloc _⟩
  | true =>
    go_enter Tryd.func51, Tryd.ntmps51
    go_wp2_with fail
    go_ret
    exact ⟨by simp, (Upd.refl none' w).alloc _⟩
set_option maxHeartbeats 1000000 in
theorem kept_c {b : Nat} {w : World} {g : Int} (hb : b < w.heap.size) (h0 : w.cell? ⟨b, 1, none⟩ = some (.int .i64 g)) (g0 : 0 ≤ g) (g1 : g ≤ 1073741824) (x : Lz) (ht : TilOk x.til) (now : Int) :
    Calls Tryd.prog 56 #[.pointer (some ⟨b, 0, none⟩), aggL x, .int .i64 now] w (Ret (.bool (keptB g x now)) fun w' => Quiet w w') := by
  obtain ⟨t0, t1⟩ := ht
  unfold keptB
  cases hx : x.held with
  | false =>
    go_enter Tryd.func56, Tryd.ntmps56
    go_wp2_with fail
    go_ret
    exact ⟨by simp, (Upd.refl none' w).alloc _⟩
  | true =>
    have e5 : IntKind.i64.wrap (x.til + g) = x.til + g := by rw [IntKind.wrap_i64]; omega
    cases e4 : decide (x.til ≤ now) with
    | false =>
      go_enter Tryd.func56, Tryd.ntmps56
      go_wp2_with fail
      go_quiet (fail)
      go_wp2_with fail
      go_ret
      exact ⟨by simp, ((Upd.refl none' w).alloc _).drewN _⟩
    | true =>
      go_enter Tryd.func56, Tryd.ntmps56
      go_wp2_with fail
      go_quiet (fail)
      go_wp2_with fail
      go_ret
      exact ⟨by simp, ((Upd.refl none' w).alloc _).drewN _⟩
end Go.Proofs.YtefnfhhdcginmaaDoor

/- The document's book of leases: find, put, drop. -/
set_option linter.unusedVariables false
namespace Go.Proofs.YtefnfhhdcginmaaDoor
open Go.ChangeShapes Go.WideShapes Go.ChangeAt Go.RowKit Go.Sub Go.ChangeMaps
theorem seq (x y : ByteArray) : (x.toList == y.toList) = decide (x = y) := by
  rw [Bool.eq_iff_iff, decide_eq_true_eq, beq_iff_eq]
  exact ⟨fun h => WideShapes.bytes_inj (by rwa [ByteArray.toList_eq, ByteArray.toList_eq] at h), fun h => by rw [h]⟩
theorem bl_refl : ∀ x : List UInt8, Op.bytesLess x x = false
  | [] => rfl
  | a :: x => by rw [Op.bytesLess, bl_refl x]; simp
abbrev geB (x y : ByteArray) : Bool := !(Op.bytesLess x.toList y.toList)
abbrev isN (nm : ByteArray) (x : Lz) : Bool := decide (x.name = nm)
def findI (L : List Lz) (nm : ByteArray) : Int := if (L.any (isN nm)) = true then ((L.findIdx (isN nm) : Nat) : Int) else -1
/-- the cells of a lease in a row -/
structure LzIn (w : World) (g o : Nat) (x : Lz) : Prop where
  c0 : w.cell? ⟨g, o, none⟩ = some (.string x.name)
  c1 : w.cell? ⟨g, o + 1, none⟩ = some (.string x.tenant)
  c2 : w.cell? ⟨g, o + 2, none⟩ = some (.int .i64 x.conn)
  c3 : w.cell? ⟨g, o + 3, none⟩ = some (.int .i64 x.epoch)
  c4 : w.cell? ⟨g, o + 4, none⟩ = some (.int .i64 x.til)
  c5 : w.cell? ⟨g, o + 5, none⟩ = some (.bool x.held)
theorem LzIn.upd {w w' : World} {g o : Nat} {x : Lz} {F F' : Fp} (h : LzIn w g o x) (hu : Upd F F' w w') (hg : g < w.heap.size) (hn : ¬ F g) : LzIn w' g o x :=
  ⟨(hu.cell hg hn).trans h.c0, (hu.cell hg hn).trans h.c1, (hu.cell hg hn).trans h.c2, (hu.cell hg hn).trans h.c3, (hu.cell hg hn).trans h.c4, (hu.cell hg hn).trans h.c5⟩
theorem lz_in {w : World} {v : Value} {L : List Lz} (h : Reads w 6 encL v L) : ∃ a ca, v = .slice a L.length ca ∧ ∀ (k : Nat) (hk : k < L.length), ∃ g off, a = some ⟨g, off, none⟩ ∧ g < w.heap.size ∧ LzIn w g (off + k * 6) L[k] := by
  obtain ⟨a, ca, e, ha⟩ := h
  refine ⟨a, ca, e, fun k hk => ?_⟩
  obtain ⟨g, off, e, hg, hc⟩ := ha k L[k] (List.getElem?_eq_getElem hk)
  exact ⟨g, off, e, hg, hc 0 _ rfl, hc 1 _ rfl, hc 2 _ rfl, hc 3 _ rfl, hc 4 _ rfl, hc 5 _ rfl⟩
theorem rowL_in {w : World} {v : Value} {L : List Lz} {F : Fp} (h : (rowL v L).on w F) : ∃ a ca, v = .slice a L.length ca ∧ ∀ (k : Nat) (hk : k < L.length), ∃ g off, a = some ⟨g, off, none⟩ ∧ g < w.heap.size ∧ LzIn w g (off + k * 6) L[k] := lz_in (row_reads (enc := encL) (fun _ => rfl) h).1
set_option maxRecDepth 100000 in
set_option maxHeartbeats 1000000 in
theorem rfind_c {b : Nat} {v : Value} {g m n : Int} {L : List Lz} {w : World} {F : Fp} (hS : (Asrt.stars [.blk b (refO v g m n), rowL v L]).on w F) (hl : L.length ≤ 1000000) (nm : ByteArray) :
    Calls Tryd.prog 57 #[.pointer (some ⟨b, 0, none⟩), .string nm] w (Ret (.int .i64 (findI L nm)) fun w' => w = w') := by
  obtain ⟨_, ⟨hb, _⟩, _⟩ := Asrt.stars_get hS 0 rfl
  obtain ⟨hc, hf, hlt⟩ := blk_facts hb
  obtain ⟨_, hr, _⟩ := Asrt.stars_get hS 1 rfl
  obtain ⟨a, ca, rfl, hR⟩ := rowL_in hr
  have HR := Keep.mk hR
  have hc0 := hc 0
  clear hb hR hr hS hc
  go_enter Tryd.func57, Tryd.ntmps57
  go_wp2_with fail
  go_loop [5] (fun i => ∃ k : Nat, k ≤ L.length ∧ i = .int .i64 k ∧ (L.take k).any (isN nm) = false) (fun i => L.length - (intOf i).toNat)
  case atStart => exact ⟨0, by omega, rfl, by simp⟩
  case round =>
    obtain ⟨k, hk, rfl, hs⟩ := hrel
    by_cases hk' : k < L.length
    · obtain ⟨g, off, rfl, hg, hx⟩ := HR.out k hk'
      have h0 := hx.c0
      by_cases e : L[k].name = nm
      · have e1 : (L[k].name.toList == nm.toList) = true := by rw [seq, decide_eq_true e]
        have ec : findI L nm = (k : Int) := by
          have ha : L.any (isN nm) = true := List.any_eq_true.2 ⟨L[k], List.getElem_mem hk', by simp [e]⟩
          rw [findI, if_pos ha]
          congr 1
          rw [List.findIdx_eq hk']
          refine ⟨by simp [e], fun j hj => ?_⟩
          have := List.any_eq_false.1 hs (L[j]'(by omega)) (by rw [List.mem_take_iff_getElem]; exact ⟨j, by omega, rfl⟩)
          simpa using this
        have EC := Keep.mk ec
        generalize L[k].name = xn at *
        clear hs e ec
        go_wp2_with fail
        go_returns
        exact ⟨by rw [EC.out]; rfl, rfl⟩
      · have e1 : (L[k].name.toList == nm.toList) = false := by rw [seq, decide_eq_false e]
        have hs' : (L.take (k + 1)).any (isN nm) = false := by
          rw [List.take_succ_eq_append_getElem hk', List.any_append, hs]
          simp [e]
        have HS := Keep.mk hs'
        generalize L[k].name = xn at *
        clear hs e hs'
        go_wp2_with fail
        go_round
        case rel => exact ⟨k + 1, by omega, by go_num, HS.out⟩
        case measure => simp [intOf]; omega
    · have hkk : k = L.length := by omega
      subst hkk
      rw [List.take_length] at hs
      have ec : findI L nm = -1 := by rw [findI, hs]; rfl
      have EC := Keep.mk ec
      clear hs ec
      go_wp2_with fail
      go_returns
      exact ⟨by rw [EC.out]; rfl, rfl⟩
/-- what a round of 'put' makes of what it has: the row, is it in -/
def pstep (c : Lz) (s : List Lz × Bool) (x : Lz) : List Lz × Bool :=
  (let a := if s.2 = false ∧ geB x.name c.name = true then s.1 ++ [c] else s.1; if x.name = c.name then a else a ++ [x], s.2 || geB x.name c.name)
def pfold (c : Lz) (L : List Lz) : List Lz × Bool := L.foldl (pstep c) ([], false)
theorem pfold_len (c : Lz) (L : List Lz) : ∀ s, (L.foldl (pstep c) s).1.length ≤ s.1.length + 2 * L.length := by
  induction L with
  | nil => intro s; simp
  | cons x L ih =>
    intro s
    refine Nat.le_trans (ih _) ?_
    have : (pstep c s x).1.length ≤ s.1.length + 2 := by
      simp only [pstep]
      split <;> split <;> simp <;> omega
    simp only [List.length_cons]; omega
/-- what 'put' leaves -/
def rput (L : List Lz) (c : Lz) : List Lz := if (pfold c L).2 = true then (pfold c L).1 else (pfold c L).1 ++ [c]
theorem take_fold (c : Lz) {L : List Lz} {k : Nat} (h : k < L.length) : pfold c (L.take (k + 1)) = pstep c (pfold c (L.take k)) L[k] := by
  rw [List.take_succ_eq_append_getElem h, pfold, List.foldl_append]; rfl
/-- the book has another row now; the one that it had stays -/
theorem ref_new {b : Nat} {v vq : Value} {g m n : Int} {L X : List Lz} {w wq : World} {F Fq : Fp} (hS : (Asrt.stars [.blk b (refO v g m n), rowL v L]).on w F) (hq : (rowL vq X).on wq Fq) (hu : Upd none' Fq w wq) :
    ∃ F', (Asrt.stars [.blk b (refO vq g m n), rowL vq X, rowL v L]).on (wq.setCell ⟨b, 0, none⟩ vq) F' ∧ Upd F F' w (wq.setCell ⟨b, 0, none⟩ vq) := by
  obtain ⟨F1, h1, u1⟩ := Asrt.stars_new hS hq hu
  obtain ⟨Fb, hb, hsub, hgo⟩ := Asrt.stars_upd _ 1 _ rfl h1
  obtain ⟨hob, rfl⟩ := hb
  obtain ⟨F2, h2, u2⟩ := hgo (wq.setCell ⟨b, 0, none⟩ vq) (fun k => k = b) (.blk b (refO vq g m n)) ⟨obj_setCell_at hob 0 vq, rfl⟩ ((Upd.refl (fun k => k = b) wq).setCell (a := ⟨b, 0, none⟩) (.inl rfl) _)
  exact ⟨F2, Asrt.stars_perm (List.Perm.swap ..) h2, u1.trans u2⟩
abbrev infL := infoL
end Go.Proofs.YtefnfhhdcginmaaDoor

/- The document's book of leases: put. -/
set_option linter.unusedVariables false
namespace Go.Proofs.YtefnfhhdcginmaaDoor
open Go.ChangeShapes Go.WideShapes Go.ChangeAt Go.RowKit Go.Sub Go.ChangeMaps
/-- what 'put' ends with: the new row, beside the one that was -/
def PutEnds (b : Nat) (v : Value) (g m n : Int) (L X : List Lz) (F : Fp) (w : World) : Ending → World → Prop :=
  Ret (.tuple #[]) fun w' => ∃ v' F', (Asrt.stars [.blk b (refO v' g m n), rowL v' X, rowL v L]).on w' F' ∧ Upd F F' w w'
set_option maxRecDepth 100000 in
set_option maxHeartbeats 4000000 in
theorem rput_c {b : Nat} {v : Value} {g m n : Int} {L : List Lz} {w : World} {F : Fp} (hS : (Asrt.stars [.blk b (refO v g m n), rowL v L]).on w F) (hl : L.length ≤ 1000) (c : Lz) :
    Calls Tryd.prog 44 #[.pointer (some ⟨b, 0, none⟩), aggL c] w (PutEnds b v g m n L (rput L c) F w) := by
  have FIN := Keep.mk (fun {vq : Value} {X : List Lz} {wq : World} {Fq : Fp} (hq : (rowL vq X).on wq Fq) (hu : Upd none' Fq w wq) => ref_new hS hq hu)
  obtain ⟨i3, hi, hz0, hz1, hz2⟩ := info_parts infoL
  obtain ⟨_, ⟨hb, _⟩, _⟩ := Asrt.stars_get hS 0 rfl
  obtain ⟨hc, hf, hlt⟩ := blk_facts hb
  obtain ⟨_, hr, _⟩ := Asrt.stars_get hS 1 rfl
  obtain ⟨a, ca, rfl, hR⟩ := rowL_in hr
  have HR := Keep.mk hR
  have hc0 : w.cell? ⟨b, 0, none⟩ = some (.slice a L.length ca) := hc 0
  obtain ⟨F1, h1, u1⟩ := Asrt.stars_new (l := []) (w := w) (F := none') rfl (A := .blk w.heap.size (blkL c)) (w' := w.alloc (boxL c)) (Fn := fun k => k = w.heap.size) ⟨obj_alloc_at rfl, rfl⟩ (((Upd.refl none' w).alloc _).re fun k hk => .inr (by rw [hk]; exact Nat.le_refl _))
  clear hb hR hr hc hS
  go_enter Tryd.func44, Tryd.ntmps44
  go_wp2_with fail
  go_loopw [4, 5, 6] (fun vo d i wr => ∃ (k : Nat) (A : List Lz) (D : Bool) (F' : Fp), k ≤ L.length ∧ i = .int .i64 k ∧ d = .bool D ∧ (A, D) = pfold c (L.take k) ∧
    (Asrt.stars [rowL vo A, .blk w.heap.size (blkL c)]).on wr F' ∧ Upd none' F' w wr) (fun _ _ i _ => L.length - (intOf i).toNat)
  case atStart => exact ⟨0, [], false, F1, by omega, rfl, rfl, rfl, Asrt.stars_emp (row_nil _ 26 6 encL) h1, u1⟩
  case round =>
    obtain ⟨k, A, D, F', hk, rfl, rfl, hA, hSt, hU⟩ := hrel
    have q0 : wr.cell? ⟨b, 0, none⟩ = some (.slice a L.length ca) := (hU.cell hlt id).trans hc0
    clear h1 u1
    have hAl : A.length ≤ 2 * L.length := by
      have := pfold_len c (L.take k) ([], false)
      have e : A = (pfold c (L.take k)).1 := by rw [← hA]
      have := List.length_take_le k L
      rw [e, pfold]; simp at *; omega
    by_cases hk' : k < L.length
    · obtain ⟨g, off, rfl, hg, hx⟩ := HR.out k hk'
      have hst := take_fold c hk'
      rw [← hA] at hst
      obtain ⟨x0, x1, x2, x3, x4, x5⟩ := hx.upd hU hg id
      have CX := Keep.mk hx
      clear hx
      generalize L[k] = x at *
      obtain ⟨_, ⟨hB, _⟩, _⟩ := Asrt.stars_get hSt 1 rfl
      obtain ⟨hBc, _, hBl⟩ := blk_facts hB
      obtain ⟨Fo, hrow, _, hgo⟩ := Asrt.stars_upd _ 0 _ rfl hSt
      clear hB
      have HA := Keep.mk hA
      clear hA
      cases D with
      | true =>
        by_cases e : x.name = c.name
        · have e1 : (x.name.toList == c.name.toList) = true := by rw [seq, decide_eq_true e]
          have hst' : pfold c (L.take (k + 1)) = (A, true) := by rw [hst]; simp [pstep, e]
          have HST := Keep.mk hst'
          clear hst hst' e
          go_wp2_with fail
          go_quiet (fail)
          go_wp2_with fail
          go_quiet (fail)
          go_wp2_with fail
          exact ⟨⟨k + 1, A, true, F', by omega, by go_num, rfl, HST.out.symm, Asrt.drewN hSt _, hU.drewN _⟩, by simp [intOf]; omega⟩
        · have e1 : (x.name.toList == c.name.toList) = false := by rw [seq, decide_eq_false e]
          have hst' : pfold c (L.take (k + 1)) = (A ++ [x], true) := by rw [hst]; simp [pstep, e]
          have HST := Keep.mk hst'
          clear hst hst' e
          go_wp2_with fail
          go_quiet (fail)
          go_wp2_with fail
          go_quiet (fail)
          go_wp2_with (at_builtin; refine at_append_row encL 6 64 rfl (.tmp 46) (.tmp 54) 31 rfl 26 i3 _ Tryd.underlying31 hi hz0 hz1 hz2 rfl (by decide) u4 _ x Fo rfl (Asrt.drewN (Asrt.alloc hrow _) _) ⟨wr.heap.size, 0, none⟩ 1 rfl rfl (cells_new wr (encL x) _) (hone_L x) ?h63 ?hby ?next)
          case h63 => unfold maxLen; first | omega | (simp; omega)
          case hby => first | omega | (simp; omega)
          case next =>
            intro v' w4 F4 hr4 hu4
            obtain ⟨F5, h5, u5'⟩ := hgo w4 F4 _ hr4 ((((Upd.refl Fo wr).alloc _).drewN _).trans hu4)
            go_wp2_with fail
            exact ⟨⟨k + 1, A ++ [x], true, F5, by omega, by go_num, rfl, HST.out.symm, h5, hU.trans u5'⟩, by simp [intOf]; omega⟩
      | false =>
        by_cases eg : geB x.name c.name = true
        · have eg1 : Op.bytesLess x.name.toList c.name.toList = false := by simpa [geB] using eg
          by_cases e : x.name = c.name
          · have e1 : (x.name.toList == c.name.toList) = true := by rw [seq, decide_eq_true e]
            have hst' : pfold c (L.take (k + 1)) = (A ++ [c], true) := by rw [hst]; simp only [pstep, eg]; simp [e]
            have HST := Keep.mk hst'
            clear hst hst' e eg
            go_wp2_with fail
            go_quiet (fail)
            go_wp2_with (at_builtin; refine at_append_row encL 6 64 rfl (.tmp 31) (.tmp 33) 31 rfl 26 i3 _ Tryd.underlying31 hi hz0 hz1 hz2 rfl (by decide) u4 _ c Fo rfl (Asrt.drewN (Asrt.alloc hrow _) _) ⟨wr.heap.size, 0, none⟩ 1 rfl rfl (cells_new wr (encL c) _) (hone_L c) ?h63 ?hby ?next)
            case h63 => unfold maxLen; first | omega | (simp; omega)
            case hby => first | omega | (simp; omega)
            case next =>
              intro v' w4 F4 hr4 hu4
              obtain ⟨F5, h5, u5'⟩ := hgo w4 F4 _ hr4 ((((Upd.refl Fo wr).alloc _).drewN _).trans hu4)
              have hU5 := hU.trans u5'
              have y0 : w4.cell? ⟨b, 0, none⟩ = some (.slice (some ⟨g, off, none⟩) L.length ca) := (hU5.cell hlt id).trans hc0
              obtain ⟨z0, z1, z2, z3, z4, z5⟩ := CX.out.upd hU5 hg id
              obtain ⟨_, ⟨hB5, _⟩, _⟩ := Asrt.stars_get h5 1 rfl
              obtain ⟨hBc5, _, hBl5⟩ := blk_facts hB5
              have hg4 : g < w4.heap.size := Nat.lt_of_lt_of_le hg hU5.size
              have hb4 : b < w4.heap.size := Nat.lt_of_lt_of_le hlt hU5.size
              clear hB5
              go_wp2_with fail
              go_quiet (fail)
              go_wp2_with fail
              exact ⟨⟨k + 1, A ++ [c], true, F5, by omega, by go_num, rfl, HST.out.symm, Asrt.drewN h5 _, hU5.drewN _⟩, by simp [intOf]; omega⟩
          · have e1 : (x.name.toList == c.name.toList) = false := by rw [seq, decide_eq_false e]
            have hst' : pfold c (L.take (k + 1)) = (A ++ [c] ++ [x], true) := by rw [hst]; simp only [pstep, eg]; simp [e]
            have HST := Keep.mk hst'
            clear hst hst' e eg
            go_wp2_with fail
            go_quiet (fail)
            go_wp2_with (at_builtin; refine at_append_row encL 6 64 rfl (.tmp 31) (.tmp 33) 31 rfl 26 i3 _ Tryd.underlying31 hi hz0 hz1 hz2 rfl (by decide) u4 _ c Fo rfl (Asrt.drewN (Asrt.alloc hrow _) _) ⟨wr.heap.size, 0, none⟩ 1 rfl rfl (cells_new wr (encL c) _) (hone_L c) ?h63 ?hby ?next)
            case h63 => unfold maxLen; first | omega | (simp; omega)
            case hby => first | omega | (simp; omega)
            case next =>
              intro v' w4 F4 hr4 hu4
              obtain ⟨F5, h5, u5'⟩ := hgo w4 F4 _ hr4 ((((Upd.refl Fo wr).alloc _).drewN _).trans hu4)
              have hU5 := hU.trans u5'
              have y0 : w4.cell? ⟨b, 0, none⟩ = some (.slice (some ⟨g, off, none⟩) L.length ca) := (hU5.cell hlt id).trans hc0
              obtain ⟨z0, z1, z2, z3, z4, z5⟩ := CX.out.upd hU5 hg id
              obtain ⟨_, ⟨hB5, _⟩, _⟩ := Asrt.stars_get h5 1 rfl
              obtain ⟨hBc5, _, hBl5⟩ := blk_facts hB5
              have hg4 : g < w4.heap.size := Nat.lt_of_lt_of_le hg hU5.size
              have hb4 : b < w4.heap.size := Nat.lt_of_lt_of_le hlt hU5.size
              clear hB5
              obtain ⟨Fq, hrow5, _, hgo5⟩ := Asrt.stars_upd _ 0 _ rfl h5
              have hl5 : (A ++ [c]).length ≤ 2 * L.length + 1 := by simp; omega
              generalize A ++ [c] = A5 at *
              go_wp2_with fail
              go_quiet (fail)
              go_wp2_with (at_builtin; refine at_append_row encL 6 64 rfl (.tmp 46) (.tmp 54) 31 rfl 26 i3 _ Tryd.underlying31 hi hz0 hz1 hz2 rfl (by decide) v' _ x Fq rfl (Asrt.drewN (Asrt.alloc hrow5 _) _) ⟨w4.heap.size, 0, none⟩ 1 rfl rfl (cells_new w4 (encL x) _) (hone_L x) ?qh63 ?qhby ?qnext)
              case qh63 => unfold maxLen; first | omega | (simp; omega)
              case qhby => first | omega | (simp; omega)
              case qnext =>
                intro v6 w6 F6 hr6 hu6
                obtain ⟨F7, h7, u7⟩ := hgo5 w6 F6 _ hr6 ((((Upd.refl Fq w4).alloc _).drewN _).trans hu6)
                go_wp2_with fail
                exact ⟨⟨k + 1, A5 ++ [x], true, F7, by omega, by go_num, rfl, HST.out.symm, h7, hU5.trans u7⟩, by simp [intOf]; omega⟩
        · have eg1 : Op.bytesLess x.name.toList c.name.toList = true := by simpa [geB] using eg
          have e : ¬ x.name = c.name := fun h => by
            rw [h, bl_refl] at eg1
            cases eg1
          have e1 : (x.name.toList == c.name.toList) = false := by rw [seq, decide_eq_false e]
          have hst' : pfold c (L.take (k + 1)) = (A ++ [x], false) := by rw [hst]; simp only [pstep, Bool.not_eq_true _ ▸ eg]; simp [e]
          have HST := Keep.mk hst'
          clear hst hst' e eg
          go_wp2_with fail
          go_quiet (fail)
          go_wp2_with fail
          go_quiet (fail)
          go_wp2_with (at_builtin; refine at_append_row encL 6 64 rfl (.tmp 46) (.tmp 54) 31 rfl 26 i3 _ Tryd.underlying31 hi hz0 hz1 hz2 rfl (by decide) u4 _ x Fo rfl (Asrt.drewN (Asrt.alloc hrow _) _) ⟨wr.heap.size, 0, none⟩ 1 rfl rfl (cells_new wr (encL x) _) (hone_L x) ?h63 ?hby ?next)
          case h63 => unfold maxLen; first | omega | (simp; omega)
          case hby => first | omega | (simp; omega)
          case next =>
            intro v' w4 F4 hr4 hu4
            obtain ⟨F5, h5, u5'⟩ := hgo w4 F4 _ hr4 ((((Upd.refl Fo wr).alloc _).drewN _).trans hu4)
            go_wp2_with fail
            exact ⟨⟨k + 1, A ++ [x], false, F5, by omega, by go_num, rfl, HST.out.symm, h5, hU.trans u5'⟩, by simp [intOf]; omega⟩
    · have hkk : k = L.length := by omega
      subst hkk
      rw [List.take_length] at hA
      obtain ⟨_, ⟨hB, _⟩, _⟩ := Asrt.stars_get hSt 1 rfl
      obtain ⟨hBc, _, hBl⟩ := blk_facts hB
      obtain ⟨Fo, hrow, hsub, hgo⟩ := Asrt.stars_upd _ 0 _ rfl hSt
      have hbr : b < wr.heap.size := Nat.lt_of_lt_of_le hlt hU.size
      have hfb : wr.frozen? ⟨b, 0, none⟩ = false := (hU.frozen hlt id).trans (hf 0)
      obtain ⟨ao, co, rfl, _⟩ := rowL_in hrow
      have HA := Keep.mk hA
      have hUF : Upd none' Fo w wr := hU.re fun k h => hU.fp k (hsub k h)
      clear hA hB
      cases D with
      | true =>
        have ep : rput L c = A := by simp [rput, ← HA.out]
        have EP := Keep.mk ep
        clear ep
        go_wp2_with fail
        go_returns
        obtain ⟨F9, S9, U9⟩ := FIN.out hrow hUF
        exact ⟨rfl, _, F9, by rw [EP.out]; exact S9, U9⟩
      | false =>
        have ep : rput L c = A ++ [c] := by simp [rput, ← HA.out]
        have EP := Keep.mk ep
        clear ep
        go_wp2_with (at_builtin; refine at_append_row encL 6 64 rfl (.tmp 58) (.tmp 60) 31 rfl 26 i3 _ Tryd.underlying31 hi hz0 hz1 hz2 rfl (by decide) _ _ c Fo rfl (Asrt.alloc hrow _) ⟨wr.heap.size, 0, none⟩ 1 rfl rfl (cells_new wr (encL c) _) (hone_L c) ?h63 ?hby ?next)
        case h63 => unfold maxLen; first | omega | (simp; omega)
        case hby => first | omega | (simp; omega)
        case next =>
          intro v' w4 F4 hr4 hu4
          obtain ⟨ao', co', rfl, _⟩ := rowL_in hr4
          rw [List.length_append] at hr4
          have hb4 : w4.cell? ⟨b, 0, none⟩ = some (.slice a L.length ca) := ((hUF.alloc _).trans hu4).cell hlt id |>.trans hc0
          have hl4 : b < w4.heap.size := Nat.lt_of_lt_of_le hlt ((hUF.alloc (boxL c)).trans hu4).size
          have hf4 : w4.frozen? ⟨b, 0, none⟩ = false := (((hUF.alloc _).trans hu4).frozen hlt id).trans (hf 0)
          go_wp2_with fail
          go_returns
          obtain ⟨F9, S9, U9⟩ := FIN.out hr4 ((hUF.alloc _).trans hu4)
          exact ⟨rfl, _, F9, by rw [EP.out]; exact S9, U9⟩
end Go.Proofs.YtefnfhhdcginmaaDoor

/- The document's book of leases: drop. -/
set_option linter.unusedVariables false
namespace Go.Proofs.YtefnfhhdcginmaaDoor
open Go.ChangeShapes Go.WideShapes Go.ChangeAt Go.RowKit Go.Sub Go.ChangeMaps
def rdrop (L : List Lz) (nm : ByteArray) : List Lz := L.filter fun x => !(isN nm x)
theorem rdrop_step (nm : ByteArray) {L : List Lz} {k : Nat} (h : k < L.length) : rdrop (L.take (k + 1)) nm = rdrop (L.take k) nm ++ (if L[k].name = nm then [] else [L[k]]) := by
  rw [rdrop, List.take_succ_eq_append_getElem h, List.filter_append, rdrop]
  congr 1
  by_cases e : L[k].name = nm <;> simp [e]
set_option maxRecDepth 100000 in
set_option maxHeartbeats 4000000 in
theorem rdrop_c {b : Nat} {v : Value} {g m n : Int} {L : List Lz} {w : World} {F : Fp} (hS : (Asrt.stars [.blk b (refO v g m n), rowL v L]).on w F) (hl : L.length ≤ 1000) (nm : ByteArray) :
    Calls Tryd.prog 48 #[.pointer (some ⟨b, 0, none⟩), .string nm] w (PutEnds b v g m n L (rdrop L nm) F w) := by
  have FIN := Keep.mk (fun {vq : Value} {X : List Lz} {wq : World} {Fq : Fp} (hq : (rowL vq X).on wq Fq) (hu : Upd none' Fq w wq) => ref_new hS hq hu)
  obtain ⟨i3, hi, hz0, hz1, hz2⟩ := info_parts infoL
  obtain ⟨_, ⟨hb, _⟩, _⟩ := Asrt.stars_get hS 0 rfl
  obtain ⟨hc, hf, hlt⟩ := blk_facts hb
  obtain ⟨_, hr, _⟩ := Asrt.stars_get hS 1 rfl
  obtain ⟨a, ca, rfl, hR⟩ := rowL_in hr
  have HR := Keep.mk hR
  have hc0 : w.cell? ⟨b, 0, none⟩ = some (.slice a L.length ca) := hc 0
  clear hb hR hr hc hS
  go_enter Tryd.func48, Tryd.ntmps48
  go_wp2_with fail
  go_loopw [4, 5] (fun vo i wr => ∃ (k : Nat) (A : List Lz) (F' : Fp), k ≤ L.length ∧ i = .int .i64 k ∧ A = rdrop (L.take k) nm ∧ (rowL vo A).on wr F' ∧ Upd none' F' w wr) (fun _ i _ => L.length - (intOf i).toNat)
  case atStart => exact ⟨0, [], none', by omega, rfl, rfl, row_nil _ 26 6 encL, Upd.refl _ _⟩
  case round =>
    obtain ⟨k, A, F', hk, rfl, hA, hrow, hU⟩ := hrel
    have q0 : wr.cell? ⟨b, 0, none⟩ = some (.slice a L.length ca) := (hU.cell hlt id).trans hc0
    have hbr : b < wr.heap.size := Nat.lt_of_lt_of_le hlt hU.size
    have hAl : A.length ≤ L.length := by
      have h1 := List.length_filter_le (fun x => !(isN nm x)) (L.take k)
      have h2 := List.length_take_le k L
      have h3 := List.length_take_le' k L
      rw [hA, rdrop]
      omega
    by_cases hk' : k < L.length
    · obtain ⟨g', off, rfl, hg, hx⟩ := HR.out k hk'
      have hst := rdrop_step nm hk'
      rw [← hA] at hst
      obtain ⟨x0, x1, x2, x3, x4, x5⟩ := hx.upd hU hg id
      have hgr : g' < wr.heap.size := Nat.lt_of_lt_of_le hg hU.size
      clear hx
      generalize L[k] = x at *
      by_cases e : x.name = nm
      · have e1 : (x.name.toList == nm.toList) = true := by rw [seq, decide_eq_true e]
        rw [if_pos e, List.append_nil] at hst
        have HST := Keep.mk hst
        clear hst hA e
        go_wp2_with fail
        exact ⟨⟨k + 1, A, F', by omega, by go_num, HST.out.symm, hrow, hU⟩, by simp [intOf]; omega⟩
      · have e1 : (x.name.toList == nm.toList) = false := by rw [seq, decide_eq_false e]
        rw [if_neg e] at hst
        have HST := Keep.mk hst
        clear hst hA e
        go_wp2_with (at_builtin; refine at_append_row encL 6 64 rfl (.tmp 25) (.tmp 33) 31 rfl 26 i3 _ Tryd.underlying31 hi hz0 hz1 hz2 rfl (by decide) _ _ x F' rfl (Asrt.alloc hrow _) ⟨wr.heap.size, 0, none⟩ 1 rfl rfl (cells_new wr (encL x) _) (hone_L x) ?h63 ?hby ?next)
        case h63 => unfold maxLen; omega
        case hby => omega
        case next =>
          intro v' w4 F4 hr4 hu4
          go_wp2_with fail
          exact ⟨⟨k + 1, A ++ [x], F4, by omega, by go_num, HST.out.symm, hr4, hU.trans (((Upd.refl F' wr).alloc _).trans hu4)⟩, by simp [intOf]; omega⟩
    · have hkk : k = L.length := by omega
      subst hkk
      rw [List.take_length] at hA
      have hfb : wr.frozen? ⟨b, 0, none⟩ = false := (hU.frozen hlt id).trans (hf 0)
      obtain ⟨ao, co, rfl, _⟩ := rowL_in hrow
      have HA := Keep.mk hA
      clear hA
      go_wp2_with fail
      go_returns
      obtain ⟨F9, S9, U9⟩ := FIN.out hrow hU
      exact ⟨rfl, _, F9, by rw [← HA.out]; exact S9, U9⟩
end Go.Proofs.YtefnfhhdcginmaaDoor

/- The document's book of leases: Holder, own. -/
set_option linter.unusedVariables false
namespace Go.Proofs.YtefnfhhdcginmaaDoor
open Go.ChangeShapes Go.WideShapes Go.ChangeAt Go.RowKit Go.Sub Go.ChangeMaps
theorem find_cases (L : List Lz) (nm : ByteArray) : (L.find? (isN nm) = none ∧ findI L nm = -1) ∨ ∃ (k : Nat) (hk : k < L.length), L.find? (isN nm) = some L[k] ∧ findI L nm = (k : Int) ∧ L[k].name = nm := by
  cases h : L.any (isN nm) with
  | false =>
    refine .inl ⟨List.find?_eq_none.2 fun x hx => ?_, by rw [findI, h]; rfl⟩
    have := List.any_eq_false.1 h x hx
    simpa using this
  | true =>
    have hk : L.findIdx (isN nm) < L.length := List.findIdx_lt_length.2 (List.any_eq_true.1 h)
    have h1 := List.findIdx_getElem (w := hk)
    refine .inr ⟨L.findIdx (isN nm), hk, ?_, by rw [findI, if_pos h], by simpa using h1⟩
    rw [List.find?_eq_some_iff_getElem]
    exact ⟨h1, _, hk, rfl, fun j hj => by have := List.not_of_lt_findIdx hj; simpa using this⟩
def rhold (L : List Lz) (nm : ByteArray) (now : Int) : Lz × Bool := match L.find? (isN nm) with
  | none => (zeroL, false)
  | some x => if heldB x now = true then (x, true) else (zeroL, false)
set_option maxRecDepth 100000 in
set_option maxHeartbeats 2000000 in
theorem rholder_c {b : Nat} {v : Value} {g m n : Int} {L : List Lz} {w : World} {F : Fp} (hS : (Asrt.stars [.blk b (refO v g m n), rowL v L]).on w F) (hl : L.length ≤ 1000) (nm : ByteArray) (now : Int) :
    Calls Tryd.prog 30 #[.pointer (some ⟨b, 0, none⟩), .string nm, .int .i64 now] w (Ret (.tuple #[aggL (rhold L nm now).1, .bool (rhold L nm now).2]) fun w' => Quiet w w') := by
  obtain ⟨F1, S1, U1⟩ := Asrt.stars_box (l := []) (w := w) (F := none') rfl (boxL zeroL)
  have hS1 := Asrt.alloc hS (boxL zeroL)
  have C := Keep.mk (rfind_c hS1 (by omega) nm)
  unfold rhold
  rcases find_cases L nm with ⟨h1, h2⟩ | ⟨k, hk, h1, h2, h3⟩
  · rw [h1]
    rw [h2] at C
    clear h1 h2 hS1
    go_enter Tryd.func30, Tryd.ntmps30
    go_wp2_with fail
    refine C.out.mono ?_
    rintro e w1 ⟨rfl, rfl⟩
    go_wp2_with (refine store_at S1 0 rfl rfl 26 _ _ rfl (cellsL zeroL) rfl rfl (sizeL zeroL) rfl (oneL zeroL) ?_; intro W2 F2 S2 U2 q2)
    obtain ⟨_, ⟨hg, _⟩, _⟩ := Asrt.stars_get S2 0 rfl
    have HQ := (U1.trans U2).quiet
    refine bodyPost_ret (struct_ret rfl rfl rfl hg) rfl ?_
    exact ⟨rfl, HQ⟩
  · rw [h1]
    rw [h2] at C
    obtain ⟨_, hr, _⟩ := Asrt.stars_get hS1 1 rfl
    obtain ⟨_, ⟨hb, _⟩, _⟩ := Asrt.stars_get hS1 0 rfl
    obtain ⟨hc, hf, hlt⟩ := blk_facts hb
    obtain ⟨a, ca, rfl, hR⟩ := rowL_in hr
    obtain ⟨g', off, rfl, hg, hx⟩ := hR k hk
    have HX := Keep.mk hx
    obtain ⟨x0, x1, x2, x3, x4, x5⟩ := hx
    have b0 := hc 0
    generalize L[k] = x at *
    have HC := Keep.mk (fun w : World => held_c (w := w) x now)
    simp only
    have hk0 : decide ((k : Int) < 0) = false := by simp
    cases hh : heldB x now with
    | false =>
      rw [hh] at HC
      clear h1 h2 h3 hS1 hS hr hb hc hf hR hh
      go_enter Tryd.func30, Tryd.ntmps30
      go_wp2_with fail
      refine C.out.mono ?_
      rintro e w1 ⟨rfl, rfl⟩
      go_wp2_with fail
      refine (HC.out _).mono ?_
      rintro e w1 ⟨rfl, q1⟩
      obtain ⟨S1', U1'⟩ := Asrt.stars_same S1 q1
      have V1 := U1.trans U1'
      clear x0 x1 x2 x3 x4 x5 b0 U1 S1 U1'
      go_wp2_with (refine store_at S1' 0 rfl rfl 26 _ _ rfl (cellsL zeroL) rfl rfl (sizeL zeroL) rfl (oneL zeroL) ?_; intro W2 F2 S2 U2 q2)
      obtain ⟨_, ⟨hg, _⟩, _⟩ := Asrt.stars_get S2 0 rfl
      have HQ := (V1.trans U2).quiet
      refine bodyPost_ret (struct_ret rfl rfl rfl hg) rfl ?_
      exact ⟨rfl, HQ⟩
    | true =>
      rw [hh] at HC
      clear h1 h2 h3 hS1 hS hr hb hc hf hR hh
      go_enter Tryd.func30, Tryd.ntmps30
      go_wp2_with fail
      refine C.out.mono ?_
      rintro e w1 ⟨rfl, rfl⟩
      go_wp2_with fail
      refine (HC.out _).mono ?_
      rintro e w1 ⟨rfl, q1⟩
      obtain ⟨S1', U1'⟩ := Asrt.stars_same S1 q1
      have V1 := U1.trans U1'
      obtain ⟨x0, x1, x2, x3, x4, x5⟩ := HX.out.upd q1 hg id
      have b0 := (q1.cell hlt id).trans b0
      have hlt := Nat.lt_of_lt_of_le hlt q1.size
      have hg := Nat.lt_of_lt_of_le hg q1.size
      clear U1 S1 U1'
      go_wp2_with (refine store_at S1' 0 rfl rfl 26 _ _ rfl (cellsL x) rfl rfl (sizeL zeroL) rfl (oneL x) ?_; intro W2 F2 S2 U2 q2)
      obtain ⟨_, ⟨hgg, _⟩, _⟩ := Asrt.stars_get S2 0 rfl
      have HQ := (V1.trans U2).quiet
      refine bodyPost_ret (struct_ret rfl rfl rfl hgg) rfl ?_
      exact ⟨rfl, HQ⟩
end Go.Proofs.YtefnfhhdcginmaaDoor

/- The document's book of leases: own. -/
set_option linter.unusedVariables false
namespace Go.Proofs.YtefnfhhdcginmaaDoor
open Go.ChangeShapes Go.WideShapes Go.ChangeAt Go.RowKit Go.Sub Go.ChangeMaps
def rownV (ck is : Bool) (x : Lz) (tenant : ByteArray) (epoch : Int) : Lz × Int :=
  if ck = false then (zeroL, 1) else if is = false then (zeroL, 3) else if x.tenant = tenant then (if x.epoch = epoch then (x, 0) else (zeroL, 132)) else (zeroL, 131)
def rown (L : List Lz) (tenant nm : ByteArray) (epoch now : Int) : Lz × Int := rownV (clockB now) (rhold L nm now).2 (rhold L nm now).1 tenant epoch
set_option maxRecDepth 100000 in
set_option maxHeartbeats 2000000 in
theorem rown_c {b : Nat} {v : Value} {g m n : Int} {L : List Lz} {w : World} {F : Fp} (hS : (Asrt.stars [.blk b (refO v g m n), rowL v L]).on w F) (hl : L.length ≤ 1000) (tenant nm : ByteArray) (epoch now : Int) :
    Calls Tryd.prog 43 #[.pointer (some ⟨b, 0, none⟩), .string tenant, .string nm, .int .i64 epoch, .int .i64 now] w (Ret (.tuple #[aggL (rown L tenant nm epoch now).1, .int .i64 (rown L tenant nm epoch now).2]) fun w' => Quiet w w') := by
  obtain ⟨F1, S1, U1⟩ := Asrt.stars_box (l := []) (w := w) (F := none') rfl (boxL zeroL)
  have hS1 := Asrt.alloc hS (boxL zeroL)
  have C := Keep.mk (rholder_c hS1 hl nm now)
  have CK := Keep.mk (fun w : World => rclock_c (w := w) now)
  unfold rown
  clear hS hS1
  generalize (rhold L nm now).1 = x at *
  generalize (rhold L nm now).2 = is at *
  generalize clockB now = ck at *
  go_enter Tryd.func43, Tryd.ntmps43
  go_wp2_with fail
  refine C.out.mono ?_
  rintro e w1 ⟨rfl, q1⟩
  obtain ⟨S2, U2⟩ := Asrt.stars_same S1 q1
  have V2 := U1.trans U2
  clear S1 U1 U2
  go_wp2_with (refine store_new S2 rfl 26 _ _ rfl (cellsL x) rfl rfl (sizeL zeroL) rfl (oneL x) ?_; intro W3 F3 S3 U3 q3)
  refine (CK.out _).mono ?_
  rintro e w1 ⟨rfl, rfl⟩
  have V3 := V2.trans U3
  obtain ⟨kx, _, kl⟩ := box_cell (i := 1) S3 rfl
  have k1 := kx 1
  have k3 := kx 3
  clear kx U3 V2 S2 q1
  cases ck with
  | false =>
    have ER := Keep.mk (show rownV false is x tenant epoch = (zeroL, 1) from by simp [rownV])
    go_wp2_with (refine store_at S3 0 rfl rfl 26 _ _ rfl (cellsL zeroL) rfl rfl (sizeL zeroL) rfl (oneL zeroL) ?_; intro W4 F4 S4 U4 q4)
    obtain ⟨_, ⟨hg, _⟩, _⟩ := Asrt.stars_get S4 0 rfl
    have HQ := (V3.trans U4).quiet
    refine bodyPost_ret (struct_ret rfl rfl rfl hg) rfl ?_
    exact ⟨by rw [ER.out]; rfl, HQ⟩
  | true =>
    cases is with
    | false =>
      have ER := Keep.mk (show rownV true false x tenant epoch = (zeroL, 3) from by simp [rownV])
      go_wp2_with (refine store_at S3 0 rfl rfl 26 _ _ rfl (cellsL zeroL) rfl rfl (sizeL zeroL) rfl (oneL zeroL) ?_; intro W4 F4 S4 U4 q4)
      obtain ⟨_, ⟨hg, _⟩, _⟩ := Asrt.stars_get S4 0 rfl
      have HQ := (V3.trans U4).quiet
      refine bodyPost_ret (struct_ret rfl rfl rfl hg) rfl ?_
      exact ⟨by rw [ER.out]; rfl, HQ⟩
    | true =>
      by_cases ht : x.tenant = tenant
      · have e1 : (x.tenant.toList == tenant.toList) = true := by rw [seq, decide_eq_true ht]
        by_cases he : x.epoch = epoch
        · have e2 : (x.epoch == epoch) = true := by simpa using he
          have ER := Keep.mk (show rownV true true x tenant epoch = (x, 0) from by simp [rownV, ht, he])
          clear he ht
          go_wp2_with (refine store_at S3 0 rfl rfl 26 _ _ rfl (cellsL x) rfl rfl (sizeL zeroL) rfl (oneL x) ?_; intro W4 F4 S4 U4 q4)
          obtain ⟨_, ⟨hg, _⟩, _⟩ := Asrt.stars_get S4 0 rfl
          have HQ := (V3.trans U4).quiet
          refine bodyPost_ret (struct_ret rfl rfl rfl hg) rfl ?_
          exact ⟨by rw [ER.out]; rfl, HQ⟩
        · have e2 : (x.epoch == epoch) = false := by simpa using he
          have ER := Keep.mk (show rownV true true x tenant epoch = (zeroL, 132) from by simp [rownV, ht, he])
          clear he ht
          go_wp2_with (refine store_at S3 0 rfl rfl 26 _ _ rfl (cellsL zeroL) rfl rfl (sizeL zeroL) rfl (oneL zeroL) ?_; intro W4 F4 S4 U4 q4)
          obtain ⟨_, ⟨hg, _⟩, _⟩ := Asrt.stars_get S4 0 rfl
          have HQ := (V3.trans U4).quiet
          refine bodyPost_ret (struct_ret rfl rfl rfl hg) rfl ?_
          exact ⟨by rw [ER.out]; rfl, HQ⟩
      · have e1 : (x.tenant.toList == tenant.toList) = false := by rw [seq, decide_eq_false ht]
        have ER := Keep.mk (show rownV true true x tenant epoch = (zeroL, 131) from by simp [rownV, ht])
        clear ht
        go_wp2_with (refine store_at S3 0 rfl rfl 26 _ _ rfl (cellsL zeroL) rfl rfl (sizeL zeroL) rfl (oneL zeroL) ?_; intro W4 F4 S4 U4 q4)
        obtain ⟨_, ⟨hg, _⟩, _⟩ := Asrt.stars_get S4 0 rfl
        have HQ := (V3.trans U4).quiet
        refine bodyPost_ret (struct_ret rfl rfl rfl hg) rfl ?_
        exact ⟨by rw [ER.out]; rfl, HQ⟩
end Go.Proofs.YtefnfhhdcginmaaDoor

/- The document's book of leases: Renew, Release, Evict. -/
set_option linter.unusedVariables false
namespace Go.Proofs.YtefnfhhdcginmaaDoor
open Go.ChangeShapes Go.WideShapes Go.ChangeAt Go.RowKit Go.Sub Go.ChangeMaps
theorem refT_cells {b : Nat} {g m n : Int} {L : List Lz} {w : World} {F : Fp} (h : (refT b g m n L).on w F) :
    w.cell? ⟨b, 1, none⟩ = some (.int .i64 g) ∧ w.cell? ⟨b, 2, none⟩ = some (.int .i64 m) ∧ w.cell? ⟨b, 3, none⟩ = some (.int .i64 n) ∧ b < w.heap.size := by
  obtain ⟨v, hS⟩ := h
  obtain ⟨hc, _, hl⟩ := box_cell (i := 0) hS rfl
  exact ⟨hc 1, hc 2, hc 3, hl⟩
theorem size_i64 : (Tryd.prog.info? 2).map (·.size) = some 1 := by kernel_rfl
theorem size_bool : (Tryd.prog.info? 4).map (·.size) = some 1 := by kernel_rfl
def REnds (b : Nat) (g m n : Int) (L : List Lz) (v : Value) (F : Fp) (w : World) : Ending → World → Prop := Ret v fun w' => ∃ F', (refT b g m n L).on w' F' ∧ Upd F F' w w'
theorem rput_t {b : Nat} {g m n : Int} {L : List Lz} {w : World} {F : Fp} (h : (refT b g m n L).on w F) (hl : L.length ≤ 1000) (c : Lz) :
    Calls Tryd.prog 44 #[.pointer (some ⟨b, 0, none⟩), aggL c] w (REnds b g m n (rput L c) (.tuple #[]) F w) := by
  obtain ⟨v, hS⟩ := h
  refine (rput_c hS hl c).mono ?_
  rintro e w' ⟨rfl, v', F', h', u⟩
  obtain ⟨F'', h2, hs⟩ := Asrt.stars_two h'
  exact ⟨rfl, F'', ⟨v', h2⟩, u.re fun k hk => u.fp k (hs k hk)⟩
theorem rdrop_t {b : Nat} {g m n : Int} {L : List Lz} {w : World} {F : Fp} (h : (refT b g m n L).on w F) (hl : L.length ≤ 1000) (nm : ByteArray) :
    Calls Tryd.prog 48 #[.pointer (some ⟨b, 0, none⟩), .string nm] w (REnds b g m n (rdrop L nm) (.tuple #[]) F w) := by
  obtain ⟨v, hS⟩ := h
  refine (rdrop_c hS hl nm).mono ?_
  rintro e w' ⟨rfl, v', F', h', u⟩
  obtain ⟨F'', h2, hs⟩ := Asrt.stars_two h'
  exact ⟨rfl, F'', ⟨v', h2⟩, u.re fun k hk => u.fp k (hs k hk)⟩
theorem rown_t {b : Nat} {g m n : Int} {L : List Lz} {w : World} {F : Fp} (h : (refT b g m n L).on w F) (hl : L.length ≤ 1000) (tenant nm : ByteArray) (epoch now : Int) :
    Calls Tryd.prog 43 #[.pointer (some ⟨b, 0, none⟩), .string tenant, .string nm, .int .i64 epoch, .int .i64 now] w (Ret (.tuple #[aggL (rown L tenant nm epoch now).1, .int .i64 (rown L tenant nm epoch now).2]) fun w' => Quiet w w') := by
  obtain ⟨v, hS⟩ := h
  exact rown_c hS hl tenant nm epoch now
theorem rholder_t {b : Nat} {g m n : Int} {L : List Lz} {w : World} {F : Fp} (h : (refT b g m n L).on w F) (hl : L.length ≤ 1000) (nm : ByteArray) (now : Int) :
    Calls Tryd.prog 30 #[.pointer (some ⟨b, 0, none⟩), .string nm, .int .i64 now] w (Ret (.tuple #[aggL (rhold L nm now).1, .bool (rhold L nm now).2]) fun w' => Quiet w w') := by
  obtain ⟨v, hS⟩ := h
  exact rholder_c hS hl nm now
def rrenew (m : Int) (L : List Lz) (tenant nm : ByteArray) (epoch now ttl : Int) : List Lz × Lz × Int :=
  if timeB ttl = false then (L, zeroL, 1) else if (rown L tenant nm epoch now).2 = 0 then (rput L (renL (rown L tenant nm epoch now).1 (now + min ttl m)), renL (rown L tenant nm epoch now).1 (now + min ttl m), 0) else (L, zeroL, (rown L tenant nm epoch now).2)
theorem rown_clock {L : List Lz} {tenant nm : ByteArray} {epoch now : Int} (h : (rown L tenant nm epoch now).2 = 0) : clockB now = true := by
  unfold rown rownV at h
  cases hc : clockB now with
  | true => rfl
  | false => rw [hc] at h; simp at h
set_option maxRecDepth 100000 in
set_option maxHeartbeats 2000000 in
theorem rrenew_c {b : Nat} {g m n : Int} {L : List Lz} {w : World} {F : Fp} (hM : (refT b g m n L).on w F) (hl : L.length ≤ 1000) (m0 : 1 ≤ m) (m1 : m ≤ 1073741824) (tenant nm : ByteArray) (epoch now ttl : Int) :
    Calls Tryd.prog 18 #[.pointer (some ⟨b, 0, none⟩), .string tenant, .string nm, .int .i64 epoch, .int .i64 now, .int .i64 ttl] w
      (REnds b g m n (rrenew m L tenant nm epoch now ttl).1 (.tuple #[aggL (rrenew m L tenant nm epoch now ttl).2.1, .int .i64 (rrenew m L tenant nm epoch now ttl).2.2]) F w) := by
  obtain ⟨F1, S1, U1⟩ := Asrt.stars_box1 (Asrt.stars_one hM) (boxL zeroL)
  have HO := Keep.mk (fun (w : World) (F : Fp) (h : (refT b g m n L).on w F) => rown_t h hl tenant nm epoch now)
  have CK := Keep.mk (fun w : World => rtime_c (w := w) ttl)
  have HCL := Keep.mk (@rown_clock L tenant nm epoch now)
  have HT := Keep.mk (@timeB_iff ttl)
  unfold rrenew
  clear hM
  generalize (rown L tenant nm epoch now).1 = x at *
  generalize (rown L tenant nm epoch now).2 = er at *
  generalize timeB ttl = tk at *
  cases tk with
  | false =>
    rw [if_pos rfl]
    go_enter Tryd.func18, Tryd.ntmps18
    go_wp2_with fail
    refine (CK.out _).mono ?_
    rintro e w1 ⟨rfl, rfl⟩
    go_wp2_with (refine store_at S1 1 rfl rfl 26 _ _ rfl (cellsL zeroL) rfl rfl (sizeL zeroL) rfl (oneL zeroL) ?_; intro W2 F2 S2 U2 q2)
    obtain ⟨_, ⟨hg, _⟩, _⟩ := Asrt.stars_get S2 1 rfl
    have HQ := Keep.mk (first_end S2 (U1.trans U2))
    refine bodyPost_ret (struct_ret rfl rfl rfl hg) rfl ?_
    exact ⟨rfl, HQ.out⟩
  | true =>
    rw [if_neg (by simp)]
    by_cases he : er = 0
    · subst he
      obtain ⟨n0, n1⟩ := clockB_iff.1 (HCL.out rfl)
      obtain ⟨t0, t1⟩ := HT.out.1 rfl
      rw [if_pos rfl]
      have e5 : IntKind.i64.wrap (now + min ttl m) = now + min ttl m := by rw [IntKind.wrap_i64]; omega
      have HP := Keep.mk (fun (w : World) (F : Fp) (h : (refT b g m n L).on w F) => rput_t h hl (renL x (now + min ttl m)))
      unfold REnds at HP
      go_enter Tryd.func18, Tryd.ntmps18
      go_wp2_with fail
      refine (CK.out _).mono ?_
      rintro e w1 ⟨rfl, rfl⟩
      go_wp2_with fail
      refine (on_first_same S1 (fun Fi h => HO.out _ _ h)).mono ?_
      rintro e w2 ⟨rfl, F2, S2, U2⟩
      have V2 := U1.trans U2
      clear S1 U2 U1
      obtain ⟨_, hm2, _⟩ := Asrt.stars_get S2 0 rfl
      obtain ⟨b1, b2, b3, bl⟩ := refT_cells hm2
      clear hm2
      go_wp2_with (first
        | (refine store_new S2 rfl 26 _ _ rfl (cellsL x) rfl rfl (sizeL zeroL) rfl (oneL x) ?_; intro W3 F3 S3 U3 q3; clear b1 b2 b3 bl; obtain ⟨_, hm3, _⟩ := Asrt.stars_get S3 0 rfl; obtain ⟨b1, b2, b3, bl⟩ := refT_cells hm3; clear hm3)
        | (refine store_cell S3 1 rfl rfl 2 _ _ rfl 4 (.int .i64 (now + min ttl m)) rfl rfl (by exact (show (4 : Nat) < 6 from by decide)) size_i64 rfl (cellsL (renL x (now + min ttl m))) rfl ?_; intro W4 F4 S4 U4 q4))
      refine (on_head S4 (fun Fi h _ => HP.out _ _ h)).mono ?_
      rintro e w5 ⟨rfl, F5, S5, U5⟩
      have V5 := ((V2.trans U3).trans U4).trans U5
      obtain ⟨k5, _, l5⟩ := box_cell (i := 1) S5 rfl
      clear S4 U5 V2 U3 U4 S3 S2 q3 q4
      go_wp2_with (refine store_at S5 2 rfl rfl 26 _ _ rfl (cellsL (renL x (now + min ttl m))) rfl rfl (sizeL zeroL) rfl (oneL (renL x (now + min ttl m))) ?_; intro W6 F6 S6 U6 q6)
      obtain ⟨_, ⟨hg, _⟩, _⟩ := Asrt.stars_get S6 2 rfl
      have HQ := Keep.mk (first_end S6 (V5.trans U6))
      refine bodyPost_ret (struct_ret rfl rfl rfl hg) rfl ?_
      exact ⟨rfl, HQ.out⟩
    · rw [if_neg he]
      have e6 : (er == 0) = false := by simpa using he
      clear he HCL
      go_enter Tryd.func18, Tryd.ntmps18
      go_wp2_with fail
      refine (CK.out _).mono ?_
      rintro e w1 ⟨rfl, rfl⟩
      go_wp2_with fail
      refine (on_first_same S1 (fun Fi h => HO.out _ _ h)).mono ?_
      rintro e w2 ⟨rfl, F2, S2, U2⟩
      have V2 := U1.trans U2
      clear S1 U2 U1
      go_wp2_with (first
        | (refine store_new S2 rfl 26 _ _ rfl (cellsL x) rfl rfl (sizeL zeroL) rfl (oneL x) ?_; intro W3 F3 S3 U3 q3)
        | (refine store_at S3 2 rfl rfl 26 _ _ rfl (cellsL zeroL) rfl rfl (sizeL zeroL) rfl (oneL zeroL) ?_; intro W4 F4 S4 U4 q4))
      obtain ⟨_, ⟨hg, _⟩, _⟩ := Asrt.stars_get S4 2 rfl
      have HQ := Keep.mk (first_end S4 ((V2.trans U3).trans U4))
      refine bodyPost_ret (struct_ret rfl rfl rfl hg) rfl ?_
      exact ⟨rfl, HQ.out⟩
end Go.Proofs.YtefnfhhdcginmaaDoor

/- The document's book of leases: Release, Evict. -/
set_option linter.unusedVariables false
namespace Go.Proofs.YtefnfhhdcginmaaDoor
open Go.ChangeShapes Go.WideShapes Go.ChangeAt Go.RowKit Go.Sub Go.ChangeMaps
def rrelease (g : Int) (L : List Lz) (tenant nm : ByteArray) (epoch now : Int) : List Lz × Int :=
  if (rown L tenant nm epoch now).2 = 0 then (rput L (keptL (rown L tenant nm epoch now).1 (now + g)), 0) else (L, (rown L tenant nm epoch now).2)
abbrev offL (x : Lz) : Lz := ⟨x.name, x.tenant, x.conn, x.epoch, x.til, false⟩
set_option maxRecDepth 100000 in
set_option maxHeartbeats 2000000 in
theorem rrelease_c {b : Nat} {g m n : Int} {L : List Lz} {w : World} {F : Fp} (hM : (refT b g m n L).on w F) (hl : L.length ≤ 1000) (g0 : 0 ≤ g) (g1 : g ≤ 1073741824) (tenant nm : ByteArray) (epoch now : Int) :
    Calls Tryd.prog 20 #[.pointer (some ⟨b, 0, none⟩), .string tenant, .string nm, .int .i64 epoch, .int .i64 now] w
      (REnds b g m n (rrelease g L tenant nm epoch now).1 (.int .i64 (rrelease g L tenant nm epoch now).2) F w) := by
  have S1 := Asrt.stars_one hM
  have HO := Keep.mk (fun (w : World) (F : Fp) (h : (refT b g m n L).on w F) => rown_t h hl tenant nm epoch now)
  have HCL := Keep.mk (@rown_clock L tenant nm epoch now)
  unfold rrelease
  clear hM
  generalize (rown L tenant nm epoch now).1 = x at *
  generalize (rown L tenant nm epoch now).2 = er at *
  by_cases he : er = 0
  · subst he
    obtain ⟨n0, n1⟩ := clockB_iff.1 (HCL.out rfl)
    rw [if_pos rfl]
    have e5 : IntKind.i64.wrap (now + g) = now + g := by rw [IntKind.wrap_i64]; omega
    have HP := Keep.mk (fun (w : World) (F : Fp) (h : (refT b g m n L).on w F) => rput_t h hl (keptL x (now + g)))
    unfold REnds at HP
    go_enter Tryd.func20, Tryd.ntmps20
    go_wp2_with fail
    refine (on_first_same S1 (fun Fi h => HO.out _ _ h)).mono ?_
    rintro e w2 ⟨rfl, F2, S2, U2⟩
    clear S1
    obtain ⟨_, hm2, _⟩ := Asrt.stars_get S2 0 rfl
    obtain ⟨b1, b2, b3, bl⟩ := refT_cells hm2
    clear hm2
    go_wp2_with (first
      | (refine store_new S2 rfl 26 _ _ rfl (cellsL x) rfl rfl (sizeL zeroL) rfl (oneL x) ?_; intro W3 F3 S3 U3 q3; clear b1 b2 b3 bl; obtain ⟨_, hm3, _⟩ := Asrt.stars_get S3 0 rfl; obtain ⟨b1, b2, b3, bl⟩ := refT_cells hm3; clear hm3)
      | (refine store_cell S3 1 rfl rfl 4 _ _ rfl 5 (.bool false) rfl rfl (by exact (show (5 : Nat) < 6 from by decide)) size_bool rfl (cellsL (offL x)) rfl ?_; intro W4 F4 S4 U4 q4; clear b1 b2 b3 bl; obtain ⟨_, hm3, _⟩ := Asrt.stars_get S4 0 rfl; obtain ⟨b1, b2, b3, bl⟩ := refT_cells hm3; clear hm3)
      | (refine store_cell S4 1 rfl rfl 2 _ _ rfl 4 (.int .i64 (now + g)) rfl rfl (by exact (show (4 : Nat) < 6 from by decide)) size_i64 rfl (cellsL (keptL x (now + g))) rfl ?_; intro W5 F5 S5 U5 q5))
    refine (on_head S5 (fun Fi h _ => HP.out _ _ h)).mono ?_
    rintro e w6 ⟨rfl, F6, S6, U6⟩
    have HQ := Keep.mk (first_end S6 ((((U2.trans U3).trans U4).trans U5).trans U6))
    clear S6 U6 S5 S4 S3 U2 U3 U4 U5 q3 q4 q5 b1 b2 b3 bl
    go_wp2_with fail
    go_returns
    exact ⟨rfl, HQ.out⟩
  · rw [if_neg he]
    have e6 : (er == 0) = false := by simpa using he
    clear he HCL
    go_enter Tryd.func20, Tryd.ntmps20
    go_wp2_with fail
    refine (on_first_same S1 (fun Fi h => HO.out _ _ h)).mono ?_
    rintro e w2 ⟨rfl, F2, S2, U2⟩
    clear S1
    go_wp2_with (refine store_new S2 rfl 26 _ _ rfl (cellsL x) rfl rfl (sizeL zeroL) rfl (oneL x) ?_; intro W3 F3 S3 U3 q3)
    have HQ := Keep.mk (first_end S3 (U2.trans U3))
    clear S3 U3 U2 q3
    go_returns
    exact ⟨rfl, HQ.out⟩
def revict (L : List Lz) (nm : ByteArray) (now : Int) : List Lz × Lz × Bool := if (rhold L nm now).2 = true then (if clockB now = true then (rdrop L nm, (rhold L nm now).1, true) else (L, zeroL, false)) else (L, zeroL, false)
set_option maxRecDepth 100000 in
set_option maxHeartbeats 2000000 in
theorem revict_c {b : Nat} {g m n : Int} {L : List Lz} {w : World} {F : Fp} (hM : (refT b g m n L).on w F) (hl : L.length ≤ 1000) (nm : ByteArray) (now : Int) :
    Calls Tryd.prog 22 #[.pointer (some ⟨b, 0, none⟩), .string nm, .int .i64 now] w
      (REnds b g m n (revict L nm now).1 (.tuple #[aggL (revict L nm now).2.1, .bool (revict L nm now).2.2]) F w) := by
  obtain ⟨F1, S1, U1⟩ := Asrt.stars_box1 (Asrt.stars_one hM) (boxL zeroL)
  have HO := Keep.mk (fun (w : World) (F : Fp) (h : (refT b g m n L).on w F) => rholder_t h hl nm now)
  have CK := Keep.mk (fun w : World => rclock_c (w := w) now)
  have HP := Keep.mk (fun (w : World) (F : Fp) (h : (refT b g m n L).on w F) => rdrop_t h hl nm)
  unfold REnds at HP
  unfold revict
  clear hM
  generalize (rhold L nm now).1 = x at *
  generalize (rhold L nm now).2 = is at *
  generalize clockB now = ck at *
  cases is with
  | false =>
    rw [if_neg (by simp)]
    go_enter Tryd.func22, Tryd.ntmps22
    go_wp2_with fail
    refine (on_first_same S1 (fun Fi h => HO.out _ _ h)).mono ?_
    rintro e w2 ⟨rfl, F2, S2, U2⟩
    clear S1
    go_wp2_with (first
      | (refine store_new S2 rfl 26 _ _ rfl (cellsL x) rfl rfl (sizeL zeroL) rfl (oneL x) ?_; intro W3 F3 S3 U3 q3)
      | (refine store_at S3 2 rfl rfl 26 _ _ rfl (cellsL zeroL) rfl rfl (sizeL zeroL) rfl (oneL zeroL) ?_; intro W4 F4 S4 U4 q4))
    obtain ⟨_, ⟨hg, _⟩, _⟩ := Asrt.stars_get S4 2 rfl
    have HQ := Keep.mk (first_end S4 (((U1.trans U2).trans U3).trans U4))
    refine bodyPost_ret (struct_ret rfl rfl rfl hg) rfl ?_
    exact ⟨rfl, HQ.out⟩
  | true =>
    rw [if_pos rfl]
    cases ck with
    | false =>
      rw [if_neg (by simp)]
      go_enter Tryd.func22, Tryd.ntmps22
      go_wp2_with fail
      refine (on_first_same S1 (fun Fi h => HO.out _ _ h)).mono ?_
      rintro e w2 ⟨rfl, F2, S2, U2⟩
      clear S1
      go_wp2_with (refine store_new S2 rfl 26 _ _ rfl (cellsL x) rfl rfl (sizeL zeroL) rfl (oneL x) ?_; intro W3 F3 S3 U3 q3)
      refine (CK.out _).mono ?_
      rintro e w1 ⟨rfl, rfl⟩
      go_wp2_with (refine store_at S3 2 rfl rfl 26 _ _ rfl (cellsL zeroL) rfl rfl (sizeL zeroL) rfl (oneL zeroL) ?_; intro W4 F4 S4 U4 q4)
      obtain ⟨_, ⟨hg, _⟩, _⟩ := Asrt.stars_get S4 2 rfl
      have HQ := Keep.mk (first_end S4 (((U1.trans U2).trans U3).trans U4))
      refine bodyPost_ret (struct_ret rfl rfl rfl hg) rfl ?_
      exact ⟨rfl, HQ.out⟩
    | true =>
      rw [if_pos rfl]
      go_enter Tryd.func22, Tryd.ntmps22
      go_wp2_with fail
      refine (on_first_same S1 (fun Fi h => HO.out _ _ h)).mono ?_
      rintro e w2 ⟨rfl, F2, S2, U2⟩
      clear S1
      go_wp2_with (refine store_new S2 rfl 26 _ _ rfl (cellsL x) rfl rfl (sizeL zeroL) rfl (oneL x) ?_; intro W3 F3 S3 U3 q3)
      refine (CK.out _).mono ?_
      rintro e w1 ⟨rfl, rfl⟩
      go_wp2_with fail
      refine (on_head S3 (fun Fi h _ => HP.out _ _ h)).mono ?_
      rintro e w4 ⟨rfl, F4, S4, U4⟩
      obtain ⟨k4, _, l4⟩ := box_cell (i := 1) S4 rfl
      have V4 := ((U1.trans U2).trans U3).trans U4
      clear S3 q3 U1 U2 U3 U4 S2
      go_wp2_with (refine store_at S4 2 rfl rfl 26 _ _ rfl (cellsL x) rfl rfl (sizeL zeroL) rfl (oneL x) ?_; intro W5 F5 S5 U5 q5)
      obtain ⟨_, ⟨hg, _⟩, _⟩ := Asrt.stars_get S5 2 rfl
      have HQ := Keep.mk (first_end S5 (V4.trans U5))
      refine bodyPost_ret (struct_ret rfl rfl rfl hg) rfl ?_
      exact ⟨rfl, HQ.out⟩
end Go.Proofs.YtefnfhhdcginmaaDoor

/- The document's book of leases: Leave. -/
set_option linter.unusedVariables false
namespace Go.Proofs.YtefnfhhdcginmaaDoor
open Go.ChangeShapes Go.WideShapes Go.ChangeAt Go.RowKit Go.Sub Go.ChangeMaps
/-- the book, and the row that it had when the loop began (its own still, or beside it) -/
def bookA (b : Nat) (g m n : Int) (v0 : Value) (L0 cur : List Lz) : Asrt := .ex fun fresh : Bool => if fresh = true then .fact (cur = L0) (.stars [.blk b (refO v0 g m n), rowL v0 L0]) else .stars [refT b g m n cur, rowL v0 L0]
theorem bookA_row {b : Nat} {g m n : Int} {v0 : Value} {L0 cur : List Lz} {w : World} {F : Fp} (h : (bookA b g m n v0 L0 cur).on w F) : ∃ a ca, v0 = .slice a L0.length ca ∧ ∀ (k : Nat) (hk : k < L0.length), ∃ g off, a = some ⟨g, off, none⟩ ∧ g < w.heap.size ∧ LzIn w g (off + k * 6) L0[k] := by
  obtain ⟨fr, h⟩ := h
  cases fr with
  | true =>
    simp only [if_true] at h
    obtain ⟨_, h⟩ := h
    obtain ⟨_, hr, _⟩ := Asrt.stars_get h 1 rfl
    exact rowL_in hr
  | false =>
    obtain ⟨_, hr, _⟩ := Asrt.stars_get h 1 rfl
    exact rowL_in hr
theorem bookA_g {b : Nat} {g m n : Int} {v0 : Value} {L0 cur : List Lz} {w : World} {F : Fp} (h : (bookA b g m n v0 L0 cur).on w F) : w.cell? ⟨b, 1, none⟩ = some (.int .i64 g) ∧ b < w.heap.size := by
  obtain ⟨fr, h⟩ := h
  cases fr with
  | true =>
    simp only [if_true] at h
    obtain ⟨_, h⟩ := h
    obtain ⟨hc, _, hl⟩ := box_cell (i := 0) h rfl
    exact ⟨hc 1, hl⟩
  | false =>
    obtain ⟨_, hr, _⟩ := Asrt.stars_get h 0 rfl
    have := refT_cells hr
    exact ⟨this.1, this.2.2.2⟩
theorem bookA_start {b : Nat} {g m n : Int} {v : Value} {L : List Lz} {w : World} {F : Fp} (h : (Asrt.stars [.blk b (refO v g m n), rowL v L]).on w F) : (bookA b g m n v L L).on w F := ⟨true, rfl, h⟩
theorem bookA_end {b : Nat} {g m n : Int} {v0 : Value} {L0 cur : List Lz} {w : World} {F : Fp} (h : (bookA b g m n v0 L0 cur).on w F) : ∃ F', (refT b g m n cur).on w F' ∧ ∀ k, F' k → F k := by
  obtain ⟨fr, h⟩ := h
  cases fr with
  | true =>
    simp only [if_true] at h
    obtain ⟨rfl, h⟩ := h
    exact ⟨F, ⟨v0, h⟩, fun _ h => h⟩
  | false => exact Asrt.stars_get h 0 rfl
theorem fold3 {b : Nat} {g m n : Int} {v v' : Value} {L X : List Lz} {w : World} {F : Fp} (h : (Asrt.stars [.blk b (refO v' g m n), rowL v' X, rowL v L]).on w F) : (Asrt.stars [refT b g m n X, rowL v L]).on w F := by
  obtain ⟨Fa, _, ha, ⟨Fb, Fc, hb, hc, hbc, rfl⟩, hac, rfl⟩ := h
  refine ⟨fun k => Fa k ∨ Fb k, Fc, ⟨v', Fa, Fb, ha, Asrt.stars_one hb, fun k x y => hac k x (.inl y), rfl⟩, hc, fun k x y => x.elim (fun x => hac k x (.inr y)) (fun x => hbc k x y), ?_⟩
  funext k
  simp [or_assoc]
def TurnEnds (b : Nat) (g m n : Int) (v0 : Value) (L0 X : List Lz) (F : Fp) (w : World) : Ending → World → Prop := Ret (.tuple #[]) fun w' => ∃ F', (bookA b g m n v0 L0 X).on w' F' ∧ Upd F F' w w'
theorem bookA_put {b : Nat} {g m n : Int} {v0 : Value} {L0 cur : List Lz} {w : World} {F : Fp} (h : (bookA b g m n v0 L0 cur).on w F) (hl : cur.length ≤ 1000) (c : Lz) :
    Calls Tryd.prog 44 #[.pointer (some ⟨b, 0, none⟩), aggL c] w (TurnEnds b g m n v0 L0 (rput cur c) F w) := by
  obtain ⟨fr, h⟩ := h
  cases fr with
  | true =>
    simp only [if_true] at h
    obtain ⟨rfl, h⟩ := h
    refine (rput_c h hl c).mono ?_
    rintro e w' ⟨rfl, v', F', h', u'⟩
    exact ⟨rfl, F', ⟨false, fold3 h'⟩, u'⟩
  | false =>
    refine (on_head (l := [rowL v0 L0]) h (fun Fi h _ => rput_t h hl c)).mono ?_
    rintro e w' ⟨rfl, F', h', u'⟩
    exact ⟨rfl, F', ⟨false, h'⟩, u'⟩
theorem bookA_drop {b : Nat} {g m n : Int} {v0 : Value} {L0 cur : List Lz} {w : World} {F : Fp} (h : (bookA b g m n v0 L0 cur).on w F) (hl : cur.length ≤ 1000) (nm : ByteArray) :
    Calls Tryd.prog 48 #[.pointer (some ⟨b, 0, none⟩), .string nm] w (TurnEnds b g m n v0 L0 (rdrop cur nm) F w) := by
  obtain ⟨fr, h⟩ := h
  cases fr with
  | true =>
    simp only [if_true] at h
    obtain ⟨rfl, h⟩ := h
    refine (rdrop_c h hl nm).mono ?_
    rintro e w' ⟨rfl, v', F', h', u'⟩
    exact ⟨rfl, F', ⟨false, fold3 h'⟩, u'⟩
  | false =>
    refine (on_head (l := [rowL v0 L0]) h (fun Fi h _ => rdrop_t h hl nm)).mono ?_
    rintro e w' ⟨rfl, F', h', u'⟩
    exact ⟨rfl, F', ⟨false, h'⟩, u'⟩
theorem pstep_le (c : Lz) (s : List Lz × Bool) (x : Lz) : (pstep c s x).1.length + s.2.toNat ≤ s.1.length + 1 + (pstep c s x).2.toNat := by
  obtain ⟨A, f⟩ := s
  simp only [pstep]
  cases f <;> cases hx : geB x.name c.name <;> by_cases e : x.name = c.name <;> simp [e]
theorem pfold_le (c : Lz) (L : List Lz) : ∀ s : List Lz × Bool, (L.foldl (pstep c) s).1.length + s.2.toNat ≤ s.1.length + L.length + (L.foldl (pstep c) s).2.toNat := by
  induction L with
  | nil => intro s; simp
  | cons x L ih =>
    intro s
    have h1 := ih (pstep c s x)
    have h2 := pstep_le c s x
    simp only [List.foldl_cons, List.length_cons]
    omega
theorem rput_len (L : List Lz) (c : Lz) : (rput L c).length ≤ L.length + 1 := by
  have h := pfold_le c L ([], false)
  unfold rput pfold
  cases h2 : (L.foldl (pstep c) ([], false)).2 with
  | true => rw [h2] at h; simp at h ⊢; omega
  | false => rw [h2] at h; simp at h ⊢; omega
theorem rdrop_len (L : List Lz) (nm : ByteArray) : (rdrop L nm).length ≤ L.length := List.length_filter_le _ _
/-- what a round of 'Leave' makes of what it has -/
def lvstep (g conn now : Int) (s : List Lz × List Lz) (x : Lz) : List Lz × List Lz := if x.conn = conn ∧ heldB x now = true then (rput s.1 (keptL x (now + g)), s.2 ++ [x]) else s
def lvfold (g conn now : Int) (L0 : List Lz) (k : Nat) : List Lz × List Lz := (L0.take k).foldl (lvstep g conn now) (L0, [])
theorem lvfold_succ (g conn now : Int) {L0 : List Lz} {k : Nat} (h : k < L0.length) : lvfold g conn now L0 (k + 1) = lvstep g conn now (lvfold g conn now L0 k) L0[k] := by
  unfold lvfold
  rw [List.take_succ_eq_append_getElem h, List.foldl_append]
  rfl
theorem lvfold_len (g conn now : Int) (L0 : List Lz) : ∀ k, k ≤ L0.length → (lvfold g conn now L0 k).1.length ≤ L0.length + k ∧ (lvfold g conn now L0 k).2.length ≤ k
  | 0, _ => by simp [lvfold]
  | k + 1, h => by
    obtain ⟨h1, h2⟩ := lvfold_len g conn now L0 k (by omega)
    rw [lvfold_succ g conn now (by omega)]
    unfold lvstep
    split
    · have := rput_len (lvfold g conn now L0 k).1 (keptL L0[k] (now + g))
      simp only [List.length_append, List.length_cons, List.length_nil]
      omega
    · omega
def rleave (g : Int) (L : List Lz) (conn now : Int) : List Lz × List Lz := if clockB now = true then lvfold g conn now L L.length else (L, [])
theorem drop_mid {A B C : Asrt} {w : World} {F : Fp} (h : (Asrt.stars [A, B, C]).on w F) : ∃ F', (Asrt.stars [A, C]).on w F' ∧ ∀ k, F' k → F k := Asrt.stars_drop (Asrt.stars_order 3 [1, 0, 2] (by decide) rfl h)
def LvEnds (b : Nat) (g m n : Int) (X : List Lz) (out : List Lz) (F : Fp) (w : World) (e : Ending) (w' : World) : Prop := ∃ v, Ret v (fun w' => ∃ F', (Asrt.stars [refT b g m n X, rowL v out]).on w' F' ∧ Upd F F' w w') e w'
theorem lv_end {b : Nat} {g m n : Int} {v0 v : Value} {L0 cur out : List Lz} {w w' : World} {F F' : Fp} (h : (Asrt.stars [bookA b g m n v0 L0 cur, rowL v out]).on w' F') (u : Upd F F' w w') : ∃ F', (Asrt.stars [refT b g m n cur, rowL v out]).on w' F' ∧ Upd F F' w w' := by
  obtain ⟨Fa, Fb, ha, hb, hd, rfl⟩ := h
  obtain ⟨Fc, hc, hs⟩ := bookA_end ha
  exact ⟨fun k => Fc k ∨ Fb k, ⟨Fc, Fb, hc, hb, fun k x y => hd k (hs k x) y, rfl⟩, u.re fun k hk => u.fp k (hk.elim (fun h => .inl (hs k h)) .inr)⟩
set_option maxRecDepth 100000 in
set_option maxHeartbeats 8000000 in
theorem rleave_c {b : Nat} {g m n : Int} {L : List Lz} {w : World} {F : Fp} (hM : (refT b g m n L).on w F) (hl : L.length ≤ 100) (g0 : 0 ≤ g) (g1 : g ≤ 1073741824) (conn now : Int) :
    Calls Tryd.prog 25 #[.pointer (some ⟨b, 0, none⟩), .int .i64 conn, .int .i64 now] w (LvEnds b g m n (rleave g L conn now).1 (rleave g L conn now).2 F w) := by
  cases hck : clockB now with
  | false =>
    have E := Keep.mk (show rleave g L conn now = (L, []) by unfold rleave; rw [hck]; rfl)
    have C := Keep.mk (fun w : World => rclock_c (w := w) now)
    rw [hck] at C
    rw [E.out]
    have HE := Keep.mk (Asrt.stars_perm (List.Perm.swap _ _ _) (Asrt.stars_emp (row_nil w 26 6 encL) (Asrt.stars_one hM)))
    clear hM hck E
    go_enter Tryd.func25, Tryd.ntmps25
    go_wp2_with fail
    refine (C.out _).mono ?_
    rintro e w1 ⟨rfl, rfl⟩
    go_wp2_with fail
    go_ret
    exact ⟨_, rfl, F, HE.out, Upd.refl F w⟩
  | true =>
    have E := Keep.mk (show rleave g L conn now = lvfold g conn now L L.length by unfold rleave; rw [hck]; rfl)
    have C := Keep.mk (fun w : World => rclock_c (w := w) now)
    rw [hck] at C
    rw [E.out]
    obtain ⟨n0, n1⟩ := clockB_iff.1 hck
    have e5 : IntKind.i64.wrap (now + g) = now + g := by rw [IntKind.wrap_i64]; omega
    obtain ⟨v0, hS⟩ := hM
    obtain ⟨kc, _, hb⟩ := box_cell (i := 0) hS rfl
    have k0 := kc 0
    simp only [List.getElem?_toArray, List.getElem?_cons_zero] at k0
    obtain ⟨i3, hi, hz0, hz1, hz2⟩ := info_parts infoL
    have HI := Keep.mk (And.intro hi (And.intro hz0 (And.intro hz1 hz2)))
    have SA := bookA_start hS
    obtain ⟨a, ca, rfl, _⟩ := bookA_row SA
    have S0 : (Asrt.stars [bookA b g m n (.slice a L.length ca) L L, rowL (.slice none 0 0) []]).on w F := Asrt.stars_perm (List.Perm.swap _ _ _) (Asrt.stars_emp (row_nil w 26 6 encL) (Asrt.stars_one SA))
    clear hS SA kc hi hz0 hz1 hz2 E hck
    go_enter Tryd.func25, Tryd.ntmps25
    go_wp2_with fail
    refine (C.out _).mono ?_
    rintro e w1 ⟨rfl, rfl⟩
    go_wp2_with fail
    go_loopw [7, 9] (fun o i wr => ∃ (k : Nat) (ao : Option Addr) (co : Nat) (Fk : Fp), k ≤ L.length ∧ i = .int .i64 (k : Nat) ∧ o = .slice ao (lvfold g conn now L k).2.length co ∧ (Asrt.stars [bookA b g m n (.slice a L.length ca) L (lvfold g conn now L k).1, rowL (.slice ao (lvfold g conn now L k).2.length co) (lvfold g conn now L k).2]).on wr Fk ∧ Upd F Fk w wr) (fun _ i _ => L.length - (intOf i).toNat)
    case atStart => exact ⟨0, none, 0, F, by omega, rfl, rfl, S0, Upd.refl F w⟩
    case round =>
      obtain ⟨k, ao, co, Fk, hk, rfl, rfl, S1, U1⟩ := hrel
      clear S0 k0
      by_cases hlt : k < L.length
      · have hs := lvfold_succ g conn now hlt
        obtain ⟨hl1, hl2⟩ := lvfold_len g conn now L k hk
        obtain ⟨_, hA, _⟩ := Asrt.stars_get S1 0 rfl
        obtain ⟨a', ca', e', hR⟩ := bookA_row hA
        simp only [Value.slice.injEq] at e'
        obtain ⟨rfl, _, rfl⟩ := e'
        obtain ⟨gg, off, rfl, hgg, hx⟩ := hR k hlt
        obtain ⟨y0, y1, y2, y3, y4, y5⟩ := hx
        have HLT := Keep.mk hlt
        have hkc : (k : Int) + 1 ≤ 100 := by omega
        generalize L[k] = x at *
        generalize lvfold g conn now L k = st at *
        obtain ⟨cur, out⟩ := st
        simp only at S1 hl1 hl2 hs
        have HL := Keep.mk (And.intro hl1 hl2)
        have HS := Keep.mk hs
        clear hs hl1 hl2 hA hR
        have HC := Keep.mk (fun w : World => held_c (w := w) x now)
        by_cases hcn : x.conn = conn
        · have e1 : (x.conn != conn) = false := by simp [hcn]
          cases hhb : heldB x now with
          | true =>
            rw [hhb] at HC
            have HN := Keep.mk (show lvfold g conn now L (k + 1) = (rput cur (keptL x (now + g)), out ++ [x]) by rw [HS.out]; unfold lvstep; rw [if_pos ⟨hcn, hhb⟩])
            clear hcn hhb HS
            go_wp2_with ((with_reducible refine is_store ?_); refine store_new S1 rfl 26 _ _ rfl (cellsL x) rfl rfl (sizeL zeroL) rfl (oneL x) ?_; intro W3 F3 S3 U3 q3; have z0 := q3 0; have z1 := q3 1; have z2 := q3 2; have z3 := q3 3; have z4 := q3 4; have z5 := q3 5; simp only [List.getElem?_toArray, List.getElem?_cons_zero, List.getElem?_cons_succ] at z0 z1 z2 z3 z4 z5; clear q3 y0 y1 y2 y3 y4 y5)
            refine (HC.out _).mono ?_
            rintro e w4 ⟨rfl, q4⟩
            obtain ⟨S4, U4⟩ := Asrt.stars_same S3 q4
            have V4 := (U1.trans U3).trans U4
            obtain ⟨kz, _, lz⟩ := box_cell (i := 1) S4 rfl
            have z0 := kz 0; have z1 := kz 1; have z2 := kz 2; have z3 := kz 3; have z4 := kz 4; have z5 := kz 5
            try simp only [List.getElem?_toArray, List.getElem?_cons_zero, List.getElem?_cons_succ] at z0 z1 z2 z3 z4 z5
            obtain ⟨_, hA4, _⟩ := Asrt.stars_get S4 0 rfl
            obtain ⟨bg, bl⟩ := bookA_g hA4
            obtain ⟨Fo, hrow, _, hgo⟩ := Asrt.stars_upd _ 2 _ rfl S4
            obtain ⟨hi, hz0, hz1, hz2⟩ := HI.out
            have HL2 := HL.out
            try simp only at HL2
            clear kz hA4 q4 U4 U3 S3
            go_wp2_with (at_builtin; refine at_append_row encL 6 64 rfl (.tmp 38) (.tmp 40) 31 rfl 26 i3 _ Tryd.underlying31 hi hz0 hz1 hz2 rfl (by decide) (.slice ao out.length co) out x Fo rfl (Asrt.alloc hrow _) ⟨w4.heap.size, 0, none⟩ 1 rfl rfl (cells_new w4 (encL x) _) (hone_L x) ?h63 ?hby ?next)
            case h63 => unfold maxLen; omega
            case hby => omega
            case next =>
              intro v5 w5 F5 hr5 u5
              obtain ⟨a5, c5, rfl, _⟩ := row_form hr5
              obtain ⟨G5, S5, U5⟩ := hgo w5 F5 _ hr5 (((Upd.refl Fo w4).alloc _).trans u5)
              have V5 := V4.trans U5
              obtain ⟨_, hA5, _⟩ := Asrt.stars_get S5 0 rfl
              obtain ⟨bg5, bl5⟩ := bookA_g hA5
              clear hA5 u5 hr5 S4 U5 V4 hgo hrow bg bl z0 z1 z2 z3 z4 z5 lz hi hz0 hz1 hz2
              go_wp2_with (first
                | ((with_reducible refine is_store ?_); refine store_cell S5 1 rfl rfl 4 _ _ rfl 5 (.bool false) rfl rfl (by exact (show (5 : Nat) < 6 from by decide)) size_bool rfl (cellsL (offL x)) rfl ?_; intro W6 F6 S6 U6 q6; clear bg5 bl5; obtain ⟨_, hA6, _⟩ := Asrt.stars_get S6 0 rfl; obtain ⟨bg6, bl6⟩ := bookA_g hA6; clear hA6)
                | ((with_reducible refine is_store ?_); refine store_cell S6 1 rfl rfl 2 _ _ rfl 4 (.int .i64 (now + g)) rfl rfl (by exact (show (4 : Nat) < 6 from by decide)) size_i64 rfl (cellsL (keptL x (now + g))) rfl ?_; intro W7 F7 S7 U7 q7))
              refine (on_head S7 (fun Fi h _ => bookA_put h (by omega) (keptL x (now + g)))).mono ?_
              rintro e w8 ⟨rfl, F8, S8, U8⟩
              obtain ⟨Fz, Sz, hz⟩ := drop_mid S8
              have V8 := ((V5.trans U6).trans U7).trans U8
              have HE := Keep.mk (And.intro Sz (V8.re fun k hk => V8.fp k (hz k hk)))
              clear S5 S6 S7 S8 U6 U7 U8 V5 V8 Sz hz q6 q7 bg6 bl6
              go_wp2_with fail
              go_roundw
              case rel => exact ⟨k + 1, a5, c5, Fz, HLT.out, by go_num, by rw [HN.out]; simp, by rw [HN.out]; exact HE.out.1, HE.out.2⟩
              case measure => have := HLT.out; simp [intOf]; omega
          | false =>
            rw [hhb] at HC
            have HN := Keep.mk (show lvfold g conn now L (k + 1) = (cur, out) by rw [HS.out]; unfold lvstep; rw [if_neg (fun h => by rw [hhb] at h; exact absurd h.2 (by simp))])
            clear hcn hhb HS
            go_wp2_with ((with_reducible refine is_store ?_); refine store_new S1 rfl 26 _ _ rfl (cellsL x) rfl rfl (sizeL zeroL) rfl (oneL x) ?_; intro W3 F3 S3 U3 q3; have z0 := q3 0; have z1 := q3 1; have z2 := q3 2; have z3 := q3 3; have z4 := q3 4; have z5 := q3 5; simp only [List.getElem?_toArray, List.getElem?_cons_zero, List.getElem?_cons_succ] at z0 z1 z2 z3 z4 z5; clear q3 y0 y1 y2 y3 y4 y5)
            refine (HC.out _).mono ?_
            rintro e w4 ⟨rfl, q4⟩
            obtain ⟨S4, U4⟩ := Asrt.stars_same S3 q4
            obtain ⟨Fz, Sz, hz⟩ := drop_mid S4
            have V4 := (U1.trans U3).trans U4
            have HE := Keep.mk (And.intro Sz (V4.re fun k hk => V4.fp k (hz k hk)))
            clear S3 S4 U3 U4 V4 Sz hz q4 z0 z1 z2 z3 z4 z5
            go_wp2_with fail
            go_roundw
            case rel => exact ⟨k + 1, ao, co, Fz, HLT.out, by go_num, by rw [HN.out], by rw [HN.out]; exact HE.out.1, HE.out.2⟩
            case measure => have := HLT.out; simp [intOf]; omega
        · have e1 : (x.conn != conn) = true := by simp [hcn]
          have HN := Keep.mk (show lvfold g conn now L (k + 1) = (cur, out) by rw [HS.out]; unfold lvstep; rw [if_neg (fun h => hcn h.1)])
          clear hcn HS
          go_wp2_with ((with_reducible refine is_store ?_); refine store_new S1 rfl 26 _ _ rfl (cellsL x) rfl rfl (sizeL zeroL) rfl (oneL x) ?_; intro W3 F3 S3 U3 q3; have z0 := q3 0; have z1 := q3 1; have z2 := q3 2; have z3 := q3 3; have z4 := q3 4; have z5 := q3 5; simp only [List.getElem?_toArray, List.getElem?_cons_zero, List.getElem?_cons_succ] at z0 z1 z2 z3 z4 z5; clear q3 y0 y1 y2 y3 y4 y5)
          obtain ⟨Fz, Sz, hz⟩ := drop_mid S3
          have V4 := U1.trans U3
          have HE := Keep.mk (And.intro Sz (V4.re fun k hk => V4.fp k (hz k hk)))
          clear S3 U3 V4 Sz hz z0 z1 z2 z3 z4 z5
          go_wp2_with fail
          go_roundw
          case rel => exact ⟨k + 1, ao, co, Fz, HLT.out, by go_num, by rw [HN.out], by rw [HN.out]; exact HE.out.1, HE.out.2⟩
          case measure => have := HLT.out; simp [intOf]; omega
      · obtain rfl : k = L.length := by omega
        have HE := Keep.mk (lv_end S1 U1)
        clear S1 U1
        go_wp2_with fail
        go_ret
        obtain ⟨F', h', u'⟩ := HE.out
        exact ⟨_, rfl, F', h', u'⟩
end Go.Proofs.YtefnfhhdcginmaaDoor

/- The document's book of leases: Lapse. -/
set_option linter.unusedVariables false
namespace Go.Proofs.YtefnfhhdcginmaaDoor
open Go.ChangeShapes Go.WideShapes Go.ChangeAt Go.RowKit Go.Sub Go.ChangeMaps
theorem stars_cellK {l : List Asrt} {w : World} {F : Fp} (hS : (Asrt.stars l).on w F) (i : Nat) {z : Nat} {old : Array Value} {t : TypeId} (hl : l[i]? = some (.blk z (.cells old t (0, 0)))) (j : Nat) (u : Value) :
    ∃ F', (Asrt.stars (l.set i (.blk z (.cells (old.setIfInBounds j u) t (0, 0))))).on (w.setCell ⟨z, j, none⟩ u) F' ∧ Upd F F' w (w.setCell ⟨z, j, none⟩ u) := by
  obtain ⟨Fi, hb, hsub, hgo⟩ := Asrt.stars_upd l i _ hl hS
  exact hgo _ Fi _ ⟨obj_setCell_at hb.1 _ _, hb.2⟩ ((Upd.refl Fi w).setCell (a := ⟨z, j, none⟩) (.inl (by rw [hb.2])) u)
/-- what a round of 'Lapse' makes of a lease, and of what it has -/
def lpOver (now : Int) (x : Lz) : Bool := x.held && decide (x.til ≤ now)
def lpNew (g now : Int) (x : Lz) : Lz := if lpOver now x = true then keptL x (x.til + g) else x
def lpstep (g now : Int) (s : List Lz × List Lz) (x : Lz) : List Lz × List Lz :=
  (if heldB (lpNew g now x) now = false ∧ keptB g (lpNew g now x) now = false then rdrop (if lpOver now x = true then rput s.1 (lpNew g now x) else s.1) x.name else (if lpOver now x = true then rput s.1 (lpNew g now x) else s.1), if lpOver now x = true then s.2 ++ [x] else s.2)
def lpfold (g now : Int) (L0 : List Lz) (k : Nat) : List Lz × List Lz := (L0.take k).foldl (lpstep g now) (L0, [])
theorem lpfold_succ (g now : Int) {L0 : List Lz} {k : Nat} (h : k < L0.length) : lpfold g now L0 (k + 1) = lpstep g now (lpfold g now L0 k) L0[k] := by
  unfold lpfold
  rw [List.take_succ_eq_append_getElem h, List.foldl_append]
  rfl
theorem lpfold_len (g now : Int) (L0 : List Lz) : ∀ k, k ≤ L0.length → (lpfold g now L0 k).1.length ≤ L0.length + k ∧ (lpfold g now L0 k).2.length ≤ k
  | 0, _ => by simp [lpfold]
  | k + 1, h => by
    obtain ⟨h1, h2⟩ := lpfold_len g now L0 k (by omega)
    rw [lpfold_succ g now (by omega)]
    have h3 : (if lpOver now L0[k] = true then rput (lpfold g now L0 k).1 (lpNew g now L0[k]) else (lpfold g now L0 k).1).length ≤ L0.length + k + 1 := by
      split
      · have := rput_len (lpfold g now L0 k).1 (lpNew g now L0[k]); omega
      · omega
    have h4 : (if lpOver now L0[k] = true then (lpfold g now L0 k).2 ++ [L0[k]] else (lpfold g now L0 k).2).length ≤ k + 1 := by
      split
      · simp; omega
      · omega
    refine ⟨?_, h4⟩
    unfold lpstep
    simp only
    split
    · exact Nat.le_trans (rdrop_len _ _) h3
    · exact h3
def rlapse (g : Int) (L : List Lz) (now : Int) : List Lz × List Lz := if clockB now = true then lpfold g now L L.length else (L, [])
abbrev TilB (til : Int) : Prop := -1000000000000000 ≤ til ∧ til ≤ 1000000000000000
set_option maxRecDepth 100000 in
set_option maxHeartbeats 8000000 in
theorem rlapse_c {b : Nat} {g m n : Int} {L : List Lz} {w : World} {F : Fp} (hM : (refT b g m n L).on w F) (hl : L.length ≤ 100) (hts : ∀ x ∈ L, TilB x.til) (g0 : 0 ≤ g) (g1 : g ≤ 1073741824) (now : Int) :
    Calls Tryd.prog 27 #[.pointer (some ⟨b, 0, none⟩), .int .i64 now] w (LvEnds b g m n (rlapse g L now).1 (rlapse g L now).2 F w) := by
  cases hck : clockB now with
  | false =>
    have E := Keep.mk (show rlapse g L now = (L, []) by unfold rlapse; rw [hck]; rfl)
    have C := Keep.mk (fun w : World => rclock_c (w := w) now)
    rw [hck] at C
    rw [E.out]
    have HE := Keep.mk (Asrt.stars_perm (List.Perm.swap _ _ _) (Asrt.stars_emp (row_nil w 26 6 encL) (Asrt.stars_one hM)))
    clear hM hck E
    go_enter Tryd.func27, Tryd.ntmps27
    go_wp2_with fail
    refine (C.out _).mono ?_
    rintro e w1 ⟨rfl, rfl⟩
    go_wp2_with fail
    go_ret
    exact ⟨_, rfl, F, HE.out, Upd.refl F w⟩
  | true =>
    have E := Keep.mk (show rlapse g L now = lpfold g now L L.length by unfold rlapse; rw [hck]; rfl)
    have C := Keep.mk (fun w : World => rclock_c (w := w) now)
    rw [hck] at C
    rw [E.out]
    obtain ⟨n0, n1⟩ := clockB_iff.1 hck
    obtain ⟨v0, hS⟩ := hM
    obtain ⟨kc, _, hb⟩ := box_cell (i := 0) hS rfl
    have k0 := kc 0
    simp only [List.getElem?_toArray, List.getElem?_cons_zero] at k0
    obtain ⟨i3, hi, hz0, hz1, hz2⟩ := info_parts infoL
    have HI := Keep.mk (And.intro hi (And.intro hz0 (And.intro hz1 hz2)))
    have HT := Keep.mk hts
    have SA := bookA_start hS
    obtain ⟨a, ca, rfl, _⟩ := bookA_row SA
    have S0 : (Asrt.stars [bookA b g m n (.slice a L.length ca) L L, rowL (.slice none 0 0) []]).on w F := Asrt.stars_perm (List.Perm.swap _ _ _) (Asrt.stars_emp (row_nil w 26 6 encL) (Asrt.stars_one SA))
    clear hS SA kc hi hz0 hz1 hz2 E hck hts
    go_enter Tryd.func27, Tryd.ntmps27
    go_wp2_with fail
    refine (C.out _).mono ?_
    rintro e w1 ⟨rfl, rfl⟩
    go_wp2_with fail
    go_loopw [5, 7] (fun o i wr => ∃ (k : Nat) (ao : Option Addr) (co : Nat) (Fk : Fp), k ≤ L.length ∧ i = .int .i64 (k : Nat) ∧ o = .slice ao (lpfold g now L k).2.length co ∧ (Asrt.stars [bookA b g m n (.slice a L.length ca) L (lpfold g now L k).1, rowL (.slice ao (lpfold g now L k).2.length co) (lpfold g now L k).2]).on wr Fk ∧ Upd F Fk w wr) (fun _ i _ => L.length - (intOf i).toNat)
    case atStart => exact ⟨0, none, 0, F, by omega, rfl, rfl, S0, Upd.refl F w⟩
    case round =>
      obtain ⟨k, ao, co, Fk, hk, rfl, rfl, S1, U1⟩ := hrel
      clear S0 k0
      by_cases hlt : k < L.length
      · have hs := lpfold_succ g now hlt
        obtain ⟨hl1, hl2⟩ := lpfold_len g now L k hk
        obtain ⟨_, hA, _⟩ := Asrt.stars_get S1 0 rfl
        obtain ⟨a', ca', e', hR⟩ := bookA_row hA
        simp only [Value.slice.injEq] at e'
        obtain ⟨rfl, _, rfl⟩ := e'
        obtain ⟨gg, off, rfl, hgg, hx⟩ := hR k hlt
        obtain ⟨y0, y1, y2, y3, y4, y5⟩ := hx
        have htx := HT.out _ (List.getElem_mem hlt)
        have HLT := Keep.mk hlt
        have hkc : (k : Int) + 1 ≤ 100 := by omega
        generalize L[k] = x at *
        generalize lpfold g now L k = st at *
        obtain ⟨cur, out⟩ := st
        simp only at S1 hl1 hl2 hs
        have HL := Keep.mk (And.intro hl1 hl2)
        have HS := Keep.mk hs
        obtain ⟨t0, t1⟩ := htx
        clear hs hl1 hl2 hA hR
        by_cases hov : lpOver now x = true
        · have hov2 := hov
          unfold lpOver at hov2
          rw [Bool.and_eq_true, decide_eq_true_eq] at hov2
          obtain ⟨hh, htn⟩ := hov2
          have e2 : decide (x.til ≤ now) = true := by simp [htn]
          have HS2 := Keep.mk (show lpfold g now L (k + 1) = (if heldB (keptL x (x.til + g)) now = false ∧ keptB g (keptL x (x.til + g)) now = false then rdrop (rput cur (keptL x (x.til + g))) x.name else rput cur (keptL x (x.til + g)), out ++ [x]) by rw [HS.out]; unfold lpstep lpNew; simp only [hov, if_true])
          have e5 : IntKind.i64.wrap (x.til + g) = x.til + g := by rw [IntKind.wrap_i64]; omega
          have HTK := Keep.mk (show TilOk (keptL x (x.til + g)).til from ⟨by simp only; omega, by simp only; omega⟩)
          have HLC := Keep.mk (show (rput cur (keptL x (x.til + g))).length ≤ 1000 by have := rput_len cur (keptL x (x.til + g)); have := HL.out.1; omega)
          clear hov HS htn
          have HL2 := HL.out
          obtain ⟨x0, x1, x2, x3, x4, x5⟩ := x
          simp only at hh e2 e5 y0 y1 y2 y3 y4 y5 t0 t1 HL2
          subst hh
          obtain ⟨hi, hz0, hz1, hz2⟩ := HI.out
          go_wp2_with (first
            | ((with_reducible refine is_store ?_); refine store_new S1 rfl 26 _ _ rfl (cellsL ⟨x0, x1, x2, x3, x4, true⟩) rfl rfl (sizeL zeroL) rfl (oneL ⟨x0, x1, x2, x3, x4, true⟩) ?_; intro W3 F3 S3 U3 q3; have z0 := q3 0; have z1 := q3 1; have z2 := q3 2; have z3 := q3 3; have z4 := q3 4; have z5 := q3 5; simp only [List.getElem?_toArray, List.getElem?_cons_zero, List.getElem?_cons_succ] at z0 z1 z2 z3 z4 z5; clear q3 y0 y1 y2 y3 y4 y5; obtain ⟨Fo, hrow, _, hgo⟩ := Asrt.stars_upd _ 2 _ rfl S3)
            | (at_builtin; refine at_append_row encL 6 64 rfl (.tmp 34) (.tmp 36) 31 rfl 26 i3 _ Tryd.underlying31 hi hz0 hz1 hz2 rfl (by decide) (.slice ao out.length co) out ⟨x0, x1, x2, x3, x4, true⟩ Fo rfl (Asrt.alloc hrow _) ⟨W3.heap.size, 0, none⟩ 1 rfl rfl (cells_new W3 (encL ⟨x0, x1, x2, x3, x4, true⟩) _) (hone_L _) ?h63 ?hby ?next))
          case h63 => unfold maxLen; omega
          case hby => omega
          case next =>
            intro v5 w5 F5 hr5 u5
            obtain ⟨a5, c5, rfl, _⟩ := row_form hr5
            obtain ⟨G5, S5, U5⟩ := hgo w5 F5 _ hr5 (((Upd.refl Fo W3).alloc _).trans u5)
            have V5 := (U1.trans U3).trans U5
            obtain ⟨_, hA5, _⟩ := Asrt.stars_get S5 0 rfl
            obtain ⟨bg5, bl5⟩ := bookA_g hA5
            clear hA5 u5 hr5 U5 hgo hrow z0 z1 z2 z3 z4 z5 hi hz0 hz1 hz2 S3 U1 U3
            go_wp2_with ((with_reducible refine is_store ?_); refine store_cell S5 1 rfl rfl 4 _ _ rfl 5 (.bool false) rfl rfl (by exact (show (5 : Nat) < 6 from by decide)) size_bool rfl (cellsL (offL ⟨x0, x1, x2, x3, x4, true⟩)) rfl ?_; intro W6 F6 S6 U6 q6; have z0 := q6 0; have z1 := q6 1; have z2 := q6 2; have z3 := q6 3; have z4 := q6 4; have z5 := q6 5; simp only [List.getElem?_toArray, List.getElem?_cons_zero, List.getElem?_cons_succ] at z0 z1 z2 z3 z4 z5; clear q6 bg5 bl5; obtain ⟨_, hA6, _⟩ := Asrt.stars_get S6 0 rfl; obtain ⟨bg6, bl6⟩ := bookA_g hA6; clear hA6; obtain ⟨_, kf6, _⟩ := box_cell (i := 1) S6 rfl; have f4 := kf6 4; clear kf6)
            go_region
            all_goals
              obtain ⟨F7, S7, U7⟩ := stars_cellK S6 1 rfl 4 (.int .i64 (x4 + g))
              have S7 := Asrt.drew S7
              have V7 := ((V5.trans U6).trans U7).drew
              clear S6 U6 U7 V5 S5
              go_wp2_with fail
              clear z0 z1 z2 z3 z4 z5 bg6 bl6 f4
              refine (on_head S7 (fun Fi h _ => bookA_put h (by omega) (keptL ⟨x0, x1, x2, x3, x4, true⟩ (x4 + g)))).mono ?_
              rintro e w8 ⟨rfl, F8, S8, U8⟩
              have V8 := V7.trans U8
              have S8 : (Asrt.stars [bookA b g m n (.slice (some ⟨gg, off, none⟩) L.length ca) L (rput cur (keptL ⟨x0, x1, x2, x3, x4, true⟩ (x4 + g))), .blk wr.heap.size (.cells (cellsL ⟨x0, x1, x2, x3, x4 + g, false⟩) 26 (0, 0)), rowL (.slice a5 (out ++ [(⟨x0, x1, x2, x3, x4, true⟩ : Lz)]).length c5) (out ++ [⟨x0, x1, x2, x3, x4, true⟩])]).on w8 F8 := S8
              obtain ⟨kz, _, lz⟩ := box_cell (i := 1) S8 rfl
              have c0 := kz 0
              have c1 := kz 1
              have c2 := kz 2
              have c3 := kz 3
              have c4 := kz 4
              have c5' := kz 5
              try simp only [List.getElem?_toArray, List.getElem?_cons_zero, List.getElem?_cons_succ] at c0 c1 c2 c3 c4 c5'
              clear kz lz S7 V7 U8
              go_wp2_with fail
              refine (held_c ⟨x0, x1, x2, x3, x4 + g, false⟩ now).mono ?_
              rintro e v1 ⟨rfl, p1⟩
              obtain ⟨T1, X1⟩ := Asrt.stars_same S8 p1
              have Y1 := (V8).trans X1
              obtain ⟨kz, _, lz⟩ := box_cell (i := 1) T1 rfl
              have c0 := kz 0
              have c1 := kz 1
              have c2 := kz 2
              have c3 := kz 3
              have c4 := kz 4
              have c5q := kz 5
              try simp only [List.getElem?_toArray, List.getElem?_cons_zero, List.getElem?_cons_succ] at c0 c1 c2 c3 c4 c5q
              obtain ⟨_, hA1, _⟩ := Asrt.stars_get T1 0 rfl
              obtain ⟨bg1, bl1⟩ := bookA_g hA1
              clear kz hA1 p1 X1
              cases hhb : heldB ⟨x0, x1, x2, x3, x4 + g, false⟩ now with
              | true =>
                have HN := Keep.mk (show lpfold g now L (k + 1) = (rput cur (keptL ⟨x0, x1, x2, x3, x4, true⟩ (x4 + g)), out ++ [⟨x0, x1, x2, x3, x4, true⟩]) by rw [HS2.out, if_neg (fun h => by rw [hhb] at h; exact absurd h.1 (by simp))])
                clear hhb HS2
                obtain ⟨Fz, Sz, hz⟩ := drop_mid T1
                have HE := Keep.mk (And.intro Sz ((Y1).re fun k hk => (Y1).fp k (hz k hk)))
                clear Sz hz T1 c0 c1 c2 c3 c4 c5q bg1 bl1 lz Y1
                go_wp2_with fail
                go_roundw
                case rel => exact ⟨k + 1, a5, c5, Fz, HLT.out, by go_num, by rw [HN.out]; simp, by rw [HN.out]; exact HE.out.1, HE.out.2⟩
                case measure => have := HLT.out; simp [intOf]; omega
              | false =>
                go_wp2_with fail
                refine (kept_c bl1 bg1 g0 g1 ⟨x0, x1, x2, x3, x4 + g, false⟩ HTK.out now).mono ?_
                rintro e v2 ⟨rfl, p2⟩
                obtain ⟨T2, X2⟩ := Asrt.stars_same T1 p2
                have Y2 := Y1.trans X2
                obtain ⟨kz, _, lz⟩ := box_cell (i := 1) T2 rfl
                have d0 := kz 0
                have d1 := kz 1
                have d2 := kz 2
                have d3 := kz 3
                have d4 := kz 4
                have d5 := kz 5
                try simp only [List.getElem?_toArray, List.getElem?_cons_zero, List.getElem?_cons_succ] at d0 d1 d2 d3 d4 d5
                clear kz p2 X2 c0 c1 c2 c3 c4 c5q T1 Y1 bg1 bl1
                cases hkb : keptB g ⟨x0, x1, x2, x3, x4 + g, false⟩ now with
                | true =>
                  have HN := Keep.mk (show lpfold g now L (k + 1) = (rput cur (keptL ⟨x0, x1, x2, x3, x4, true⟩ (x4 + g)), out ++ [⟨x0, x1, x2, x3, x4, true⟩]) by rw [HS2.out, if_neg (fun h => by rw [hkb] at h; exact absurd h.2 (by simp))])
                  clear hhb hkb HS2
                  obtain ⟨Fz, Sz, hz⟩ := drop_mid T2
                  have HE := Keep.mk (And.intro Sz ((Y2).re fun k hk => (Y2).fp k (hz k hk)))
                  clear Sz hz T2 d0 d1 d2 d3 d4 d5 lz Y2
                  go_wp2_with fail
                  go_roundw
                  case rel => exact ⟨k + 1, a5, c5, Fz, HLT.out, by go_num, by rw [HN.out]; simp, by rw [HN.out]; exact HE.out.1, HE.out.2⟩
                  case measure => have := HLT.out; simp [intOf]; omega
                | false =>
                  have HN := Keep.mk (show lpfold g now L (k + 1) = (rdrop (rput cur (keptL ⟨x0, x1, x2, x3, x4, true⟩ (x4 + g))) x0, out ++ [⟨x0, x1, x2, x3, x4, true⟩]) by rw [HS2.out, if_pos ⟨hhb, hkb⟩])
                  clear hhb hkb HS2
                  go_wp2_with fail
                  refine (on_head T2 (fun Fi h _ => bookA_drop h HLC.out x0)).mono ?_
                  rintro e v3 ⟨rfl, F9, T3, X3⟩
                  have Y3 := Y2.trans X3
                  clear T2 X3 Y2 d0 d1 d2 d3 d4 d5 lz
                  obtain ⟨Fz, Sz, hz⟩ := drop_mid T3
                  have HE := Keep.mk (And.intro Sz ((Y3).re fun k hk => (Y3).fp k (hz k hk)))
                  clear Sz hz T3 Y3
                  go_wp2_with fail
                  go_roundw
                  case rel => exact ⟨k + 1, a5, c5, Fz, HLT.out, by go_num, by rw [HN.out]; simp, by rw [HN.out]; exact HE.out.1, HE.out.2⟩
                  case measure => have := HLT.out; simp [intOf]; omega

        · have hov2 : lpOver now x = false := by simpa using hov
          have HS2 := Keep.mk (show lpfold g now L (k + 1) = (if heldB x now = false ∧ keptB g x now = false then rdrop cur x.name else cur, out) by rw [HS.out]; unfold lpstep lpNew; simp only [hov2]; simp)
          have HTK := Keep.mk (show TilOk x.til from ⟨by omega, by omega⟩)
          have HLC := Keep.mk (show cur.length ≤ 1000 by have := HL.out.1; omega)
          unfold lpOver at hov2
          clear hov HS
          obtain ⟨x0, x1, x2, x3, x4, x5⟩ := x
          simp only at hov2 y0 y1 y2 y3 y4 y5 t0 t1
          cases x5 with
          | false =>
            clear hov2
            go_wp2_with ((with_reducible refine is_store ?_); refine store_new S1 rfl 26 _ _ rfl (cellsL ⟨x0, x1, x2, x3, x4, false⟩) rfl rfl (sizeL zeroL) rfl (oneL ⟨x0, x1, x2, x3, x4, false⟩) ?_; intro W3 F3 S3 U3 q3; have z0 := q3 0; have z1 := q3 1; have z2 := q3 2; have z3 := q3 3; have z4 := q3 4; have z5 := q3 5; simp only [List.getElem?_toArray, List.getElem?_cons_zero, List.getElem?_cons_succ] at z0 z1 z2 z3 z4 z5; clear q3 y0 y1 y2 y3 y4 y5; skip)
            refine (held_c ⟨x0, x1, x2, x3, x4, false⟩ now).mono ?_
            rintro e v1 ⟨rfl, p1⟩
            obtain ⟨T1, X1⟩ := Asrt.stars_same S3 p1
            have Y1 := (U1.trans U3).trans X1
            obtain ⟨kz, _, lz⟩ := box_cell (i := 1) T1 rfl
            have c0 := kz 0
            have c1 := kz 1
            have c2 := kz 2
            have c3 := kz 3
            have c4 := kz 4
            have c5 := kz 5
            try simp only [List.getElem?_toArray, List.getElem?_cons_zero, List.getElem?_cons_succ] at c0 c1 c2 c3 c4 c5
            obtain ⟨_, hA1, _⟩ := Asrt.stars_get T1 0 rfl
            obtain ⟨bg1, bl1⟩ := bookA_g hA1
            clear kz hA1 p1 X1
            cases hhb : heldB ⟨x0, x1, x2, x3, x4, false⟩ now with
            | true =>
              have HN := Keep.mk (show lpfold g now L (k + 1) = (cur, out) by rw [HS2.out, if_neg (fun h => by rw [hhb] at h; exact absurd h.1 (by simp))])
              clear hhb HS2
              obtain ⟨Fz, Sz, hz⟩ := drop_mid T1
              have HE := Keep.mk (And.intro Sz ((Y1).re fun k hk => (Y1).fp k (hz k hk)))
              clear Sz hz T1 c0 c1 c2 c3 c4 c5 bg1 bl1 lz Y1
              go_wp2_with fail
              go_roundw
              case rel => exact ⟨k + 1, ao, co, Fz, HLT.out, by go_num, by rw [HN.out], by rw [HN.out]; exact HE.out.1, HE.out.2⟩
              case measure => have := HLT.out; simp [intOf]; omega
            | false =>
              go_wp2_with fail
              refine (kept_c bl1 bg1 g0 g1 ⟨x0, x1, x2, x3, x4, false⟩ HTK.out now).mono ?_
              rintro e v2 ⟨rfl, p2⟩
              obtain ⟨T2, X2⟩ := Asrt.stars_same T1 p2
              have Y2 := Y1.trans X2
              obtain ⟨kz, _, lz⟩ := box_cell (i := 1) T2 rfl
              have d0 := kz 0
              have d1 := kz 1
              have d2 := kz 2
              have d3 := kz 3
              have d4 := kz 4
              have d5 := kz 5
              try simp only [List.getElem?_toArray, List.getElem?_cons_zero, List.getElem?_cons_succ] at d0 d1 d2 d3 d4 d5
              clear kz p2 X2 c0 c1 c2 c3 c4 c5 T1 Y1 bg1 bl1
              cases hkb : keptB g ⟨x0, x1, x2, x3, x4, false⟩ now with
              | true =>
                have HN := Keep.mk (show lpfold g now L (k + 1) = (cur, out) by rw [HS2.out, if_neg (fun h => by rw [hkb] at h; exact absurd h.2 (by simp))])
                clear hhb hkb HS2
                obtain ⟨Fz, Sz, hz⟩ := drop_mid T2
                have HE := Keep.mk (And.intro Sz ((Y2).re fun k hk => (Y2).fp k (hz k hk)))
                clear Sz hz T2 d0 d1 d2 d3 d4 d5 lz Y2
                go_wp2_with fail
                go_roundw
                case rel => exact ⟨k + 1, ao, co, Fz, HLT.out, by go_num, by rw [HN.out], by rw [HN.out]; exact HE.out.1, HE.out.2⟩
                case measure => have := HLT.out; simp [intOf]; omega
              | false =>
                have HN := Keep.mk (show lpfold g now L (k + 1) = (rdrop (cur) x0, out) by rw [HS2.out, if_pos ⟨hhb, hkb⟩])
                clear hhb hkb HS2
                go_wp2_with fail
                refine (on_head T2 (fun Fi h _ => bookA_drop h HLC.out x0)).mono ?_
                rintro e v3 ⟨rfl, F9, T3, X3⟩
                have Y3 := Y2.trans X3
                clear T2 X3 Y2 d0 d1 d2 d3 d4 d5 lz
                obtain ⟨Fz, Sz, hz⟩ := drop_mid T3
                have HE := Keep.mk (And.intro Sz ((Y3).re fun k hk => (Y3).fp k (hz k hk)))
                clear Sz hz T3 Y3
                go_wp2_with fail
                go_roundw
                case rel => exact ⟨k + 1, ao, co, Fz, HLT.out, by go_num, by rw [HN.out], by rw [HN.out]; exact HE.out.1, HE.out.2⟩
                case measure => have := HLT.out; simp [intOf]; omega
          | true =>
            have e2 : decide (x4 ≤ now) = false := by rw [Bool.true_and] at hov2; exact hov2
            clear hov2
            go_wp2_with ((with_reducible refine is_store ?_); refine store_new S1 rfl 26 _ _ rfl (cellsL ⟨x0, x1, x2, x3, x4, true⟩) rfl rfl (sizeL zeroL) rfl (oneL ⟨x0, x1, x2, x3, x4, true⟩) ?_; intro W3 F3 S3 U3 q3; have z0 := q3 0; have z1 := q3 1; have z2 := q3 2; have z3 := q3 3; have z4 := q3 4; have z5 := q3 5; simp only [List.getElem?_toArray, List.getElem?_cons_zero, List.getElem?_cons_succ] at z0 z1 z2 z3 z4 z5; clear q3 y0 y1 y2 y3 y4 y5; skip)
            refine (held_c ⟨x0, x1, x2, x3, x4, true⟩ now).mono ?_
            rintro e v1 ⟨rfl, p1⟩
            obtain ⟨T1, X1⟩ := Asrt.stars_same S3 p1
            have Y1 := (U1.trans U3).trans X1
            obtain ⟨kz, _, lz⟩ := box_cell (i := 1) T1 rfl
            have c0 := kz 0
            have c1 := kz 1
            have c2 := kz 2
            have c3 := kz 3
            have c4 := kz 4
            have c5 := kz 5
            try simp only [List.getElem?_toArray, List.getElem?_cons_zero, List.getElem?_cons_succ] at c0 c1 c2 c3 c4 c5
            obtain ⟨_, hA1, _⟩ := Asrt.stars_get T1 0 rfl
            obtain ⟨bg1, bl1⟩ := bookA_g hA1
            clear kz hA1 p1 X1
            cases hhb : heldB ⟨x0, x1, x2, x3, x4, true⟩ now with
            | true =>
              have HN := Keep.mk (show lpfold g now L (k + 1) = (cur, out) by rw [HS2.out, if_neg (fun h => by rw [hhb] at h; exact absurd h.1 (by simp))])
              clear hhb HS2
              obtain ⟨Fz, Sz, hz⟩ := drop_mid T1
              have HE := Keep.mk (And.intro Sz ((Y1).re fun k hk => (Y1).fp k (hz k hk)))
              clear Sz hz T1 c0 c1 c2 c3 c4 c5 bg1 bl1 lz Y1
              go_wp2_with fail
              go_roundw
              case rel => exact ⟨k + 1, ao, co, Fz, HLT.out, by go_num, by rw [HN.out], by rw [HN.out]; exact HE.out.1, HE.out.2⟩
              case measure => have := HLT.out; simp [intOf]; omega
            | false =>
              go_wp2_with fail
              refine (kept_c bl1 bg1 g0 g1 ⟨x0, x1, x2, x3, x4, true⟩ HTK.out now).mono ?_
              rintro e v2 ⟨rfl, p2⟩
              obtain ⟨T2, X2⟩ := Asrt.stars_same T1 p2
              have Y2 := Y1.trans X2
              obtain ⟨kz, _, lz⟩ := box_cell (i := 1) T2 rfl
              have d0 := kz 0
              have d1 := kz 1
              have d2 := kz 2
              have d3 := kz 3
              have d4 := kz 4
              have d5 := kz 5
              try simp only [List.getElem?_toArray, List.getElem?_cons_zero, List.getElem?_cons_succ] at d0 d1 d2 d3 d4 d5
              clear kz p2 X2 c0 c1 c2 c3 c4 c5 T1 Y1 bg1 bl1
              cases hkb : keptB g ⟨x0, x1, x2, x3, x4, true⟩ now with
              | true =>
                have HN := Keep.mk (show lpfold g now L (k + 1) = (cur, out) by rw [HS2.out, if_neg (fun h => by rw [hkb] at h; exact absurd h.2 (by simp))])
                clear hhb hkb HS2
                obtain ⟨Fz, Sz, hz⟩ := drop_mid T2
                have HE := Keep.mk (And.intro Sz ((Y2).re fun k hk => (Y2).fp k (hz k hk)))
                clear Sz hz T2 d0 d1 d2 d3 d4 d5 lz Y2
                go_wp2_with fail
                go_roundw
                case rel => exact ⟨k + 1, ao, co, Fz, HLT.out, by go_num, by rw [HN.out], by rw [HN.out]; exact HE.out.1, HE.out.2⟩
                case measure => have := HLT.out; simp [intOf]; omega
              | false =>
                have HN := Keep.mk (show lpfold g now L (k + 1) = (rdrop (cur) x0, out) by rw [HS2.out, if_pos ⟨hhb, hkb⟩])
                clear hhb hkb HS2
                go_wp2_with fail
                refine (on_head T2 (fun Fi h _ => bookA_drop h HLC.out x0)).mono ?_
                rintro e v3 ⟨rfl, F9, T3, X3⟩
                have Y3 := Y2.trans X3
                clear T2 X3 Y2 d0 d1 d2 d3 d4 d5 lz
                obtain ⟨Fz, Sz, hz⟩ := drop_mid T3
                have HE := Keep.mk (And.intro Sz ((Y3).re fun k hk => (Y3).fp k (hz k hk)))
                clear Sz hz T3 Y3
                go_wp2_with fail
                go_roundw
                case rel => exact ⟨k + 1, ao, co, Fz, HLT.out, by go_num, by rw [HN.out], by rw [HN.out]; exact HE.out.1, HE.out.2⟩
                case measure => have := HLT.out; simp [intOf]; omega
      · obtain rfl : k = L.length := by omega
        have HE := Keep.mk (lv_end S1 U1)
        clear S1 U1
        go_wp2_with fail
        go_ret
        obtain ⟨F', h', u'⟩ := HE.out
        exact ⟨_, rfl, F', h', u'⟩
end Go.Proofs.YtefnfhhdcginmaaDoor

