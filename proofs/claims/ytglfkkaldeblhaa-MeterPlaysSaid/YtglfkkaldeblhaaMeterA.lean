/- The meter: what its calls do. -/
import Derived.Test.YtglfkkaldeblhaaRows
import Derived.Test.YtglfkkaldeblhaaSubE
import Derived.Handy
import Derived.Lib.MinMax
namespace Go.Proofs.Ytglfkkaldeblhaa
open Go.RowKit Go.Sub Go.ChangeMaps

abbrev encS (x : ByteArray) : Value := .string x
abbrev evP (p : Option Nat) : Value := .pointer (p.map fun b => ⟨b, 0, none⟩)
theorem keyS : KeyOk Try.prog 9 .string encS := keyOk_string Try.underlying9
theorem zPtr (w : World) : (zeroValue 50).run Try.prog w = .ok (evP none) w := by kernel_rfl
abbrev most : Int := 1099511627776
structure Cnt where
  t : ByteArray
  d : Int
  u : Int
  p : Int
abbrev Cnt.cells (c : Cnt) : Array Value := #[.string c.t, .int .i64 c.d, .int .i64 c.u, .int .i64 c.p]
abbrev aggC (c : Cnt) : Value := .agg #[.string c.t, .int .i64 c.d, .int .i64 c.u, .int .i64 c.p]
abbrev cblk (x : Nat × Cnt) : Asrt := .blk x.1 (.cells x.2.cells 36 (0, 0))
abbrev cent (x : Nat × Cnt) : ByteArray × Option Nat := (x.2.t, some x.1)
def meterT (b : Nat) (M : List Cnt) : Asrt := .ex fun q : Nat × List (Nat × Cnt) => .fact (q.2.map (·.2) = M)
  (.stars (.blk b (.cells #[.map (some q.1)] 47 (0, 0)) :: .map encS evP q.1 (q.2.map cent) :: q.2.map cblk))
def cof (M : List Cnt) (t : ByteArray) : Cnt := (M.find? fun c => c.t = t).getD ⟨t, 0, 0, 0⟩
def cupd (M : List Cnt) (t : ByteArray) (f : Cnt → Cnt) : List Cnt := match M with
  | [] => []
  | c :: r => if c.t = t then f c :: r else c :: cupd r t f
abbrev encC (c : Cnt) : List Value := [.string c.t, .int .i64 c.d, .int .i64 c.u, .int .i64 c.p]
theorem infoC : (Try.prog.info? 36).map (fun i => (i.zero, i.size, i.bytes)) = some (some (.agg #[.string ByteArray.empty, .int .i64 0, .int .i64 0, .int .i64 0]), 4, 40) := by kernel_rfl
theorem mget_cent (L : List (Nat × Cnt)) (t : ByteArray) : mget (L.map cent) t = (L.find? fun x => x.2.t = t).map fun x => some x.1 := by
  induction L with
  | nil => rfl
  | cons x L ih => by_cases h : x.2.t = t <;> simp [mget, h, ih]
theorem find_val (L : List (Nat × Cnt)) (t : ByteArray) : (L.map (·.2)).find? (fun c => c.t = t) = (L.find? fun x => x.2.t = t).map (·.2) := by
  rw [List.find?_map]; rfl
theorem find_idx {L : List (Nat × Cnt)} {t : ByteArray} {x : Nat × Cnt} (h : (L.find? fun x => x.2.t = t) = some x) : x.2.t = t ∧ ∃ i, L[i]? = some x ∧ ∀ f, cupd (L.map (·.2)) t f = (L.set i (x.1, f x.2)).map (·.2) := by
  induction L with
  | nil => simp at h
  | cons y L ih =>
    by_cases e : y.2.t = t
    · simp [e] at h
      subst h
      exact ⟨e, 0, rfl, fun f => by simp [cupd, e]⟩
    · simp [e] at h
      obtain ⟨h1, i, hi, hf⟩ := ih h
      exact ⟨h1, i + 1, by simpa using hi, fun f => by simp [cupd, e, hf]⟩

/-! New -/
set_option maxHeartbeats 400000 in
theorem new_c (w : World) : Calls Try.prog 9 #[] w fun e w' => ∃ b, Ret (.pointer (some ⟨b, 0, none⟩)) (fun w' => ∃ F, (meterT b []).on w' F ∧ Upd none' F w w') e w' := by
  have hmm := @run_makeMap Try.prog
  go_enter Try.func9, Try.ntmps9
  go_wp2_with fail
  go_ret
  obtain ⟨F, h, u⟩ := Asrt.stars_new (l := []) (A := .map encS evP w.heap.size []) (w := w) (w' := w.alloc (.map #[] 0)) (F := none') (Fn := fun k => k = w.heap.size) rfl ⟨_, mapObj_new, obj_alloc_at rfl, rfl⟩ (((Upd.refl none' w).alloc _).re fun k hk => .inr (by rw [hk]; exact Nat.le_refl _))
  obtain ⟨F', h', u'⟩ := Asrt.stars_new (A := .blk (w.heap.size + 1) (.cells #[.map (some w.heap.size)] 47 (0, 0))) (w' := (w.alloc (.map #[] 0)).alloc (.cells #[.map (some w.heap.size)] 47)) (Fn := fun k => k = w.heap.size + 1) h ⟨obj_alloc_at (Array.size_push ..).symm, rfl⟩ (((Upd.refl none' _).alloc _).re fun k hk => .inr (by rw [hk]; exact Nat.le_of_eq (Array.size_push ..)))
  refine ⟨_, rfl, F', ⟨(w.heap.size, []), rfl, h'⟩, u.trans u'⟩

/-! Of -/
set_option maxHeartbeats 400000 in
theorem of_c {b : Nat} {M : List Cnt} {w : World} {F : Fp} (hM : (meterT b M).on w F) (t : ByteArray) :
    Calls Try.prog 16 #[.pointer (some ⟨b, 0, none⟩), .string t] w (Ret (aggC (cof M t)) fun w' => Quiet w w') := by
  obtain ⟨⟨mb, L⟩, rfl, hS⟩ := hM
  obtain ⟨_, ⟨hb, _⟩, _⟩ := Asrt.stars_get hS 0 rfl
  obtain ⟨hc, hf, hlt⟩ := blk_facts hb
  obtain ⟨_, ⟨o, ho, hm, _⟩, _⟩ := Asrt.stars_get hS 1 rfl
  have hlm := lt_of_heap hm
  have hl := run_lookup_of keyS Try.underlying45 zPtr ho mb t
  rw [mget_cent] at hl
  clear hb
  simp only [cof, find_val]
  cases hq : L.find? (fun x => x.2.t = t) with
  | none =>
    rw [hq] at hl
    clear hq
    go_enter Try.func16, Try.ntmps16
    go_wp2_with fail
    go_returns
    exact ⟨rfl, (Upd.refl _ _).alloc _⟩
  | some x =>
    obtain ⟨et, i, hi, _⟩ := find_idx hq
    obtain ⟨_, ⟨hx, _⟩, _⟩ := Asrt.stars_get hS (i + 2) (A := cblk x) (by simp [hi])
    obtain ⟨hxc, hxf, hxl⟩ := blk_facts hx
    rw [hq] at hl
    obtain ⟨p, c⟩ := x
    clear hq hx
    go_enter Try.func16, Try.ntmps16
    simp only [Option.map_some, evP] at hl
    go_wp2_with fail
    go_returns
    exact ⟨by subst et; rfl, (Upd.refl _ _).alloc _⟩

/-! add -/
set_option maxHeartbeats 1000000 in
theorem add_c {p j : Nat} {cs : Array Value} {ty : TypeId} {w : World} {F : Fp} (h : (Asrt.blk p (.cells cs ty (0, 0))).on w F) {a n : Int} (hj : cs[j]? = some (.int .i64 a)) (ha : 0 ≤ a) (ha' : a ≤ most) (hn : 0 ≤ n) :
    Calls Try.prog 29 #[.pointer (some ⟨p, j, none⟩), .int .i64 n] w (Ret (.tuple #[]) fun w' => (Asrt.blk p (.cells (cs.setIfInBounds j (.int .i64 (a + min n (most - a)))) ty (0, 0))).on w' F ∧ Upd F F w w') := by
  obtain ⟨hb, hF⟩ := h
  obtain ⟨hc, hf, hlt⟩ := blk_facts hb
  have hcj : w.cell? ⟨p, j, none⟩ = some (.int .i64 a) := (hc j).trans hj
  have hfj := hf j
  have e6 : IntKind.i64.wrap (1099511627776 - a) = 1099511627776 - a := by unfold most at ha'; rw [IntKind.wrap_i64]; omega
  have e7 : IntKind.i64.wrap (a + min n (1099511627776 - a)) = a + min n (1099511627776 - a) := by unfold most at ha'; rw [IntKind.wrap_i64]; omega
  clear hc hf ha ha' hn
  go_enter Try.func29, Try.ntmps29
  go_wp2_with fail
  go_region
  go_wp2_with fail
  go_returns
  refine ⟨rfl, ⟨obj_setCell_at hb _ _, hF⟩, ?_⟩
  exact ((Upd.refl F w).setCell (a := ⟨p, j, none⟩) (.inl (by rw [hF])) _).drew

/-! the functions that give a count's number -/
structure Gives (f j : Nat) : Prop where
  enter : ∀ (args : Array Value) (w : World), (callFunc f args).run Try.prog w = .ok (.enter f args) w
  calls : ∀ (p : Nat) (w : World), Calls Try.prog f #[.pointer (some ⟨p, 0, none⟩)] w (Ret (.pointer (some ⟨p, j, none⟩)) fun w' => w = w')
theorem gives_down : Gives 31 1 := ⟨fun _ _ => by go_simp, fun p w => by
  go_enter Try.func31, Try.ntmps31
  go_wp2_with fail
  go_ret
  exact ⟨rfl, rfl⟩⟩
theorem gives_up : Gives 32 2 := ⟨fun _ _ => by go_simp, fun p w => by
  go_enter Try.func32, Try.ntmps32
  go_wp2_with fail
  go_ret
  exact ⟨rfl, rfl⟩⟩
theorem gives_pairs : Gives 33 3 := ⟨fun _ _ => by go_simp, fun p w => by
  go_enter Try.func33, Try.ntmps33
  go_wp2_with fail
  go_ret
  exact ⟨rfl, rfl⟩⟩

/-! count -/
abbrev cap (a n : Int) : Int := a + min n (most - a)
def bump (j : Nat) (n : Int) (c : Cnt) : Cnt := match j with
  | 1 => ⟨c.t, cap c.d n, c.u, c.p⟩
  | 2 => ⟨c.t, c.d, cap c.u n, c.p⟩
  | _ => ⟨c.t, c.d, c.u, cap c.p n⟩
structure Ok (c : Cnt) : Prop where
  d0 : 0 ≤ c.d
  d1 : c.d ≤ most
  u0 : 0 ≤ c.u
  u1 : c.u ≤ most
  p0 : 0 ≤ c.p
  p1 : c.p ≤ most
theorem bump_cells {j : Nat} (hj : 1 ≤ j ∧ j ≤ 3) {c : Cnt} (hc : Ok c) (n : Int) : ∃ a, c.cells[j]? = some (.int .i64 a) ∧ 0 ≤ a ∧ a ≤ most ∧ (bump j n c).cells = c.cells.setIfInBounds j (.int .i64 (cap a n)) ∧ (bump j n c).t = c.t := by
  obtain ⟨h0, h1⟩ := hj
  rcases j with _ | _ | _ | _ | j
  · omega
  · exact ⟨c.d, rfl, hc.d0, hc.d1, rfl, rfl⟩
  · exact ⟨c.u, rfl, hc.u0, hc.u1, rfl, rfl⟩
  · exact ⟨c.p, rfl, hc.p0, hc.p1, rfl, rfl⟩
  · omega
def cstep (M : List Cnt) (t : ByteArray) (j : Nat) (n : Int) : List Cnt × Int :=
  if n < 0 then (M, 1) else
  if (M.find? fun c => c.t = t).isSome then (cupd M t (bump j n), 0) else
  if M.length = 64 then (M, 2) else (M ++ [bump j n ⟨t, 0, 0, 0⟩], 0)
theorem mset_cent {L : List (Nat × Cnt)} {t : ByteArray} (h : (L.find? fun x => x.2.t = t) = none) (v : Option Nat) : mset (L.map cent) t v = L.map cent ++ [(t, v)] := by
  induction L with
  | nil => rfl
  | cons x L ih =>
    by_cases e : x.2.t = t
    · simp [e] at h
    · simp only [List.find?_cons, e, decide_false] at h
      simp [mset, e, ih h]
theorem set_same {α : Type} {l : List α} {i : Nat} {x : α} (h : l[i]? = some x) : l.set i x = l := by
  obtain ⟨hi, rfl⟩ := List.getElem?_eq_some_iff.1 h
  exact List.set_getElem_self hi
theorem zero_ok (t : ByteArray) : Ok ⟨t, 0, 0, 0⟩ := ⟨by simp, by simp, by simp, by simp, by simp, by simp⟩
set_option maxHeartbeats 1000000 in
theorem count_c {b : Nat} {M : List Cnt} {w : World} {F : Fp} (hM : (meterT b M).on w F) (hok : ∀ c ∈ M, Ok c) (t : ByteArray) (n : Int) {f j : Nat} (hG : Gives f j) (hj : 1 ≤ j ∧ j ≤ 3) :
    Calls Try.prog 30 #[.pointer (some ⟨b, 0, none⟩), .string t, .int .i64 n, .func (.func f) #[] #[]] w (Ret (.int .i64 (cstep M t j n).2) fun w' => ∃ F', (meterT b (cstep M t j n).1).on w' F' ∧ Upd F F' w w') := by
  have hM0 := hM
  obtain ⟨⟨mb, L⟩, hLM, hS⟩ := hM
  obtain ⟨_, ⟨hb, _⟩, _⟩ := Asrt.stars_get hS 0 rfl
  obtain ⟨hc, hf, hlt⟩ := blk_facts hb
  obtain ⟨_, ⟨o, ho, hm, _⟩, _⟩ := Asrt.stars_get hS 1 rfl
  have hlm := lt_of_heap hm
  have hl := run_lookup_of keyS Try.underlying45 zPtr ho mb t
  have hlen := run_len_of Try.underlying45 ho mb
  rw [mget_cent] at hl
  have hent := hG.enter
  have hlenM : M.length = L.length := by rw [← hLM]; simp
  clear hb
  by_cases hn : n < 0
  · have e1 : decide (n < 0) = true := by simp [hn]
    rw [show cstep M t j n = (M, 1) from by simp [cstep, hn]]
    cases hq : L.find? (fun x => x.2.t = t) with
    | none =>
      rw [hq] at hl
      clear hq hn
      go_enter Try.func30, Try.ntmps30
      go_wp2_with fail
      go_returns
      exact ⟨rfl, F, hM0, Upd.refl _ _⟩
    | some x =>
      rw [hq] at hl
      clear hq hn
      go_enter Try.func30, Try.ntmps30
      go_wp2_with fail
      go_returns
      exact ⟨rfl, F, hM0, Upd.refl _ _⟩
  · have e1 : decide (n < 0) = false := by simp [hn]
    cases hq : L.find? (fun x => x.2.t = t) with
    | none =>
      have hq' : M.find? (fun c => c.t = t) = none := by rw [← hLM, find_val, hq]; rfl
      rw [hq] at hl
      by_cases h64 : M.length = 64
      · have e2 : ((L.length : Int) == 64) = true := by simp; omega
        rw [show cstep M t j n = (M, 2) from by simp [cstep, hn, hq', h64]]
        clear hq hq' hn h64 hlenM
        go_enter Try.func30, Try.ntmps30
        go_wp2_with fail
        go_returns
        exact ⟨rfl, F, hM0, Upd.refl _ _⟩
      · have e2 : ((L.length : Int) == 64) = false := by simp; omega
        rw [show cstep M t j n = (M ++ [bump j n ⟨t, 0, 0, 0⟩], 0) from by simp [cstep, hn, hq', h64]]
        obtain ⟨o', ho', hu⟩ := run_update_of keyS Try.underlying45 ho mb t (some w.heap.size)
        rw [mset_cent hq] at ho'
        simp only [Option.map_some, evP] at hu
        obtain ⟨F1, h1, u1⟩ := Asrt.stars_new hS (A := cblk (w.heap.size, ⟨t, 0, 0, 0⟩)) (w' := w.alloc (.cells #[.string t, .int .i64 0, .int .i64 0, .int .i64 0] 36)) (Fn := fun k => k = w.heap.size) ⟨obj_alloc_at rfl, rfl⟩ (((Upd.refl none' w).alloc _).re fun k hk => .inr (by rw [hk]; exact Nat.le_refl _))
        obtain ⟨Fm, ⟨om, hom, hbm, hFm⟩, _, hgo1⟩ := Asrt.stars_upd _ 2 _ rfl h1
        obtain ⟨F2, h2, u2⟩ := hgo1 (setBlock (w.alloc (.cells #[.string t, .int .i64 0, .int .i64 0, .int .i64 0] 36)) mb o') Fm (.map encS evP mb (L.map cent ++ [(t, some w.heap.size)])) ⟨o', ho', obj_setBlock_at (lt_of_heap hbm), hFm⟩ ((Upd.refl Fm _).setBlock (.inl (by rw [hFm])) o')
        obtain ⟨Fx, hx, _, hgo2⟩ := Asrt.stars_upd _ 0 _ rfl h2
        obtain ⟨a, hj0, ha0, ha1, hbc, hbt⟩ := bump_cells hj (zero_ok t) n
        have AD := Keep.mk (add_c hx hj0 ha0 ha1 (by omega : 0 ≤ n))
        clear hq hq' hn h64 hlenM hom hbm hx
        go_enter Try.func30, Try.ntmps30
        go_wp2_with fail
        refine (hG.calls _ _).mono ?_
        rintro e w1 ⟨rfl, rfl⟩
        go_wp2_with fail
        refine AD.out.mono ?_
        rintro e w2 ⟨rfl, hA, hU⟩
        obtain ⟨F', hS', hU'⟩ := hgo2 _ _ _ hA hU
        go_wp2_with fail
        go_returns
        rw [← hbc] at hS'
        refine ⟨rfl, F', ⟨(mb, L ++ [(w.heap.size, bump j n ⟨t, 0, 0, 0⟩)]), by rw [List.map_append, ← hLM]; rfl, ?_⟩, (u1.trans u2).trans hU'⟩
        have hS' := Asrt.stars_perm (List.perm_append_comm (l₁ := [_]) (l₂ := _)) hS'
        rw [List.map_append, List.map_append]
        have et : cent (w.heap.size, bump j n ⟨t, 0, 0, 0⟩) = (t, some w.heap.size) := by rw [cent, hbt]
        rw [List.map_singleton, List.map_singleton, et]
        exact hS'
    | some x =>
      have hq' : M.find? (fun c => c.t = t) = some x.2 := by rw [← hLM, find_val, hq]; rfl
      obtain ⟨et, i, hi, hupd⟩ := find_idx hq
      rw [hq] at hl
      obtain ⟨p, c⟩ := x
      rw [show cstep M t j n = (cupd M t (bump j n), 0) from by simp [cstep, hn, hq']]
      obtain ⟨Fx, hx, _, hgo⟩ := Asrt.stars_upd _ (i + 2) (cblk (p, c)) (by simp [hi]) hS
      obtain ⟨a, hj0, ha0, ha1, hbc, hbt⟩ := bump_cells hj (hok c (by rw [← hLM]; exact List.mem_map_of_mem (List.mem_of_getElem? hi))) n
      have AD := Keep.mk (add_c hx hj0 ha0 ha1 (by omega : 0 ≤ n))
      simp only [Option.map_some, evP] at hl
      clear hq hq' hn hx
      go_enter Try.func30, Try.ntmps30
      go_wp2_with fail
      refine (hG.calls _ _).mono ?_
      rintro e w1 ⟨rfl, rfl⟩
      go_wp2_with fail
      refine AD.out.mono ?_
      rintro e w2 ⟨rfl, hA, hU⟩
      obtain ⟨F', hS', hU'⟩ := hgo _ _ _ hA hU
      go_wp2_with fail
      go_returns
      rw [← hbc] at hS'
      refine ⟨rfl, F', ⟨(mb, L.set i (p, bump j n c)), by rw [← hLM, hupd], ?_⟩, hU'⟩
      have et : cent (p, bump j n c) = cent (p, c) := by simp only [cent, hbt]
      have ec : (L.map cent).set i (cent (p, c)) = L.map cent := set_same (by rw [List.getElem?_map, hi]; rfl)
      rw [List.map_set, List.map_set, et, ec]
      exact hS'
/-! Down, Up, Paired -/
set_option maxHeartbeats 400000 in
theorem down_c {b : Nat} {M : List Cnt} {w : World} {F : Fp} (hM : (meterT b M).on w F) (hok : ∀ c ∈ M, Ok c) (t : ByteArray) (n : Int) :
    Calls Try.prog 22 #[.pointer (some ⟨b, 0, none⟩), .string t, .int .i64 n] w (Ret (.int .i64 (cstep M t 1 n).2) fun w' => ∃ F', (meterT b (cstep M t 1 n).1).on w' F' ∧ Upd F F' w w') := by
  go_enter Try.func22, Try.ntmps22
  go_wp2_with fail
  refine (count_c hM hok t n gives_down (by omega)).mono ?_
  rintro e w1 ⟨rfl, h⟩
  go_wp2_with fail
  go_returns
  exact ⟨rfl, h⟩
set_option maxHeartbeats 400000 in
theorem up_c {b : Nat} {M : List Cnt} {w : World} {F : Fp} (hM : (meterT b M).on w F) (hok : ∀ c ∈ M, Ok c) (t : ByteArray) (n : Int) :
    Calls Try.prog 23 #[.pointer (some ⟨b, 0, none⟩), .string t, .int .i64 n] w (Ret (.int .i64 (cstep M t 2 n).2) fun w' => ∃ F', (meterT b (cstep M t 2 n).1).on w' F' ∧ Upd F F' w w') := by
  go_enter Try.func23, Try.ntmps23
  go_wp2_with fail
  refine (count_c hM hok t n gives_up (by omega)).mono ?_
  rintro e w1 ⟨rfl, h⟩
  go_wp2_with fail
  go_returns
  exact ⟨rfl, h⟩
set_option maxHeartbeats 400000 in
theorem paired_c {b : Nat} {M : List Cnt} {w : World} {F : Fp} (hM : (meterT b M).on w F) (hok : ∀ c ∈ M, Ok c) (t : ByteArray) :
    Calls Try.prog 24 #[.pointer (some ⟨b, 0, none⟩), .string t] w (Ret (.int .i64 (cstep M t 3 1).2) fun w' => ∃ F', (meterT b (cstep M t 3 1).1).on w' F' ∧ Upd F F' w w') := by
  go_enter Try.func24, Try.ntmps24
  go_wp2_with fail
  refine (count_c hM hok t 1 gives_pairs (by omega)).mono ?_
  rintro e w1 ⟨rfl, h⟩
  go_wp2_with fail
  go_returns
  exact ⟨rfl, h⟩
end Go.Proofs.Ytglfkkaldeblhaa
