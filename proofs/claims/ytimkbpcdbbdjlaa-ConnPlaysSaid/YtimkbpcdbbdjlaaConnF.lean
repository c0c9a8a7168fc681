/- The table of connections: the methods that take bytes or a number. -/
import Derived.Test.YtimkbpcdbbdjlaaConnE
namespace Go.Proofs.Ytimkbpcdbbdjlaa
open Go.RowKit Go.Sub Go.ChangeMaps
theorem mget_mem {κ V : Type} [DecidableEq κ] {M : List (κ × V)} {x : κ} {v : V} (h : mget M x = some v) : (x, v) ∈ M := by
  induction M with
  | nil => cases h
  | cons y M ih =>
    obtain ⟨k, u⟩ := y
    by_cases e : k = x
    · simp only [mget, if_pos e, Option.some.injEq] at h
      rw [h, e]; simp
    · simp only [mget, if_neg e] at h
      exact List.mem_cons_of_mem _ (ih h)
/-- what holds of each connection -/
structure ConOk (c : Con) : Prop where
  k0 : 0 ≤ c.credit
  k1 : c.credit ≤ 1073741824
  li : c.inn.length ≤ 512
  lo : c.out.length ≤ 1024
abbrev AllOk (M : List (Int × Con)) : Prop := ∀ x ∈ M, ConOk x.2
set_option maxHeartbeats 400000 in
theorem of_bytes_any {b mb cb : Nat} {id : Int} {w : World} (h0 : w.cell? ⟨b, 0, none⟩ = some (.map (some mb))) (hl : ∀ W : World, W.obj mb = w.obj mb → ∀ c, (Instr.lookup 64 (.map (some mb)) (.int .i64 id) c).run Try.prog W = .ok (if c = true then .tuple #[.pointer (some ⟨cb, 0, none⟩), .bool true] else .pointer (some ⟨cb, 0, none⟩)) W)
    {f : Nat} {caps : Array Value} (hent : Enters f) {Q : Value → World → Prop} (C : Calls Try.prog f (#[.pointer (some ⟨cb, 0, none⟩)] ++ caps) w (fun e w' => ∃ v, Ret v (Q v) e w')) :
    Calls Try.prog 57 #[.pointer (some ⟨b, 0, none⟩), .int .i64 id, .func (.func f) #[] caps] w (fun e w' => ∃ v, Ret v (Q v) e w') := by
  have hl := hl w rfl
  have hent := hent (#[.pointer (some ⟨cb, 0, none⟩)] ++ caps)
  go_enter Try.func57, Try.ntmps57
  go_wp2_with fail
  refine C.mono ?_
  rintro e w1 ⟨v, rfl, hQ⟩
  go_wp2_with fail
  go_returns
  exact ⟨v, rfl, hQ⟩
theorem ent_budget : Enters 56 := fun _ _ => by go_simp
/-- Budget, on what the table has -/
def budgetS (M : List (Int × Con)) (id n : Int) : List (Int × Con) × Bool := match mget M id with | none => (M, false) | some c => if n < 0 ∨ 1073741824 < n then (M, false) else (mset M id { c with credit := min (c.credit + n) 1073741824 }, true)
set_option maxHeartbeats 400000 in
theorem budget_c {b : Nat} {last : Int} {M : List (Int × Con)} {w : World} {F : Fp} (hM : (tabT b last M).on w F) (hok : AllOk M) (id n : Int) :
    Calls Try.prog 27 #[.pointer (some ⟨b, 0, none⟩), .int .i64 id, .int .i64 n] w (Ret (.bool (budgetS M id n).2) fun w' => ∃ F', (tabT b last (budgetS M id n).1).on w' F' ∧ Upd F F' w w') := by
  have hMa := Asrt.alloc hM (.cells #[.int .i64 n] 3)
  have ua := (Upd.refl F w).alloc (.cells #[.int .i64 n] 3)
  have hx : (w.alloc (.cells #[.int .i64 n] 3)).cell? ⟨w.heap.size, 0, none⟩ = some (.int .i64 n) := (blk_facts (obj_alloc_at rfl)).1 0
  obtain ⟨mb, h0, h1, hb, hmb, hf, ⟨hn, hl⟩ | ⟨cb, ri, ro, c, Fi, hs, hl, hC, _, hgo⟩⟩ := tab_open hMa id
  · simp only [budgetS, hn]
    have OF := Keep.mk (of_bool_none h0 hl (.func (.func 56) #[] #[.pointer (some ⟨w.heap.size, 0, none⟩)]))
    clear h0 h1 hf hl hx
    go_enter Try.func27, Try.ntmps27
    go_wp2_with fail
    refine OF.out.mono ?_
    rintro e w1 ⟨rfl, rfl⟩
    go_wp2_with fail
    go_returns
    exact ⟨rfl, F, hMa, ua⟩
  · have hc := hok _ (mget_mem hs)
    by_cases hn : n < 0 ∨ 1073741824 < n
    · simp only [budgetS, hs, if_pos hn]
      have OF := Keep.mk (of_bool_some h0 hl ent_budget (caps := #[.pointer (some ⟨w.heap.size, 0, none⟩)]) (show Calls _ _ #[_, _] _ _ from budget1_no hC hx hn))
      clear h0 h1 hf hl hx hn
      go_enter Try.func27, Try.ntmps27
      go_wp2_with fail
      refine OF.out.mono ?_
      rintro e w1 ⟨rfl, rfl⟩
      go_wp2_with fail
      go_returns
      exact ⟨rfl, F, hMa, ua⟩
    · simp only [budgetS, hs, if_neg hn]
      have OF := Keep.mk (of_bool_some h0 hl ent_budget (caps := #[.pointer (some ⟨w.heap.size, 0, none⟩)]) (show Calls _ _ #[_, _] _ _ from budget1_yes hC hx (by omega) (by omega) hc.k0 hc.k1))
      clear h0 h1 hf hl hx hn
      go_enter Try.func27, Try.ntmps27
      go_wp2_with fail
      refine OF.out.mono ?_
      rintro e w1 ⟨rfl, F1, h1, u1⟩
      go_wp2_with fail
      go_returns
      obtain ⟨F', h', u'⟩ := hgo w1 F1 _ .emp (Asrt.emp_star h1) u1
      exact ⟨rfl, F', Asrt.of_emp_star h', ua.trans u'⟩
theorem ent_feed : Enters 41 := fun _ _ => by go_simp
/-- Feed, on what the table has -/
def feedS (M : List (Int × Con)) (id : Int) (b : List UInt8) : List (Int × Con) × Nat := match mget M id with | none => (M, 0) | some c => if c.ended = true then (M, 0) else (mset M id { c with inn := c.inn ++ b.take (min b.length (512 - c.inn.length)) }, min b.length (512 - c.inn.length))
set_option maxHeartbeats 400000 in
theorem feed_c {b : Nat} {last : Int} {M : List (Int × Con)} {w : World} {F : Fp} (hM : (tabT b last M).on w F) (id : Int) {v : Value} {s : List UInt8} (hv : Bytes w v s) (hd : ∀ g, v.ownBlock = some g → s ≠ [] → ¬ F g) (hl : s.length ≤ 1000000) :
    Calls Try.prog 14 #[.pointer (some ⟨b, 0, none⟩), .int .i64 id, v] w (Ret (.int .i64 ((feedS M id s).2 : Nat)) fun w' => ∃ F', (tabT b last (feedS M id s).1).on w' F' ∧ Upd F F' w w') := by
  have hMa := Asrt.alloc hM (.cells #[v] 22)
  have ua := (Upd.refl F w).alloc (.cells #[v] 22)
  have hx : (w.alloc (.cells #[v] 22)).cell? ⟨w.heap.size, 0, none⟩ = some v := (blk_facts (obj_alloc_at rfl)).1 0
  have hva := hv.upd ((Upd.refl none' w).alloc (.cells #[v] 22)) fun _ _ _ h => h
  obtain ⟨av, cv, rfl, _⟩ := hv.slice
  obtain ⟨mb, h0, h1, hb, hmb, hf, ⟨hn, hlk⟩ | ⟨cb, ri, ro, c, Fi, hs, hlk, hC, hsub, hgo⟩⟩ := tab_open hMa id
  · simp only [feedS, hn]
    have OF := Keep.mk (of_int_none h0 hlk (.func (.func 41) #[] #[.pointer (some ⟨w.heap.size, 0, none⟩)]))
    clear h0 h1 hf hlk hx
    go_enter Try.func14, Try.ntmps14
    go_wp2_with fail
    refine OF.out.mono ?_
    rintro e w1 ⟨rfl, rfl⟩
    go_wp2_with fail
    go_returns
    exact ⟨rfl, F, hMa, ua⟩
  · by_cases he : c.ended = true
    · simp only [feedS, hs, if_pos he]
      have OF := Keep.mk (of_int_some h0 hlk ent_feed (caps := #[.pointer (some ⟨w.heap.size, 0, none⟩)]) (show Calls _ _ #[_, _] _ _ from feed1_ended hC he))
      clear h0 h1 hf hlk hx he
      go_enter Try.func14, Try.ntmps14
      go_wp2_with fail
      refine OF.out.mono ?_
      rintro e w1 ⟨rfl, rfl⟩
      go_wp2_with fail
      go_returns
      exact ⟨rfl, F, hMa, ua⟩
    · simp only [feedS, hs, if_neg he]
      have OF := Keep.mk (of_int_some h0 hlk ent_feed (caps := #[.pointer (some ⟨w.heap.size, 0, none⟩)]) (show Calls _ _ #[_, _] _ _ from feed1_c hC hx hva (fun g hg hn hF => hd g hg hn (hsub g hF)) hl (Bool.eq_false_iff.2 he)))
      generalize min s.length (512 - c.inn.length) = z at *
      clear h0 h1 hf hlk hx he hv hva
      go_enter Try.func14, Try.ntmps14
      go_wp2_with fail
      refine OF.out.mono ?_
      rintro e w1 ⟨rfl, F1, h1, u1⟩
      go_wp2_with fail
      go_returns
      obtain ⟨F', h', u'⟩ := hgo w1 F1 _ .emp (Asrt.emp_star h1) u1
      exact ⟨rfl, F', Asrt.of_emp_star h', ua.trans u'⟩
theorem ent_say : Enters 55 := fun _ _ => by go_simp
/-- Say, on what the table has -/
def sayS (M : List (Int × Con)) (id : Int) (b : List UInt8) : List (Int × Con) × Bool := match mget M id with | none => (M, false) | some c => if b.length ≤ 1024 - c.out.length then (mset M id { c with out := c.out ++ b }, true) else (M, false)
set_option maxHeartbeats 400000 in
theorem say_c {b : Nat} {last : Int} {M : List (Int × Con)} {w : World} {F : Fp} (hM : (tabT b last M).on w F) (id : Int) {v : Value} {s : List UInt8} (hv : Bytes w v s) (hd : ∀ g, v.ownBlock = some g → s ≠ [] → ¬ F g) (hl : s.length ≤ 1000000) :
    Calls Try.prog 26 #[.pointer (some ⟨b, 0, none⟩), .int .i64 id, v] w (Ret (.bool (sayS M id s).2) fun w' => ∃ F', (tabT b last (sayS M id s).1).on w' F' ∧ Upd F F' w w') := by
  have hMa := Asrt.alloc hM (.cells #[v] 22)
  have ua := (Upd.refl F w).alloc (.cells #[v] 22)
  have hx : (w.alloc (.cells #[v] 22)).cell? ⟨w.heap.size, 0, none⟩ = some v := (blk_facts (obj_alloc_at rfl)).1 0
  have hva := hv.upd ((Upd.refl none' w).alloc (.cells #[v] 22)) fun _ _ _ h => h
  have hxl : w.heap.size < (w.alloc (.cells #[v] 22)).heap.size := by rw [size_alloc']; exact Nat.lt_succ_self _
  have hxF : ¬ F w.heap.size := Asrt.not_new hM (Nat.le_refl _)
  obtain ⟨av, cv, rfl, _⟩ := hv.slice
  obtain ⟨mb, h0, h1, hb, hmb, hf, ⟨hn, hlk⟩ | ⟨cb, ri, ro, c, Fi, hs, hlk, hC, hsub, hgo⟩⟩ := tab_open hMa id
  · simp only [sayS, hn]
    have OF := Keep.mk (of_bool_none h0 hlk (.func (.func 55) #[] #[.pointer (some ⟨w.heap.size, 0, none⟩)]))
    clear h0 h1 hf hlk hx
    go_enter Try.func26, Try.ntmps26
    go_wp2_with fail
    refine OF.out.mono ?_
    rintro e w1 ⟨rfl, rfl⟩
    go_wp2_with fail
    go_returns
    exact ⟨rfl, F, hMa, ua⟩
  · by_cases hr : s.length ≤ 1024 - c.out.length
    · simp only [sayS, hs, if_pos hr]
      have OF := Keep.mk (of_bool_some h0 hlk ent_say (caps := #[.pointer (some ⟨w.heap.size, 0, none⟩)]) (show Calls _ _ #[_, _] _ _ from say1_yes hC hx hxl (fun q => hxF (hsub _ q)) hva (fun g hg hn hF => hd g hg hn (hsub g hF)) hl hr))
      clear h0 h1 hf hlk hx hr hv hva
      go_enter Try.func26, Try.ntmps26
      go_wp2_with fail
      refine OF.out.mono ?_
      rintro e w1 ⟨rfl, F1, h1, u1⟩
      go_wp2_with fail
      go_returns
      obtain ⟨F', h', u'⟩ := hgo w1 F1 _ .emp (Asrt.emp_star h1) u1
      exact ⟨rfl, F', Asrt.of_emp_star h', ua.trans u'⟩
    · simp only [sayS, hs, if_neg hr]
      have OF := Keep.mk (of_bool_some h0 hlk ent_say (caps := #[.pointer (some ⟨w.heap.size, 0, none⟩)]) (show Calls _ _ #[_, _] _ _ from say1_no hC hx hva (by omega)))
      clear h0 h1 hf hlk hx hr hv hva
      go_enter Try.func26, Try.ntmps26
      go_wp2_with fail
      refine OF.out.mono ?_
      rintro e w1 ⟨rfl, n, rfl⟩
      go_wp2_with fail
      go_returns
      exact ⟨rfl, F, Asrt.drewN hMa n, ua.drewN n⟩
theorem ent_rest : Enters 65 := fun _ _ => by go_simp
theorem ent_flush : Enters 58 := fun _ _ => by go_simp
/-- Rest, on what the table has -/
def restS (M : List (Int × Con)) (id n : Int) : List (Int × Con) × List UInt8 := match mget M id with | none => (M, []) | some c => (mset M id { c with inn := c.inn.drop (min n.toNat c.inn.length) }, c.inn.take (min n.toNat c.inn.length))
/-- Flush, on what the table has -/
def flushS (M : List (Int × Con)) (id : Int) : List (Int × Con) × List UInt8 := match mget M id with | none => (M, []) | some c => (mset M id { c with out := c.out.drop (min c.credit.toNat c.out.length), credit := c.credit - (min c.credit.toNat c.out.length : Nat) }, c.out.take (min c.credit.toNat c.out.length))
set_option maxHeartbeats 400000 in
theorem rest_c {b : Nat} {last : Int} {M : List (Int × Con)} {w : World} {F : Fp} (hM : (tabT b last M).on w F) (id n : Int) :
    Calls Try.prog 34 #[.pointer (some ⟨b, 0, none⟩), .int .i64 id, .int .i64 n] w fun e w' => ∃ v, Ret v (fun w' => ∃ F', (Asrt.star (bytesT v (restS M id n).2) (tabT b last (restS M id n).1)).on w' F' ∧ Upd F F' w w') e w' := by
  have hMa := Asrt.alloc hM (.cells #[.int .i64 n] 3)
  have ua := (Upd.refl F w).alloc (.cells #[.int .i64 n] 3)
  have hx : (w.alloc (.cells #[.int .i64 n] 3)).cell? ⟨w.heap.size, 0, none⟩ = some (.int .i64 n) := (blk_facts (obj_alloc_at rfl)).1 0
  obtain ⟨mb, h0, h1, hb, hmb, hf, ⟨hn, hl⟩ | ⟨cb, ri, ro, c, Fi, hs, hl, hC, _, hgo⟩⟩ := tab_open hMa id
  · simp only [restS, hn]
    have OF := Keep.mk (of_bytes_none h0 hl (.func (.func 65) #[] #[.pointer (some ⟨w.heap.size, 0, none⟩)]))
    clear h0 h1 hf hl hx
    go_enter Try.func34, Try.ntmps34
    go_wp2_with fail
    refine OF.out.mono ?_
    rintro e w1 ⟨rfl, rfl⟩
    go_wp2_with fail
    go_returns
    exact ⟨_, rfl, F, ⟨none', F, bytesT_nil _ _ _, hMa, fun _ h _ => h, by funext k; simp [none']⟩, ua⟩
  · simp only [restS, hs]
    have OF := Keep.mk (of_bytes_any h0 hl ent_rest (caps := #[.pointer (some ⟨w.heap.size, 0, none⟩)]) (Q := fun v w' => ∃ F', (Asrt.star (bytesT v (c.inn.take (min n.toNat c.inn.length))) (conT cb ri ro { c with inn := c.inn.drop (min n.toNat c.inn.length) })).on w' F' ∧ Upd Fi F' _ w') (show Calls _ _ #[_, _] _ _ from rest1_c hC hx rfl))
    generalize min n.toNat c.inn.length = z at *
    clear h0 h1 hf hl hx
    go_enter Try.func34, Try.ntmps34
    go_wp2_with fail
    refine OF.out.mono ?_
    rintro e w1 ⟨v, rfl, F1, h1, u1⟩
    go_wp2_with fail
    go_returns
    obtain ⟨F', h', u'⟩ := hgo w1 F1 _ _ h1 u1
    exact ⟨v, rfl, F', h', ua.trans u'⟩
set_option maxHeartbeats 400000 in
theorem flush_c {b : Nat} {last : Int} {M : List (Int × Con)} {w : World} {F : Fp} (hM : (tabT b last M).on w F) (hok : AllOk M) (id : Int) :
    Calls Try.prog 28 #[.pointer (some ⟨b, 0, none⟩), .int .i64 id] w fun e w' => ∃ v, Ret v (fun w' => ∃ F', (Asrt.star (bytesT v (flushS M id).2) (tabT b last (flushS M id).1)).on w' F' ∧ Upd F F' w w') e w' := by
  obtain ⟨mb, h0, h1, hb, hmb, hf, ⟨hn, hl⟩ | ⟨cb, ri, ro, c, Fi, hs, hl, hC, _, hgo⟩⟩ := tab_open hM id
  · simp only [flushS, hn]
    have OF := Keep.mk (of_bytes_none h0 hl (.func (.func 58) #[] #[]))
    clear h0 h1 hf hl
    go_enter Try.func28, Try.ntmps28
    go_wp2_with fail
    refine OF.out.mono ?_
    rintro e w1 ⟨rfl, rfl⟩
    go_wp2_with fail
    go_returns
    exact ⟨_, rfl, F, ⟨none', F, bytesT_nil _ _ _, hM, fun _ h _ => h, by funext k; simp [none']⟩, Upd.refl _ _⟩
  · have hc := hok _ (mget_mem hs)
    simp only [flushS, hs]
    have OF := Keep.mk (of_bytes_any h0 hl ent_flush (caps := #[]) (Q := fun v w' => ∃ F', (Asrt.star (bytesT v (c.out.take (min c.credit.toNat c.out.length))) (conT cb ri ro { c with out := c.out.drop (min c.credit.toNat c.out.length), credit := c.credit - (min c.credit.toNat c.out.length : Nat) })).on w' F' ∧ Upd Fi F' _ w') (show Calls _ _ #[_] _ _ from flush1_c hC rfl hc.k0 hc.k1))
    generalize min c.credit.toNat c.out.length = z at *
    clear h0 h1 hf hl
    go_enter Try.func28, Try.ntmps28
    go_wp2_with fail
    refine OF.out.mono ?_
    rintro e w1 ⟨v, rfl, F1, h1, u1⟩
    go_wp2_with fail
    go_returns
    obtain ⟨F', h', u'⟩ := hgo w1 F1 _ _ h1 u1
    exact ⟨v, rfl, F', h', u'⟩
end Go.Proofs.Ytimkbpcdbbdjlaa
