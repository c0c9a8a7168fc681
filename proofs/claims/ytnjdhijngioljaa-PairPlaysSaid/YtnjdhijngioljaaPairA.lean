/- The table of pairs: what its calls do. -/
import Derived.Test.YtnjdhijngioljaaRows
import Derived.Test.YtnjdhijngioljaaSubE

namespace Go.Proofs.Ytnjdhijngioljaa
open Go.RowKit Go.Sub Go.ChangeMaps

abbrev encI (x : Int) : Value := .int .i64 x
abbrev evEnd (p : Int × Bool) : Value := .agg #[.int .i64 p.1, .bool p.2]
theorem keyI : KeyOk Try.prog 3 (.int .i64) encI := keyOk_int Try.underlying3
theorem zEnd (w : World) : (zeroValue 53).run Try.prog w = .ok (evEnd (0, false)) w := by kernel_rfl
theorem zInt (w : World) : (zeroValue 3).run Try.prog w = .ok (encI 0) w := by kernel_rfl

structure Tab where
  ends : List (Int × (Int × Bool))
  ever : List (Int × Int)
def Tab.was (T : Tab) (id : Int) : Bool := decide (0 < (mget T.ever id).getD 0)

def pairAt (w : World) (b m1 m2 : Nat) (o1 o2 : Obj) (T : Tab) : Prop :=
  w.obj b = some (.cells #[.map (some m1), .map (some m2)] 51 (0, 0)) ∧ w.obj m1 = some o1 ∧ w.obj m2 = some o2 ∧ b ≠ m1 ∧ b ≠ m2 ∧ m1 ≠ m2 ∧
  MapObj encI evEnd o1 T.ends ∧ MapObj encI encI o2 T.ever ∧ ∀ p ∈ T.ever, p.2 = 1
def pairT (b : Nat) (T : Tab) : Asrt where
  on := fun w F => ∃ m1 m2 o1 o2, pairAt w b m1 m2 o1 o2 T ∧ F = fun k => k = b ∨ k = m1 ∨ k = m2
  loc := fun {w w' F} ⟨m1, m2, o1, o2, ⟨h1, h2, h3, h⟩, hF⟩ hk => by
    subst hF
    exact ⟨m1, m2, o1, o2, ⟨(hk b (.inl rfl)).trans h1, (hk m1 (.inr (.inl rfl))).trans h2, (hk m2 (.inr (.inr rfl))).trans h3, h⟩, rfl⟩
  lt := fun {w F} ⟨m1, m2, o1, o2, ⟨h1, h2, h3, _⟩, hF⟩ k hk => by
    subst hF
    rcases hk with rfl | rfl | rfl
    · exact lt_of_heap h1
    · exact lt_of_heap h2
    · exact lt_of_heap h3

set_option maxHeartbeats 400000 in
theorem was_c {b : Nat} {T : Tab} {w : World} {F : Fp} (hT : (pairT b T).on w F) (id : Int) :
    Calls Try.prog 18 #[.pointer (some ⟨b, 0, none⟩), .int .i64 id] w (Ret (.bool (T.was id)) fun w' => w = w') := by
  obtain ⟨m1, m2, o1, o2, ⟨hb, h1, h2, n1, n2, n3, ho1, ho2, hv⟩, hF⟩ := hT
  obtain ⟨hc, hf, hlt⟩ := blk_facts hb
  have hl := run_lookup_of keyI Try.underlying49 zInt ho2 m2 id
  clear hb
  go_enter Try.func18, Try.ntmps18
  go_wp2_with fail
  go_ret
  exact ⟨by simp [Tab.was], rfl⟩

def Tab.other (T : Tab) (id : Int) : Int × Bool := (((mget T.ends id).getD (0, false)).1, (mget T.ends id).isSome)
set_option maxHeartbeats 400000 in
theorem other_c {b : Nat} {T : Tab} {w : World} {F : Fp} (hT : (pairT b T).on w F) (id : Int) :
    Calls Try.prog 16 #[.pointer (some ⟨b, 0, none⟩), .int .i64 id] w (Ret (.tuple #[.int .i64 (T.other id).1, .bool (T.other id).2]) fun w' => Quiet w w') := by
  obtain ⟨m1, m2, o1, o2, ⟨hb, h1, h2, n1, n2, n3, ho1, ho2, hv⟩, hF⟩ := hT
  obtain ⟨hc, hf, hlt⟩ := blk_facts hb
  have hl := run_lookup_of keyI Try.underlying48 zEnd ho1 m1 id
  clear hb
  go_enter Try.func16, Try.ntmps16
  go_wp2_with fail
  go_ret2
  exact ⟨rfl, (Upd.refl _ _).alloc _⟩

/-! New -/
set_option maxHeartbeats 400000 in
theorem new_c (w : World) : Calls Try.prog 10 #[] w fun e w' => ∃ b, Ret (.pointer (some ⟨b, 0, none⟩)) (fun w' => ∃ F, (pairT b ⟨[], []⟩).on w' F ∧ Upd none' F w w') e w' := by
  have hmm := @run_makeMap Try.prog
  go_enter Try.func10, Try.ntmps10
  go_wp2_with fail
  go_ret
  refine ⟨_, rfl, _, ⟨w.heap.size, w.heap.size + 1, .map #[] 0, .map #[] 0, ⟨?_, ?_, ?_, ?_, ?_, ?_, mapObj_new, mapObj_new, ?_⟩, rfl⟩, ?_⟩
  · go_simp
  · go_simp
  · go_simp
  · omega
  · omega
  · omega
  · simp
  · refine ((((Upd.refl none' w).alloc _).alloc _).alloc _).re fun k hk => .inr ?_
    rcases hk with rfl | rfl | rfl <;> omega

def Tab.part (T : Tab) (id : Int) : Tab := match mget T.ends id with
  | some (o, _) => ⟨mdel (mdel T.ends id) o, T.ever⟩
  | none => T
set_option maxHeartbeats 400000 in
theorem part_c {b : Nat} {T : Tab} {w : World} {F : Fp} (hT : (pairT b T).on w F) (id : Int) :
    Calls Try.prog 12 #[.pointer (some ⟨b, 0, none⟩), .int .i64 id] w (Ret (.tuple #[.int .i64 (T.other id).1, .bool (T.other id).2]) fun w' => ∃ F', (pairT b (T.part id)).on w' F' ∧ Upd F F' w w') := by
  cases hg : mget T.ends id with
  | none =>
    have h2 : (T.other id).2 = false := by simp [Tab.other, hg]
    have h1 : T.part id = T := by simp [Tab.part, hg]
    have H := Keep.mk h1
    clear h1 hg
    go_enter Try.func12, Try.ntmps12
    go_wp2_with (go_at_call 16; refine (other_c hT id).mono ?_; rintro e w' ⟨rfl, hq⟩)
    go_ret2
    exact ⟨by rw [h2]; rfl, _, by rw [H.out]; exact (pairT b T).frame hT hq fun _ _ h => h, hq.weaken (fun _ h => h.elim) fun _ h => .inl h⟩
  | some p =>
    obtain ⟨o, v⟩ := p
    have e1 : T.other id = (o, true) := by simp [Tab.other, hg]
    have e2 : T.part id = ⟨mdel (mdel T.ends id) o, T.ever⟩ := by simp [Tab.part, hg]
    rw [e1, e2]
    have hO := other_c hT id
    rw [e1] at hO
    clear hg e1 e2
    go_enter Try.func12, Try.ntmps12
    go_wp2_with fail
    refine hO.mono ?_
    rintro e w1 ⟨rfl, hq⟩
    obtain ⟨m1, m2, o1, o2, ⟨hb, h1, h2, n1, n2, n3, ho1, ho2, hv⟩, hF⟩ := (pairT b T).frame hT hq fun _ _ h => h
    obtain ⟨hc, hf, hlt⟩ := blk_facts hb
    obtain ⟨o1', ho1', hd⟩ := run_delete_of keyI Try.underlying48 ho1 m1 id
    obtain ⟨o1'', ho1'', hd'⟩ := run_delete_of keyI Try.underlying48 ho1' m1 o
    have l1 := lt_of_heap h1
    have l2 := lt_of_heap h2
    clear hO hT
    go_wp2_with (first | (at_delete; refine at_delete_run rfl _ _ _ _ rfl _ _ _ _ rfl rfl (hd _ ?_ _) ?_; go_simp) | (at_delete; refine at_delete_run rfl _ _ _ _ rfl _ _ _ _ rfl rfl (hd' _ ?_ _) ?_; go_simp))
    go_ret2
    have n3' := n3.symm
    refine ⟨rfl, _, ⟨m1, m2, o1'', o2, ⟨?_, ?_, ?_, n1, n2, n3, ho1'', ho2, hv⟩, rfl⟩, ?_⟩
    · go_simp
    · go_simp
    · go_simp
    · rw [hF]
      exact (hq.weaken (fun _ h => h.elim) fun _ h => .inl h).setBlock (.inl (.inr (.inl rfl))) _

def Tab.join (T : Tab) (v c : Int) : Tab × Int :=
  if v < 1 ∨ c < 1 ∨ v = c then (T, 1) else
  if T.was v = true ∨ T.was c = true then (T, 4) else
  (⟨mset (mset T.ends v (c, true)) c (v, false), mset (mset T.ever v 1) c 1⟩, 0)
theorem mget_mset {κ V : Type} [DecidableEq κ] (m : List (κ × V)) (x y : κ) (v : V) : mget (mset m x v) y = if x = y then some v else mget m y := by
  induction m with
  | nil => by_cases h : x = y <;> simp [mset, mget, h]
  | cons p m ih =>
    obtain ⟨k, u⟩ := p
    by_cases h : k = x
    · subst h; by_cases h2 : k = y <;> simp [mset, mget, h2]
    · by_cases h2 : k = y
      · subst h2; simp [mset, mget, h, show ¬ x = k from fun e => h e.symm]
      · simp [mset, mget, h, h2, ih]
theorem mem_of_mget {κ V : Type} [DecidableEq κ] {m : List (κ × V)} {x : κ} {v : V} (h : mget m x = some v) : (x, v) ∈ m := by
  induction m with
  | nil => simp [mget] at h
  | cons p m ih =>
    obtain ⟨k, u⟩ := p
    by_cases e : k = x
    · subst e; simp [mget] at h; simp [h]
    · simp [mget, e] at h; exact .tail _ (ih h)
theorem mem_mset {κ V : Type} [DecidableEq κ] {m : List (κ × V)} {x : κ} {v : V} {p : κ × V} (h : p ∈ mset m x v) : p = (x, v) ∨ p ∈ m := by
  induction m with
  | nil => simpa [mset] using h
  | cons q m ih =>
    obtain ⟨k, u⟩ := q
    by_cases e : k = x
    · subst e; simp [mset] at h; rcases h with h | h <;> simp [h]
    · simp [mset, e] at h
      rcases h with h | h
      · simp [h]
      · rcases ih h with h | h <;> simp [h]
theorem Tab.not_was {T : Tab} (hv : ∀ p ∈ T.ever, p.2 = 1) {x : Int} (h : T.was x = false) : mget T.ever x = none := by
  cases hg : mget T.ever x with
  | none => rfl
  | some n => 
    have := hv _ (mem_of_mget hg)
    simp only at this
    simp [Tab.was, hg, this] at h

set_option maxHeartbeats 1000000 in
theorem join_ok {b : Nat} {T : Tab} {w : World} {F : Fp} (hT : (pairT b T).on w F) (v c : Int) (hv : 1 ≤ v) (hc : 1 ≤ c) (hvc : v ≠ c) (wv : T.was v = false) (wc : T.was c = false) :
    Calls Try.prog 14 #[.pointer (some ⟨b, 0, none⟩), .int .i64 v, .int .i64 c] w (Ret (.int .i64 0) fun w' => ∃ F', (pairT b ⟨mset (mset T.ends v (c, true)) c (v, false), mset (mset T.ever v 1) c 1⟩).on w' F' ∧ Upd F F' w w') := by
  have hwv := was_c hT v
  have hwc := was_c hT c
  obtain ⟨m1, m2, o1, o2, ⟨hb, h1, h2, n1, n2, n3, ho1, ho2, hev⟩, hF⟩ := hT
  obtain ⟨hc, hf, hlt⟩ := blk_facts hb
  have gv := T.not_was hev wv
  have gc := T.not_was hev wc
  rw [wv] at hwv
  rw [wc] at hwc
  obtain ⟨o1a, o1b, u1, k1, he1, ho1b, hs1⟩ := run_entry_of keyI Try.underlying48 zEnd ho1 m1 v (c, true)
  obtain ⟨o1c, o1d, u2, k2, he2, ho1d, hs2⟩ := run_entry_of keyI Try.underlying48 zEnd ho1b m1 c (v, false)
  have hl := run_lookup_of keyI Try.underlying49 zInt ho2 m2 v
  obtain ⟨o2a, ho2a, hu⟩ := run_update_of keyI Try.underlying49 ho2 m2 v 1
  have hl' := run_lookup_of keyI Try.underlying49 zInt ho2a m2 c
  obtain ⟨o2b, ho2b, hu'⟩ := run_update_of keyI Try.underlying49 ho2a m2 c 1
  have l1 := lt_of_heap h1
  have l2 := lt_of_heap h2
  have n3' := n3.symm
  rw [gv] at hl
  rw [mget_mset, if_neg hvc, gc] at hl'
  have e1 : decide (v < 1) = false := by simp; omega
  have e2 : decide (c < 1) = false := by simp; omega
  have e3 : (v == c) = false := by simp [hvc]
  clear gv gc wv wc
  go_enter Try.func14, Try.ntmps14
  go_wp2_with fail
  refine hwv.mono ?_
  rintro e w1 ⟨rfl, rfl⟩
  go_wp2_with fail
  refine hwc.mono ?_
  rintro e w1 ⟨rfl, rfl⟩
  go_wp2_with fail
  go_region
  go_wp2_with fail
  go_ret
  have n1' := n1.symm
  have n2' := n2.symm
  refine ⟨rfl, _, ⟨m1, m2, o1d, o2b, ⟨?_, ?_, ?_, n1, n2, n3, ho1d, ho2b, ?_⟩, rfl⟩, ?_⟩
  · go_simp
  · go_simp
  · go_simp
  · intro p hp
    rcases mem_mset hp with rfl | hp
    · rfl
    · rcases mem_mset hp with rfl | hp
      · rfl
      · exact hev p hp
  · rw [hF]
    repeat (first | exact Upd.refl _ _ | apply Upd.drew | apply Upd.alloc | refine Upd.setBlock ?_ (.inl (by simp)) _)

set_option maxHeartbeats 1000000 in
theorem join_bad {b : Nat} {w : World} (v c : Int) (h : v < 1 ∨ c < 1 ∨ v = c) :
    Calls Try.prog 14 #[.pointer (some ⟨b, 0, none⟩), .int .i64 v, .int .i64 c] w (Ret (.int .i64 1) fun w' => w = w') := by
  by_cases h1 : v < 1
  · have e1 : decide (v < 1) = true := by simp [h1]
    go_enter Try.func14, Try.ntmps14
    go_wp2_with fail
    go_ret
    exact ⟨rfl, rfl⟩
  · have e1 : decide (v < 1) = false := by simp [h1]
    by_cases h2 : c < 1
    · have e2 : decide (c < 1) = true := by simp [h2]
      go_enter Try.func14, Try.ntmps14
      go_wp2_with fail
      go_ret
      exact ⟨rfl, rfl⟩
    · have e2 : decide (c < 1) = false := by simp [h2]
      have e3 : (v == c) = true := by simp; omega
      clear h
      go_enter Try.func14, Try.ntmps14
      go_wp2_with fail
      go_ret
      exact ⟨rfl, rfl⟩
set_option maxHeartbeats 1000000 in
theorem join_there {b : Nat} {T : Tab} {w : World} {F : Fp} (hT : (pairT b T).on w F) (v c : Int) (hv : 1 ≤ v) (hc : 1 ≤ c) (hvc : v ≠ c) (h : T.was v = true ∨ T.was c = true) :
    Calls Try.prog 14 #[.pointer (some ⟨b, 0, none⟩), .int .i64 v, .int .i64 c] w (Ret (.int .i64 4) fun w' => w = w') := by
  have e1 : decide (v < 1) = false := by simp; omega
  have e2 : decide (c < 1) = false := by simp; omega
  have e3 : (v == c) = false := by simp [hvc]
  have hwv := was_c hT v
  have hwc := was_c hT c
  by_cases h1 : T.was v = true
  · rw [h1] at hwv
    clear h h1 hwc hvc
    go_enter Try.func14, Try.ntmps14
    go_wp2_with fail
    refine hwv.mono ?_
    rintro e w1 ⟨rfl, rfl⟩
    go_wp2_with fail
    go_ret
    exact ⟨rfl, rfl⟩
  · have h2 : T.was c = true := h.resolve_left h1
    have h1' : T.was v = false := by simpa using h1
    rw [h1'] at hwv
    rw [h2] at hwc
    clear h h1 h2 h1' hvc
    go_enter Try.func14, Try.ntmps14
    go_wp2_with fail
    refine hwv.mono ?_
    rintro e w1 ⟨rfl, rfl⟩
    go_wp2_with fail
    refine hwc.mono ?_
    rintro e w1 ⟨rfl, rfl⟩
    go_wp2_with fail
    go_ret
    exact ⟨rfl, rfl⟩
theorem join_c {b : Nat} {T : Tab} {w : World} {F : Fp} (hT : (pairT b T).on w F) (v c : Int) :
    Calls Try.prog 14 #[.pointer (some ⟨b, 0, none⟩), .int .i64 v, .int .i64 c] w (Ret (.int .i64 (T.join v c).2) fun w' => ∃ F', (pairT b (T.join v c).1).on w' F' ∧ Upd F F' w w') := by
  by_cases h : v < 1 ∨ c < 1 ∨ v = c
  · rw [show T.join v c = (T, 1) from by simp [Tab.join, h]]
    exact (join_bad v c h).mono fun e w' ⟨he, hw⟩ => ⟨he, F, hw ▸ hT, hw ▸ Upd.refl F w⟩
  · by_cases h' : T.was v = true ∨ T.was c = true
    · rw [show T.join v c = (T, 4) from by simp only [Tab.join, if_neg h, if_pos h']]
      exact (join_there hT v c (by omega) (by omega) (by omega) h').mono fun e w' ⟨he, hw⟩ => ⟨he, F, hw ▸ hT, hw ▸ Upd.refl F w⟩
    · rw [show T.join v c = (⟨mset (mset T.ends v (c, true)) c (v, false), mset (mset T.ever v 1) c 1⟩, 0) from by simp only [Tab.join, if_neg h, if_neg h']]
      exact join_ok hT v c (by omega) (by omega) (by omega) (by simpa using fun q => h' (.inl q)) (by simpa using fun q => h' (.inr q))
end Go.Proofs.Ytnjdhijngioljaa
