/- What a call does to a table. -/
import Derived.Test.YtimkbpcdbbdjlaaConnM
namespace Go.Proofs.Ytimkbpcdbbdjlaa
open Go.RowKit Go.Sub Go.ChangeMaps
def u32 (n : Int) : Int := IntKind.u32.wrap n
/-- what a call leaves -/
def doesS (last : Int) (M : CT) (o : COp) : Int × CT :=
  if o.what = 0 then ((openS last M (u32 o.n)).1, (openS last M (u32 o.n)).2.1)
  else (last, if o.what = 1 then mdel M o.id else if o.what = 2 ∨ o.what = 3 then (feedS M o.id o.b).1 else if o.what = 4 then (nextS M o.id).1 else if o.what = 5 then (restS M o.id o.n).1
    else if o.what = 6 ∨ o.what = 7 then (sayS M o.id o.b).1 else if o.what = 8 then (budgetS M o.id o.n).1 else if o.what = 9 then (flushS M o.id).1 else (halfS M o.id).1)
/-- what the bytes of a call owe -/
structure Sees (w : World) (F : Fp) (o : COp) : Prop where
  rd : Bytes w o.v o.b
  apart : ∀ g, o.v.ownBlock = some g → o.b ≠ [] → ¬ F g
  len : o.b.length ≤ 1000000

set_option maxHeartbeats 1000000 in
set_option maxRecDepth 100000 in
theorem does_open {b : Nat} {last : Int} {M : CT} {w : World} {F : Fp} (hM : (tabT b last M).on w F) (hok : AllOk M) (hnone : mget M (last + 1) = none) (l0 : 0 ≤ last) (l1 : last ≤ 1000000000) {what id n : Int} {v : Value} {s : List UInt8} (hs : Sees w F ⟨what, id, n, v, s⟩) (hw : what = 0) :
    Calls Try.prog 24 #[.pointer (some ⟨b, 0, none⟩), .agg #[.int .i64 what, .int .i64 id, .int .i64 n, v]] w (Ret (.tuple #[]) fun w' => ∃ F', (tabT b (doesS last M ⟨what, id, n, v, s⟩).1 (doesS last M ⟨what, id, n, v, s⟩).2).on w' F' ∧ Upd F F' w w') := by
  obtain ⟨hv, hd, hlen⟩ := hs
  simp only at hv hd hlen
  obtain ⟨av, cv, rfl, hcv⟩ := hv.slice
  have hMa := Asrt.alloc hM (.cells #[.int .i64 what, .int .i64 id, .int .i64 n, .slice av s.length cv] 49)
  have ua := (Upd.refl F w).alloc (.cells #[.int .i64 what, .int .i64 id, .int .i64 n, .slice av s.length cv] 49)
  have hva := hv.upd ((Upd.refl none' w).alloc (.cells #[.int .i64 what, .int .i64 id, .int .i64 n, .slice av s.length cv] 49)) fun _ _ _ h => h
  have hda := hd
  subst hw
  rw [show doesS last M ⟨0, id, n, .slice av s.length cv, s⟩ = ((openS last M (u32 n)).1, (openS last M (u32 n)).2.1) from by simp [doesS]]
  have C := Keep.mk (open_c hMa hnone l0 l1 (u32 n))
  clear hM hMa hva hda hv hd hnone hok
  go_enter Try.func24, Try.ntmps24
  go_wp2_with fail
  refine C.out.mono ?_
  rintro e w1 ⟨rfl, F1, h1, u1⟩
  go_wp2_with fail
  go_returns
  exact ⟨rfl, F1, h1, ua.trans u1⟩
set_option maxHeartbeats 1000000 in
set_option maxRecDepth 100000 in
theorem does_close {b : Nat} {last : Int} {M : CT} {w : World} {F : Fp} (hM : (tabT b last M).on w F) (hok : AllOk M) (hnone : mget M (last + 1) = none) (l0 : 0 ≤ last) (l1 : last ≤ 1000000000) {what id n : Int} {v : Value} {s : List UInt8} (hs : Sees w F ⟨what, id, n, v, s⟩) (hw : what = 1) :
    Calls Try.prog 24 #[.pointer (some ⟨b, 0, none⟩), .agg #[.int .i64 what, .int .i64 id, .int .i64 n, v]] w (Ret (.tuple #[]) fun w' => ∃ F', (tabT b (doesS last M ⟨what, id, n, v, s⟩).1 (doesS last M ⟨what, id, n, v, s⟩).2).on w' F' ∧ Upd F F' w w') := by
  obtain ⟨hv, hd, hlen⟩ := hs
  simp only at hv hd hlen
  obtain ⟨av, cv, rfl, hcv⟩ := hv.slice
  have hMa := Asrt.alloc hM (.cells #[.int .i64 what, .int .i64 id, .int .i64 n, .slice av s.length cv] 49)
  have ua := (Upd.refl F w).alloc (.cells #[.int .i64 what, .int .i64 id, .int .i64 n, .slice av s.length cv] 49)
  have hva := hv.upd ((Upd.refl none' w).alloc (.cells #[.int .i64 what, .int .i64 id, .int .i64 n, .slice av s.length cv] 49)) fun _ _ _ h => h
  have hda := hd
  subst hw
  rw [show doesS last M ⟨1, id, n, .slice av s.length cv, s⟩ = (last, mdel M id) from by simp [doesS]]
  have C := Keep.mk (close_c hMa id)
  clear hM hMa hva hda hv hd hnone hok
  go_enter Try.func24, Try.ntmps24
  go_wp2_with fail
  refine C.out.mono ?_
  rintro e w1 ⟨rfl, F1, h1, u1⟩
  go_wp2_with fail
  go_returns
  exact ⟨rfl, F1, h1, ua.trans u1⟩
set_option maxHeartbeats 1000000 in
set_option maxRecDepth 100000 in
theorem does_feed2 {b : Nat} {last : Int} {M : CT} {w : World} {F : Fp} (hM : (tabT b last M).on w F) (hok : AllOk M) (hnone : mget M (last + 1) = none) (l0 : 0 ≤ last) (l1 : last ≤ 1000000000) {what id n : Int} {v : Value} {s : List UInt8} (hs : Sees w F ⟨what, id, n, v, s⟩) (hw : what = 2) :
    Calls Try.prog 24 #[.pointer (some ⟨b, 0, none⟩), .agg #[.int .i64 what, .int .i64 id, .int .i64 n, v]] w (Ret (.tuple #[]) fun w' => ∃ F', (tabT b (doesS last M ⟨what, id, n, v, s⟩).1 (doesS last M ⟨what, id, n, v, s⟩).2).on w' F' ∧ Upd F F' w w') := by
  obtain ⟨hv, hd, hlen⟩ := hs
  simp only at hv hd hlen
  obtain ⟨av, cv, rfl, hcv⟩ := hv.slice
  have hMa := Asrt.alloc hM (.cells #[.int .i64 what, .int .i64 id, .int .i64 n, .slice av s.length cv] 49)
  have ua := (Upd.refl F w).alloc (.cells #[.int .i64 what, .int .i64 id, .int .i64 n, .slice av s.length cv] 49)
  have hva := hv.upd ((Upd.refl none' w).alloc (.cells #[.int .i64 what, .int .i64 id, .int .i64 n, .slice av s.length cv] 49)) fun _ _ _ h => h
  have hda := hd
  subst hw
  rw [show doesS last M ⟨2, id, n, .slice av s.length cv, s⟩ = (last, (feedS M id s).1) from by simp [doesS]]
  have C := Keep.mk (feed_c hMa id hva hda hlen)
  clear hM hMa hva hda hv hd hnone hok
  go_enter Try.func24, Try.ntmps24
  go_wp2_with fail
  refine C.out.mono ?_
  rintro e w1 ⟨rfl, F1, h1, u1⟩
  go_wp2_with fail
  go_returns
  exact ⟨rfl, F1, h1, ua.trans u1⟩
set_option maxHeartbeats 1000000 in
set_option maxRecDepth 100000 in
theorem does_feed3 {b : Nat} {last : Int} {M : CT} {w : World} {F : Fp} (hM : (tabT b last M).on w F) (hok : AllOk M) (hnone : mget M (last + 1) = none) (l0 : 0 ≤ last) (l1 : last ≤ 1000000000) {what id n : Int} {v : Value} {s : List UInt8} (hs : Sees w F ⟨what, id, n, v, s⟩) (hw : what = 3) :
    Calls Try.prog 24 #[.pointer (some ⟨b, 0, none⟩), .agg #[.int .i64 what, .int .i64 id, .int .i64 n, v]] w (Ret (.tuple #[]) fun w' => ∃ F', (tabT b (doesS last M ⟨what, id, n, v, s⟩).1 (doesS last M ⟨what, id, n, v, s⟩).2).on w' F' ∧ Upd F F' w w') := by
  obtain ⟨hv, hd, hlen⟩ := hs
  simp only at hv hd hlen
  obtain ⟨av, cv, rfl, hcv⟩ := hv.slice
  have hMa := Asrt.alloc hM (.cells #[.int .i64 what, .int .i64 id, .int .i64 n, .slice av s.length cv] 49)
  have ua := (Upd.refl F w).alloc (.cells #[.int .i64 what, .int .i64 id, .int .i64 n, .slice av s.length cv] 49)
  have hva := hv.upd ((Upd.refl none' w).alloc (.cells #[.int .i64 what, .int .i64 id, .int .i64 n, .slice av s.length cv] 49)) fun _ _ _ h => h
  have hda := hd
  subst hw
  rw [show doesS last M ⟨3, id, n, .slice av s.length cv, s⟩ = (last, (feedS M id s).1) from by simp [doesS]]
  have C := Keep.mk (feed_c hMa id hva hda hlen)
  clear hM hMa hva hda hv hd hnone hok
  go_enter Try.func24, Try.ntmps24
  go_wp2_with fail
  refine C.out.mono ?_
  rintro e w1 ⟨rfl, F1, h1, u1⟩
  go_wp2_with fail
  go_returns
  exact ⟨rfl, F1, h1, ua.trans u1⟩
set_option maxHeartbeats 1000000 in
set_option maxRecDepth 100000 in
theorem does_next {b : Nat} {last : Int} {M : CT} {w : World} {F : Fp} (hM : (tabT b last M).on w F) (hok : AllOk M) (hnone : mget M (last + 1) = none) (l0 : 0 ≤ last) (l1 : last ≤ 1000000000) {what id n : Int} {v : Value} {s : List UInt8} (hs : Sees w F ⟨what, id, n, v, s⟩) (hw : what = 4) :
    Calls Try.prog 24 #[.pointer (some ⟨b, 0, none⟩), .agg #[.int .i64 what, .int .i64 id, .int .i64 n, v]] w (Ret (.tuple #[]) fun w' => ∃ F', (tabT b (doesS last M ⟨what, id, n, v, s⟩).1 (doesS last M ⟨what, id, n, v, s⟩).2).on w' F' ∧ Upd F F' w w') := by
  obtain ⟨hv, hd, hlen⟩ := hs
  simp only at hv hd hlen
  obtain ⟨av, cv, rfl, hcv⟩ := hv.slice
  have hMa := Asrt.alloc hM (.cells #[.int .i64 what, .int .i64 id, .int .i64 n, .slice av s.length cv] 49)
  have ua := (Upd.refl F w).alloc (.cells #[.int .i64 what, .int .i64 id, .int .i64 n, .slice av s.length cv] 49)
  have hva := hv.upd ((Upd.refl none' w).alloc (.cells #[.int .i64 what, .int .i64 id, .int .i64 n, .slice av s.length cv] 49)) fun _ _ _ h => h
  have hda := hd
  subst hw
  rw [show doesS last M ⟨4, id, n, .slice av s.length cv, s⟩ = (last, (nextS M id).1) from by simp [doesS]]
  have C := Keep.mk (next_c hMa hok id)
  clear hM hMa hva hda hv hd hnone hok
  go_enter Try.func24, Try.ntmps24
  go_wp2_with fail
  refine C.out.mono ?_
  rintro e w1 ⟨v1, rfl, F1, h1, u1⟩
  go_wp2_with fail
  go_returns
  obtain ⟨F2, h2, s2⟩ := star_weak h1
  exact ⟨rfl, F2, h2, ua.trans (u1.re fun k hk => u1.fp k (s2 k hk))⟩
set_option maxHeartbeats 1000000 in
set_option maxRecDepth 100000 in
theorem does_rest {b : Nat} {last : Int} {M : CT} {w : World} {F : Fp} (hM : (tabT b last M).on w F) (hok : AllOk M) (hnone : mget M (last + 1) = none) (l0 : 0 ≤ last) (l1 : last ≤ 1000000000) {what id n : Int} {v : Value} {s : List UInt8} (hs : Sees w F ⟨what, id, n, v, s⟩) (hw : what = 5) :
    Calls Try.prog 24 #[.pointer (some ⟨b, 0, none⟩), .agg #[.int .i64 what, .int .i64 id, .int .i64 n, v]] w (Ret (.tuple #[]) fun w' => ∃ F', (tabT b (doesS last M ⟨what, id, n, v, s⟩).1 (doesS last M ⟨what, id, n, v, s⟩).2).on w' F' ∧ Upd F F' w w') := by
  obtain ⟨hv, hd, hlen⟩ := hs
  simp only at hv hd hlen
  obtain ⟨av, cv, rfl, hcv⟩ := hv.slice
  have hMa := Asrt.alloc hM (.cells #[.int .i64 what, .int .i64 id, .int .i64 n, .slice av s.length cv] 49)
  have ua := (Upd.refl F w).alloc (.cells #[.int .i64 what, .int .i64 id, .int .i64 n, .slice av s.length cv] 49)
  have hva := hv.upd ((Upd.refl none' w).alloc (.cells #[.int .i64 what, .int .i64 id, .int .i64 n, .slice av s.length cv] 49)) fun _ _ _ h => h
  have hda := hd
  subst hw
  rw [show doesS last M ⟨5, id, n, .slice av s.length cv, s⟩ = (last, (restS M id n).1) from by simp [doesS]]
  have C := Keep.mk (rest_c hMa id n)
  clear hM hMa hva hda hv hd hnone hok
  go_enter Try.func24, Try.ntmps24
  go_wp2_with fail
  refine C.out.mono ?_
  rintro e w1 ⟨v1, rfl, F1, h1, u1⟩
  go_wp2_with fail
  go_returns
  obtain ⟨F2, h2, s2⟩ := star_weak h1
  exact ⟨rfl, F2, h2, ua.trans (u1.re fun k hk => u1.fp k (s2 k hk))⟩
set_option maxHeartbeats 1000000 in
set_option maxRecDepth 100000 in
theorem does_say6 {b : Nat} {last : Int} {M : CT} {w : World} {F : Fp} (hM : (tabT b last M).on w F) (hok : AllOk M) (hnone : mget M (last + 1) = none) (l0 : 0 ≤ last) (l1 : last ≤ 1000000000) {what id n : Int} {v : Value} {s : List UInt8} (hs : Sees w F ⟨what, id, n, v, s⟩) (hw : what = 6) :
    Calls Try.prog 24 #[.pointer (some ⟨b, 0, none⟩), .agg #[.int .i64 what, .int .i64 id, .int .i64 n, v]] w (Ret (.tuple #[]) fun w' => ∃ F', (tabT b (doesS last M ⟨what, id, n, v, s⟩).1 (doesS last M ⟨what, id, n, v, s⟩).2).on w' F' ∧ Upd F F' w w') := by
  obtain ⟨hv, hd, hlen⟩ := hs
  simp only at hv hd hlen
  obtain ⟨av, cv, rfl, hcv⟩ := hv.slice
  have hMa := Asrt.alloc hM (.cells #[.int .i64 what, .int .i64 id, .int .i64 n, .slice av s.length cv] 49)
  have ua := (Upd.refl F w).alloc (.cells #[.int .i64 what, .int .i64 id, .int .i64 n, .slice av s.length cv] 49)
  have hva := hv.upd ((Upd.refl none' w).alloc (.cells #[.int .i64 what, .int .i64 id, .int .i64 n, .slice av s.length cv] 49)) fun _ _ _ h => h
  have hda := hd
  subst hw
  rw [show doesS last M ⟨6, id, n, .slice av s.length cv, s⟩ = (last, (sayS M id s).1) from by simp [doesS]]
  have C := Keep.mk (say_c hMa id hva hda hlen)
  clear hM hMa hva hda hv hd hnone hok
  go_enter Try.func24, Try.ntmps24
  go_wp2_with fail
  refine C.out.mono ?_
  rintro e w1 ⟨rfl, F1, h1, u1⟩
  go_wp2_with fail
  go_returns
  exact ⟨rfl, F1, h1, ua.trans u1⟩
set_option maxHeartbeats 1000000 in
set_option maxRecDepth 100000 in
theorem does_say7 {b : Nat} {last : Int} {M : CT} {w : World} {F : Fp} (hM : (tabT b last M).on w F) (hok : AllOk M) (hnone : mget M (last + 1) = none) (l0 : 0 ≤ last) (l1 : last ≤ 1000000000) {what id n : Int} {v : Value} {s : List UInt8} (hs : Sees w F ⟨what, id, n, v, s⟩) (hw : what = 7) :
    Calls Try.prog 24 #[.pointer (some ⟨b, 0, none⟩), .agg #[.int .i64 what, .int .i64 id, .int .i64 n, v]] w (Ret (.tuple #[]) fun w' => ∃ F', (tabT b (doesS last M ⟨what, id, n, v, s⟩).1 (doesS last M ⟨what, id, n, v, s⟩).2).on w' F' ∧ Upd F F' w w') := by
  obtain ⟨hv, hd, hlen⟩ := hs
  simp only at hv hd hlen
  obtain ⟨av, cv, rfl, hcv⟩ := hv.slice
  have hMa := Asrt.alloc hM (.cells #[.int .i64 what, .int .i64 id, .int .i64 n, .slice av s.length cv] 49)
  have ua := (Upd.refl F w).alloc (.cells #[.int .i64 what, .int .i64 id, .int .i64 n, .slice av s.length cv] 49)
  have hva := hv.upd ((Upd.refl none' w).alloc (.cells #[.int .i64 what, .int .i64 id, .int .i64 n, .slice av s.length cv] 49)) fun _ _ _ h => h
  have hda := hd
  subst hw
  rw [show doesS last M ⟨7, id, n, .slice av s.length cv, s⟩ = (last, (sayS M id s).1) from by simp [doesS]]
  have C := Keep.mk (say_c hMa id hva hda hlen)
  clear hM hMa hva hda hv hd hnone hok
  go_enter Try.func24, Try.ntmps24
  go_wp2_with fail
  refine C.out.mono ?_
  rintro e w1 ⟨rfl, F1, h1, u1⟩
  go_wp2_with fail
  go_returns
  exact ⟨rfl, F1, h1, ua.trans u1⟩
set_option maxHeartbeats 1000000 in
set_option maxRecDepth 100000 in
theorem does_budget {b : Nat} {last : Int} {M : CT} {w : World} {F : Fp} (hM : (tabT b last M).on w F) (hok : AllOk M) (hnone : mget M (last + 1) = none) (l0 : 0 ≤ last) (l1 : last ≤ 1000000000) {what id n : Int} {v : Value} {s : List UInt8} (hs : Sees w F ⟨what, id, n, v, s⟩) (hw : what = 8) :
    Calls Try.prog 24 #[.pointer (some ⟨b, 0, none⟩), .agg #[.int .i64 what, .int .i64 id, .int .i64 n, v]] w (Ret (.tuple #[]) fun w' => ∃ F', (tabT b (doesS last M ⟨what, id, n, v, s⟩).1 (doesS last M ⟨what, id, n, v, s⟩).2).on w' F' ∧ Upd F F' w w') := by
  obtain ⟨hv, hd, hlen⟩ := hs
  simp only at hv hd hlen
  obtain ⟨av, cv, rfl, hcv⟩ := hv.slice
  have hMa := Asrt.alloc hM (.cells #[.int .i64 what, .int .i64 id, .int .i64 n, .slice av s.length cv] 49)
  have ua := (Upd.refl F w).alloc (.cells #[.int .i64 what, .int .i64 id, .int .i64 n, .slice av s.length cv] 49)
  have hva := hv.upd ((Upd.refl none' w).alloc (.cells #[.int .i64 what, .int .i64 id, .int .i64 n, .slice av s.length cv] 49)) fun _ _ _ h => h
  have hda := hd
  subst hw
  rw [show doesS last M ⟨8, id, n, .slice av s.length cv, s⟩ = (last, (budgetS M id n).1) from by simp [doesS]]
  have C := Keep.mk (budget_c hMa hok id n)
  clear hM hMa hva hda hv hd hnone hok
  go_enter Try.func24, Try.ntmps24
  go_wp2_with fail
  refine C.out.mono ?_
  rintro e w1 ⟨rfl, F1, h1, u1⟩
  go_wp2_with fail
  go_returns
  exact ⟨rfl, F1, h1, ua.trans u1⟩
set_option maxHeartbeats 1000000 in
set_option maxRecDepth 100000 in
theorem does_flush {b : Nat} {last : Int} {M : CT} {w : World} {F : Fp} (hM : (tabT b last M).on w F) (hok : AllOk M) (hnone : mget M (last + 1) = none) (l0 : 0 ≤ last) (l1 : last ≤ 1000000000) {what id n : Int} {v : Value} {s : List UInt8} (hs : Sees w F ⟨what, id, n, v, s⟩) (hw : what = 9) :
    Calls Try.prog 24 #[.pointer (some ⟨b, 0, none⟩), .agg #[.int .i64 what, .int .i64 id, .int .i64 n, v]] w (Ret (.tuple #[]) fun w' => ∃ F', (tabT b (doesS last M ⟨what, id, n, v, s⟩).1 (doesS last M ⟨what, id, n, v, s⟩).2).on w' F' ∧ Upd F F' w w') := by
  obtain ⟨hv, hd, hlen⟩ := hs
  simp only at hv hd hlen
  obtain ⟨av, cv, rfl, hcv⟩ := hv.slice
  have hMa := Asrt.alloc hM (.cells #[.int .i64 what, .int .i64 id, .int .i64 n, .slice av s.length cv] 49)
  have ua := (Upd.refl F w).alloc (.cells #[.int .i64 what, .int .i64 id, .int .i64 n, .slice av s.length cv] 49)
  have hva := hv.upd ((Upd.refl none' w).alloc (.cells #[.int .i64 what, .int .i64 id, .int .i64 n, .slice av s.length cv] 49)) fun _ _ _ h => h
  have hda := hd
  subst hw
  rw [show doesS last M ⟨9, id, n, .slice av s.length cv, s⟩ = (last, (flushS M id).1) from by simp [doesS]]
  have C := Keep.mk (flush_c hMa hok id)
  clear hM hMa hva hda hv hd hnone hok
  go_enter Try.func24, Try.ntmps24
  go_wp2_with fail
  refine C.out.mono ?_
  rintro e w1 ⟨v1, rfl, F1, h1, u1⟩
  go_wp2_with fail
  go_returns
  obtain ⟨F2, h2, s2⟩ := star_weak h1
  exact ⟨rfl, F2, h2, ua.trans (u1.re fun k hk => u1.fp k (s2 k hk))⟩
set_option maxHeartbeats 1000000 in
set_option maxRecDepth 100000 in
theorem does_half {b : Nat} {last : Int} {M : CT} {w : World} {F : Fp} (hM : (tabT b last M).on w F) (hok : AllOk M) (hnone : mget M (last + 1) = none) (l0 : 0 ≤ last) (l1 : last ≤ 1000000000) {what id n : Int} {v : Value} {s : List UInt8} (hs : Sees w F ⟨what, id, n, v, s⟩) (hw : what ≠ 0 ∧ what ≠ 1 ∧ what ≠ 2 ∧ what ≠ 3 ∧ what ≠ 4 ∧ what ≠ 5 ∧ what ≠ 6 ∧ what ≠ 7 ∧ what ≠ 8 ∧ what ≠ 9) :
    Calls Try.prog 24 #[.pointer (some ⟨b, 0, none⟩), .agg #[.int .i64 what, .int .i64 id, .int .i64 n, v]] w (Ret (.tuple #[]) fun w' => ∃ F', (tabT b (doesS last M ⟨what, id, n, v, s⟩).1 (doesS last M ⟨what, id, n, v, s⟩).2).on w' F' ∧ Upd F F' w w') := by
  obtain ⟨hv, hd, hlen⟩ := hs
  simp only at hv hd hlen
  obtain ⟨av, cv, rfl, hcv⟩ := hv.slice
  have hMa := Asrt.alloc hM (.cells #[.int .i64 what, .int .i64 id, .int .i64 n, .slice av s.length cv] 49)
  have ua := (Upd.refl F w).alloc (.cells #[.int .i64 what, .int .i64 id, .int .i64 n, .slice av s.length cv] 49)
  have hva := hv.upd ((Upd.refl none' w).alloc (.cells #[.int .i64 what, .int .i64 id, .int .i64 n, .slice av s.length cv] 49)) fun _ _ _ h => h
  have hda := hd
  obtain ⟨n0, n1, n2, n3, n4, n5, n6, n7, n8, n9⟩ := hw
  rw [show doesS last M ⟨what, id, n, .slice av s.length cv, s⟩ = (last, (halfS M id).1) from by simp [doesS, n0, n1, n2, n3, n4, n5, n6, n7, n8, n9]]
  have e0 : (what == 0) = false := by simp [n0]
  have e1 : (what == 1) = false := by simp [n1]
  have e2 : (what == 2) = false := by simp [n2]
  have e3 : (what == 3) = false := by simp [n3]
  have e4 : (what == 4) = false := by simp [n4]
  have e5 : (what == 5) = false := by simp [n5]
  have e6 : (what == 6) = false := by simp [n6]
  have e7 : (what == 7) = false := by simp [n7]
  have e8 : (what == 8) = false := by simp [n8]
  have e9 : (what == 9) = false := by simp [n9]
  clear n0 n1 n2 n3 n4 n5 n6 n7 n8 n9
  have C := Keep.mk (half_c hMa id)
  clear hM hMa hva hda hv hd hnone hok
  go_enter Try.func24, Try.ntmps24
  go_wp2_with fail
  refine C.out.mono ?_
  rintro e w1 ⟨rfl, F1, h1, u1⟩
  go_wp2_with fail
  go_returns
  exact ⟨rfl, F1, h1, ua.trans u1⟩
theorem does_c {b : Nat} {last : Int} {M : CT} {w : World} {F : Fp} (hM : (tabT b last M).on w F) (hok : AllOk M) (hnone : mget M (last + 1) = none) (l0 : 0 ≤ last) (l1 : last ≤ 1000000000) {o : COp} (hs : Sees w F o) :
    Calls Try.prog 24 #[.pointer (some ⟨b, 0, none⟩), .agg #[.int .i64 o.what, .int .i64 o.id, .int .i64 o.n, o.v]] w (Ret (.tuple #[]) fun w' => ∃ F', (tabT b (doesS last M o).1 (doesS last M o).2).on w' F' ∧ Upd F F' w w') := by
  obtain ⟨what, id, n, v, s⟩ := o
  by_cases h0 : what = 0
  · exact does_open hM hok hnone l0 l1 hs h0
  by_cases h1 : what = 1
  · exact does_close hM hok hnone l0 l1 hs h1
  by_cases h2 : what = 2
  · exact does_feed2 hM hok hnone l0 l1 hs h2
  by_cases h3 : what = 3
  · exact does_feed3 hM hok hnone l0 l1 hs h3
  by_cases h4 : what = 4
  · exact does_next hM hok hnone l0 l1 hs h4
  by_cases h5 : what = 5
  · exact does_rest hM hok hnone l0 l1 hs h5
  by_cases h6 : what = 6
  · exact does_say6 hM hok hnone l0 l1 hs h6
  by_cases h7 : what = 7
  · exact does_say7 hM hok hnone l0 l1 hs h7
  by_cases h8 : what = 8
  · exact does_budget hM hok hnone l0 l1 hs h8
  by_cases h9 : what = 9
  · exact does_flush hM hok hnone l0 l1 hs h9
  exact does_half hM hok hnone l0 l1 hs ⟨h0, h1, h2, h3, h4, h5, h6, h7, h8, h9⟩
end Go.Proofs.Ytimkbpcdbbdjlaa
