/- The table of connections: what its methods do. -/
import Derived.Test.YtimkbpcdbbdjlaaConnD
namespace Go.Proofs.Ytimkbpcdbbdjlaa
open Go.RowKit Go.Sub Go.ChangeMaps
theorem mset_same {κ V : Type} [DecidableEq κ] : ∀ {M : List (κ × V)} {x : κ} {v : V}, mget M x = some v → mset M x v = M
  | [], _, _, h => by cases h
  | (k, u) :: M, x, v, h => by
    by_cases e : k = x
    · simp only [mget, if_pos e, Option.some.injEq] at h
      simp [mset, e, h]
    · simp only [mget, if_neg e] at h
      simp [mset, e, mset_same h]
/-- of a connection, or of none -/
def ofC {α : Type} (M : List (Int × Con)) (id : Int) (z : α) (f : Con → α) : α := match mget M id with | none => z | some c => f c
theorem ent_addr : Enters 48 := fun _ _ => by go_simp
set_option maxHeartbeats 400000 in
theorem addr_c {b : Nat} {last : Int} {M : List (Int × Con)} {w : World} {F : Fp} (hM : (tabT b last M).on w F) (id : Int) :
    Calls Try.prog 19 #[.pointer (some ⟨b, 0, none⟩), .int .i64 id] w (Ret (.int .u32 (ofC M id 0 Con.addr)) fun w' => ∃ n, w' = w.drewN n) := by
  obtain ⟨mb, h0, h1, hb, hmb, hf, ⟨hn, hl⟩ | ⟨cb, ri, ro, c, Fi, hs, hl, hC, _⟩⟩ := tab_open hM id
  · simp only [ofC, hn]
    have OF := Keep.mk (of_u32_none h0 hl (.func (.func 48) #[] #[]))
    clear h0 h1 hf hl
    go_enter Try.func19, Try.ntmps19
    go_wp2_with fail
    refine OF.out.mono ?_
    rintro e w1 ⟨rfl, rfl⟩
    go_wp2_with fail
    go_returns
    exact ⟨rfl, 0, rfl⟩
  · simp only [ofC, hs]
    have OF := Keep.mk (of_u32_some h0 hl ent_addr (caps := #[]) (show Calls _ _ #[_] _ _ from addr1_c hC))
    clear h0 h1 hf hl
    skip
    go_enter Try.func19, Try.ntmps19
    go_wp2_with fail
    refine OF.out.mono ?_
    rintro e w1 ⟨rfl, rfl⟩
    go_wp2_with fail
    go_returns
    exact ⟨rfl, 0, rfl⟩
theorem ent_has : Enters 52 := fun _ _ => by go_simp
set_option maxHeartbeats 400000 in
theorem has_c {b : Nat} {last : Int} {M : List (Int × Con)} {w : World} {F : Fp} (hM : (tabT b last M).on w F) (id : Int) :
    Calls Try.prog 23 #[.pointer (some ⟨b, 0, none⟩), .int .i64 id] w (Ret (.bool (ofC M id false fun _ => true)) fun w' => ∃ n, w' = w.drewN n) := by
  obtain ⟨mb, h0, h1, hb, hmb, hf, ⟨hn, hl⟩ | ⟨cb, ri, ro, c, Fi, hs, hl, hC, _⟩⟩ := tab_open hM id
  · simp only [ofC, hn]
    have OF := Keep.mk (of_bool_none h0 hl (.func (.func 52) #[] #[]))
    clear h0 h1 hf hl
    go_enter Try.func23, Try.ntmps23
    go_wp2_with fail
    refine OF.out.mono ?_
    rintro e w1 ⟨rfl, rfl⟩
    go_wp2_with fail
    go_returns
    exact ⟨rfl, 0, rfl⟩
  · simp only [ofC, hs]
    have OF := Keep.mk (of_bool_some h0 hl ent_has (caps := #[]) (show Calls _ _ #[_] _ _ from has1_c hC))
    clear h0 h1 hf hl
    skip
    go_enter Try.func23, Try.ntmps23
    go_wp2_with fail
    refine OF.out.mono ?_
    rintro e w1 ⟨rfl, rfl⟩
    go_wp2_with fail
    go_returns
    exact ⟨rfl, 0, rfl⟩
theorem ent_came : Enters 64 := fun _ _ => by go_simp
set_option maxHeartbeats 400000 in
theorem came_c {b : Nat} {last : Int} {M : List (Int × Con)} {w : World} {F : Fp} (hM : (tabT b last M).on w F) (id : Int) :
    Calls Try.prog 33 #[.pointer (some ⟨b, 0, none⟩), .int .i64 id] w (Ret (.int .i64 (ofC M id 0 fun c => ((c.inn.length : Nat) : Int))) fun w' => ∃ n, w' = w.drewN n) := by
  obtain ⟨mb, h0, h1, hb, hmb, hf, ⟨hn, hl⟩ | ⟨cb, ri, ro, c, Fi, hs, hl, hC, _⟩⟩ := tab_open hM id
  · simp only [ofC, hn]
    have OF := Keep.mk (of_int_none h0 hl (.func (.func 64) #[] #[]))
    clear h0 h1 hf hl
    go_enter Try.func33, Try.ntmps33
    go_wp2_with fail
    refine OF.out.mono ?_
    rintro e w1 ⟨rfl, rfl⟩
    go_wp2_with fail
    go_returns
    exact ⟨rfl, 0, rfl⟩
  · simp only [ofC, hs]
    have OF := Keep.mk (of_int_some h0 hl ent_came (caps := #[]) (show Calls _ _ #[_] _ _ from came1_c hC))
    clear h0 h1 hf hl
    skip
    go_enter Try.func33, Try.ntmps33
    go_wp2_with fail
    refine OF.out.mono ?_
    rintro e w1 ⟨rfl, rfl⟩
    go_wp2_with fail
    go_returns
    exact ⟨rfl, 0, rfl⟩
theorem ent_waits : Enters 59 := fun _ _ => by go_simp
set_option maxHeartbeats 400000 in
theorem waits_c {b : Nat} {last : Int} {M : List (Int × Con)} {w : World} {F : Fp} (hM : (tabT b last M).on w F) (id : Int) :
    Calls Try.prog 29 #[.pointer (some ⟨b, 0, none⟩), .int .i64 id] w (Ret (.int .i64 (ofC M id 0 fun c => ((c.out.length : Nat) : Int))) fun w' => ∃ n, w' = w.drewN n) := by
  obtain ⟨mb, h0, h1, hb, hmb, hf, ⟨hn, hl⟩ | ⟨cb, ri, ro, c, Fi, hs, hl, hC, _⟩⟩ := tab_open hM id
  · simp only [ofC, hn]
    have OF := Keep.mk (of_int_none h0 hl (.func (.func 59) #[] #[]))
    clear h0 h1 hf hl
    go_enter Try.func29, Try.ntmps29
    go_wp2_with fail
    refine OF.out.mono ?_
    rintro e w1 ⟨rfl, rfl⟩
    go_wp2_with fail
    go_returns
    exact ⟨rfl, 0, rfl⟩
  · simp only [ofC, hs]
    have OF := Keep.mk (of_int_some h0 hl ent_waits (caps := #[]) (show Calls _ _ #[_] _ _ from waits1_c hC))
    clear h0 h1 hf hl
    skip
    go_enter Try.func29, Try.ntmps29
    go_wp2_with fail
    refine OF.out.mono ?_
    rintro e w1 ⟨rfl, rfl⟩
    go_wp2_with fail
    go_returns
    exact ⟨rfl, 0, rfl⟩
theorem ent_room : Enters 53 := fun _ _ => by go_simp
set_option maxHeartbeats 400000 in
theorem roomT_c {b : Nat} {last : Int} {M : List (Int × Con)} {w : World} {F : Fp} (hM : (tabT b last M).on w F) (id : Int) :
    Calls Try.prog 25 #[.pointer (some ⟨b, 0, none⟩), .int .i64 id] w (Ret (.int .i64 (ofC M id 0 fun c => ((1024 - c.out.length : Nat) : Int))) fun w' => ∃ n, w' = w.drewN n) := by
  obtain ⟨mb, h0, h1, hb, hmb, hf, ⟨hn, hl⟩ | ⟨cb, ri, ro, c, Fi, hs, hl, hC, _⟩⟩ := tab_open hM id
  · simp only [ofC, hn]
    have OF := Keep.mk (of_int_none h0 hl (.func (.func 53) #[] #[]))
    clear h0 h1 hf hl
    go_enter Try.func25, Try.ntmps25
    go_wp2_with fail
    refine OF.out.mono ?_
    rintro e w1 ⟨rfl, rfl⟩
    go_wp2_with fail
    go_returns
    exact ⟨rfl, 0, rfl⟩
  · simp only [ofC, hs]
    have OF := Keep.mk (of_int_some h0 hl ent_room (caps := #[]) (show Calls _ _ #[_] _ _ from room1_c hC))
    clear h0 h1 hf hl
    generalize 1024 - c.out.length = z at *
    go_enter Try.func25, Try.ntmps25
    go_wp2_with fail
    refine OF.out.mono ?_
    rintro e w1 ⟨rfl, n, rfl⟩
    go_wp2_with fail
    go_returns
    exact ⟨rfl, n, rfl⟩
theorem ent_credit : Enters 61 := fun _ _ => by go_simp
set_option maxHeartbeats 400000 in
theorem credit_c {b : Nat} {last : Int} {M : List (Int × Con)} {w : World} {F : Fp} (hM : (tabT b last M).on w F) (id : Int) :
    Calls Try.prog 30 #[.pointer (some ⟨b, 0, none⟩), .int .i64 id] w (Ret (.int .i64 (ofC M id 0 Con.credit)) fun w' => ∃ n, w' = w.drewN n) := by
  obtain ⟨mb, h0, h1, hb, hmb, hf, ⟨hn, hl⟩ | ⟨cb, ri, ro, c, Fi, hs, hl, hC, _⟩⟩ := tab_open hM id
  · simp only [ofC, hn]
    have OF := Keep.mk (of_int_none h0 hl (.func (.func 61) #[] #[]))
    clear h0 h1 hf hl
    go_enter Try.func30, Try.ntmps30
    go_wp2_with fail
    refine OF.out.mono ?_
    rintro e w1 ⟨rfl, rfl⟩
    go_wp2_with fail
    go_returns
    exact ⟨rfl, 0, rfl⟩
  · simp only [ofC, hs]
    have OF := Keep.mk (of_int_some h0 hl ent_credit (caps := #[]) (show Calls _ _ #[_] _ _ from credit1_c hC))
    clear h0 h1 hf hl
    skip
    go_enter Try.func30, Try.ntmps30
    go_wp2_with fail
    refine OF.out.mono ?_
    rintro e w1 ⟨rfl, rfl⟩
    go_wp2_with fail
    go_returns
    exact ⟨rfl, 0, rfl⟩
theorem ent_ended : Enters 62 := fun _ _ => by go_simp
set_option maxHeartbeats 400000 in
theorem ended_c {b : Nat} {last : Int} {M : List (Int × Con)} {w : World} {F : Fp} (hM : (tabT b last M).on w F) (id : Int) :
    Calls Try.prog 31 #[.pointer (some ⟨b, 0, none⟩), .int .i64 id] w (Ret (.bool (ofC M id false Con.ended)) fun w' => ∃ n, w' = w.drewN n) := by
  obtain ⟨mb, h0, h1, hb, hmb, hf, ⟨hn, hl⟩ | ⟨cb, ri, ro, c, Fi, hs, hl, hC, _⟩⟩ := tab_open hM id
  · simp only [ofC, hn]
    have OF := Keep.mk (of_bool_none h0 hl (.func (.func 62) #[] #[]))
    clear h0 h1 hf hl
    go_enter Try.func31, Try.ntmps31
    go_wp2_with fail
    refine OF.out.mono ?_
    rintro e w1 ⟨rfl, rfl⟩
    go_wp2_with fail
    go_returns
    exact ⟨rfl, 0, rfl⟩
  · simp only [ofC, hs]
    have OF := Keep.mk (of_bool_some h0 hl ent_ended (caps := #[]) (show Calls _ _ #[_] _ _ from ended1_c hC))
    clear h0 h1 hf hl
    skip
    go_enter Try.func31, Try.ntmps31
    go_wp2_with fail
    refine OF.out.mono ?_
    rintro e w1 ⟨rfl, rfl⟩
    go_wp2_with fail
    go_returns
    exact ⟨rfl, 0, rfl⟩
theorem ent_half : Enters 63 := fun _ _ => by go_simp
/-- Half, on what the table has -/
def halfS (M : List (Int × Con)) (id : Int) : List (Int × Con) × Bool := match mget M id with | none => (M, false) | some c => (mset M id { c with ended := true }, !c.ended)
set_option maxHeartbeats 400000 in
theorem half_c {b : Nat} {last : Int} {M : List (Int × Con)} {w : World} {F : Fp} (hM : (tabT b last M).on w F) (id : Int) :
    Calls Try.prog 32 #[.pointer (some ⟨b, 0, none⟩), .int .i64 id] w (Ret (.bool (halfS M id).2) fun w' => ∃ F', (tabT b last (halfS M id).1).on w' F' ∧ Upd F F' w w') := by
  obtain ⟨mb, h0, h1, hb, hmb, hf, ⟨hn, hl⟩ | ⟨cb, ri, ro, c, Fi, hs, hl, hC, _, hgo⟩⟩ := tab_open hM id
  · simp only [halfS, hn]
    have OF := Keep.mk (of_bool_none h0 hl (.func (.func 63) #[] #[]))
    clear h0 h1 hf hl
    go_enter Try.func32, Try.ntmps32
    go_wp2_with fail
    refine OF.out.mono ?_
    rintro e w1 ⟨rfl, rfl⟩
    go_wp2_with fail
    go_returns
    exact ⟨rfl, F, hM, Upd.refl _ _⟩
  · simp only [halfS, hs]
    have OF := Keep.mk (of_bool_some h0 hl ent_half (caps := #[]) (show Calls _ _ #[_] _ _ from half1_c hC))
    clear h0 h1 hf hl
    go_enter Try.func32, Try.ntmps32
    go_wp2_with fail
    refine OF.out.mono ?_
    rintro e w1 ⟨rfl, F1, h1, u1⟩
    go_wp2_with fail
    go_returns
    obtain ⟨F', h', u'⟩ := hgo w1 F1 _ .emp (Asrt.emp_star h1) u1
    exact ⟨rfl, F', Asrt.of_emp_star h', u'⟩
end Go.Proofs.Ytimkbpcdbbdjlaa
