/- The table of connections: New, Close, Next. -/
import Derived.Test.YtimkbpcdbbdjlaaConnF
import Derived.Test.YtimkbpcdbbdjlaaFrameA
namespace Go.Proofs.Ytimkbpcdbbdjlaa
open Go.RowKit Go.Sub Go.ChangeMaps
set_option maxHeartbeats 400000 in
theorem connnew_c (w : World) : Calls Try.prog 12 #[] w fun e w' => ∃ b, Ret (.pointer (some ⟨b, 0, none⟩)) (fun w' => ∃ F, (tabT b 0 []).on w' F ∧ Upd none' F w w') e w' := by
  have hmm := @run_makeMap Try.prog
  go_enter Try.func12, Try.ntmps12
  go_wp2_with fail
  go_ret
  obtain ⟨F, h, u⟩ := Asrt.stars_new (l := []) (A := .map encI evP w.heap.size []) (w := w) (w' := w.alloc (.map #[] 0)) (F := none') (Fn := fun k => k = w.heap.size) rfl ⟨_, mapObj_new, obj_alloc_at rfl, rfl⟩ (((Upd.refl none' w).alloc _).re fun k hk => .inr (by rw [hk]; exact Nat.le_refl _))
  obtain ⟨F', h', u'⟩ := new_blk h (.cells #[.map (some w.heap.size), .int .i64 0] 66 (0, 0))
  rw [show (w.alloc (.map #[] 0)).heap.size = w.heap.size + 1 from size_alloc' _ _] at h'
  refine ⟨_, rfl, F', ⟨(w.heap.size, []), rfl, h'⟩, u.trans u'⟩
/-- Next, on what the table has -/
def nextS (M : List (Int × Con)) (id : Int) : List (Int × Con) × List UInt8 × Bool × Int := match mget M id with
  | none => (M, [], false, 0)
  | some c => (mset M id { c with inn := c.inn.drop (firstS c.inn).2.1 }, (firstS c.inn).1, decide (0 < (firstS c.inn).2.1), (firstS c.inn).2.2)
theorem firstS_le (b : List UInt8) : (firstS b).2.1 ≤ b.length := by
  unfold firstS
  split
  · simp
  · split
    · simp
    · split
      · simp
      · split
        · simp
        · split
          · simp
          · simp; omega
/-- how 'Next' ends -/
def NextEnds (b : Nat) (last : Int) (M : List (Int × Con)) (id : Int) (F : Fp) (w : World) (e : Ending) (w' : World) : Prop :=
  ∃ v, Ret (.tuple #[v, .bool (nextS M id).2.2.1, .int .i64 (nextS M id).2.2.2]) (fun w' => ∃ F', (Asrt.star (bytesT v (nextS M id).2.1) (tabT b last (nextS M id).1)).on w' F' ∧ Upd F F' w w') e w'
set_option maxHeartbeats 2000000 in
set_option maxRecDepth 100000 in
theorem next_c {b : Nat} {last : Int} {M : List (Int × Con)} {w : World} {F : Fp} (hM : (tabT b last M).on w F) (hok : AllOk M) (id : Int) :
    Calls Try.prog 15 #[.pointer (some ⟨b, 0, none⟩), .int .i64 id] w (NextEnds b last M id F w) := by
  obtain ⟨mb, h0, h1, hb, hmb, hf, ⟨hn, hl⟩ | ⟨cb, ri, ro, c, Fi, hs, hl, hC, hsub0, hgo⟩⟩ := tab_open hM id
  · have hl := hl w rfl
    have FIN := Keep.mk (show nextS M id = (M, [], false, 0) from by simp [nextS, hn])
    clear hn h1
    go_enter Try.func15, Try.ntmps15
    go_wp2_with fail
    go_ret3
    refine ⟨.slice none 0 0, by rw [FIN.out]; rfl, F, ?_, Upd.refl _ _⟩
    rw [FIN.out]
    exact ⟨none', F, bytesT_nil _ _ _, hM, fun _ h _ => h, by funext k; simp [none']⟩
  · have hl := hl w rfl
    have hc : ConOk c := hok _ (mget_mem hs)
    have FIN := Keep.mk (show nextS M id = (mset M id { c with inn := c.inn.drop (firstS c.inn).2.1 }, (firstS c.inn).1, decide (0 < (firstS c.inn).2.1), (firstS c.inn).2.2) from by simp [nextS, hs])
    obtain ⟨c0, c1, c2, c3, c4, hcl, hcf⟩ := con_open hC
    obtain ⟨_, hr, _⟩ := Asrt.stars_get hC 1 rfl
    have LC := Keep.mk (look_c hr)
    have hli : c.inn.length ≤ 1000000 := by have := hc.li; omega
    have hle := firstS_le c.inn
    clear hs h1 hf
    go_enter Try.func15, Try.ntmps15
    go_wp2_with fail
    refine LC.out.mono ?_
    rintro e w1 ⟨v1, rfl, Fv1, hv1, u1⟩
    have FC := Keep.mk (frame_c hv1.1 hli)
    obtain ⟨av, cv, rfl, _⟩ := hv1.1.slice
    go_wp2_with fail
    refine FC.out.mono ?_
    rintro e w2 ⟨v2, rfl, Fv2, hv2, u2⟩
    have u12 : Upd none' none' w w2 := Upd.trans u1.quiet u2.quiet
    have hC2 := (conT cb ri ro c).frame hC u12 fun _ _ h => h
    obtain ⟨Fr, hr2, hsubr, hgor⟩ := Asrt.stars_upd _ 1 _ rfl hC2
    obtain ⟨_, d1, _, _, _, hcl2, _⟩ := con_open hC2
    have TC := Keep.mk (take_c hr2 ((firstS c.inn).2.1 : Nat) (n := (firstS c.inn).2.1) (by rw [Int.toNat_natCast]; omega))
    have hlen : w.heap.size ≤ w1.heap.size := u1.size
    have hv2' := hv2
    have hvF : ∀ k, Fv2 k → w1.heap.size ≤ k := fun k hk => (u2.fp k hk).resolve_left (fun h => h)
    generalize hn : (firstS c.inn).2.1 = n at *
    generalize (firstS c.inn).1 = x at *
    generalize (firstS c.inn).2.2 = er at *
    have HN := Keep.mk hn
    have hC0 := Keep.mk hC
    clear hn hC hr c1 c0 c2 c3 c4 hcf
    go_wp2_with fail
    refine TC.out.mono ?_
    rintro e w3 ⟨v3, rfl, F3, h3, u3⟩
    go_wp2_with fail
    go_ret3
    obtain ⟨F3', h3', hs3⟩ := Asrt.stars_drop h3
    have h3r := Asrt.of_emp_star (Asrt.star_comm h3')
    obtain ⟨F4, h4, u4⟩ := hgor w3 F3' _ h3r (u3.re fun k hk => u3.fp k (hs3 k hk))
    have hx3 := (bytesT v2 x).frame hv2 u4 fun k hk hF => by
      have := (conT cb ri ro c).lt hC0.out k hF
      have := hvF k hk
      omega
    have hdis : ∀ k, Fv2 k → F4 k → False := fun k hk h4 => by
      rcases u4.fp k h4 with h | h
      · have := (conT cb ri ro c).lt hC0.out k h
        have := hvF k hk
        omega
      · have := (bytesT v2 x).lt hv2 k hk
        omega
    have U : Upd Fi (fun k => Fv2 k ∨ F4 k) w w3 := ((u12.weaken (G := Fi) (F'' := Fi) (fun _ h => h.elim) fun _ h => .inl h).trans u4).re fun k hk => by
      rcases hk with hk | hk
      · exact .inr (Nat.le_trans hlen (hvF k hk))
      · rcases u4.fp k hk with h | h
        · exact .inl h
        · exact .inr (Nat.le_trans u12.size h)
    obtain ⟨F', h', u'⟩ := hgo w3 _ { c with inn := c.inn.drop n } (bytesT v2 x) ⟨Fv2, F4, hx3, h4, hdis, rfl⟩ U
    refine ⟨v2, ?_, F', ?_, u'⟩
    · rw [FIN.out]; rfl
    · rw [FIN.out]; exact h'
end Go.Proofs.Ytimkbpcdbbdjlaa
