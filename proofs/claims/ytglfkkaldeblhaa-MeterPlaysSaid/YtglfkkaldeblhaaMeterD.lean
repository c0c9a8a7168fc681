/- The meter: Sum. -/
import Derived.Test.YtglfkkaldeblhaaMeterC
namespace Go.Proofs.Ytglfkkaldeblhaa
open Go.RowKit Go.Sub Go.ChangeMaps
def tot (f : Cnt → Int) : List Cnt → Int
  | [] => 0
  | c :: r => f c + tot f r
theorem tot_perm {f : Cnt → Int} {l l' : List Cnt} (h : l.Perm l') : tot f l = tot f l' := by
  induction h with
  | nil => rfl
  | cons x _ ih => simp only [tot, ih]
  | swap x y l => simp only [tot]; omega
  | trans _ _ a b => exact a.trans b
theorem tot_app {f : Cnt → Int} (l l' : List Cnt) : tot f (l ++ l') = tot f l + tot f l' := by
  induction l with
  | nil => simp [tot]
  | cons x l ih => simp only [List.cons_append, tot, ih]; omega
theorem tot_nonneg {f : Cnt → Int} {l : List Cnt} (h : ∀ c ∈ l, 0 ≤ f c) : 0 ≤ tot f l := by
  induction l with
  | nil => simp [tot]
  | cons x l ih =>
    have := h x (by simp)
    have := ih fun c hc => h c (by simp [hc])
    simp only [tot]; omega
abbrev upto (f : Cnt → Int) (l : List Cnt) : Int := min most (tot f l)
theorem upto_step {f : Cnt → Int} {l : List Cnt} {c : Cnt} (h : ∀ c ∈ l, 0 ≤ f c) (hc : 0 ≤ f c) : cap (upto f l) (f c) = upto f (l ++ [c]) := by
  have := tot_nonneg h
  simp only [upto, cap, tot_app, tot]
  omega
theorem upto_in {f : Cnt → Int} {l : List Cnt} (h : ∀ c ∈ l, 0 ≤ f c) : 0 ≤ upto f l ∧ upto f l ≤ most := by
  have := tot_nonneg h
  simp only [upto, most]; omega
def sumOf (M : List Cnt) : Cnt := ⟨ByteArray.empty, upto Cnt.d M, upto Cnt.u M, upto Cnt.p M⟩
theorem new_blk {l : List Asrt} {w : World} {F : Fp} (h : (Asrt.stars l).on w F) (o : Obj) : ∃ F', (Asrt.stars (.blk w.heap.size o :: l)).on (w.alloc o) F' ∧ Upd F F' w (w.alloc o) :=
  Asrt.stars_new h (A := .blk w.heap.size o) (Fn := fun k => k = w.heap.size) ⟨obj_alloc_at rfl, rfl⟩ (((Upd.refl none' w).alloc _).re fun k hk => .inr (by rw [hk]; exact Nat.le_refl _))
theorem size_alloc' (w : World) (o : Obj) : (w.alloc o).heap.size = w.heap.size + 1 := Array.size_push ..
set_option maxHeartbeats 2000000 in
theorem sum_c {b : Nat} {M : List Cnt} {w : World} {F : Fp} (hM : (meterT b M).on w F) (hok : ∀ c ∈ M, Ok c) (hl : M.length ≤ 1000000) :
    Calls Try.prog 20 #[.pointer (some ⟨b, 0, none⟩)] w (Ret (aggC (sumOf M)) fun w' => Quiet w w') := by
  obtain ⟨⟨mb, L⟩, hLM, hS⟩ := hM
  simp only at hLM hS
  obtain ⟨_, ⟨hb, _⟩, _⟩ := Asrt.stars_get hS 0 rfl
  obtain ⟨hc, hf, hlt⟩ := blk_facts hb
  obtain ⟨_, ⟨o, ho, hm, _⟩, _⟩ := Asrt.stars_get hS 1 rfl
  have hlm := lt_of_heap hm
  have hlm1 : mb < w.heap.size + 1 := by omega
  obtain ⟨it0, hI0, hrg⟩ := run_range_of (P := Try.prog) Try.underlying45 ho mb
  have hlen : L.length ≤ 1000000 := by rw [← hLM] at hl; simpa using hl
  clear hb
  go_enter Try.func20, Try.ntmps20
  go_wp2_with fail
  go_loopg [5] L.length (fun k _ wr => ∃ (it : Obj) (done rest : List (Nat × Cnt)) (F' : Fp), k = rest.length ∧ IterObj encS evP o mb it (rest.map cent) ∧ (done ++ rest).Perm L ∧
    (Asrt.stars [.blk (w.heap.size + 1 + 1) it, .blk (w.heap.size + 1) (.cells (sumOf (done.map (·.2))).cells 36 (0, 0)), .blk w.heap.size (.cells (Cnt.cells ⟨ByteArray.empty, 0, 0, 0⟩) 36 (0, 0))]).on wr F' ∧ Upd none' F' w wr)
  case atStart =>
    obtain ⟨F1, h1, u1⟩ := new_blk (l := []) (w := w) (F := none') rfl (.cells (Cnt.cells ⟨ByteArray.empty, 0, 0, 0⟩) 36 (0, 0))
    obtain ⟨F2, h2, u2⟩ := new_blk h1 (.cells (Cnt.cells ⟨ByteArray.empty, 0, 0, 0⟩) 36 (0, 0))
    obtain ⟨F3, h3, u3⟩ := new_blk h2 it0
    rw [size_alloc', size_alloc'] at h3
    exact ⟨it0, [], L, F3, rfl, hI0, List.Perm.refl _, h3, (u1.trans u2).trans u3⟩
  case round =>
    obtain ⟨it, done, rest, F', rfl, hI, hP, hSt, hU⟩ := hrel
    have hme : wr.obj mb = some o := (hU.same _ hlm id).trans hm
    obtain ⟨_, ⟨hr, _⟩, _⟩ := Asrt.stars_get hSt 0 rfl
    rcases run_next_of (P := Try.prog) hI wr hr hme 0 with ⟨h0, hn⟩ | ⟨l1, p, l2, n, it', hleft, hn, hI', he⟩
    · have hr0 : rest = [] := by simpa using h0
      subst hr0
      obtain ⟨_, ⟨hq1, _⟩, _⟩ := Asrt.stars_get hSt 1 rfl
      obtain ⟨_, ⟨hq2, _⟩, _⟩ := Asrt.stars_get hSt 2 rfl
      obtain ⟨hc1, hf1, hl1⟩ := blk_facts hq1
      obtain ⟨hc2, hf2, hl2⟩ := blk_facts hq2
      have hsum : sumOf (done.map (·.2)) = sumOf M := by
        have hpm : (done.map (·.2)).Perm M := by rw [← hLM]; simpa using hP.map (·.2)
        simp only [sumOf, upto, tot_perm hpm]
      rw [hsum] at hc1
      clear hP hq1 hq2 hr h0 hI hsum
      obtain ⟨S, hSd⟩ : ∃ S, S = sumOf M := ⟨_, rfl⟩
      have HS := Keep.mk hSd
      rw [← hSd] at hc1
      clear hSd
      go_wp2_with fail
      try simp only [Exit.inBlock, Exit.then]
      refine bodyPost_ret (by simp [results, Try.results20, go_sem, hc2]; try rfl) rfl ?_
      exact ⟨by rw [← HS.out], ((((hU.setCell (.inr (Nat.le_refl _)) _).setCell (.inr (Nat.le_refl _)) _).setCell (.inr (Nat.le_refl _)) _).setCell (.inr (Nat.le_refl _)) _).quiet⟩
    · obtain ⟨r1, r2', rfl, rfl, h2⟩ := List.map_eq_append_iff.1 hleft
      obtain ⟨x, r2, rfl, rfl, rfl⟩ := List.map_eq_cons_iff.1 h2
      clear h2 hleft
      have hxL : x ∈ L := hP.mem_iff.1 (by simp)
      obtain ⟨ix, hix⟩ := List.getElem?_of_mem hxL
      obtain ⟨_, ⟨hx, _⟩, _⟩ := Asrt.stars_get hS (ix + 2) (A := cblk x) (by simp [hix])
      obtain ⟨hxc, hxf, hxl⟩ := blk_facts hx
      have hokx := hok x.2 (by rw [← hLM]; exact List.mem_map_of_mem hxL)
      have hokd : ∀ c ∈ done.map (·.2), Ok c := fun c hc => hok c (by
        rw [← hLM]
        obtain ⟨y, hy, rfl⟩ := List.mem_map.1 hc
        exact List.mem_map_of_mem (hP.mem_iff.1 (by simp [hy])))
      obtain ⟨p, c⟩ := x
      -- the iterator has gone on
      obtain ⟨Fr, hrB, _, hgo1⟩ := Asrt.stars_upd _ 0 _ rfl hSt
      obtain ⟨F1, h1, u1⟩ := hgo1 ((setBlock wr (w.heap.size + 1 + 1) it').drewN n) Fr (.blk (w.heap.size + 1 + 1) it') ⟨obj_setBlock_at (lt_of_heap hr), hrB.2⟩ (((Upd.refl Fr wr).setBlock (.inl (by rw [hrB.2])) it').drewN n)
      have hU1 := hU.trans u1
      have k1 : ∀ i, ((setBlock wr (w.heap.size + 1 + 1) it').drewN n).cell? ⟨p, i, none⟩ = c.cells[i]? := fun i => by rw [hU1.cell hxl id]; exact hxc i
      obtain ⟨Fa, hA1, _, hgo2⟩ := Asrt.stars_upd _ 1 _ rfl h1
      have hI'' := Keep.mk hI'
      have HP := Keep.mk hP
      have AD1 := Keep.mk (fun a h1 h2 h3 h4 => add_c hA1 (j := 1) (a := a) (n := c.d) h1 h2 h3 h4)
      clear hP hI hI' hx hrB h1 hA1
      have n1 : p ≠ w.heap.size + 1 + 1 := by simp at hxl; omega
      have lr := lt_of_heap hr
      simp only [cent, Option.map_some, evP] at hn he
      have nr : mb ≠ w.heap.size + 1 + 1 := by omega
      have N := @upto_step
      have HD := Keep.mk (fun (f : Cnt → Int) (h : ∀ c, Ok c → 0 ≤ f c) => And.intro (upto_in (f := f) (l := done.map (·.2)) fun c hc => h c (hokd c hc)) (upto_step (f := f) (l := done.map (·.2)) (c := c) (fun c hc => h c (hokd c hc)) (h c hokx)))
      have OX := Keep.mk hokx
      clear N hokx hokd hok
      go_wp2_with fail
      refine (AD1.out _ rfl (HD.out Cnt.d fun _ h => h.d0).1.1 (HD.out Cnt.d fun _ h => h.d0).1.2 OX.out.d0).mono ?_
      rintro e w3 ⟨rfl, hA2, hu2⟩
      obtain ⟨F2, h2, u2⟩ := hgo2 _ _ _ hA2 hu2
      have hU2 := hU1.trans u2
      have k2 : ∀ i, w3.cell? ⟨p, i, none⟩ = c.cells[i]? := fun i => by rw [hU2.cell hxl id]; exact hxc i
      obtain ⟨Fb, hA3, _, hgo3⟩ := Asrt.stars_upd _ 1 _ rfl h2
      have AD2 := Keep.mk (fun a h1 h2 h3 h4 => add_c hA3 (j := 2) (a := a) (n := c.u) h1 h2 h3 h4)
      clear hA3 hA2 h2
      go_wp2_with fail
      refine (AD2.out _ rfl (HD.out Cnt.u fun _ h => h.u0).1.1 (HD.out Cnt.u fun _ h => h.u0).1.2 OX.out.u0).mono ?_
      rintro e w4 ⟨rfl, hA4, hu4⟩
      obtain ⟨F4, h4, u4⟩ := hgo3 _ _ _ hA4 hu4
      have hU4 := hU2.trans u4
      have k4 : ∀ i, w4.cell? ⟨p, i, none⟩ = c.cells[i]? := fun i => by rw [hU4.cell hxl id]; exact hxc i
      obtain ⟨Fc, hA5, _, hgo5⟩ := Asrt.stars_upd _ 1 _ rfl h4
      have AD3 := Keep.mk (fun a h1 h2 h3 h4 => add_c hA5 (j := 3) (a := a) (n := c.p) h1 h2 h3 h4)
      clear hA5 hA4 h4
      go_wp2_with fail
      refine (AD3.out _ rfl (HD.out Cnt.p fun _ h => h.p0).1.1 (HD.out Cnt.p fun _ h => h.p0).1.2 OX.out.p0).mono ?_
      rintro e w5 ⟨rfl, hA6, hu6⟩
      obtain ⟨F6, h6, u6⟩ := hgo5 _ _ _ hA6 hu6
      go_wp2_with fail
      go_roundg (r1 ++ r2).length
      case measure => simp
      case rel =>
        refine ⟨it', done ++ [(p, c)], r1 ++ r2, F6, rfl, by rw [List.map_append]; exact hI''.out, ?_, ?_, hU4.trans u6⟩
        · exact (by simpa using List.Perm.append_left done List.perm_middle.symm : (done ++ [(p, c)] ++ (r1 ++ r2)).Perm (done ++ (r1 ++ (p, c) :: r2))).trans HP.out
        · have e1 := (HD.out Cnt.d fun _ h => h.d0).2
          have e2 := (HD.out Cnt.u fun _ h => h.u0).2
          have e3 := (HD.out Cnt.p fun _ h => h.p0).2
          have es : (sumOf ((done ++ [(p, c)]).map (·.2))).cells = #[.string ByteArray.empty, .int .i64 (cap (upto Cnt.d (done.map (·.2))) c.d), .int .i64 (cap (upto Cnt.u (done.map (·.2))) c.u), .int .i64 (cap (upto Cnt.p (done.map (·.2))) c.p)] := by
            rw [List.map_append, e1, e2, e3]; rfl
          rw [es]
          exact h6
end Go.Proofs.Ytglfkkaldeblhaa
