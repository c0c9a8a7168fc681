/- ConnNever: its walk. -/
import Derived.Test.YtimkbpcdbbdjlaaConnP
import Derived.Test.YtimkbpcdbbdjlaaSubL
namespace Go.Proofs.Ytimkbpcdbbdjlaa
open Go.RowKit Go.Sub Go.ChangeMaps
theorem feed_keys (M : CT) (id : Int) (b : List UInt8) : (feedS M id b).1.map (·.1) = M.map (·.1) := by
  unfold feedS; split
  · rfl
  · rename_i c hc; split
    · rfl
    · exact mset_keys hc _
theorem next_keys (M : CT) (id : Int) : (nextS M id).1.map (·.1) = M.map (·.1) := by
  unfold nextS; split
  · rfl
  · rename_i c hc; exact mset_keys hc _
theorem rest_keys (M : CT) (id n : Int) : (restS M id n).1.map (·.1) = M.map (·.1) := by
  unfold restS; split
  · rfl
  · rename_i c hc; exact mset_keys hc _
theorem say_keys (M : CT) (id : Int) (b : List UInt8) : (sayS M id b).1.map (·.1) = M.map (·.1) := by
  unfold sayS; split
  · rfl
  · rename_i c hc; split
    · exact mset_keys hc _
    · rfl
theorem budget_keys (M : CT) (id n : Int) : (budgetS M id n).1.map (·.1) = M.map (·.1) := by
  unfold budgetS; split
  · rfl
  · rename_i c hc; split
    · rfl
    · exact mset_keys hc _
theorem flush_keys (M : CT) (id : Int) : (flushS M id).1.map (·.1) = M.map (·.1) := by
  unfold flushS; split
  · rfl
  · rename_i c hc; exact mset_keys hc _
theorem half_keys (M : CT) (id : Int) : (halfS M id).1.map (·.1) = M.map (·.1) := by
  unfold halfS; split
  · rfl
  · rename_i c hc; exact mset_keys hc _
theorem does_keys {last : Int} {M : CT} {o : COp} (h0 : o.what ≠ 0) (h1 : o.what ≠ 1) : (doesS last M o).1 = last ∧ (doesS last M o).2.map (·.1) = M.map (·.1) := by
  unfold doesS
  rw [if_neg h0]
  refine ⟨rfl, ?_⟩
  simp only [if_neg h1]
  repeat' split
  · exact feed_keys _ _ _
  · exact next_keys _ _
  · exact rest_keys _ _ _
  · exact say_keys _ _ _
  · exact budget_keys _ _ _
  · exact flush_keys _ _
  · exact half_keys _ _
/-- what ConnNever keeps -/
structure Nev (last : Int) (M : CT) (G : List Int) : Prop where
  inv : TInv last M
  cnt : (M.length : Int) = last - G.length
  gone : ∀ g ∈ G, mget M g = none ∧ g ≤ last
theorem nev_nil : Nev 0 [] [] := ⟨tinv_nil, by simp, by simp⟩
theorem mget_keys {M M' : CT} (h : M'.map (·.1) = M.map (·.1)) {x : Int} (hx : mget M x = none) : mget M' x = none := by
  rw [mget_none] at *; rw [h]; exact hx
theorem Nev.does {last : Int} {M : CT} {G : List Int} (h : Nev last M G) {o : COp} (h0 : o.what ≠ 0) (h1 : o.what ≠ 1) : Nev last (doesS last M o).2 G := by
  obtain ⟨e, hk⟩ := does_keys (last := last) (M := M) h0 h1
  have hI := h.inv.does o
  rw [e] at hI
  exact ⟨hI, by have := congrArg List.length hk; simp only [List.length_map] at this; rw [this]; exact h.cnt, fun g hg => ⟨mget_keys hk (h.gone g hg).1, (h.gone g hg).2⟩⟩
theorem mget_append_none {M : CT} {x g : Int} {c : Con} (h : mget M g = none) (hx : x ≠ g) : mget (M ++ [(x, c)]) g = none := by
  rw [mget_none] at *
  simp only [List.map_append, List.map_cons, List.map_nil, List.mem_append, List.mem_singleton, not_or]
  exact ⟨h, fun e => hx e.symm⟩
theorem Nev.opens {last : Int} {M : CT} {G : List Int} (h : Nev last M G) {addr : Int} (hf : M.length ≠ 64) : openS last M addr = (last + 1, M ++ [(last + 1, ⟨addr, [], [], 0, false⟩)], last + 1, 0) ∧ Nev (last + 1) (M ++ [(last + 1, ⟨addr, [], [], 0, false⟩)]) G := by
  have e : openS last M addr = (last + 1, M ++ [(last + 1, ⟨addr, [], [], 0, false⟩)], last + 1, 0) := by simp [openS, hf]
  have hI := h.inv.opens addr
  rw [e] at hI
  refine ⟨e, hI, by have := h.cnt; simp; omega, fun g hg => ⟨mget_append_none (h.gone g hg).1 ?_, ?_⟩⟩
  · have := (h.gone g hg).2; omega
  · have := (h.gone g hg).2; omega
theorem Nev.close {last : Int} {M : CT} {G : List Int} (h : Nev last M G) {id : Int} {c : Con} (hc : mget M id = some c) : Nev last (mdel M id) (G ++ [id]) := by
  refine ⟨h.inv.del id, ?_, fun g hg => ?_⟩
  · have := h.cnt; have := mdel_len hc; simp; omega
  · rcases List.mem_append.1 hg with hg | hg
    · refine ⟨?_, (h.gone g hg).2⟩
      rw [mget_mdel h.inv.nd]; split
      · rfl
      · exact (h.gone g hg).1
    · simp at hg; subst hg
      refine ⟨by rw [mget_mdel h.inv.nd]; simp, ?_⟩
      have := h.inv.rng _ (mget_mem hc)
      exact this.2
theorem infoI : (Try.prog.info? 3).map (fun i => (i.zero, i.size, i.bytes)) = some (some (.int .i64 0), 1, 8) := by kernel_rfl
namespace connNever
/-- the state of ConnNever's loop -/
structure St (W : World) (b : Nat) (last : Int) (M : CT) (vg : Value) (G : List Int) (k : Nat) (w : World) (F : Fp) : Prop where
  mem : (Asrt.stars [tabT b last M, row 3 1 encIL vg G]).on w F
  upd : Upd none' F W w
  nev : Nev last M G
  l : last ≤ k
  g : G.length ≤ k
theorem keysOf_len (M : CT) : (keysOf (M.map (·.1))).length = M.length := by unfold keysOf; rw [List.length_mergeSort, List.length_map]
set_option maxHeartbeats 16000000 in
set_option maxRecDepth 100000 in
theorem walk {W : World} (v : Value) (L : List COp) (hL : ReadsO W v L) (hmax : L.length ≤ maxLen) :
    Calls Try.prog 5 #[v] W (Ret (.bool true) fun W' => Quiet W W') := by
  obtain ⟨i3, hi, hz0, hz1, hz2⟩ := info_parts infoI
  go_enter Try.func5, Try.ntmps5
  go_wp2_with fail
  refine (head_c _).mono ?_
  rintro e w1 ⟨rfl, u1⟩
  go_wp2_with fail
  refine (connnew_c _).mono ?_
  rintro e w2 ⟨b, rfl, F2, t2, u2⟩
  have U2 := Upd.trans u1 u2
  have hL2 : ReadsO w2 v L := ⟨hL.1.upd U2 fun _ _ h => h, fun o ho => (hL.2 o ho).upd U2 fun _ _ _ h => h⟩
  go_wp2_with fail
  refine (great_c hL2 hmax).mono ?_
  rintro e w3 ⟨r, rfl, rfl, hr⟩
  cases r with
  | true =>
    clear hr
    go_wp2_with fail
    go_ret
    exact ⟨rfl, U2.quiet⟩
  | false =>
    obtain ⟨hn, hb⟩ := hr rfl
    clear hr
    have hlen : L.length ≤ 400 := hn
    clear hL2 hn
    obtain ⟨⟨a, cap, rfl, ha⟩, hOb⟩ := hL
    have HB := Keep.mk hb
    have HO := Keep.mk hOb
    have HA := Keep.mk ha
    have hI := Keep.mk (And.intro hi (And.intro hz0 (And.intro hz1 hz2)))
    clear hi hz0 hz1 hz2
    obtain ⟨F3, S3, u3⟩ : ∃ F', (Asrt.stars [tabT b 0 [], row 3 1 encIL (.slice none 0 0) []]).on w2 F' ∧ Upd none' F' W w2 := by
      refine ⟨F2, Asrt.stars_perm (List.Perm.swap ..) (Asrt.stars_emp (row_nil w2 3 1 encIL) (Asrt.stars_one t2)), U2⟩
    clear hb hOb ha t2 u1 u2 U2
    go_wp2_with fail
    go_loopw [5, 6, 7] (fun la ga i wr => ∃ (k : Nat) (last : Int) (M : CT) (G : List Int) (F : Fp) (ag : Option Addr) (cg : Nat), k ≤ L.length ∧ i = .int .i64 (k : Nat) ∧ la = .int .i64 last ∧ ga = .slice ag G.length cg ∧ St W b last M (.slice ag G.length cg) G k wr F) (fun _ _ i _ => L.length - (intOf i).toNat)
    case atStart => exact ⟨0, 0, [], [], F3, none, 0, by omega, rfl, rfl, rfl, S3, u3, nev_nil, by omega, by simp⟩
    case round =>
      obtain ⟨k, last, M, G, F, ag, cg, hk, rfl, rfl, rfl, hA⟩ := hrel
      clear S3 u3
      obtain ⟨wo, rfl⟩ : ∃ wo : World, wo = wr := ⟨_, rfl⟩
      have hl := hA.l
      have l0 := hA.nev.inv.l0
      have hg' := hA.g
      have hfew := hA.nev.inv.few
      have hkl := keysOf_len M
      by_cases hlt : k < L.length
      · obtain ⟨g, off, rfl, hg, hc⟩ := HA.out k L[k] (List.getElem?_eq_getElem hlt)
        have hsz := HB.out L[k] (List.getElem_mem hlt)
        have hob := HO.out L[k] (List.getElem_mem hlt)
        generalize hx : L[k] = x at *
        clear hx
        have k0 : wo.cell? ⟨g, off + k * 4, none⟩ = some (.int .i64 x.what) := by rw [hA.upd.cell hg fun h => h]; exact hc 0 _ rfl
        have k1 : wo.cell? ⟨g, off + k * 4 + 1, none⟩ = some (.int .i64 x.id) := by rw [hA.upd.cell hg fun h => h]; exact hc 1 _ rfl
        have k2 : wo.cell? ⟨g, off + k * 4 + 2, none⟩ = some (.int .i64 x.n) := by rw [hA.upd.cell hg fun h => h]; exact hc 2 _ rfl
        have k3 : wo.cell? ⟨g, off + k * 4 + 3, none⟩ = some x.v := by rw [hA.upd.cell hg fun h => h]; exact hc 3 _ rfl
        obtain ⟨x0, x1, x2, x3, x4⟩ := x
        obtain ⟨av, cv, hv3, hcv⟩ := hob.slice
        simp only at hv3 hcv k0 k1 k2 k3 hsz hob
        subst hv3
        obtain ⟨F4, S4, u4⟩ := Asrt.stars_box2 hA.mem (.cells #[.int .i64 x0, .int .i64 x1, .int .i64 x2, .slice av x4.length cv] 49)
        have U4 := hA.upd.trans u4
        have N4 := Keep.mk hA.nev
        clear hc u4
        by_cases h0 : x0 = 0
        · subst h0
          have CL := Keep.mk (fun (w : World) (F : Fp) (h : (tabT b last M).on w F) => all_c h N4.out.inv.nd (N4.out.inv.wf (by omega)) (by omega))
          generalize keysOf (M.map (·.1)) = K at *
          obtain ⟨kc, kf, kl⟩ := box_cell (i := 2) S4 rfl
          clear kc kf
          go_wp2_with fail
          refine (on_head_row S4 fun Fi h => CL.out _ _ h).mono ?_
          rintro e w5 ⟨vk, rfl, F5, S5, u5⟩
          have U5 := U4.trans u5
          obtain ⟨_, hq, _⟩ := Asrt.stars_get S5 1 rfl
          obtain ⟨ak, ck, rfl⟩ := (row_readsI hq).slice
          obtain ⟨kc, kf, kl⟩ := box_cell (i := 3) S5 rfl
          have kn : w5.cell? ⟨wo.heap.size, 2, none⟩ = some (.int .i64 x2) := kc 2
          rw [hkl]
          clear hkl
          have CO := Keep.mk (fun (w : World) (F : Fp) (h : (tabT b last M).on w F) => open_c h N4.out.inv.none N4.out.inv.l0 (by omega) (Go.Proofs.Ytimkbpcdbbdjlaa.u32 x2))
          clear hq u5 S4 U4 kc kf
          by_cases hful : M.length = 64
          · have hS : openS last M (Go.Proofs.Ytimkbpcdbbdjlaa.u32 x2) = (last, M, 0, 2) := by simp [openS, hful]
            rw [hS] at CO
            have ef : ((M.length : Int) == 64) = true := by simp; omega
            clear hS
            have hful := Keep.mk hful
            go_wp2_with fail
            refine (on_head S5 fun Fi h _ => CO.out _ _ h).mono ?_
            rintro e w6 ⟨rfl, F6, S6, u6⟩
            have U6 := U5.trans u6
            have S6 := Asrt.stars_perm (List.Perm.cons _ ((List.Perm.swap ..).trans ((List.Perm.swap ..).cons _))) S6
            clear S5 U5 u6
            go_wp2_with fail
            go_loopw [14] (fun j wq => ∃ (m : Nat) (Fq : Fp), m ≤ G.length ∧ j = .int .i64 (m : Nat) ∧ (Asrt.stars [tabT b last M, row 3 1 encIL (.slice ag G.length cg) G, .blk wo.heap.size (.cells #[.int .i64 0, .int .i64 x1, .int .i64 x2, .slice av x4.length cv] 49), row 3 1 encIL (.slice ak K.length ck) K]).on wq Fq ∧ Upd none' Fq W wq) (fun j _ => G.length - (intOf j).toNat)
            case atStart => exact ⟨0, F6, by omega, rfl, S6, U6⟩
            case round =>
              obtain ⟨m, Fq, hm, rfl, Sq, Uq⟩ := hrel
              by_cases hlt2 : m < G.length
              · obtain ⟨_, hgt⟩ := ReadsI.at (row_readsI (Asrt.stars_get Sq 1 rfl).choose_spec.1)
                obtain ⟨gg, og, rfl, hgg, hcg⟩ := hgt m hlt2
                have hno := (N4.out.gone _ (List.getElem_mem hlt2)).1
                generalize G[m] = y at *
                clear hgt
                have CH := Keep.mk (on_head_quiet Sq fun Fi h => by have := has_c h y; rw [show ofC M y false (fun _ => true) = false from by simp [ofC, hno]] at this; exact this)
                clear hno
                go_wp2_with fail
                refine CH.out.mono ?_
                rintro e wn ⟨rfl, Sn, un⟩
                go_wp2_with fail
                go_roundw
                case rel => exact ⟨m + 1, Fq, by omega, by go_num, Sn, Uq.trans un⟩
                case measure => simp [intOf]; omega
              · obtain ⟨Fz, Sz, sz⟩ := Asrt.stars_two Sq
                go_wp2_with fail
                go_roundw
                case rel => exact ⟨k + 1, last, M, G, Fz, ag, cg, by omega, by go_num, rfl, rfl, Sz, Uq.re fun k hk => Uq.fp k (sz k hk), N4.out, by omega, by omega⟩
                case measure => simp [intOf]; omega
          · obtain ⟨hS, N6⟩ := N4.out.opens (addr := Go.Proofs.Ytimkbpcdbbdjlaa.u32 x2) hful
            rw [hS] at CO
            have ef : ((M.length : Int) == 64) = false := by simp; omega
            have N6 := Keep.mk N6
            generalize M ++ [(last + 1, (⟨Go.Proofs.Ytimkbpcdbbdjlaa.u32 x2, [], [], 0, false⟩ : Con))] = M' at *
            clear hS hful
            go_wp2_with fail
            refine (on_head S5 fun Fi h _ => CO.out _ _ h).mono ?_
            rintro e w6 ⟨rfl, F6, S6, u6⟩
            have U6 := U5.trans u6
            have S6 := Asrt.stars_perm (List.Perm.cons _ ((List.Perm.swap ..).trans ((List.Perm.swap ..).cons _))) S6
            clear S5 U5 u6
            go_wp2_with fail
            go_loopw [14] (fun j wq => ∃ (m : Nat) (Fq : Fp), m ≤ G.length ∧ j = .int .i64 (m : Nat) ∧ (Asrt.stars [tabT b (last + 1) M', row 3 1 encIL (.slice ag G.length cg) G, .blk wo.heap.size (.cells #[.int .i64 0, .int .i64 x1, .int .i64 x2, .slice av x4.length cv] 49), row 3 1 encIL (.slice ak K.length ck) K]).on wq Fq ∧ Upd none' Fq W wq) (fun j _ => G.length - (intOf j).toNat)
            case atStart => exact ⟨0, F6, by omega, rfl, S6, U6⟩
            case round =>
              obtain ⟨m, Fq, hm, rfl, Sq, Uq⟩ := hrel
              by_cases hlt2 : m < G.length
              · obtain ⟨_, hgt⟩ := ReadsI.at (row_readsI (Asrt.stars_get Sq 1 rfl).choose_spec.1)
                obtain ⟨gg, og, rfl, hgg, hcg⟩ := hgt m hlt2
                have hno := (N6.out.gone _ (List.getElem_mem hlt2)).1
                generalize G[m] = y at *
                clear hgt
                have CH := Keep.mk (on_head_quiet Sq fun Fi h => by have := has_c h y; rw [show ofC M' y false (fun _ => true) = false from by simp [ofC, hno]] at this; exact this)
                clear hno
                go_wp2_with fail
                refine CH.out.mono ?_
                rintro e wn ⟨rfl, Sn, un⟩
                go_wp2_with fail
                go_roundw
                case rel => exact ⟨m + 1, Fq, by omega, by go_num, Sn, Uq.trans un⟩
                case measure => simp [intOf]; omega
              · obtain ⟨Fz, Sz, sz⟩ := Asrt.stars_two Sq
                go_wp2_with fail
                go_roundw
                case rel => exact ⟨k + 1, (last + 1), M', G, Fz, ag, cg, by omega, by go_num, rfl, rfl, Sz, Uq.re fun k hk => Uq.fp k (sz k hk), N6.out, by omega, by omega⟩
                case measure => simp [intOf]; omega
        · have e0 : (x0 == 0) = false := by simp [h0]
          obtain ⟨kc, kf, kl⟩ := box_cell (i := 2) S4 rfl
          clear kc kf
          by_cases h1 : x0 = 1
          · subst h1
            have CH := Keep.mk (fun (w : World) (F : Fp) (h : (tabT b last M).on w F) => has_c h x1)
            have CC := Keep.mk (fun (w : World) (F : Fp) (h : (tabT b last M).on w F) => close_c h x1)
            cases hm : mget M x1 with
            | none =>
              have ho : ofC M x1 false (fun _ => true) = false := by simp [ofC, hm]
              rw [ho] at CH CC
              rw [mdel_none hm] at CC
              clear hm ho h0
              go_wp2_with fail
              refine (on_head_quiet S4 fun Fi h => CH.out _ _ h).mono ?_
              rintro e w5 ⟨rfl, S5, u5⟩
              have U5 := U4.trans u5
              obtain ⟨kc, kf, kl⟩ := box_cell (i := 2) S5 rfl
              have kn : w5.cell? ⟨wo.heap.size, 1, none⟩ = some (.int .i64 x1) := kc 1
              clear kc kf S4 U4 u5
              go_wp2_with fail
              refine (on_head S5 fun Fi h _ => CC.out _ _ h).mono ?_
              rintro e w6 ⟨rfl, F6, S6, u6⟩
              have U6 := U5.trans u6
              obtain ⟨kc, kf, kl⟩ := box_cell (i := 2) S6 rfl
              have kn : w6.cell? ⟨wo.heap.size, 1, none⟩ = some (.int .i64 x1) := kc 1
              clear kc kf S5 U5 u6
              go_wp2_with fail
              refine (on_head_quiet S6 fun Fi h => CH.out _ _ h).mono ?_
              rintro e w7 ⟨rfl, S7, u7⟩
              have U7 := U6.trans u7
              clear S6 U6 u7
              go_wp2_with fail
              go_loopw [14] (fun j wq => ∃ (m : Nat) (Fq : Fp), m ≤ G.length ∧ j = .int .i64 (m : Nat) ∧ (Asrt.stars [tabT b last M, row 3 1 encIL (.slice ag G.length cg) G, .blk wo.heap.size (.cells #[.int .i64 1, .int .i64 x1, .int .i64 x2, .slice av x4.length cv] 49)]).on wq Fq ∧ Upd none' Fq W wq) (fun j _ => G.length - (intOf j).toNat)
              case atStart => exact ⟨0, F6, by omega, rfl, S7, U7⟩
              case round =>
                obtain ⟨m, Fq, hm, rfl, Sq, Uq⟩ := hrel
                by_cases hlt2 : m < G.length
                · obtain ⟨_, hgt⟩ := ReadsI.at (row_readsI (Asrt.stars_get Sq 1 rfl).choose_spec.1)
                  obtain ⟨gg, og, rfl, hgg, hcg⟩ := hgt m hlt2
                  have hno := (N4.out.gone _ (List.getElem_mem hlt2)).1
                  generalize G[m] = y at *
                  clear hgt
                  have CH := Keep.mk (on_head_quiet Sq fun Fi h => by have := has_c h y; rw [show ofC M y false (fun _ => true) = false from by simp [ofC, hno]] at this; exact this)
                  clear hno
                  go_wp2_with fail
                  refine CH.out.mono ?_
                  rintro e wn ⟨rfl, Sn, un⟩
                  go_wp2_with fail
                  go_roundw
                  case rel => exact ⟨m + 1, Fq, by omega, by go_num, Sn, Uq.trans un⟩
                  case measure => simp [intOf]; omega
                · obtain ⟨Fz, Sz, sz⟩ := Asrt.stars_two Sq
                  go_wp2_with fail
                  go_roundw
                  case rel => exact ⟨k + 1, last, M, G, Fz, ag, cg, by omega, by go_num, rfl, rfl, Sz, Uq.re fun k hk => Uq.fp k (sz k hk), N4.out, by omega, by omega⟩
                  case measure => simp [intOf]; omega
            | some c =>
              have ho : ofC M x1 false (fun _ => true) = true := by simp [ofC, hm]
              rw [ho] at CH CC
              have N6 := Keep.mk (N4.out.close hm)
              have hm2 : mget (mdel M x1) x1 = none := by rw [mget_mdel N4.out.inv.nd]; simp
              generalize mdel M x1 = M' at *
              have CI := Keep.mk (fun (w : World) (F : Fp) (h : (tabT b last M').on w F) => has_c h x1)
              rw [show ofC M' x1 false (fun _ => true) = false from by simp [ofC, hm2]] at CI
              clear hm ho h0 hm2
              go_wp2_with fail
              refine (on_head_quiet S4 fun Fi h => CH.out _ _ h).mono ?_
              rintro e w5 ⟨rfl, S5, u5⟩
              have U5 := U4.trans u5
              obtain ⟨kc, kf, kl⟩ := box_cell (i := 2) S5 rfl
              have kn : w5.cell? ⟨wo.heap.size, 1, none⟩ = some (.int .i64 x1) := kc 1
              clear kc kf S4 U4 u5
              go_wp2_with fail
              refine (on_head S5 fun Fi h _ => CC.out _ _ h).mono ?_
              rintro e w6 ⟨rfl, F6, S6, u6⟩
              have U6 := U5.trans u6
              obtain ⟨kc, kf, kl⟩ := box_cell (i := 2) S6 rfl
              have kn : w6.cell? ⟨wo.heap.size, 1, none⟩ = some (.int .i64 x1) := kc 1
              clear kc kf S5 U5 u6
              go_wp2_with fail
              refine (on_head_quiet S6 fun Fi h => CI.out _ _ h).mono ?_
              rintro e w7 ⟨rfl, S7, u7⟩
              have U7 := U6.trans u7
              obtain ⟨kc, kf, kl⟩ := box_cell (i := 2) S7 rfl
              have kn : w7.cell? ⟨wo.heap.size, 1, none⟩ = some (.int .i64 x1) := kc 1
              clear kc kf S6 U6 u7
              obtain ⟨Fo, hrow, _, hgo⟩ := Asrt.stars_upd _ 1 _ rfl S7
              obtain ⟨hi, hz0, hz1, hz2⟩ := hI.out
              go_wp2_with (at_builtin; refine at_append_row encIL 1 8 rfl (.tmp 99) (.tmp 102) 41 rfl 3 i3 _ Try.underlying41 hi hz0 hz1 hz2 rfl (by decide) (.slice ag G.length cg) G x1 Fo rfl (Asrt.alloc hrow _) ⟨w7.heap.size, 0, none⟩ 1 rfl rfl (cells_new w7 (encIL x1) _) ?hone ?h63 ?hby ?next)
              case hone => intro u hu; exact one_cell_int x1 u hu
              case h63 => unfold maxLen; omega
              case hby => omega
              case next =>
                intro v' w8 F8 hr8 u8
                obtain ⟨F9, S9, u9⟩ := hgo w8 F8 _ hr8 (((Upd.refl Fo w7).alloc _).trans u8)
                have U9 := U7.trans u9
                obtain ⟨ag', cg', rfl⟩ := (row_readsI hr8).slice
                have hG : (G ++ [x1]).length ≤ k + 1 := by simp; omega
                simp only [List.set_cons_succ, List.set_cons_zero] at S9
                generalize G ++ [x1] = G' at *
                clear S7 U7 hr8 u8 u9 hi hz0 hz1 hz2 hgo
                go_wp2_with fail
                go_loopw [14] (fun j wq => ∃ (m : Nat) (Fq : Fp), m ≤ G'.length ∧ j = .int .i64 (m : Nat) ∧ (Asrt.stars [tabT b last M', row 3 1 encIL (.slice ag' G'.length cg') G', .blk wo.heap.size (.cells #[.int .i64 1, .int .i64 x1, .int .i64 x2, .slice av x4.length cv] 49)]).on wq Fq ∧ Upd none' Fq W wq) (fun j _ => G'.length - (intOf j).toNat)
                case atStart => exact ⟨0, F9, by omega, rfl, S9, U9⟩
                case round =>
                  obtain ⟨m, Fq, hm, rfl, Sq, Uq⟩ := hrel
                  by_cases hlt2 : m < G'.length
                  · obtain ⟨_, hgt⟩ := ReadsI.at (row_readsI (Asrt.stars_get Sq 1 rfl).choose_spec.1)
                    obtain ⟨gg, og, rfl, hgg, hcg⟩ := hgt m hlt2
                    have hno := (N6.out.gone _ (List.getElem_mem hlt2)).1
                    generalize G'[m] = y at *
                    clear hgt
                    have CH := Keep.mk (on_head_quiet Sq fun Fi h => by have := has_c h y; rw [show ofC M' y false (fun _ => true) = false from by simp [ofC, hno]] at this; exact this)
                    clear hno
                    go_wp2_with fail
                    refine CH.out.mono ?_
                    rintro e wn ⟨rfl, Sn, un⟩
                    go_wp2_with fail
                    go_roundw
                    case rel => exact ⟨m + 1, Fq, by omega, by go_num, Sn, Uq.trans un⟩
                    case measure => simp [intOf]; omega
                  · obtain ⟨Fz, Sz, sz⟩ := Asrt.stars_two Sq
                    go_wp2_with fail
                    go_roundw
                    case rel => exact ⟨k + 1, last, M', G', Fz, ag', cg', by omega, by go_num, rfl, rfl, Sz, Uq.re fun k hk => Uq.fp k (sz k hk), N6.out, by omega, by omega⟩
                    case measure => simp [intOf]; omega
          · have e1 : (x0 == 1) = false := by simp [h1]
            obtain ⟨kc, kf, kl⟩ := box_cell (i := 2) S4 rfl
            have N6 := Keep.mk (N4.out.does (o := ⟨x0, x1, x2, .slice av x4.length cv, x4⟩) h0 h1)
            have eL := (does_keys (last := last) (M := M) (o := ⟨x0, x1, x2, .slice av x4.length cv, x4⟩) h0 h1).1
            have SE := sees_old (o := ⟨x0, x1, x2, .slice av x4.length cv, x4⟩) hob U4 hsz
            have CD := Keep.mk (fun (w : World) (F : Fp) (h : (tabT b last M).on w F) (hs : Sees w F ⟨x0, x1, x2, .slice av x4.length cv, x4⟩) => does_c h N4.out.inv.ok N4.out.inv.none N4.out.inv.l0 (by omega) hs)
            rw [eL] at CD
            generalize (doesS last M ⟨x0, x1, x2, .slice av x4.length cv, x4⟩).2 = M' at *
            have SE := Keep.mk SE
            clear kc kf eL h0 h1
            go_wp2_with fail
            refine (on_head S4 fun Fi h hs => CD.out _ _ h ⟨SE.out.rd, fun g hg hn hF => SE.out.apart g hg hn (hs _ hF), SE.out.len⟩).mono ?_
            rintro e w5 ⟨rfl, F5, S5, u5⟩
            have U5 := U4.trans u5
            clear S4 U4 u5
            go_wp2_with fail
            go_loopw [14] (fun j wq => ∃ (m : Nat) (Fq : Fp), m ≤ G.length ∧ j = .int .i64 (m : Nat) ∧ (Asrt.stars [tabT b last M', row 3 1 encIL (.slice ag G.length cg) G, .blk wo.heap.size (.cells #[.int .i64 x0, .int .i64 x1, .int .i64 x2, .slice av x4.length cv] 49)]).on wq Fq ∧ Upd none' Fq W wq) (fun j _ => G.length - (intOf j).toNat)
            case atStart => exact ⟨0, F5, by omega, rfl, S5, U5⟩
            case round =>
              obtain ⟨m, Fq, hm, rfl, Sq, Uq⟩ := hrel
              by_cases hlt2 : m < G.length
              · obtain ⟨_, hgt⟩ := ReadsI.at (row_readsI (Asrt.stars_get Sq 1 rfl).choose_spec.1)
                obtain ⟨gg, og, rfl, hgg, hcg⟩ := hgt m hlt2
                have hno := (N6.out.gone _ (List.getElem_mem hlt2)).1
                generalize G[m] = y at *
                clear hgt
                have CH := Keep.mk (on_head_quiet Sq fun Fi h => by have := has_c h y; rw [show ofC M' y false (fun _ => true) = false from by simp [ofC, hno]] at this; exact this)
                clear hno
                go_wp2_with fail
                refine CH.out.mono ?_
                rintro e wn ⟨rfl, Sn, un⟩
                go_wp2_with fail
                go_roundw
                case rel => exact ⟨m + 1, Fq, by omega, by go_num, Sn, Uq.trans un⟩
                case measure => simp [intOf]; omega
              · obtain ⟨Fz, Sz, sz⟩ := Asrt.stars_two Sq
                go_wp2_with fail
                go_roundw
                case rel => exact ⟨k + 1, last, M', G, Fz, ag, cg, by omega, by go_num, rfl, rfl, Sz, Uq.re fun k hk => Uq.fp k (sz k hk), N6.out, by omega, by omega⟩
                case measure => simp [intOf]; omega
      · have CL := Keep.mk (fun (w : World) (F : Fp) (h : (tabT b last M).on w F) => all_c h hA.nev.inv.nd (hA.nev.inv.wf (by omega)) (by omega))
        have hcnt := hA.nev.cnt
        generalize keysOf (M.map (·.1)) = K at *
        have ec : ((K.length : Int) == last - (G.length : Int)) = true := by rw [hkl]; simp; omega
        have ed : decide ((K.length : Int) ≤ 64) = true := by simp; omega
        have S4 := hA.mem
        have U4 := hA.upd
        clear hkl hcnt hA
        go_wp2_with fail
        refine (on_head_row S4 fun Fi h => CL.out _ _ h).mono ?_
        rintro e w5 ⟨vk, rfl, F5, S5, u5⟩
        have U5 := U4.trans u5
        obtain ⟨_, hq, _⟩ := Asrt.stars_get S5 1 rfl
        obtain ⟨ak, ck, rfl⟩ := (row_readsI hq).slice
        clear hq u5 S4 U4
        go_wp2_with fail
        refine (on_head_row S5 fun Fi h => CL.out _ _ h).mono ?_
        rintro e w6 ⟨vk, rfl, F6, S6, u6⟩
        have U6 := U5.trans u6
        obtain ⟨_, hq, _⟩ := Asrt.stars_get S6 1 rfl
        obtain ⟨ak, ck, rfl⟩ := (row_readsI hq).slice
        clear hq u6 S5 U5
        go_wp2_with fail
        go_ret
        exact ⟨rfl, U6.quiet⟩
end connNever
end Go.Proofs.Ytimkbpcdbbdjlaa
