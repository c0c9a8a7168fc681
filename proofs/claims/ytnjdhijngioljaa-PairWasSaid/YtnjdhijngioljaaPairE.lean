/- PairWas: its walk. -/
import Derived.Test.YtnjdhijngioljaaPairD
import Derived.Test.YtnjdhijngioljaaPairG
import Derived.StillTailTactics
import Derived.Deep.RegionLaw
import Derived.Deep.DeepCutAuto
namespace Go.Proofs.Ytnjdhijngioljaa
open Go.RowKit Go.Sub Go.ChangeMaps
theorem info3 : (Try.prog.info? 3).map (fun i => (i.zero, i.size, i.bytes)) = some (some (.int .i64 0), 1, 8) := by kernel_rfl
namespace pairWas
/-- what holds at the head of a round -/
structure At (W : World) (b : Nat) (v : Value) (k : Nat) (n : Int) (w : World) (T : Tab) (E : List Int) (F : Fp) : Prop where
  mem : (Asrt.stars [row 3 1 encI1 v E, pairT b T]).on w F
  upd : Upd none' F W w
  inv : Inv T
  was : ∀ x, T.was x = decide (x ∈ E)
  num : n = (vis T.ends).length
  small : E.length ≤ 2 * k
  short : T.ends.length ≤ 2 * k
set_option maxHeartbeats 2000000 in
set_option maxRecDepth 100000 in
theorem walk {W : World} (v : Value) (L : List (Int × Int × Int)) (hL : Reads W 3 encOp v L) (_ : L.length ≤ maxLen) : Calls Try.prog 8 #[v] W (Ret (.bool true) fun W' => Quiet W W') := by
  obtain ⟨a, cap, rfl, ha⟩ := hL
  obtain ⟨i3, hi, hz0, hz1, hz2⟩ := info_parts info3
  by_cases hbig : 300 < L.length
  · go_enter Try.func8, Try.ntmps8
    go_wp2_with fail
    refine (head_c _).mono ?_
    rintro e w1 ⟨rfl, u1⟩
    go_wp2_with fail
    refine (new_c _).mono ?_
    rintro e w2 ⟨b, rfl, F, t, u2⟩
    go_wp2_with fail
    go_ret
    exact ⟨rfl, (Upd.trans u1 u2).quiet⟩
  · have e0 : decide (300 < (L.length : Int)) = false := by simp; omega
    have hsz : L.length ≤ 300 := by omega
    clear hbig
    go_enter Try.func8, Try.ntmps8
    go_wp2_with fail
    refine (head_c _).mono ?_
    rintro e w1 ⟨rfl, u1⟩
    go_wp2_with fail
    refine (new_c _).mono ?_
    rintro e w2 ⟨b, rfl, F, t, u2⟩
    go_wp2_with fail
    go_loopw [5, 6, 7] (fun n v i wr => ∃ k m T E F, k ≤ L.length ∧ i = .int .i64 (k : Nat) ∧ n = .int .i64 m ∧ At W b v k m wr T E F) (fun _ _ i _ => L.length - (intOf i).toNat)
    case atStart =>
      exact ⟨0, 0, ⟨[], []⟩, [], F, by omega, rfl, rfl, ⟨Asrt.stars_emp (row_nil w2 3 1 encI1) (Asrt.stars_one t), Upd.trans u1 u2, inv_nil, by simp [Tab.was, mget], by simp [vis], by simp, by simp⟩⟩
    case round =>
      obtain ⟨k, m, T, E, F, hk, rfl, rfl, hA⟩ := hrel
      by_cases hlt : k < L.length
      · obtain ⟨g, off, rfl, hg, hc⟩ := ha k L[k] (List.getElem?_eq_getElem hlt)
        generalize hx : L[k] = x at *
        obtain ⟨x0, x1, x2⟩ := x
        have k0 : wr.cell? ⟨g, off + k * 3, none⟩ = some (.int .i64 x0) := by rw [hA.upd.cell hg id]; exact hc 0 _ rfl
        have k1 : wr.cell? ⟨g, off + k * 3 + 1, none⟩ = some (.int .i64 x1) := by rw [hA.upd.cell hg id]; exact hc 1 _ rfl
        have k2 : wr.cell? ⟨g, off + k * 3 + 2, none⟩ = some (.int .i64 x2) := by rw [hA.upd.cell hg id]; exact hc 2 _ rfl
        clear hx ha
        go_upto_if 35 with fail
        go_cut [5, 6] (fun n v wx => ∃ m T E F, n = .int .i64 m ∧ At W b v (k + 1) m wx T E F)
        case first =>
          have hm0 : 0 ≤ m := by rw [hA.num]; omega
          have hm1 : m ≤ 1000 := by
            have h1 : (vis T.ends).length ≤ T.ends.length := List.length_filterMap_le _ _
            have h2 := hA.short
            rw [hA.num]; omega
          obtain ⟨Fi, hT, hsub, hgo⟩ := Asrt.stars_upd _ 1 _ rfl hA.mem
          by_cases hx0 : x0 = 2
          · have e1 : (x0 == 2) = true := by simp [hx0]
            cases hget : mget T.ends x1 with
            | none =>
              have h2 : (T.other x1).2 = false := by simp [Tab.other, hget]
              have h1 : T.part x1 = T := by simp [Tab.part, hget]
              have H1 := Keep.mk h1
              clear h1 hx0 hget
              go_wp2_with fail
              refine (part_c hT x1).mono ?_
              rintro e w3 ⟨rfl, Fi', hT', hu⟩
              obtain ⟨F', hS, hU⟩ := hgo w3 Fi' _ hT' hu
              go_wp2_with fail
              go_meet
              rw [H1.out] at hS
              have q1 := hA.small
              have q2 := hA.short
              exact ⟨m, T, E, F', rfl, ⟨hS, hA.upd.trans hU, hA.inv, hA.was, hA.num, by omega, by omega⟩⟩
            | some p =>
              obtain ⟨o, s⟩ := p
              have h2 : (T.other x1).2 = true := by simp [Tab.other, hget]
              have hv := (vis_part hA.inv hget).length_eq
              have hl : (T.part x1).ends.length ≤ T.ends.length := by
                have hb := hA.inv.back x1 o s hget
                have p1 := (mdel_perm hget).length_eq
                have p2 := (mdel_perm (show mget (mdel T.ends x1) o = some (x1, !s) by rw [mget_mdel hA.inv.once hget, if_neg hb.2]; exact hb.1)).length_eq
                simp only [Tab.part, hget]
                simp only [List.length_cons] at p1 p2
                omega
              have H1 := Keep.mk hv
              clear hv hget hx0
              go_wp2_with fail
              refine (part_c hT x1).mono ?_
              rintro e w3 ⟨rfl, Fi', hT', hu⟩
              obtain ⟨F', hS, hU⟩ := hgo w3 Fi' _ hT' hu
              go_wp2_with fail
              go_meet
              have q1 := hA.small
              have q2 := hA.short
              have q3 := hA.num
              have q4 := H1.out
              exact ⟨m - 1, T.part x1, E, F', rfl, ⟨hS, hA.upd.trans hU, inv_part hA.inv x1, fun x => by rw [part_was]; exact hA.was x, by simp only [List.length_cons] at q4; omega, by omega, by omega⟩⟩
          · have e1 : (x0 == 2) = false := by simp [hx0]
            clear hT hsub hgo
            obtain ⟨Fi, hT, hsub, hgo⟩ := Asrt.stars_upd _ 1 _ rfl (Asrt.drew hA.mem)
            have hud := hA.upd.drew
            by_cases hj : (T.join x1 x2).2 = 0
            · have e2 : ((T.join x1 x2).2 == 0) = true := by simp [hj]
              have hvis := vis_join hA.inv hj
              have hends := join_ends hA.inv hj
              have hwas := join_was hA.inv hj
              have H1 := Keep.mk (And.intro hvis (And.intro hends hwas))
              clear hj hx0 hvis hends hwas
              go_wp2_with fail
              go_still_tail 11, (by kernel_rfl)
              go_wp2_with fail
              refine (join_c hT x1 x2).mono ?_
              rintro e w3 ⟨rfl, Fi', hT', hu⟩
              obtain ⟨F', hS, hU⟩ := hgo w3 Fi' _ hT' hu
              obtain ⟨Fr, hr, _, hgo2⟩ := Asrt.stars_upd _ 0 _ rfl hS
              have hU3 := hud.trans hU
              have k1' : w3.cell? ⟨g, off + k * 3 + 1, none⟩ = some (.int .i64 x1) := by rw [hU3.cell hg id]; exact hc 1 _ rfl
              have k2' : w3.cell? ⟨g, off + k * 3 + 2, none⟩ = some (.int .i64 x2) := by rw [hU3.cell hg id]; exact hc 2 _ rfl
              go_wp2_with fail
              have q1 := hA.small
              have q2 := hA.short
              have hr2 := Asrt.drew hr
              go_region_law (refine step_append_rows encI1 1 8 rfl (.tmp 64) (.tmp 75) 38 rfl 3 i3 _ Try.underlying38 hi hz0 hz1 hz2 rfl (by decide) u6 E [x1, x2] 2 Fr (by simp [Act.eval]) (Asrt.alloc hr2 _) ⟨w3.heap.size, 0, none⟩ 2 (by simp [Act.eval]) rfl (fun _ => rfl) (cells_new w3 ([x1, x2].flatMap encI1) _) one_cell_int (by unfold maxLen; simp; omega) (by simp; omega) ?_; intro v' w4 Fr' hr4 hu4)
              all_goals
                obtain ⟨F4, hS4, hU4⟩ := hgo2 w4 Fr' _ hr4 (((Upd.refl Fr w3).drew.alloc _).trans hu4)
                obtain ⟨hvis, hends, hwas⟩ := H1.out
                go_wp2_with fail
                go_meet
                refine ⟨m + 1, (T.join x1 x2).1, E ++ [x1, x2], F4, rfl, ⟨hS4, hU3.trans hU4, inv_join hA.inv x1 x2, fun x => ?_, ?_, ?_, ?_⟩⟩
                · rw [hwas, hA.was]
                  simp [Bool.or_assoc]
                · rw [hvis, hA.num]; simp
                · simp; omega
                · rw [hends]; simp; omega
            · have e2 : ((T.join x1 x2).2 == 0) = false := by simp [hj]
              have H1 := Keep.mk (join_no hj)
              clear hj hx0
              go_wp2_with fail
              go_still_tail 11, (by kernel_rfl)
              go_wp2_with fail
              refine (join_c hT x1 x2).mono ?_
              rintro e w3 ⟨rfl, Fi', hT', hu⟩
              obtain ⟨F', hS, hU⟩ := hgo w3 Fi' _ hT' hu
              go_wp2_with fail
              go_meet
              rw [H1.out] at hS
              have q1 := hA.small
              have q2 := hA.short
              exact ⟨m, T, E, F', rfl, ⟨hS, hud.trans hU, hA.inv, hA.was, hA.num, by omega, by omega⟩⟩
        case rest =>
          obtain ⟨m, T, E, F, rfl, hA⟩ := hcut
          obtain ⟨q1, hq1⟩ : ∃ q, T.was x1 = q := ⟨_, rfl⟩
          obtain ⟨q2, hq2⟩ : ∃ q, T.was x2 = q := ⟨_, rfl⟩
          have C1 : Keep (∀ w F, (pairT b T).on w F → Calls Try.prog 18 #[.pointer (some ⟨b, 0, none⟩), .int .i64 x1] w (Ret (.bool q1) fun w' => w = w')) := ⟨fun w F h => hq1 ▸ was_c h x1⟩
          have C2 : Keep (∀ w F, (pairT b T).on w F → Calls Try.prog 18 #[.pointer (some ⟨b, 0, none⟩), .int .i64 x2] w (Ret (.bool q2) fun w' => w = w')) := ⟨fun w F h => hq2 ▸ was_c h x2⟩
          have q5 : E.length ≤ 1000000 := by have := hA.small; omega
          have D1 : Keep (∀ w, Reads w 1 encI1 u6 E → Calls Try.prog 22 #[u6, .int .i64 x1] w (Ret (.bool q1) fun w' => w = w')) := ⟨fun w h => by rw [← hq1, hA.was]; exact has_c h x1 q5⟩
          have D2 : Keep (∀ w, Reads w 1 encI1 u6 E → Calls Try.prog 22 #[u6, .int .i64 x2] w (Ret (.bool q2) fun w' => w = w')) := ⟨fun w h => by rw [← hq2, hA.was]; exact has_c h x2 q5⟩
          clear hq1 hq2
          have hm0 : 0 ≤ m := by rw [hA.num]; omega
          have q6 : T.ends.length ≤ 1000000 := by have := hA.short; omega
          have hud := hA.upd.drew
          obtain ⟨Fi, hT, hsub⟩ := Asrt.stars_get (Asrt.drew hA.mem) 1 rfl
          have c1 : wc.drew.cell? ⟨g, off + k * 3 + 1, none⟩ = some (.int .i64 x1) := by rw [hud.cell hg id]; exact hc 1 _ rfl
          have c2 : wc.drew.cell? ⟨g, off + k * 3 + 2, none⟩ = some (.int .i64 x2) := by rw [hud.cell hg id]; exact hc 2 _ rfl
          go_wp2_with fail
          go_region_held3 (fun w' => w'.cell? ⟨g, off + k * 3 + 1, none⟩ = some (.int .i64 x1) ∧ w'.cell? ⟨g, off + k * 3 + 2, none⟩ = some (.int .i64 x2)) (first | exact ⟨c1, c2⟩ | exact ⟨c15, c25⟩)
            (first
              | (go_at_call 21; refine (all_c hT q6).mono ?_; rintro e w5 ⟨v5, rfl, F5, L5, hrow5, hu5, hA5⟩; obtain ⟨a5, cap5, rfl, _⟩ := (row_reads (enc := encP) (fun _ => rfl) hrow5).1; have e5 : ((L5.length : Int) != m) = false := (by have := hA5.perm.length_eq; rw [hA.num, this]; simp); obtain ⟨hS5, hU5⟩ := Asrt.stars_same (Asrt.drew hA.mem) hu5; obtain ⟨Fj, hT5, hsub5⟩ := Asrt.stars_get hS5 1 rfl; obtain ⟨Fr5, hr5, hsub5⟩ := Asrt.stars_get hS5 0 rfl; have hrd5 := (row_reads (enc := encI1) (fun _ => rfl) hr5).1; have hu6 := hud.trans hU5; have c15 : w5.cell? ⟨g, off + k * 3 + 1, none⟩ = some (.int .i64 x1) := (by rw [hu6.cell hg id]; exact hc 1 _ rfl); have c25 : w5.cell? ⟨g, off + k * 3 + 2, none⟩ = some (.int .i64 x2) := (by rw [hu6.cell hg id]; exact hc 2 _ rfl))
              | (go_at_call_of 18 (Value.int .i64 x1); refine (C1.out _ _ hT5).mono ?_; rintro e w6 ⟨rfl, rfl⟩)
              | (go_at_call_of 18 (Value.int .i64 x2); refine (C2.out _ _ hT5).mono ?_; rintro e w6 ⟨rfl, rfl⟩)
              | (go_at_call_of 22 (Value.int .i64 x1); refine (D1.out _ hrd5).mono ?_; rintro e w6 ⟨rfl, rfl⟩)
              | (go_at_call_of 22 (Value.int .i64 x2); refine (D2.out _ hrd5).mono ?_; rintro e w6 ⟨rfl, rfl⟩))
          go_wp2_with fail
          go_roundw
          case rel => exact ⟨k + 1, m, T, E, F, by omega, by go_num, rfl, ⟨hS5, hu6.trans (Upd.refl _ _), hA.inv, hA.was, hA.num, hA.small, hA.short⟩⟩
          case measure => simp [intOf]; omega
      · go_wp2_with fail
        go_ret
        exact ⟨rfl, hA.upd.quiet⟩
end pairWas
end Go.Proofs.Ytnjdhijngioljaa
