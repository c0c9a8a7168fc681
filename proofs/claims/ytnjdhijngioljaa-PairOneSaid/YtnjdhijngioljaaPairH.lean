/- PairOne: its walk. -/
import Derived.Test.YtnjdhijngioljaaPairD
import Derived.Test.YtnjdhijngioljaaPairG
import Derived.StillTailTactics
import Derived.Deep.QuietTactic
import Derived.BigQuiet
namespace Go.Proofs.Ytnjdhijngioljaa.pairOne
open Go.RowKit Go.Sub Go.ChangeMaps
theorem ends_part {T : Tab} (hI : Inv T) (id : Int) : (T.part id).ends.length ≤ T.ends.length := by
  cases hget : mget T.ends id with
  | none => simp [Tab.part, hget]
  | some p =>
    obtain ⟨o, s⟩ := p
    have hb := hI.back id o s hget
    have p1 := (mdel_perm hget).length_eq
    have p2 := (mdel_perm (show mget (mdel T.ends id) o = some (id, !s) by rw [mget_mdel hI.once hget, if_neg hb.2]; exact hb.1)).length_eq
    simp only [Tab.part, hget]
    simp only [List.length_cons] at p1 p2
    omega
theorem ends_join {T : Tab} (hI : Inv T) (v c : Int) : (T.join v c).1.ends.length ≤ T.ends.length + 2 := by
  by_cases h : (T.join v c).2 = 0
  · rw [join_ends hI h]; simp
  · rw [join_no h]; omega
/-- what holds at the head of a round of the first loop -/
structure At (W : World) (b : Nat) (k : Nat) (w : World) (T : Tab) (F : Fp) : Prop where
  mem : (pairT b T).on w F
  upd : Upd none' F W w
  inv : Inv T
  short : T.ends.length ≤ 2 * k
/-- one of all pairs, and those ahead of it -/
theorem one {T : Tab} (hI : Inv T) {M : List (Int × Int)} (hM : AllOf T M) (i : Nat) (h : i < M.length) :
    T.other M[i].1 = (M[i].2, true) ∧ T.other M[i].2 = (M[i].1, true) ∧ M[i].1 ≠ M[i].2 ∧ (∀ j (hj : j < M.length), j < i → M[j].1 < M[i].1 ∧ M[j].2 ≠ M[i].2 ∧ M[j].2 ≠ M[i].1 ∧ M[j].1 ≠ M[i].2) := by
  have g : ∀ j (hj : j < M.length), mget T.ends M[j].1 = some (M[j].2, true) ∧ mget T.ends M[j].2 = some (M[j].1, false) ∧ M[j].1 ≠ M[j].2 := fun j hj => by
    have h1 := (mem_vis hI).1 (hM.perm.mem_iff.1 (List.getElem_mem hj))
    obtain ⟨h2, h3⟩ := hI.back _ _ _ h1
    exact ⟨h1, h2, h3⟩
  obtain ⟨a1, a2, a3⟩ := g i h
  refine ⟨by simp [Tab.other, a1], by simp [Tab.other, a2], a3, fun j hj hji => ?_⟩
  obtain ⟨b1, b2, b3⟩ := g j hj
  have hlt := List.pairwise_iff_getElem.1 (all_strict hI hM) j i hj h hji
  refine ⟨hlt, fun e => ?_, fun e => ?_, fun e => ?_⟩
  · rw [e, a2] at b2; simp only [Option.some.injEq, Prod.mk.injEq] at b2; omega
  · rw [e, a1] at b2; simp at b2
  · rw [e, a2] at b1; simp at b1
set_option maxHeartbeats 4000000 in
set_option maxRecDepth 100000 in
theorem walk {W : World} (v : Value) (L : List (Int × Int × Int)) (hL : Reads W 3 encOp v L) (_ : L.length ≤ maxLen) : Calls Try.prog 4 #[v] W (Ret (.bool true) fun W' => Quiet W W') := by
  obtain ⟨a, cap, rfl, ha⟩ := hL
  by_cases hbig : 300 < L.length
  · go_enter Try.func4, Try.ntmps4
    go_wp2_with fail
    refine (head_c _).mono ?_
    rintro e w1 ⟨rfl, u1⟩
    go_wp2_with fail
    refine (new_c _).mono ?_
    rintro e w2 ⟨b, rfl, F, t, u2⟩
    go_wp2_with fail
    go_ret
    exact ⟨rfl, (Upd.trans u1 u2).quiet⟩
  · have e0 : decide (300 < (L.length : Int)) = false := by simp; omega
    have hsz : L.length ≤ 300 := by omega
    clear hbig
    go_enter Try.func4, Try.ntmps4
    go_wp2_with fail
    refine (head_c _).mono ?_
    rintro e w1 ⟨rfl, u1⟩
    go_wp2_with fail
    refine (new_c _).mono ?_
    rintro e w2 ⟨b, rfl, F, t, u2⟩
    go_wp2_with fail
    go_loopw [5] (fun i wr => ∃ k T F, k ≤ L.length ∧ i = .int .i64 (k : Nat) ∧ At W b k wr T F) (fun i _ => L.length - (intOf i).toNat)
    case atStart =>
      exact ⟨0, ⟨[], []⟩, F, by omega, rfl, ⟨t, Upd.trans u1 u2, inv_nil, by simp⟩⟩
    case round =>
      obtain ⟨k, T, F, hk, rfl, hA⟩ := hrel
      by_cases hlt : k < L.length
      · obtain ⟨g, off, rfl, hg, hc⟩ := ha k L[k] (List.getElem?_eq_getElem hlt)
        generalize hx : L[k] = x at *
        obtain ⟨x0, x1, x2⟩ := x
        have k0 : wr.cell? ⟨g, off + k * 3, none⟩ = some (.int .i64 x0) := by rw [hA.upd.cell hg id]; exact hc 0 _ rfl
        have k1 : wr.cell? ⟨g, off + k * 3 + 1, none⟩ = some (.int .i64 x1) := by rw [hA.upd.cell hg id]; exact hc 1 _ rfl
        have k2 : wr.cell? ⟨g, off + k * 3 + 2, none⟩ = some (.int .i64 x2) := by rw [hA.upd.cell hg id]; exact hc 2 _ rfl
        clear hx ha
        by_cases hx0 : x0 = 2
        · subst hx0
          go_wp2_with fail
          refine (part_c hA.mem x1).mono ?_
          rintro e w3 ⟨rfl, F3, hT3, hu3⟩
          go_wp2_with fail
          go_roundw
          case rel =>
            have q1 := hA.short
            have q2 := ends_part hA.inv x1
            exact ⟨k + 1, T.part x1, F3, by omega, by go_num, ⟨hT3, hA.upd.trans hu3, inv_part hA.inv x1, by omega⟩⟩
          case measure => simp [intOf]; omega
        · have e1 : (x0 == 2) = false := by simp [hx0]
          go_wp2_with fail
          go_still_tail 11, (by kernel_rfl)
          go_wp2_with fail
          refine (join_c (Asrt.drew hA.mem) x1 x2).mono ?_
          rintro e w3 ⟨rfl, F3, hT3, hu3⟩
          go_wp2_with fail
          go_roundw
          case rel =>
            have q1 := hA.short
            have q2 := ends_join hA.inv x1 x2
            exact ⟨k + 1, (T.join x1 x2).1, F3, by omega, by go_num, ⟨hT3, hA.upd.drew.trans hu3, inv_join hA.inv x1 x2, by omega⟩⟩
          case measure => simp [intOf]; omega
      · have q6 : T.ends.length ≤ 1000000 := by have := hA.short; omega
        go_wp2_with fail
        refine (all_c hA.mem q6).mono ?_
        rintro e w3 ⟨v3, rfl, F3, M, hM3, hu3, hM⟩
        obtain ⟨a3, c3, rfl, hR3⟩ := (row_reads (enc := encP) (fun _ => rfl) hM3).1
        obtain ⟨F4, hS4, hU4⟩ := Asrt.stars_new (Asrt.stars_one hA.mem) hM3 hu3
        have hfacts := one hA.inv hM
        have q7 : M.length ≤ 1000000 := by
          have h1 := hM.perm.length_eq
          have h2 : (vis T.ends).length ≤ T.ends.length := List.length_filterMap_le _ _
          omega
        have HF := Keep.mk hfacts
        have hW3 := hA.upd.trans hU4
        clear hfacts hM
        obtain ⟨wo, rfl⟩ : ∃ wo, wo = wr := ⟨_, rfl⟩
        go_wp2_with fail
        go_loopw [7] (fun i wr => ∃ j : Nat, j ≤ M.length ∧ i = .int .i64 j ∧ Quiet w3 wr) (fun i _ => M.length - (intOf i).toNat)
        case atStart => exact ⟨0, by omega, rfl, Upd.refl _ _⟩
        case round =>
          obtain ⟨j, hj, rfl, hq⟩ := hrel
          by_cases hj2 : j < M.length
          · obtain ⟨f1, f2, f3, f4⟩ := HF.out j hj2
            obtain ⟨g, off, rfl, hg, hc⟩ := hR3 j M[j] (List.getElem?_eq_getElem hj2)
            have hcj : ∀ i (hi : i < M.length), w3.cell? ⟨g, off + i * 2, none⟩ = some (.int .i64 M[i].1) ∧ w3.cell? ⟨g, off + i * 2 + 1, none⟩ = some (.int .i64 M[i].2) := fun i hi => by
              obtain ⟨g', off', he, _, hc'⟩ := hR3 i M[i] (List.getElem?_eq_getElem hi)
              simp only [Option.some.injEq, Addr.mk.injEq, and_true] at he
              obtain ⟨rfl, rfl⟩ := he
              exact ⟨hc' 0 _ rfl, hc' 1 _ rfl⟩
            have k0 : wr.cell? ⟨g, off + j * 2, none⟩ = some (.int .i64 M[j].1) := by rw [hq.cell hg id]; exact (hcj j hj2).1
            have k1 : wr.cell? ⟨g, off + j * 2 + 1, none⟩ = some (.int .i64 M[j].2) := by rw [hq.cell hg id]; exact (hcj j hj2).2
            obtain ⟨F5, hT5, _⟩ := Asrt.stars_get (Asrt.stars_same hS4 hq).1 1 rfl
            have o1 := fun (w : World) (F : Fp) (h : (pairT b T).on w F) => other_c h M[j].1
            have o2 := fun (w : World) (F : Fp) (h : (pairT b T).on w F) => other_c h M[j].2
            rw [f1] at o1
            rw [f2] at o2
            have HC := Keep.mk hcj
            have H4 := Keep.mk f4
            clear hcj f1 f2 f4 hc hR3
            generalize hMj : M[j] = p at *
            obtain ⟨v, c⟩ := p
            have O1 := Keep.mk o1
            have O2 := Keep.mk o2
            clear o1 o2
            have hgw : g < wr.heap.size := Nat.lt_of_lt_of_le hg hq.size
            obtain ⟨wp, rfl⟩ : ∃ wp, wp = wr := ⟨_, rfl⟩
            go_wp2_with fail
            refine (O1.out _ _ (Asrt.alloc hT5 _)).mono ?_
            rintro e w5 ⟨rfl, hq5⟩
            have hT6 := Asrt.frame _ (Asrt.alloc hT5 _) hq5 (fun _ _ h => h)
            have kx : ∀ i, w5.cell? ⟨wp.heap.size, i, none⟩ = #[Value.int .i64 v, .int .i64 c][i]? := fun i => by
              rw [hq5.cell (by simp) id]; exact World.cell?_alloc_new _ _ _ _
            go_wp2_with fail
            refine (O2.out _ _ hT6).mono ?_
            rintro e w6 ⟨rfl, hq6⟩
            have hQ6 : Quiet wp w6 := (((Upd.refl none' wp).alloc _).thenQ hq5).thenQ hq6
            have hz : wp.heap.size < w5.heap.size := Nat.lt_of_lt_of_le (by simp) hq5.size
            have kx6 : ∀ i, w6.cell? ⟨wp.heap.size, i, none⟩ = #[Value.int .i64 v, .int .i64 c][i]? := fun i => by
              rw [hq6.cell hz id]; exact kx i
            have hz6 : wp.heap.size < w6.heap.size := Nat.lt_of_lt_of_le hz hq6.size
            have hcj6 : ∀ i (hi : i < M.length), w6.cell? ⟨g, off + i * 2, none⟩ = some (.int .i64 M[i].1) ∧ w6.cell? ⟨g, off + i * 2 + 1, none⟩ = some (.int .i64 M[i].2) := fun i hi => by
              rw [hQ6.cell hgw id, hQ6.cell hgw id, hq.cell hg id, hq.cell hg id]
              exact HC.out i hi
            have HC6 := Keep.mk hcj6
            clear hcj6 HC kx k0 k1
            have e3 : (v == c) = false := by simpa using f3
            by_cases hj0 : j = 0
            · have e4 : decide (0 < (j : Int)) = false := by simp; omega
              go_wp2_with fail
              go_quiet (fail)
              go_wp2_with fail
              go_loopw [13] (fun i wq => ∃ q : Nat, q ≤ j ∧ i = .int .i64 q ∧ Quiet w6 wq) (fun i _ => j - (intOf i).toNat)
              case atStart => exact ⟨0, by omega, rfl, (Upd.refl _ _).drewN _⟩
              case round =>
                obtain ⟨q, hq1, rfl, hqq⟩ := hrel
                have hgw6 : g < w6.heap.size := Nat.lt_of_lt_of_le hgw hQ6.size
                by_cases hlt2 : q < j
                · omega
                · go_wp2_with fail
                  go_roundw
                  case rel => exact ⟨j + 1, by omega, by go_num, (hq.thenQ hQ6).thenQ hqq⟩
                  case measure => simp [intOf]; omega
            · have e4 : decide (0 < (j : Int)) = true := by simp; omega
              have e4n : decide (0 < j) = true := by simp; omega
              have hp := (HC6.out (j - 1) (by omega)).1
              have hlt := (H4.out (j - 1) (by omega) (by omega)).1
              generalize M[j - 1].1 = v' at hp hlt
              have e5 : decide (v ≤ v') = false := by simp; simpa using hlt
              have e6 : IntKind.i64.wrap ((j : Int) - 1) = (j : Int) - 1 := IntWalk.i64_in _ (by omega)
              have e7 : ((j : Int) - 1).toNat = j - 1 := by omega
              have e8 : 0 ≤ (j : Int) - 1 := by omega
              go_wp2_with fail
              go_quiet (fail)
              go_wp2_with fail
              go_loopw [13] (fun i wq => ∃ q : Nat, q ≤ j ∧ i = .int .i64 q ∧ Quiet w6 wq) (fun i _ => j - (intOf i).toNat)
              case atStart => exact ⟨0, by omega, rfl, (Upd.refl _ _).drewN _⟩
              case round =>
                obtain ⟨q, hq1, rfl, hqq⟩ := hrel
                have hgw6 : g < w6.heap.size := Nat.lt_of_lt_of_le hgw hQ6.size
                by_cases hlt2 : q < j
                · obtain ⟨_, n1, n2, n3⟩ := H4.out q (by omega) hlt2
                  have d0 : wr.cell? ⟨g, off + q * 2, none⟩ = some (.int .i64 M[q].1) := by rw [hqq.cell hgw6 id]; exact (HC6.out q (by omega)).1
                  have d1 : wr.cell? ⟨g, off + q * 2 + 1, none⟩ = some (.int .i64 M[q].2) := by rw [hqq.cell hgw6 id]; exact (HC6.out q (by omega)).2
                  have kx7 : ∀ i, wr.cell? ⟨wp.heap.size, i, none⟩ = #[Value.int .i64 v, .int .i64 c][i]? := fun i => by rw [hqq.cell hz6 id]; exact kx6 i
                  generalize M[q] = y at *
                  have g1 : (y.2 == c) = false := by simpa using n1
                  have g2 : (y.2 == v) = false := by simpa using n2
                  have g3 : (y.1 == c) = false := by simpa using n3
                  have hqM : (q : Int) < (M.length : Int) := by omega
                  have hq0 : (0 : Int) ≤ (q : Int) := by omega
                  clear n1 n2 n3
                  go_wp2_with fail
                  go_quiet (fail)
                  go_wp2_with fail
                  go_roundw
                  case rel => exact ⟨q + 1, by omega, by go_num, hqq.drewN _⟩
                  case measure => simp [intOf]; omega
                · go_wp2_with fail
                  go_roundw
                  case rel => exact ⟨j + 1, by omega, by go_num, (hq.thenQ hQ6).thenQ hqq⟩
                  case measure => simp [intOf]; omega
          · go_wp2_with fail
            go_ret
            exact ⟨rfl, (hW3.thenQ hq).quiet⟩
end Go.Proofs.Ytnjdhijngioljaa.pairOne
