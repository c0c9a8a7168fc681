/- PairOnce: its walk. -/
import Derived.Test.YtnjdhijngioljaaPairD
import Derived.Test.YtnjdhijngioljaaPairG
namespace Go.Proofs.Ytnjdhijngioljaa.pairOnce
open Go.RowKit Go.Sub Go.ChangeMaps
theorem info3 : (Try.prog.info? 3).map (fun i => (i.zero, i.size, i.bytes)) = some (some (.int .i64 0), 1, 8) := by kernel_rfl
/-- what holds at the head of a round -/
structure At (W : World) (b : Nat) (v : Value) (k : Nat) (w : World) (T : Tab) (E : List Int) (F : Fp) : Prop where
  mem : (Asrt.stars [row 3 1 encI1 v E, pairT b T]).on w F
  upd : Upd none' F W w
  inv : Inv T
  was : ∀ x, T.was x = decide (x ∈ E)
  small : E.length ≤ 2 * k
theorem code (T : Tab) (v c : Int) : (T.join v c).2 = if (!(decide (0 < v) && decide (0 < c) && (v != c))) = true then 1 else if (T.was v || T.was c) = true then 4 else 0 := by
  rw [join_code]
  by_cases h1 : v < 1
  · simp [h1, show ¬ 0 < v by omega]
  · by_cases h2 : c < 1
    · simp [h2, show ¬ 0 < c by omega]
    · by_cases h3 : v = c
      · simp [h3]
      · simp [h1, h2, h3, show 0 < v by omega, show 0 < c by omega]
set_option maxHeartbeats 4000000 in
set_option maxRecDepth 100000 in
theorem walk {W : World} (v : Value) (L : List (Int × Int × Int)) (hL : Reads W 3 encOp v L) (_ : L.length ≤ maxLen) : Calls Try.prog 5 #[v] W (Ret (.bool true) fun W' => Quiet W W') := by
  obtain ⟨a, cap, rfl, ha⟩ := hL
  obtain ⟨i3, hi, hz0, hz1, hz2⟩ := info_parts info3
  by_cases hbig : 300 < L.length
  · go_enter Try.func5, Try.ntmps5
    go_wp2_with fail
    refine (head_c _).mono ?_
    rintro e w1 ⟨rfl, u1⟩
    go_wp2_with fail
    refine (new_c _).mono ?_
    rintro e w2 ⟨b, rfl, F, t, u2⟩
    go_wp2_with fail
    go_ret
    exact ⟨rfl, (Upd.trans u1 u2).quiet⟩
  · have e0 : decide (300 < (L.length : Int)) = false := by simp; omega
    have hsz : L.length ≤ 300 := by omega
    clear hbig
    go_enter Try.func5, Try.ntmps5
    go_wp2_with fail
    refine (head_c _).mono ?_
    rintro e w1 ⟨rfl, u1⟩
    go_wp2_with fail
    refine (new_c _).mono ?_
    rintro e w2 ⟨b, rfl, F, t, u2⟩
    go_wp2_with fail
    go_loopw [5, 6] (fun v i wr => ∃ k T E F, k ≤ L.length ∧ i = .int .i64 (k : Nat) ∧ At W b v k wr T E F) (fun _ i _ => L.length - (intOf i).toNat)
    case atStart =>
      exact ⟨0, ⟨[], []⟩, [], F, by omega, rfl, ⟨Asrt.stars_emp (row_nil w2 3 1 encI1) (Asrt.stars_one t), Upd.trans u1 u2, inv_nil, by simp [Tab.was, mget], by simp⟩⟩
    case round =>
      obtain ⟨k, T, E, F, hk, rfl, hA⟩ := hrel
      by_cases hlt : k < L.length
      · obtain ⟨g, off, rfl, hg, hc⟩ := ha k L[k] (List.getElem?_eq_getElem hlt)
        generalize hx : L[k] = x at *
        obtain ⟨x0, x1, x2⟩ := x
        have k0 : wr.cell? ⟨g, off + k * 3, none⟩ = some (.int .i64 x0) := by rw [hA.upd.cell hg id]; exact hc 0 _ rfl
        have k1 : wr.cell? ⟨g, off + k * 3 + 1, none⟩ = some (.int .i64 x1) := by rw [hA.upd.cell hg id]; exact hc 1 _ rfl
        have k2 : wr.cell? ⟨g, off + k * 3 + 2, none⟩ = some (.int .i64 x2) := by rw [hA.upd.cell hg id]; exact hc 2 _ rfl
        have q5 : E.length ≤ 1000000 := by have := hA.small; omega
        clear hx ha
        obtain ⟨Fi, hT, hsub, hgo⟩ := Asrt.stars_upd _ 1 _ rfl hA.mem
        obtain ⟨Fr, hr, hsubr⟩ := Asrt.stars_get hA.mem 0 rfl
        have hn : ¬ Fi wr.heap.size := Asrt.not_new hT (Nat.le_refl _)
        by_cases hx0 : x0 = 2
        · subst hx0
          have h3 : (Tab.other (T.part x1) x1).2 = false := by
            cases hget : mget T.ends x1 with
            | none => simp [Tab.other, Tab.part, hget]
            | some p => obtain ⟨o, s⟩ := p; simp [Tab.other, part_get hA.inv hget]
          cases hq : (T.other x1).2
          · go_wp2_with fail
            refine (part_c (Asrt.alloc hT _) x1).mono ?_
            rintro e w3 ⟨rfl, Fi', hT', hu⟩
            obtain ⟨F', hS, hU⟩ := hgo w3 Fi' _ hT' (((Upd.refl Fi wr).alloc _).trans hu)
            have kx : ∀ i, w3.cell? ⟨wr.heap.size, i, none⟩ = #[Value.int .i64 2, .int .i64 x1, .int .i64 x2][i]? := fun i => by
              rw [hu.cell (by simp) hn]; exact World.cell?_alloc_new _ _ _ _
            go_wp2_with fail
            refine (other_c hT' x1).mono ?_
            rintro e w4 ⟨rfl, hq4⟩
            obtain ⟨hS4, hU4⟩ := Asrt.stars_same hS hq4
            go_wp2_with fail
            go_roundw
            case rel =>
              have := hA.small
              exact ⟨k + 1, T.part x1, E, F', by omega, by go_num, ⟨hS4, (hA.upd.trans hU).trans hU4, inv_part hA.inv x1, fun x => by rw [part_was]; exact hA.was x, by omega⟩⟩
            case measure => simp [intOf]; omega
          · have hw : decide (x1 ∈ E) = true := by
              rw [← hA.was]
              cases hget : mget T.ends x1 with
              | none => simp [Tab.other, hget] at hq
              | some p => exact hA.inv.ever x1 p hget
            have HW := Keep.mk hw
            clear hw
            go_wp2_with fail
            refine (part_c (Asrt.alloc hT _) x1).mono ?_
            rintro e w3 ⟨rfl, Fi', hT', hu⟩
            obtain ⟨F', hS, hU⟩ := hgo w3 Fi' _ hT' (((Upd.refl Fi wr).alloc _).trans hu)
            have kx : ∀ i, w3.cell? ⟨wr.heap.size, i, none⟩ = #[Value.int .i64 2, .int .i64 x1, .int .i64 x2][i]? := fun i => by
              rw [hu.cell (by simp) hn]; exact World.cell?_alloc_new _ _ _ _
            have hn3 : wr.heap.size < w3.heap.size := Nat.lt_of_lt_of_le (by simp) hu.size
            go_wp2_with fail
            refine (other_c hT' x1).mono ?_
            rintro e w4 ⟨rfl, hq4⟩
            obtain ⟨hS4, hU4⟩ := Asrt.stars_same hS hq4
            have kx4 : ∀ i, w4.cell? ⟨wr.heap.size, i, none⟩ = #[Value.int .i64 2, .int .i64 x1, .int .i64 x2][i]? := fun i => by
              rw [hq4.cell hn3 id, kx i]
            obtain ⟨Fr4, hr4, _⟩ := Asrt.stars_get hS4 0 rfl
            have hh := has_c (row_reads (enc := encI1) (fun _ => rfl) hr4).1 x1 q5
            rw [HW.out] at hh
            go_wp2_with fail
            refine hh.mono ?_
            rintro e w5 ⟨rfl, rfl⟩
            clear hh
            go_wp2_with fail
            go_roundw
            case rel =>
              have := hA.small
              exact ⟨k + 1, T.part x1, E, F', by omega, by go_num, ⟨hS4, (hA.upd.trans hU).trans hU4, inv_part hA.inv x1, fun x => by rw [part_was]; exact hA.was x, by omega⟩⟩
            case measure => simp [intOf]; omega
        · have e1 : (x0 == 2) = false := by simp [hx0]
          have hcode := code T x1 x2
          have hjn : (T.join x1 x2).2 ≠ 0 → (T.join x1 x2).1 = T := join_no
          have hjy : (T.join x1 x2).2 = 0 → Inv (T.join x1 x2).1 ∧ ∀ x, (T.join x1 x2).1.was x = decide (x ∈ E ++ [x1, x2]) := fun h => ⟨inv_join hA.inv x1 x2, fun x => by rw [join_was hA.inv h, hA.was]; simp [Bool.or_assoc]⟩
          have hjc := fun (w : World) (F : Fp) (h : (pairT b T).on w F) => join_c h x1 x2
          have hs1 := fun (w : World) (F : Fp) (h : (row 3 1 encI1 u5 E).on w F) => has_c (row_reads (enc := encI1) (fun _ => rfl) h).1 x1 q5
          have hs2 := fun (w : World) (F : Fp) (h : (row 3 1 encI1 u5 E).on w F) => has_c (row_reads (enc := encI1) (fun _ => rfl) h).1 x2 q5
          rw [hA.was, hA.was] at hcode
          generalize (T.join x1 x2).1 = T' at hjn hjy hjc
          generalize (T.join x1 x2).2 = r at hcode hjn hjy hjc
          generalize decide (x1 ∈ E) = b4 at hcode hs1
          generalize decide (x2 ∈ E) = b5 at hcode hs2
          generalize f1 : decide (0 < x1) = b1 at hcode
          generalize f2 : decide (0 < x2) = b2 at hcode
          generalize f3 : (x1 != x2) = b3 at hcode
          have HC := Keep.mk hcode
          have JC := Keep.mk hjc
          have S1 := Keep.mk hs1
          have S2 := Keep.mk hs2
          clear hjc hs1 hs2 hcode
          go_wp2_with fail
          refine (JC.out _ _ (Asrt.alloc hT _)).mono ?_
          rintro e w3 ⟨rfl, Fi', hT', hu⟩
          obtain ⟨F', hS, hU⟩ := hgo w3 Fi' _ hT' (((Upd.refl Fi wr).alloc _).trans hu)
          have kx : ∀ i, w3.cell? ⟨wr.heap.size, i, none⟩ = #[Value.int .i64 x0, .int .i64 x1, .int .i64 x2][i]? := fun i => by
            rw [hu.cell (by simp) hn]; exact World.cell?_alloc_new _ _ _ _
          obtain ⟨Fr3, hr3, _, hgo3⟩ := Asrt.stars_upd _ 0 _ rfl hS
          have hU3 := hA.upd.trans hU
          go_wp2_with fail
          refine (S1.out _ _ hr3).mono ?_
          rintro e w4 ⟨rfl, rfl⟩
          cases b4
          · go_wp2_with fail
            refine (S2.out _ _ hr3).mono ?_
            rintro e w4 ⟨rfl, rfl⟩
            by_cases hok : b5 = false ∧ b1 = true ∧ b2 = true ∧ b3 = true
            · obtain ⟨rfl, rfl, rfl, rfl⟩ := hok
              have hcode := HC.out
              clear HC
              simp at hcode
              subst hcode
              obtain ⟨hi', hw'⟩ := hjy rfl
              have HW := Keep.mk hw'
              clear hw' hjn hjy
              have hsm := hA.small
              go_wp2_with (at_builtin; refine at_append_rows encI1 1 8 rfl (.tmp 118) (.tmp 123) 38 rfl 3 i3 _ Try.underlying38 hi hz0 hz1 hz2 rfl (by decide) u5 E [x1, x2] 2 Fr3 rfl (Asrt.alloc hr3 _) ⟨w3.heap.size, 0, none⟩ 2 rfl rfl (fun _ => rfl) (cells_new w3 ([x1, x2].flatMap encI1) _) one_cell_int (by unfold maxLen; simp; omega) (by simp; omega) ?next)
              case next =>
                intro v' w4 Fr' hr4 hu4
                obtain ⟨F4, hS4, hU4⟩ := hgo3 w4 Fr' _ hr4 (((Upd.refl Fr3 w3).alloc _).trans hu4)
                go_wp2_with fail
                go_roundw
                case rel => exact ⟨k + 1, T', E ++ [x1, x2], F4, by omega, by go_num, ⟨hS4, hU3.trans hU4, hi', HW.out, by simp; omega⟩⟩
                case measure => simp [intOf]; omega
            · have hne : r ≠ 0 := by
                rw [HC.out]
                cases b5 <;> cases b1 <;> cases b2 <;> cases b3 <;> simp at hok ⊢
              have hsame := Keep.mk (hjn hne)
              clear hjn hjy hne
              cases b5 <;> cases b1 <;> cases b2 <;> cases b3 <;> first
                | (exact absurd ⟨rfl, rfl, rfl, rfl⟩ hok)
                | (clear hok
                   have hcode := HC.out
                   clear HC
                   simp at hcode
                   subst hcode
                   go_wp2_with fail
                   go_roundw
                   case rel =>
                     have := hA.small
                     rw [hsame.out] at hS
                     exact ⟨k + 1, T, E, F', by omega, by go_num, ⟨hS, hU3, hA.inv, hA.was, by omega⟩⟩
                   case measure => simp [intOf]; omega)
          · have hne : r ≠ 0 := by
              rw [HC.out]
              cases b1 <;> cases b2 <;> cases b3 <;> simp
            have hsame := Keep.mk (hjn hne)
            clear hjn hjy hne
            cases b1 <;> cases b2 <;> cases b3 <;>
              (have hcode := HC.out
               clear HC
               simp at hcode
               subst hcode
               go_wp2_with fail
               go_roundw
               case rel =>
                 have := hA.small
                 rw [hsame.out] at hS
                 exact ⟨k + 1, T, E, F', by omega, by go_num, ⟨hS, hU3, hA.inv, hA.was, by omega⟩⟩
               case measure => simp [intOf]; omega)
      · obtain ⟨F0, hT, _⟩ := Asrt.stars_get hA.mem 1 rfl
        obtain ⟨F1, hr, _⟩ := Asrt.stars_get hA.mem 0 rfl
        obtain ⟨aE, cE, rfl, hE⟩ := (row_reads (enc := encI1) (fun _ => rfl) hr).1
        have q5 : E.length ≤ 1000000 := by have := hA.small; omega
        have HW : ∀ x, x ∈ E → T.was x = true := fun x hx => by rw [hA.was]; simpa using hx
        have KW := Keep.mk HW
        clear HW
        obtain ⟨wo, rfl⟩ : ∃ wo, wo = wr := ⟨_, rfl⟩
        go_wp2_with fail
        go_loop [15] (fun i => ∃ j : Nat, j ≤ E.length ∧ i = .int .i64 j) (fun i => E.length - (intOf i).toNat)
        case atStart => exact ⟨0, by omega, rfl⟩
        case round =>
          obtain ⟨j, hj, rfl⟩ := hrel
          by_cases hj2 : j < E.length
          · obtain ⟨g, off, rfl, hg, hc⟩ := hE j E[j] (List.getElem?_eq_getElem hj2)
            have hw := was_c hT E[j]
            rw [KW.out _ (List.getElem_mem hj2)] at hw
            have c0 : wo.cell? ⟨g, off + j, none⟩ = some (.int .i64 E[j]) := by simpa using hc 0 _ rfl
            generalize E[j] = y at *
            clear hc hE
            go_wp2_with fail
            refine hw.mono ?_
            rintro e w5 ⟨rfl, rfl⟩
            clear hw
            go_wp2_with fail
            go_round
            case rel => exact ⟨j + 1, by omega, by go_num⟩
            case measure => simp [intOf]; omega
          · go_wp2_with fail
            go_ret
            exact ⟨rfl, hA.upd.quiet⟩
end Go.Proofs.Ytnjdhijngioljaa.pairOnce
