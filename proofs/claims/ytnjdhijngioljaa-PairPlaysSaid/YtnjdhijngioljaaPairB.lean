/- The table of pairs: all of them. -/
import Derived.Test.YtnjdhijngioljaaRows
import Derived.Test.YtnjdhijngioljaaPairA
import Derived.Deep.LoopGhost
import Derived.Test.YtnjdhijngioljaaSubG
import Derived.Test.YtnjdhijngioljaaShelf

namespace Go.Proofs.Ytnjdhijngioljaa
open Go.RowKit Go.Sub Go.ChangeMaps Go.Shelf

abbrev encP (p : Int × Int) : List Value := [.int .i64 p.1, .int .i64 p.2]
def vis (l : List (Int × (Int × Bool))) : List (Int × Int) := l.filterMap fun p => if p.2.2 then some (p.1, p.2.1) else none
theorem info43 : (Try.prog.info? 43).map (fun i => (i.zero, i.size, i.bytes)) = some (some (.agg #[.int .i64 0, .int .i64 0]), 2, 16) := by kernel_rfl

/-- what All hands out, as a list -/
structure AllOf (T : Tab) (L : List (Int × Int)) : Prop where
  perm : L.Perm (vis T.ends)
  rising : L.Pairwise fun x y => x.1 ≤ y.1

/-- what the closure compares -/
def cmpV (x y : Int × Int) : Int := if x.1 < y.1 then -1 else if y.1 < x.1 then 1 else 0
theorem ltOf_cmpV (x y : Int × Int) : ltOf cmpV x y = decide (x.1 < y.1) := by
  unfold ltOf cmpV
  by_cases h1 : x.1 < y.1
  · simp [h1]
  · by_cases h2 : y.1 < x.1
    · simp [h1, h2]
    · simp [h1, h2]
theorem swo_cmpV : Sort.SWO (ltOf cmpV) where
  irrefl := fun x => by rw [ltOf_cmpV]; simp
  trans := fun x y z h1 h2 => by rw [ltOf_cmpV] at *; simp only [decide_eq_true_eq] at *; omega
  ntrans := fun x y z h1 h2 => by rw [ltOf_cmpV] at *; simp only [decide_eq_false_iff_not] at *; omega
set_option maxHeartbeats 1000000 in
theorem less_c (x y : Int × Int) (w : World) : Calls Try.prog 24 #[.agg #[.int .i64 x.1, .int .i64 x.2], .agg #[.int .i64 y.1, .int .i64 y.2]] w fun e w' => e = .returned (.int .i64 (cmpV x y)) ∧ ∃ q os', w' = Sort.grow (w.drewN q) os' := by
  by_cases h1 : x.1 < y.1
  · have e1 : cmpV x y = -1 := by simp [cmpV, h1]
    rw [e1]
    go_enter Try.func24, Try.ntmps24
    go_wp2
    go_ret
    exact ⟨rfl, 0, _, by rw [Sort.alloc_eq_grow, Sort.alloc_eq_grow, Sort.grow_grow]; rfl⟩
  · by_cases h2 : y.1 < x.1
    · have e1 : cmpV x y = 1 := by simp [cmpV, h1, h2]
      rw [e1]
      go_enter Try.func24, Try.ntmps24
      go_wp2
      go_ret
      exact ⟨rfl, 0, _, by rw [Sort.alloc_eq_grow, Sort.alloc_eq_grow, Sort.grow_grow]; rfl⟩
    · have e1 : cmpV x y = 0 := by simp [cmpV, h1, h2]
      rw [e1]
      go_enter Try.func24, Try.ntmps24
      go_wp2
      go_ret
      exact ⟨rfl, 0, _, by rw [Sort.alloc_eq_grow, Sort.alloc_eq_grow, Sort.grow_grow]; rfl⟩
theorem cmpLays (blk off size : Nat) (w : World) : CmpLays Try.prog 24 #[] encP 2 cmpV blk off size w :=
  fun _ _ _ _ x y => less_c x y _
/-- what the sort does of a row of pairs -/
theorem sort_c {v : Value} {L : List (Int × Int)} {w : World} {F : Fp} (h : (row 43 2 encP v L).on w F) (hbig : L.length ≤ 1000000) :
    Calls Try.prog 23 #[v, .func (.func 24) #[] #[]] w (Ret (.tuple #[]) fun w' => ∃ L', (row 43 2 encP v L').on w' F ∧ Upd F F w w' ∧ L'.Perm L ∧ L'.Pairwise fun x y => x.1 ≤ y.1) := by
  have hcopy := h
  obtain ⟨⟨h1, h2⟩, hF⟩ := hcopy
  have eg : ∀ args w, (callFunc 24 args).run Try.prog w = .ok (.enter 24 args) w := enters_of Try.func24 (by kernel_rfl) rfl
  rcases h2 with ⟨hv, hL⟩ | ⟨g, cap, cur, hv, hb, hg, hn, hc, hs, ht⟩
  · have e : L = [] := List.eq_nil_of_length_eq_zero hL
    subst e
    subst hv
    have hs := AnyF.slices_SortFunc_none Try.sortPair none 0 (.func (.func 24) #[] #[]) w
    exact hs.mono fun e w' ⟨he, hw⟩ => ⟨he, [], by rw [hw]; exact h, by rw [hw]; exact Upd.refl _ _, List.Perm.refl _, List.Pairwise.nil⟩
  · subst hv
    have hsort := AnyQ.slices_SortFunc Try.sortPair 2 Try.isAgg43 Try.sizeOf43 encP (fun _ => rfl) (fun x u hu => by simp at hu; rcases hu with rfl | rfl <;> rfl) cmpV swo_cmpV 24 #[] g 0 cap L.toArray w eg (cmpLays _ _ _ w) (row_holds (enc := encP) (fun _ => rfl) h) (lt_of_heap hg) (by simp; omega)
    refine hsort.mono fun e w' ⟨he, d', n, os, hp, hso, hw⟩ => ⟨he, d'.toList, ?_⟩
    have hp' := perm_of_in hp
    have hr := row_sorted (enc := encP) (n := n) (os := os) (fun _ => rfl) h (by simpa using hp'.2)
    have hl : d'.toList.length = L.length := by simpa using hp'.2
    rw [hl] at hr
    rw [hw]
    refine ⟨hr.1, hr.2, by simpa using hp'.1, (sorted_of_in hp'.2.symm hso).imp fun {x y} hxy => ?_⟩
    rw [ltOf_cmpV, decide_eq_false_iff_not] at hxy
    omega

set_option maxHeartbeats 1000000 in
theorem all_c {b : Nat} {T : Tab} {w : World} {F : Fp} (hT : (pairT b T).on w F) (hbig : T.ends.length ≤ 1000000) :
    Calls Try.prog 21 #[.pointer (some ⟨b, 0, none⟩)] w fun e w' => ∃ v, Ret v (fun w' => ∃ F' L, (row 43 2 encP v L).on w' F' ∧ Upd none' F' w w' ∧ AllOf T L) e w' := by
  obtain ⟨m1, m2, o1, o2, ⟨hb, h1, h2, n1, n2, n3, ho1, ho2, hv⟩, hF⟩ := hT
  obtain ⟨hc, hf, hlt⟩ := blk_facts hb
  have l1 := lt_of_heap h1
  obtain ⟨it0, hI0, hrg⟩ := run_range_of (P := Try.prog) Try.underlying48 ho1 m1
  obtain ⟨i0, hi, hz0, hz1, hz2⟩ := info_parts info43
  go_enter Try.func21, Try.ntmps21
  go_wp2_with fail
  go_loopg [3] T.ends.length (fun k v wr => ∃ it left done Fr, k = left.length ∧ IterObj encI evEnd o1 m1 it left ∧ wr.obj w.heap.size = some it ∧ (row 43 2 encP v (vis done)).on wr Fr ∧ ¬ Fr w.heap.size ∧ Upd none' (fun k => Fr k ∨ k = w.heap.size) w wr ∧ (done ++ left).Perm T.ends)
  case atStart =>
    refine ⟨it0, T.ends, [], none', rfl, hI0, ?_, ?_, ?_, ?_, List.Perm.refl _⟩
    · go_simp
    · exact Asrt.alloc (row_nil w 43 2 encP) _
    · exact id
    · exact ((Upd.refl none' w).alloc _).re fun k hk => hk.imp_right (fun h => by omega)
  case round =>
    obtain ⟨it, left, done, Fr, rfl, hI, hr, hrow, hnr, hU, hP⟩ := hrel
    have hm : wr.obj m1 = some o1 := by rw [hU.same m1 l1 id]; exact h1
    rcases run_next_of (P := Try.prog) hI wr hr hm 0 with ⟨rfl, hn⟩ | ⟨p1, p, p2, n, it', rfl, hn, hI', he⟩
    · have hlen : (vis done).length ≤ 1000000 := by
        have e1 : (vis done).length ≤ done.length := List.length_filterMap_le _ _
        have e2 := hP.length_eq
        simp only [List.length_append, List.length_nil] at e2
        omega
      have HP := Keep.mk hP
      clear hP
      go_wp2_with fail
      refine (sort_c hrow hlen).mono ?_
      rintro e w' ⟨rfl, L, hL, hU2, hp, hs⟩
      go_wp2_with fail
      go_ret
      refine ⟨u3, rfl, Fr, L, hL, (hU.trans (hU2.beside _)).re fun k hk => ?_, ?_, hs⟩
      · exact hU.fp k (.inl hk)
      · have := HP.out
        rw [List.append_nil] at this
        exact hp.trans (this.filterMap _)
    · have lr := lt_of_heap hr
      have nr : m1 ≠ w.heap.size := by omega
      have hlen : (vis done).length ≤ 1000000 := by
        have e1 : (vis done).length ≤ done.length := List.length_filterMap_le _ _
        have e2 := hP.length_eq
        simp only [List.length_append] at e2
        omega
      cases hvis : p.2.2
      · go_wp2_with fail
        go_roundg (p1 ++ p2).length
        case measure => simp
        case rel =>
          refine ⟨it', p1 ++ p2, done ++ [p], Fr, rfl, hI', ?_, ?_, hnr, ?_, ?_⟩
          · go_simp
          · have e1 : vis (done ++ [p]) = vis done := by simp [vis, hvis]
            rw [e1]
            repeat (first | exact hrow | apply Asrt.alloc | apply Asrt.drewN | refine Asrt.setBlock ?_ hnr _)
          · repeat (first | exact hU | apply Upd.alloc | apply Upd.drewN | refine Upd.setBlock ?_ (.inr (Nat.le_refl _)) _)
          · exact (by simpa using List.Perm.append_left done List.perm_middle.symm : (done ++ [p] ++ (p1 ++ p2)).Perm (done ++ (p1 ++ p :: p2))).trans hP
      · go_wp2_with (at_builtin; refine at_append_row encP 2 16 rfl (.tmp 18) (.tmp 23) 36 rfl 43 i0 _ Try.underlying36 hi hz0 hz1 hz2 rfl (by decide) u3 (vis done) (p.1, p.2.1) Fr rfl ?hrow ⟨wr.heap.size + 1, 0, none⟩ 1 rfl rfl ?hnews ?hone ?h63 ?hby ?next)
        case hrow => repeat (first | exact hrow | apply Asrt.alloc | apply Asrt.drewN | refine Asrt.setBlock ?_ hnr _)
        case hnews =>
          intro j u hj
          match j, hj with
          | 0, hj => simp at hj; subst hj; go_simp
          | 1, hj => simp at hj; subst hj; go_simp
        case hone => intro u hu; simp at hu; rcases hu with rfl | rfl <;> rfl
        case h63 => unfold maxLen; omega
        case hby => omega
        case next =>
          intro v' w' F' hrow' hU'
          go_wp2_with fail
          go_roundg (p1 ++ p2).length
          case measure => simp
          case rel =>
            refine ⟨it', p1 ++ p2, done ++ [p], F', rfl, hI', ?_, ?_, ?_, ?_, ?_⟩
            · rw [hU'.same w.heap.size (by go_simp) hnr]
              go_simp
            · have e1 : vis (done ++ [p]) = vis done ++ [(p.1, p.2.1)] := by simp [vis, hvis]
              rw [e1]
              exact hrow'
            · intro hf
              rcases hU'.fp _ hf with h | h
              · exact hnr h
              · simp [size_setBlock] at h
                omega
            · refine Upd.trans (F' := fun k => Fr k ∨ k = w.heap.size) ?_ (hU'.beside _)
              repeat (first | exact hU | apply Upd.alloc | apply Upd.drewN | refine Upd.setBlock ?_ (.inr (Nat.le_refl _)) _)
            · exact (by simpa using List.Perm.append_left done List.perm_middle.symm : (done ++ [p] ++ (p1 ++ p2)).Perm (done ++ (p1 ++ p :: p2))).trans hP
end Go.Proofs.Ytnjdhijngioljaa
