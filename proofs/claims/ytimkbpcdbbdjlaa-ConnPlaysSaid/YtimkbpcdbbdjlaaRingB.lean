/- The ring of bytes: what is taken. -/
import Derived.Test.YtimkbpcdbbdjlaaRingA
namespace Go.Proofs.Ytimkbpcdbbdjlaa
open Go.RowKit Go.Sub Go.ChangeMaps
set_option maxHeartbeats 2000000 in
set_option maxRecDepth 100000 in
theorem first_c {r N : Nat} {B : List UInt8} {w : World} {F : Fp} (hR : (ringT r N B).on w F) (n : Nat) (hn : n ≤ B.length) :
    Calls Try.prog 84 #[.pointer (some ⟨r, 0, none⟩), .int .i64 n] w fun e w' => ∃ v, Ret v (fun w' => ∃ Fv, (bytesT v (B.take n)).on w' Fv ∧ Upd none' Fv w w') e w' := by
  obtain ⟨⟨row, at', R⟩, ⟨hok, hN⟩, hS⟩ := hR
  obtain ⟨hc, hfz, hlr⟩ := Asrt.blk_of hS 0 rfl
  obtain ⟨hrc, _, hlrow⟩ := Asrt.blk_of hS 1 rfl
  simp only at hok hc hfz hlr hS hrc hlrow
  have hfit := hok.fit
  have hat := hok.at'
  have hc0 := hc 0
  have hc1 := hc 1
  simp only [List.getElem?_toArray, List.getElem?_cons_zero, List.getElem?_cons_succ] at hc0 hc1 hrc
  have hRl := hok.len
  have hw : wrapi N at' = at' := by unfold wrapi; rw [if_pos hat]
  obtain ⟨f, hf⟩ : ∃ f, f = min n (N - at') := ⟨_, rfl⟩
  have hview := ring_first hok hn
  have PC := fun m => parts_c (r := r) (row := row) (w := w.drewN m) (N := N) (by omega) hN hc0 hlr at' n (by omega) (by omega)
  rw [hw, ← hf] at PC
  rw [← hf] at hview
  have hfn : f ≤ n := by omega
  have hmk := run_make_bytes (P := Try.prog) Try.underlying22 infoB n (by omega)
  obtain ⟨x1, hx1⟩ : ∃ x1, x1 = (R.drop at').take f := ⟨_, rfl⟩
  obtain ⟨x2, hx2⟩ : ∃ x2, x2 = R.take (n - f) := ⟨_, rfl⟩
  have l1 : x1.length = f := by rw [hx1]; simp; omega
  have l2 : x2.length = n - f := by rw [hx2]; simp; omega
  rw [← hx1, ← hx2] at hview
  have s1 : ∀ j u, (x1.map bv)[j]? = some u → w.cell? ⟨row, at' + j, none⟩ = some u := fun j u hj => by
    have hj' : j < f := by
      rcases Nat.lt_or_ge j f with h | h
      · exact h
      · rw [List.getElem?_eq_none (by simp; omega)] at hj; cases hj
    rw [hrc, ← hj, hx1, List.getElem?_map, List.getElem?_map, List.getElem?_take_of_lt hj', List.getElem?_drop]
  have s2 : ∀ j u, (x2.map bv)[j]? = some u → w.cell? ⟨row, 0 + j, none⟩ = some u := fun j u hj => by
    have hj' : j < n - f := by
      rcases Nat.lt_or_ge j (n - f) with h | h
      · exact h
      · rw [List.getElem?_eq_none (by simp; omega)] at hj; cases hj
    rw [hrc, ← hj, hx2, List.getElem?_map, List.getElem?_map, List.getElem?_take_of_lt hj', Nat.zero_add]
  have addr : ∀ (o j : Nat), (⟨row, o, none⟩ : Addr).add j = ⟨row, o + j, none⟩ := fun o j => by
    unfold Addr.add
    split
    · rename_i h; subst h; rfl
    · rfl
  have CUT := run_cut (P := Try.prog) Try.underlying22 sizeB (some ⟨w.heap.size, 0, none⟩) n n f hfn
  have hz : ((zeros n).map bv).length = n := by rw [List.length_map, zeros_len]
  obtain ⟨y1, hy1⟩ : ∃ y1 : List Value, y1 = x1.map bv := ⟨_, rfl⟩
  obtain ⟨y2, hy2⟩ : ∃ y2 : List Value, y2 = x2.map bv := ⟨_, rfl⟩
  rw [← hy1] at s1
  rw [← hy2] at s2
  have l3 : y1.length = f := by rw [hy1, List.length_map, l1]
  have l4 : y2.length = n - f := by rw [hy2, List.length_map, l2]
  have HY1 := Keep.mk hy1
  have HY2 := Keep.mk hy2
  have HL3 := Keep.mk l3
  have HL4 := Keep.mk l4
  have S1 := Keep.mk s1
  have S2 := Keep.mk s2
  have AD := Keep.mk addr
  have HL1 := Keep.mk l1
  have HL2 := Keep.mk l2
  have HV := Keep.mk hview
  have HZ := Keep.mk hz
  clear hx1 hx2 hf hview s1 s2 addr l1 l2 hc hrc hw hz hy1 hy2 l3 l4
  go_enter Try.func84, Try.ntmps84
  go_wp2_with fail
  refine (PC 0).mono ?_
  rintro e w1 ⟨rfl, m, rfl⟩
  rw [World.drewN_zero]
  obtain ⟨F1, h1, u1⟩ := new_blk (l := []) (w := w) (F := none') rfl (.cells ((zeros n).map bv).toArray 5 (0, 0))
  obtain ⟨Fo, ho, _⟩ := Asrt.stars_get h1 0 rfl
  have ho : (Asrt.blk w.heap.size (.cells ((zeros n).map bv).toArray 5 (0, 0))).on ((w.alloc (.cells ((zeros n).map bv).toArray 5)).drewN m) Fo := Asrt.drewN ho m
  go_wp2_with (refine at_copy rfl (.tmp 21) (.tmp 22) 22 22 rfl 5 Try.underlying22 sizeB _ _ _ _ _ _ rfl rfl w.heap.size 0 ((zeros n).map bv) 5 Fo ho y1 ?hn ?hpos ?hfit ?hone ?next)
  case hn => rw [HL3.out]; exact (Nat.min_eq_left (by omega)).symm
  case hpos =>
    intro h0
    have hs : ∀ j u, y1[j]? = some u → ((w.alloc (.cells ((zeros n).map bv).toArray 5)).drewN m).cell? ((⟨row, at', none⟩ : Addr).add j) = some u := fun j u hj => by
      rw [AD.out]
      exact (((Upd.refl none' w).alloc _).drewN m |>.cell hlrow id).trans (S1.out j u hj)
    have hs' := hs
    simp only [AD.out] at hs'
    first | exact ⟨rfl, _, rfl, hs⟩ | exact ⟨_, rfl, hs⟩ | exact hs | exact hs'
  case hfit => rw [HZ.out, HL3.out]; omega
  case hone => rw [HY1.out]; exact bv_one _
  case next =>
    intro w2 ho2 u2
    rw [HL3.out]
    have U2 := ((((Upd.refl none' w).alloc (.cells ((zeros n).map bv).toArray 5)).drewN m).re (F'' := Fo) fun k hk => .inr (by rw [ho.2] at hk; rw [hk]; exact Nat.le_refl _)).trans u2
    rw [HY1.out, splice_map] at ho2
    go_wp2_with (refine at_copy rfl (.tmp 24) (.tmp 25) 22 22 rfl 5 Try.underlying22 sizeB _ _ _ _ _ _ rfl rfl w.heap.size f ((splice (zeros n) 0 x1).map bv) 5 Fo ho2 y2 ?hn2 ?hpos2 ?hfit2 ?hone2 ?next2)
    case hn2 => rw [HL4.out]; exact (Nat.min_self _).symm
    case hpos2 =>
      intro h0
      rw [HL4.out] at h0
      have hs : ∀ j u, y2[j]? = some u → w2.cell? ((⟨row, 0, none⟩ : Addr).add j) = some u := fun j u hj => by
        rw [AD.out]
        exact (U2.cell hlrow id).trans (S2.out j u hj)
      have hcut : cutAt (some ⟨w.heap.size, 0, none⟩) n f = some ⟨w.heap.size, f, none⟩ := by
        rw [cutAt, if_neg (by omega), Option.map_some]
        unfold Addr.add
        split
        · rename_i h; subst h; rfl
        · simp
      have hs' := hs
      simp only [AD.out] at hs'
      first | exact ⟨hcut, _, rfl, hs⟩ | exact ⟨_, rfl, hs⟩ | exact hs | exact hs' | exact ⟨hcut, hs⟩ | exact ⟨hcut, hs'⟩
    case hfit2 => rw [List.length_map, length_splice _ _ _ (by rw [zeros_len, HL1.out]; omega), zeros_len, HL4.out]; omega
    case hone2 => rw [HY2.out]; exact bv_one _
    case next2 =>
      intro w3 ho3 u3
      rw [HL4.out]
      go_wp2_with fail
      go_returns
      rw [HY2.out, splice_map] at ho3
      have hfin : splice (splice (zeros n) 0 x1) f x2 = B.take n := by
        rw [← HV.out]
        have a1 := HL1.out
        have a2 := HL2.out
        have a3 := zeros_len n
        apply List.ext_getElem?
        intro j
        rw [splice_get _ _ _ (by rw [length_splice _ _ _ (by omega)]; omega), splice_get _ _ _ (by omega)]
        by_cases c1 : j < f
        · rw [if_pos c1, if_neg (by omega), if_pos (by omega), List.getElem?_append_left (by omega)]; rfl
        · rw [if_neg c1, List.getElem?_append_right (by omega), a1]
          by_cases c2 : j < f + x2.length
          · rw [if_pos c2]
          · rw [if_neg c2, if_neg (by omega), if_neg (by omega), List.getElem?_eq_none (by omega), List.getElem?_eq_none (by omega)]
      rw [hfin] at ho3
      have hlen : (B.take n).length = n := by simp; omega
      obtain ⟨oc, _, ol⟩ := blk_facts ho3.1
      refine ⟨.slice (some ⟨w.heap.size, 0, none⟩) n n, rfl, fun k => B.take n ≠ [] ∧ k = w.heap.size, ⟨⟨some ⟨w.heap.size, 0, none⟩, n, by rw [hlen], by omega, fun i x hx => ⟨_, _, rfl, ol, ?_⟩⟩, ?_⟩, (U2.trans u3).re fun k hk => .inr (by rw [hk.2]; exact Nat.le_refl _)⟩
      · rw [Nat.zero_add, oc, List.getElem?_toArray, List.getElem?_map, hx]
        rfl
      · funext k
        exact propext ⟨fun h => ⟨h.1, by rw [h.2]; rfl⟩, fun h => ⟨h.1, (Option.some.inj h.2).symm⟩⟩
end Go.Proofs.Ytimkbpcdbbdjlaa
