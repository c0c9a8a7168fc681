/- Frames: bytes.Clone, First. -/
import Derived.Test.YtimkbpcdbbdjlaaRingA
namespace Go.Proofs.Ytimkbpcdbbdjlaa
open Go.RowKit Go.Sub Go.ChangeMaps
theorem infoB1 : (Try.prog.info? 5).map (fun i => (i.zero, i.size, i.bytes)) = some (some (.int .u8 0), 1, 1) := by kernel_rfl
theorem run_append_new {P : Program} {t ty e : TypeId} (ht : P.underlying t = some (.slice e)) (hi : (P.info? e).map (fun i => (i.zero, i.size, i.bytes)) = some (some (.int .u8 0), 1, 1)) {w : World} (b : Addr) (ad : Option Addr) (m c : Nat) {L : List UInt8} (hx : Bytes w (.slice ad m c) L) (h0 : L ≠ []) (hl : L.length ≤ 1000000) :
    ∃ v' w' Fv, (Builtin.append_ #[t, t] ty #[.slice (some b) 0 0, .slice ad m c]).run P w = .ok v' w' ∧ (bytesT v' L).on w' Fv ∧ Upd none' Fv w w' := by
  obtain ⟨i, hi0, h1⟩ := Option.map_eq_some_iff.1 hi
  simp only [Prod.mk.injEq] at h1
  obtain ⟨hz, hs, hb⟩ := h1
  obtain ⟨rfl, _⟩ := hx.len
  have hpos : 0 < L.length := List.length_pos_iff.2 h0
  obtain ⟨a, rfl, hsrc⟩ := hx.src L.length (Nat.le_refl _) hpos
  rw [List.take_length] at hsrc
  have hr := run_append_grow (P := P) (w := w) t ty e i (.int .u8 0) ht hi0 hz b 0 0 [] (by simp) (by simp) a L.length c (L.map bv) (by rw [List.length_map, hs, Nat.mul_one]) hsrc (by omega) (by omega) (by rw [hb]; exact growslice_fits (by omega) (by omega))
  rw [Nat.zero_add] at hr
  have hg : L.length ≤ grownCap w L.length 0 e := grownCap_ge w L.length 0 e
  refine ⟨_, _, fun k => L ≠ [] ∧ k = w.heap.size, hr, ⟨⟨some ⟨w.heap.size, 0, none⟩, _, rfl, hg, fun j x hj => ⟨_, _, rfl, by rw [size_alloc']; exact Nat.lt_succ_self _, ?_⟩⟩, ?_⟩, ?_⟩
  · have := (blk_facts (w := w.drew.alloc (.cells (([] : List Value).toArray ++ (L.map bv).toArray ++ Builtin.zeroCells (Value.int IntKind.u8 0).cells (grownCap w L.length 0 e - L.length)) e)) (b := w.heap.size) (obj_alloc_at rfl)).1 (0 + j)
    rw [this, Nat.zero_add]
    have hj' : j < L.length := by
      rcases Nat.lt_or_ge j L.length with h | h
      · exact h
      · rw [List.getElem?_eq_none h] at hj; cases hj
    rw [Array.getElem?_append_left (by simp; omega)]
    simp [hj]
  · funext k
    exact propext ⟨fun h => ⟨h.1, by rw [h.2]; rfl⟩, fun h => ⟨h.1, (Option.some.inj h.2).symm⟩⟩
  · exact (((Upd.refl none' w).drew).alloc _).re fun k hk => .inr (by rw [hk.2]; exact Nat.le_refl _)
section
variable {P : Program} {w : World} {ops : Array Oper} {rest : List Oper} {o : Oper} {a : Act} {Q : Exit → Act → World → Prop}
/-- 'append([]byte{}, xs...)', xs not empty. -/
theorem at_append_new (hgd : o.guard = none) (s x : Operand) {t e : TypeId} (ho : o.op = .call { callee := .builtin .append, args := #[s, x], argTypes := #[t, t] })
    (ht : P.underlying t = some (.slice e)) (hi : (P.info? e).map (fun i => (i.zero, i.size, i.bytes)) = some (some (.int .u8 0), 1, 1)) (b : Addr) (ad : Option Addr) (m c : Nat) {L : List UInt8} (hs : a.eval s = .slice (some b) 0 0) (hx : a.eval x = .slice ad m c)
    (hb : Bytes w (.slice ad m c) L) (h0 : L ≠ []) (hl : L.length ≤ 1000000)
    (h : ∀ v' w' Fv, (bytesT v' L).on w' Fv → Upd none' Fv w w' → wpList P ops Q rest (a.put o.dst v') w') : wpList P ops Q (o :: rest) a w := by
  obtain ⟨v', w', Fv, hr, h1, h2⟩ := run_append_new (t := t) (ty := o.type) ht hi b ad m c hb h0 hl
  refine wpList_plain hgd fun K' hK' => ?_
  unfold Oper.wp execOp
  simp only [ho, resolve, invoke, builtin, Sem.run_bind, Sem.run_pure, Result.andThen_ok, List.map_toArray, List.map_cons, List.map_nil, hs, hx, hr]
  exact hK' _ _ (h v' w' Fv h1 h2)
end
set_option maxHeartbeats 1000000 in
set_option maxRecDepth 100000 in
theorem clone_c {v : Value} {L : List UInt8} {w : World} (hv : Bytes w v L) (h0 : L ≠ []) (hl : L.length ≤ 1000000) :
    Calls Try.prog 83 #[v] w fun e w' => ∃ v', Ret v' (fun w' => ∃ Fv, (bytesT v' L).on w' Fv ∧ Upd none' Fv w w') e w' := by
  obtain ⟨av, cv, rfl, hcap⟩ := hv.slice
  have hpos : 0 < L.length := List.length_pos_iff.2 h0
  obtain ⟨ad, rfl, _⟩ := hv.src L.length (Nat.le_refl _) hpos
  have hv1 := hv.upd ((Upd.refl none' w).alloc (.cells #[] 5)) fun _ _ _ h => h
  have he := fun w : World => Lib.run_eql_slice_nil (P := Try.prog) w 22 5 (some ad) L.length cv 0 0 Try.underlying22
  have HV := Keep.mk hv1
  clear hv hv1
  go_enter Try.func83, Try.ntmps83
  go_wp2_with (at_builtin; refine at_append_new rfl (.tmp 5) (.tmp 6) rfl Try.underlying22 infoB1 ⟨w.heap.size, 0, none⟩ _ _ _ rfl rfl HV.out h0 hl ?next)
  case next =>
    intro v' w2 Fv hb2 u2
    go_wp2_with fail
    go_returns
    exact ⟨v', rfl, Fv, hb2, ((Upd.refl none' w).alloc _).trans u2⟩
/-- the frame that bytes begin with: what it has, how many bytes it is, the error -/
def firstS (b : List UInt8) : List UInt8 × Nat × Int := match b with
  | [] => ([], 0, 0)
  | x :: r => if x ≠ 170 then ([], 0, 61) else match r with
    | [] => ([], 0, 0)
    | n :: q => if n = 0 ∨ 200 < n.toNat then ([], 0, 61) else if q.length < n.toNat then ([], 0, 0) else (q.take n.toNat, 2 + n.toNat, 0)
/-- how 'First' ends -/
def FirstEnds (b : List UInt8) (w : World) (e : Ending) (w' : World) : Prop := ∃ v, Ret (.tuple #[v, .int .i64 ((firstS b).2.1 : Nat), .int .i64 (firstS b).2.2]) (fun w' => ∃ Fv, (bytesT v (firstS b).1).on w' Fv ∧ Upd none' Fv w w') e w'
theorem ends_nil {b : List UInt8} {w : World} {n e : Int} (h : firstS b = ([], n.toNat, e)) (hn : 0 ≤ n) : FirstEnds b w (.returned (.tuple #[.slice none 0 0, .int .i64 n, .int .i64 e])) w := by
  refine ⟨.slice none 0 0, ?_, none', ?_, Upd.refl _ _⟩
  · rw [h]
    simp only [Int.toNat_of_nonneg hn]
  · rw [h]; exact bytesT_nil _ _ _
set_option maxHeartbeats 2000000 in
set_option maxRecDepth 100000 in
theorem frame_c {v : Value} {b : List UInt8} {w : World} (hv : Bytes w v b) (hl : b.length ≤ 1000000) : Calls Try.prog 43 #[v] w (FirstEnds b w) := by
  obtain ⟨av, cv, rfl, hcap⟩ := hv.slice
  match b, hv, hl, hcap with
  | [], hv, hl, hcap =>
    go_enter Try.func43, Try.ntmps43
    go_wp2_with fail
    go_ret3
    exact ends_nil (n := 0) (e := 0) rfl (by omega)
  | x :: r, hv, hl, hcap =>
    obtain ⟨g, off, rfl, hg, hc0⟩ := hv.at' 0 (by simp)
    simp only [List.getElem_cons_zero, Nat.add_zero] at hc0
    have hlen : (x :: r).length = r.length + 1 := rfl
    by_cases hx : x = 170
    · subst hx
      match r, hv, hl, hcap with
      | [], hv, hl, hcap =>
        go_enter Try.func43, Try.ntmps43
        go_wp2_with fail
        go_ret3
        exact ends_nil (n := 0) (e := 0) rfl (by omega)
      | n :: q, hv, hl, hcap =>
        obtain ⟨_, _, he, _, hc1⟩ := hv.at' 1 (by simp)
        cases he
        simp only [List.getElem_cons_succ, List.getElem_cons_zero] at hc1
        have hn256 := n.toNat_lt
        have hz : ((n.toNat : Int) == 0) = decide (n = 0) := by
          rw [Bool.eq_iff_iff, beq_iff_eq, decide_eq_true_eq]
          exact ⟨fun h => UInt8.toNat_inj.1 (by have : (0 : UInt8).toNat = 0 := rfl; omega), fun h => by rw [h]; rfl⟩
        by_cases h0 : n = 0 ∨ 200 < n.toNat
        · have HE := Keep.mk (show firstS (170 :: n :: q) = ([], 0, 61) from by simp [firstS, h0])
          by_cases h00 : n = 0
          · have e1 : ((n.toNat : Int) == 0) = true := by rw [hz, decide_eq_true h00]
            clear hz h0 h00
            go_enter Try.func43, Try.ntmps43
            go_wp2_with fail
            go_ret3
            exact ends_nil (n := 0) (e := 61) HE.out (by omega)
          · have e1 : ((n.toNat : Int) == 0) = false := by rw [hz, decide_eq_false h00]
            have e2 : decide ((200 : Int) < (n.toNat : Int)) = true := by rw [decide_eq_true_eq]; have := h0.resolve_left h00; omega
            clear hz h0 h00
            go_enter Try.func43, Try.ntmps43
            go_wp2_with fail
            go_ret3
            exact ends_nil (n := 0) (e := 61) HE.out (by omega)
        · have h00 : ¬ n = 0 := fun h => h0 (.inl h)
          have h200 : ¬ 200 < n.toNat := fun h => h0 (.inr h)
          have e1 : ((n.toNat : Int) == 0) = false := by rw [hz, decide_eq_false h00]
          have e2 : decide ((200 : Int) < (n.toNat : Int)) = false := by rw [decide_eq_false_iff_not]; omega
          have hnp : 0 < n.toNat := Nat.pos_of_ne_zero fun h => h00 (UInt8.toNat_inj.1 h)
          have e4 : IntKind.i64.wrap (2 + (n.toNat : Int)) = 2 + (n.toNat : Int) := by rw [IntKind.wrap_i64]; omega
          by_cases hs : q.length < n.toNat
          · have HE := Keep.mk (show firstS (170 :: n :: q) = ([], 0, 0) from by simp [firstS, h0, hs])
            have e3 : decide ((q.length : Int) + 1 + 1 < 2 + (n.toNat : Int)) = true := by rw [decide_eq_true_eq]; omega
            clear hz h0 h00 h200 hs
            go_enter Try.func43, Try.ntmps43
            go_wp2_with fail
            go_ret3
            exact ends_nil (n := 0) (e := 0) HE.out (by omega)
          · have HE := Keep.mk (show firstS (170 :: n :: q) = (q.take n.toNat, 2 + n.toNat, 0) from by simp [firstS, h0, hs])
            have e3 : decide ((q.length : Int) + 1 + 1 < 2 + (n.toNat : Int)) = false := by rw [decide_eq_false_iff_not]; omega
            have hcut : Bytes w (.slice (cutAt (some ⟨g, off, none⟩) cv 2) n.toNat (cv - 2)) (q.take n.toNat) := by
              have h1 := (hv.drop (k := 2) (by simp)).take (k := n.toNat) (by simp; omega)
              exact h1
            have hc2 : cutAt (some ⟨g, off, none⟩) cv 2 = some ⟨g, off + 2, none⟩ := by
              rw [cutAt, if_neg (by simp at hcap; omega)]; rfl
            rw [hc2] at hcut
            have CL := clone_c hcut (by intro h; have := congrArg List.length h; rw [List.length_take, List.length_nil] at this; omega) (by simp; omega)
            have HC := Keep.mk CL
            have hle : 2 + (n.toNat : Int) ≤ (cv : Int) := by simp at hcap; omega
            have hlq : n.toNat ≤ q.length := by omega
            clear hz h0 h00 h200 hs CL hcut hc2
            go_enter Try.func43, Try.ntmps43
            go_wp2_with fail
            refine HC.out.mono ?_
            rintro e w1 ⟨v', rfl, Fv, hv', u'⟩
            go_wp2_with fail
            go_ret3
            exact ⟨v', by rw [HE.out]; rfl, Fv, by rw [HE.out]; exact hv', u'⟩
    · have e1 : ((x.toNat : Int) != 170) = true := by
        rw [bne_iff_ne]
        intro h
        have h7 : (170 : UInt8).toNat = 170 := rfl
        exact hx (UInt8.toNat_inj.1 (by omega))
      have HE := Keep.mk (show firstS (x :: r) = ([], 0, 61) from by simp [firstS, hx])
      clear hx
      go_enter Try.func43, Try.ntmps43
      go_wp2_with fail
      go_ret3
      exact ends_nil (n := 0) (e := 61) HE.out (by omega)
end Go.Proofs.Ytimkbpcdbbdjlaa
