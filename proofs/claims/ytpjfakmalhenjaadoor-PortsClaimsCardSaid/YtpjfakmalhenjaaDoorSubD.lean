/- Part D: going over a map; rows of elements that the program itself has made. No program's text. -/
import Derived.Test.YtpjfakmalhenjaaDoorSubC
namespace Go.Sub
open Go.ChangeMaps (setBlock)

namespace Asrt
variable {A : Asrt} {w : World} {F : Fp}
theorem alloc (h : A.on w F) (o : Obj) : A.on (w.alloc o) F := A.loc h fun k hk => obj_alloc_lt (A.lt h k hk)
theorem drew (h : A.on w F) : A.on w.drew F := A.loc h fun _ _ => rfl
theorem drewN (h : A.on w F) (n : Nat) : A.on (w.drewN n) F := A.loc h fun _ _ => rfl
theorem setBlock (h : A.on w F) {b : Nat} (hb : ¬ F b) (o : Obj) : A.on (setBlock w b o) F := A.loc h fun _ hk => obj_setBlock_ne (fun e => hb (e ▸ hk))
theorem setCell (h : A.on w F) {a : Addr} (hb : ¬ F a.block) (v : Value) : A.on (w.setCell a v) F := A.loc h fun _ hk => obj_setCell_ne (fun e => hb (e ▸ hk))
theorem not_new (h : A.on w F) {n : Nat} (hn : w.heap.size ≤ n) : ¬ F n := fun hF => by have := A.lt h n hF; omega
end Asrt

/-! ### a range over a map -/
section range
variable {κ V : Type} (enc : κ → Value) (ev : V → Value)
/-- it is an iterator over the map o (in block mb), of which left is still to come. -/
def IterObj (o : Obj) (mb : Nat) (it : Obj) (left : List (κ × V)) : Prop :=
  ∃ es clk seen, o = .map es clk ∧ it = .mapIter (some mb) clk seen clk ∧ Born es.toList clk ∧ Ents enc ev (leftOf es seen).toList left
variable {enc ev} {P : Program}
theorem leftOf_none (es : Array MapEntry) : leftOf es #[] = es := by
  unfold leftOf
  apply Array.filter_eq_self.2
  intro x _
  simp
theorem run_range_of {t k e : TypeId} (ht : P.underlying t = some (.map k e)) {o : Obj} {m : List (κ × V)} (ho : MapObj enc ev o m) (mb : Nat) :
    ∃ it, IterObj enc ev o mb it m ∧ ∀ W : World, W.obj mb = some o → (Instr.range t (.map (some mb))).run P W = .ok (.pointer (some ⟨W.heap.size, 0, none⟩)) (W.alloc it) := by
  obtain ⟨es, clk, rfl, hE, hB⟩ := ho
  refine ⟨.mapIter (some mb) clk #[] clk, ⟨es, clk, #[], rfl, rfl, hB, by rw [leftOf_none]; exact hE⟩, fun W hb => ?_⟩
  have hb' := run_getObj_of (P := P) hb
  simp [Instr.range, run_underlying ht, hb', newObj, Sem.run, Result.andThen]
theorem leftOf_push {es : Array MapEntry} {clk : Nat} (hB : Born es.toList clk) (seen : Array Nat) {A B : List MapEntry} {e : MapEntry} (h : (leftOf es seen).toList = A ++ e :: B) :
    (leftOf es (seen.push e.born)).toList = A ++ B := by
  have h1 : leftOf es (seen.push e.born) = (leftOf es seen).filter fun x => x.born != e.born := by
    simp only [leftOf, Array.filter_filter]
    congr 1
    funext x
    by_cases hx : x.born = e.born <;> simp [hx, bne]
  have hp : ((leftOf es seen).toList.map (·.born)).Pairwise (· < ·) := by
    have hs : ((leftOf es seen).toList.map (·.born)).Sublist (es.toList.map (·.born)) := by
      simp only [leftOf, Array.toList_filter]
      exact List.filter_sublist.map _
    exact hB.1.sublist hs
  rw [h1, Array.toList_filter, h]
  rw [h, List.map_append, List.map_cons, List.pairwise_append, List.pairwise_cons] at hp
  obtain ⟨_, ⟨h3, _⟩, h4⟩ := hp
  have hA : A.filter (fun x => x.born != e.born) = A := List.filter_eq_self.2 fun x hx => by
    have := h4 x.born (List.mem_map.2 ⟨x, hx, rfl⟩) e.born (by simp)
    simp; omega
  have hBf : B.filter (fun x => x.born != e.born) = B := List.filter_eq_self.2 fun x hx => by
    have := h3 x.born (List.mem_map.2 ⟨x, hx, rfl⟩)
    simp; omega
  rw [List.filter_append, List.filter_cons, hA, hBf]
  simp
theorem run_next_of {o it : Obj} {mb r : Nat} {left : List (κ × V)} (hI : IterObj enc ev o mb it left) (W : World) (hr : W.obj r = some it) (hm : W.obj mb = some o) (ty : TypeId) :
    (left = [] ∧ (Instr.next (.pointer (some ⟨r, 0, none⟩)) false ty).run P W = .ok (.tuple #[.bool false]) W) ∨
    ∃ l1 p l2 n it', left = l1 ++ p :: l2 ∧ (Instr.next (.pointer (some ⟨r, 0, none⟩)) false ty).run P W = .ok (.tuple #[.bool true, enc p.1, ev p.2]) (setBlock (W.drewN n) r it') ∧
      IterObj enc ev o mb it' (l1 ++ l2) ∧ ∀ W' : World, W'.obj r = some it' → W'.obj mb = some o → (Instr.entry (.pointer (some ⟨r, 0, none⟩))).run P W' = .ok (.tuple #[enc p.1, ev p.2]) W' := by
  obtain ⟨es, clk, seen, rfl, rfl, hB, hE⟩ := hI
  have hinv := hE.inv
  rcases run_next_at (P := P) W ty r mb clk clk seen es clk hr hm hB.2 (Nat.le_refl _) with ⟨h0, hrun⟩ | ⟨e, he, w1, hw1, hrun⟩
  · left
    refine ⟨?_, hrun⟩
    rw [Array.length_toList, h0] at hinv
    exact List.eq_nil_of_length_eq_zero hinv.symm
  · right
    obtain ⟨A, B, hAB⟩ := List.append_of_mem he
    have hE' := hE
    rw [hAB] at hE'
    unfold Ents at hE'
    rw [List.map_append, List.map_cons] at hE'
    obtain ⟨l1, l3, hl, h1, h3⟩ := List.append_eq_map_iff.1 hE'
    obtain ⟨p, l2, hl3, hp, h2⟩ := List.map_eq_cons_iff.1 h3
    simp only [Prod.mk.injEq] at hp
    subst hl3
    have hw : ∃ n, w1 = W.drewN n := by
      rcases hw1 with rfl | rfl
      · exact ⟨0, rfl⟩
      · exact ⟨1, rfl⟩
    obtain ⟨n, rfl⟩ := hw
    refine ⟨l1, p, l2, n, .mapIter (some mb) clk (seen.push e.born) clk, hl, ?_, ⟨es, clk, seen.push e.born, rfl, rfl, hB, ?_⟩, fun W' hr' hm' => ?_⟩
    · rw [hrun, hp.1, hp.2]
    · rw [leftOf_push hB seen hAB]
      unfold Ents
      rw [List.map_append, List.map_append, h1, h2]
    · have hmem : e ∈ es.toList := by
        have := he
        simp only [leftOf, Array.toList_filter, List.mem_filter] at this
        exact this.1
      have hnd : (es.toList.map (·.born)).Nodup := hB.1.imp fun h => Nat.ne_of_lt h
      rw [run_entry_at (P := P) W' r mb clk seen es clk e hr' hm' hmem hnd, hp.1, hp.2]
end range

/-! ### rows -/
/-- The elements L, each of k cells (enc), behind a slice value v that the program itself has made by append. -/
def row {α : Type} (e : TypeId) (k : Nat) (enc : α → List Value) (v : Value) (L : List α) : Asrt where
  on := fun w F => w.ownsRow 0 e k v L.length (L.flatMap enc) ∧ F = fun b => v.ownBlock = some b
  loc := fun {w w' F} ⟨⟨h1, h2⟩, hF⟩ hk => by
    subst hF
    refine ⟨⟨h1, ?_⟩, rfl⟩
    rcases h2 with h2 | ⟨g, cap, cur, hv, hb, hg, h3⟩
    · exact .inl h2
    · exact .inr ⟨g, cap, cur, hv, hb, (hk g (by rw [hv]; rfl)).trans hg, h3⟩
  lt := fun {w F} ⟨h, hF⟩ b hb => by
    subst hF
    exact (h.lt b hb).2

theorem row_nil {α : Type} (w : World) (e : TypeId) (k : Nat) (enc : α → List Value) : (row e k enc (.slice none 0 0) []).on w none' :=
  ⟨⟨by simp, .inl ⟨rfl, rfl⟩⟩, by funext b; simp [Value.ownBlock, none']⟩

theorem cells_new (w : World) (cs : List Value) (t : TypeId) : ∀ j u, cs[j]? = some u → (w.alloc (.cells cs.toArray t)).cell? ((⟨w.heap.size, 0, none⟩ : Addr).add j) = some u := by
  intro j u hj
  have : (⟨w.heap.size, 0, none⟩ : Addr).add j = ⟨w.heap.size, j, none⟩ := by
    unfold Addr.add
    split
    · rename_i h; subst h; rfl
    · simp
  rw [this, World.cell?_alloc_new]
  simpa using hj
theorem one_cell_int (x : Int) (u : Value) (h : u ∈ [Value.int .i64 x]) : u.oneCell' = true := by
  simp only [List.mem_singleton] at h
  subst h
  rfl
section append
variable {P : Program} {w : World} {ops : Array Oper} {rest : List Oper} {o : Oper} {a : Act} {Q : Exit → Act → World → Prop}
theorem run_append_row (t ty e : TypeId) (i : TypeInfo) (z : Value) (size bytes : Nat) (ht : P.underlying t = some (.slice e)) (hi : P.info? e = some i) (hz : i.zero = some z)
    (hsize : i.size = size) (hby : i.bytes = bytes) (hzs : z.cells.size = size) (hsz : 0 < size)
    (v : Value) (n : Nat) (xs : List Value) (hown : w.ownsRow 0 e size v n xs)
    (a : Addr) (m c : Nat) (news : List Value) (hl : news.length = m * size) (hnews : ∀ j u, news[j]? = some u → w.cell? (a.add j) = some u) (h1 : ∀ u ∈ news, u.oneCell' = true)
    (h63 : n + m ≤ maxLen) (hbytes : (n + m) * bytes ≤ 140737488355328) :
    ∃ v' w', (Builtin.append_ #[t, t] ty #[v, .slice (some a) m c]).run P w = .ok v' w' ∧ w'.ownsRow 0 e size v' (n + m) (xs ++ news) ∧ w.grownBy w' v.ownBlock ∧ ∀ g, v'.ownBlock = some g → v.ownBlock = some g ∨ w.heap.size ≤ g := by
  obtain ⟨v', w', hr, h2, h3, _⟩ := run_append_own (P := P) w 0 t ty e i z size bytes ht hi hz hsize hby hzs hsz v n xs hown a m c news hl hnews h1 h63 hbytes (Nat.zero_le _)
  refine ⟨v', w', hr, h2, h3, fun g hg => ?_⟩
  have hn63 : n + m ≤ 9223372036854775807 := by simp only [maxLen] at h63; omega
  subst hsize
  subst hby
  rcases hown.2 with ⟨rfl, rfl⟩ | ⟨g', cap, cur, rfl, hbg, hg', hnc, hcm, hcs, htake⟩
  · have hx : xs = [] := List.eq_nil_of_length_eq_zero (by simpa using hown.1)
    subst hx
    by_cases hm : m = 0
    · subst hm
      have hn : news = [] := List.eq_nil_of_length_eq_zero (by simpa using hl)
      subst hn
      have hr' : (Builtin.append_ #[t, t] ty #[.slice none 0 0, .slice (some a) 0 c]).run P w = .ok (.slice none 0 0) w := by
        simp [Builtin.append_, run_underlying ht, sizeOf, typeInfo, hi, Builtin.lenOf, Builtin.firstCells, loadCells, loadCellsFrom]
      rw [hr'] at hr
      injection hr with e1 e2
      subst e1
      simp [Value.ownBlock] at hg
    · have hr' := run_append_nil (P := P) w t ty e i z ht hi hz a m c news hl hnews (by omega) (by omega) (by have hb := hbytes; simp only [Nat.zero_add] at hb; omega)
      rw [hr'] at hr
      injection hr with e1 e2
      subst e1
      simp [Value.ownBlock] at hg
      exact .inr (by omega)
  · by_cases hroom : n + m ≤ cap
    · have hfit : n * i.size + news.length ≤ cur.size := by rw [hl, hcs, ← Nat.add_mul]; exact Nat.mul_le_mul_right _ hroom
      have hr' := run_append_room (P := P) w t ty e i ht hi g' n cap cur hg' a m c news hl hnews h1 hroom hfit
      rw [hr'] at hr
      injection hr with e1 e2
      subst e1
      exact .inl hg
    · have holds : ∀ j u, xs[j]? = some u → w.cell? ((⟨g', 0, none⟩ : Addr).add j) = some u := hown.cells (g := g') rfl
      have hr' := run_append_grow (P := P) w t ty e i z ht hi hz ⟨g', 0, none⟩ n cap xs hown.1 holds a m c news hl hnews (by omega) (by omega) (growslice_fits (by omega) hbytes)
      rw [hr'] at hr
      injection hr with e1 e2
      subst e1
      simp [Value.ownBlock] at hg
      exact .inr (by omega)

/-- 'append(xs, x)' onto a row that the program has made: x lies in a block of its own. -/
theorem at_append_row {α : Type} (enc : α → List Value) (k bytes : Nat) (hgd : o.guard = none) (s x : Operand) (t : TypeId)
    (ho : o.op = .call { callee := .builtin .append, args := #[s, x], argTypes := #[t, t] })
    (e : TypeId) (i : TypeInfo) (z : Value) (ht : P.underlying t = some (.slice e)) (hi : P.info? e = some i) (hz : i.zero = some z)
    (hsize : i.size = k) (hby : i.bytes = bytes) (hzs : z.cells.size = k) (hsz : 0 < k)
    (v : Value) (L : List α) (y : α) (F : Fp) (hs : a.eval s = v) (hrow : (row e k enc v L).on w F)
    (ad : Addr) (c : Nat) (hx : a.eval x = .slice (some ad) 1 c) (hl : (enc y).length = k) (hnews : ∀ j u, (enc y)[j]? = some u → w.cell? (ad.add j) = some u) (h1 : ∀ u ∈ enc y, u.oneCell' = true)
    (h63 : L.length + 1 ≤ maxLen) (hbytes : (L.length + 1) * bytes ≤ 140737488355328)
    (h : ∀ v' w' F', (row e k enc v' (L ++ [y])).on w' F' → Upd F F' w w' → wpList P ops Q rest (a.put o.dst v') w') : wpList P ops Q (o :: rest) a w := by
  obtain ⟨hown, rfl⟩ := hrow
  obtain ⟨v', w', hr, h2, h3, h4⟩ := run_append_row (P := P) t o.type e i z k bytes ht hi hz hsize hby hzs hsz v L.length (L.flatMap enc) hown ad 1 c (enc y) (by omega) hnews h1 h63 hbytes
  refine wpList_plain hgd fun K' hK' => ?_
  unfold Oper.wp execOp
  simp only [ho, resolve, invoke, builtin, Sem.run_bind, Sem.run_pure, Result.andThen_ok, List.map_toArray, List.map_cons, List.map_nil, hs, hx, hr]
  refine hK' _ _ (h v' w' (fun b => v'.ownBlock = some b) ⟨by simpa using h2, rfl⟩ (Upd.of_grown h3 (fun _ h => h) h4))
/-- 'append(xs, y1, y2, ..)': what is appended lies in a block of its own. -/
theorem at_append_rows {α : Type} (enc : α → List Value) (k bytes : Nat) (hgd : o.guard = none) (s x : Operand) (t : TypeId)
    (ho : o.op = .call { callee := .builtin .append, args := #[s, x], argTypes := #[t, t] })
    (e : TypeId) (i : TypeInfo) (z : Value) (ht : P.underlying t = some (.slice e)) (hi : P.info? e = some i) (hz : i.zero = some z)
    (hsize : i.size = k) (hby : i.bytes = bytes) (hzs : z.cells.size = k) (hsz : 0 < k)
    (v : Value) (L : List α) (ys : List α) (m : Nat) (F : Fp) (hs : a.eval s = v) (hrow : (row e k enc v L).on w F)
    (ad : Addr) (c : Nat) (hx : a.eval x = .slice (some ad) m c) (hm : ys.length = m) (hl : ∀ y, (enc y).length = k) (hnews : ∀ j u, (ys.flatMap enc)[j]? = some u → w.cell? (ad.add j) = some u) (h1 : ∀ y, ∀ u ∈ enc y, u.oneCell' = true)
    (h63 : L.length + ys.length ≤ maxLen) (hbytes : (L.length + ys.length) * bytes ≤ 140737488355328)
    (h : ∀ v' w' F', (row e k enc v' (L ++ ys)).on w' F' → Upd F F' w w' → wpList P ops Q rest (a.put o.dst v') w') : wpList P ops Q (o :: rest) a w := by
  obtain ⟨hown, rfl⟩ := hrow
  subst hm
  have hlen : (ys.flatMap enc).length = ys.length * k := by
    clear hx hnews h63 hbytes h
    induction ys with
    | nil => simp
    | cons y ys ih => rw [List.flatMap_cons, List.length_append, hl, ih, List.length_cons, Nat.succ_mul]; omega
  obtain ⟨v', w', hr, h2, h3, h4⟩ := run_append_row (P := P) t o.type e i z k bytes ht hi hz hsize hby hzs hsz v L.length (L.flatMap enc) hown ad ys.length c (ys.flatMap enc) hlen hnews (fun u hu => by
    obtain ⟨y, _, hy⟩ := List.mem_flatMap.1 hu
    exact h1 y u hy) h63 hbytes
  refine wpList_plain hgd fun K' hK' => ?_
  unfold Oper.wp execOp
  simp only [ho, resolve, invoke, builtin, Sem.run_bind, Sem.run_pure, Result.andThen_ok, List.map_toArray, List.map_cons, List.map_nil, hs, hx, hr]
  refine hK' _ _ (h v' w' (fun b => v'.ownBlock = some b) ⟨by simpa using h2, rfl⟩ (Upd.of_grown h3 (fun _ h => h) h4))
/-- The same as one step of a region that draws its order. -/
theorem step_append_rows {K : Act → World → Prop} {E : Prop} {α : Type} (enc : α → List Value) (k bytes : Nat) (hgd : o.guard = none) (s x : Operand) (t : TypeId)
    (ho : o.op = .call { callee := .builtin .append, args := #[s, x], argTypes := #[t, t] })
    (e : TypeId) (i : TypeInfo) (z : Value) (ht : P.underlying t = some (.slice e)) (hi : P.info? e = some i) (hz : i.zero = some z)
    (hsize : i.size = k) (hby : i.bytes = bytes) (hzs : z.cells.size = k) (hsz : 0 < k)
    (v : Value) (L : List α) (ys : List α) (m : Nat) (F : Fp) (hs : a.eval s = v) (hrow : (row e k enc v L).on w F)
    (ad : Addr) (c : Nat) (hx : a.eval x = .slice (some ad) m c) (hm : ys.length = m) (hl : ∀ y, (enc y).length = k) (hnews : ∀ j u, (ys.flatMap enc)[j]? = some u → w.cell? (ad.add j) = some u) (h1 : ∀ y, ∀ u ∈ enc y, u.oneCell' = true)
    (h63 : L.length + ys.length ≤ maxLen) (hbytes : (L.length + ys.length) * bytes ≤ 140737488355328)
    (h : ∀ v' w' F', (row e k enc v' (L ++ ys)).on w' F' → Upd F F' w w' → K (a.put o.dst v') w') :
    if Region.wanted o (yielded ops a.tmps) = true then Oper.wp P o a w K Q else E := by
  have hw : Region.wanted o (yielded ops a.tmps) = true := by simp [Region.wanted, hgd]
  rw [if_pos hw]
  obtain ⟨hown, rfl⟩ := hrow
  subst hm
  have hlen : (ys.flatMap enc).length = ys.length * k := by
    clear hx hnews h63 hbytes h
    induction ys with
    | nil => simp
    | cons y ys ih => rw [List.flatMap_cons, List.length_append, hl, ih, List.length_cons, Nat.succ_mul]; omega
  obtain ⟨v', w', hr, h2, h3, h4⟩ := run_append_row (P := P) t o.type e i z k bytes ht hi hz hsize hby hzs hsz v L.length (L.flatMap enc) hown ad ys.length c (ys.flatMap enc) hlen hnews (fun u hu => by
    obtain ⟨y, _, hy⟩ := List.mem_flatMap.1 hu
    exact h1 y u hy) h63 hbytes
  unfold Oper.wp execOp
  simp only [ho, resolve, invoke, builtin, Sem.run_bind, Sem.run_pure, Result.andThen_ok, List.map_toArray, List.map_cons, List.map_nil, hs, hx, hr]
  exact h v' w' (fun b => v'.ownBlock = some b) ⟨by simpa using h2, rfl⟩ (Upd.of_grown h3 (fun _ h => h) h4)
end append
end Go.Sub
