/- Part R: 'append(xs, ys...)' of what is read, onto a row of one's own. No program's text. -/
import Derived.Test.YtpjfakmalhenjaaDoorSubN
set_option linter.unusedVariables false
namespace Go.Sub
open Go.ChangeMaps (setBlock)
section
variable {α : Type} {enc : α → List Value} {k : Nat}
theorem flat_at (hk : ∀ x, (enc x).length = k) : ∀ (M : List α) (j : Nat) (u : Value), (M.flatMap enc)[j]? = some u → ∃ i x r, M[i]? = some x ∧ (enc x)[r]? = some u ∧ j = i * k + r
  | [], j, u, h => by simp at h
  | y :: M, j, u, h => by
    rw [List.flatMap_cons] at h
    by_cases hj : j < k
    · rw [List.getElem?_append_left (by rw [hk]; exact hj)] at h
      exact ⟨0, y, j, rfl, h, by simp⟩
    · rw [List.getElem?_append_right (by rw [hk]; omega), hk] at h
      obtain ⟨i, x, r, h1, h2, h3⟩ := flat_at hk M (j - k) u h
      exact ⟨i + 1, x, r, h1, h2, by rw [Nat.succ_mul]; omega⟩
theorem reads_news {w : World} {a : Option Addr} {n c : Nat} {M : List α} (hk : ∀ x, (enc x).length = k) (h : Reads w k enc (.slice a n c) M) (hM : M ≠ []) :
    ∃ ad, a = some ad ∧ ∀ j u, (M.flatMap enc)[j]? = some u → w.cell? (ad.add j) = some u := by
  obtain ⟨a', c', hv, hr⟩ := h
  simp only [Value.slice.injEq] at hv
  obtain ⟨rfl, rfl, rfl⟩ := hv
  obtain ⟨y, M', rfl⟩ := List.exists_cons_of_ne_nil hM
  obtain ⟨g, off, rfl, hg, _⟩ := hr 0 y rfl
  refine ⟨_, rfl, fun j u hj => ?_⟩
  obtain ⟨i, x, r, h1, h2, rfl⟩ := flat_at hk _ j u hj
  obtain ⟨g', off', e, _, hc⟩ := hr i x h1
  cases e
  have := hc r u h2
  rw [show (⟨g, off, none⟩ : Addr).add (i * k + r) = ⟨g, off + i * k + r, none⟩ from ?_]
  · exact this
  · unfold Addr.add
    split
    · rename_i h0; simp only [Addr.mk.injEq, true_and, and_true]; omega
    · simp [Nat.add_assoc]
theorem flat_len' (hk : ∀ x, (enc x).length = k) : ∀ M : List α, (M.flatMap enc).length = M.length * k
  | [] => by simp
  | y :: M => by rw [List.flatMap_cons, List.length_append, hk, flat_len' hk M, List.length_cons, Nat.succ_mul]; omega
section
variable {P : Program} {w : World} {ops : Array Oper} {rest : List Oper} {o : Oper} {a : Act} {Q : Exit → Act → World → Prop}
theorem row_form {e : TypeId} {v : Value} {L : List α} {F : Fp} (h : (row e k enc v L).on w F) : ∃ b c, v = .slice b L.length c ∧ L.length ≤ c := by
  obtain ⟨hown, _⟩ := h
  rcases hown.2 with ⟨hv, hn⟩ | ⟨g', cap', cur, hv, hbg, hg', hnc, _⟩
  · exact ⟨none, 0, by rw [hv, hn], by omega⟩
  · exact ⟨_, _, hv, hnc⟩
theorem run_append_reads (ty : TypeId) (bytes : Nat) (t e : TypeId) (i : TypeInfo) (z : Value) (ht : P.underlying t = some (.slice e)) (hi : P.info? e = some i) (hz : i.zero = some z)
    (hsize : i.size = k) (hby : i.bytes = bytes) (hzs : z.cells.size = k) (hsz : 0 < k)
    (v vx : Value) (L M : List α) (F : Fp) (hrow : (row e k enc v L).on w F) (hx : Reads w k enc vx M) (hl : ∀ y, (enc y).length = k) (h1 : ∀ y, ∀ u ∈ enc y, u.oneCell' = true)
    (h63 : L.length + M.length ≤ maxLen) (hbytes : (L.length + M.length) * bytes ≤ 140737488355328) :
    ∃ v' w' F', (Builtin.append_ #[t, t] ty #[v, vx]).run P w = .ok v' w' ∧ (row e k enc v' (L ++ M)).on w' F' ∧ Upd F F' w w' := by
  obtain ⟨a, c, rfl, hr⟩ := id hx
  by_cases hM : M = []
  · subst hM
    obtain ⟨b, cb, rfl, hle⟩ := row_form hrow
    exact ⟨_, w, F, run_append_zero ht hi b a L.length cb c hle, by simpa using hrow, Upd.refl F w⟩
  · obtain ⟨ad, rfl, hnews⟩ := reads_news hl hx hM
    obtain ⟨hown, rfl⟩ := hrow
    obtain ⟨v', w', hr, h2, h3, h4⟩ := run_append_row (P := P) t ty e i z k bytes ht hi hz hsize hby hzs hsz v L.length (L.flatMap enc) hown ad M.length c (M.flatMap enc) (flat_len' hl M) hnews (fun u hu => by
      obtain ⟨y, _, hy⟩ := List.mem_flatMap.1 hu
      exact h1 y u hy) h63 hbytes
    exact ⟨v', w', fun b => v'.ownBlock = some b, hr, ⟨by simpa using h2, rfl⟩, Upd.of_grown h3 (fun _ h => h) h4⟩
/-- 'append(xs, ys...)' at a plain list of operations -/
theorem at_append_reads (bytes : Nat) (hgd : o.guard = none) (s x : Operand) (t : TypeId)
    (ho : o.op = .call { callee := .builtin .append, args := #[s, x], argTypes := #[t, t] })
    (e : TypeId) (i : TypeInfo) (z : Value) (ht : P.underlying t = some (.slice e)) (hi : P.info? e = some i) (hz : i.zero = some z)
    (hsize : i.size = k) (hby : i.bytes = bytes) (hzs : z.cells.size = k) (hsz : 0 < k)
    (v vx : Value) (L M : List α) (F : Fp) (hs : a.eval s = v) (hrow : (row e k enc v L).on w F) (hv : a.eval x = vx) (hx : Reads w k enc vx M) (hl : ∀ y, (enc y).length = k) (h1 : ∀ y, ∀ u ∈ enc y, u.oneCell' = true)
    (h63 : L.length + M.length ≤ maxLen) (hbytes : (L.length + M.length) * bytes ≤ 140737488355328)
    (h : ∀ v' w' F', (row e k enc v' (L ++ M)).on w' F' → Upd F F' w w' → wpList P ops Q rest (a.put o.dst v') w') : wpList P ops Q (o :: rest) a w := by
  obtain ⟨v', w', F', hr, h2, h3⟩ := run_append_reads (w := w) o.type bytes t e i z ht hi hz hsize hby hzs hsz v vx L M F hrow hx hl h1 h63 hbytes
  refine wpList_plain hgd fun K' hK' => ?_
  unfold Oper.wp execOp
  simp only [ho, resolve, invoke, builtin, Sem.run_bind, Sem.run_pure, Result.andThen_ok, List.map_toArray, List.map_cons, List.map_nil, hs, hv, hr]
  exact hK' _ _ (h _ _ _ h2 h3)
/-- the same as one step of a region that draws its order -/
theorem step_append_reads {K : Act → World → Prop} {E : Prop} (bytes : Nat) (hgd : o.guard = none) (s x : Operand) (t : TypeId)
    (ho : o.op = .call { callee := .builtin .append, args := #[s, x], argTypes := #[t, t] })
    (e : TypeId) (i : TypeInfo) (z : Value) (ht : P.underlying t = some (.slice e)) (hi : P.info? e = some i) (hz : i.zero = some z)
    (hsize : i.size = k) (hby : i.bytes = bytes) (hzs : z.cells.size = k) (hsz : 0 < k)
    (v vx : Value) (L M : List α) (F : Fp) (hs : a.eval s = v) (hrow : (row e k enc v L).on w F) (hv : a.eval x = vx) (hx : Reads w k enc vx M) (hl : ∀ y, (enc y).length = k) (h1 : ∀ y, ∀ u ∈ enc y, u.oneCell' = true)
    (h63 : L.length + M.length ≤ maxLen) (hbytes : (L.length + M.length) * bytes ≤ 140737488355328)
    (h : ∀ v' w' F', (row e k enc v' (L ++ M)).on w' F' → Upd F F' w w' → K (a.put o.dst v') w') :
    if Region.wanted o (yielded ops a.tmps) = true then Oper.wp P o a w K Q else E := by
  have hw : Region.wanted o (yielded ops a.tmps) = true := by simp [Region.wanted, hgd]
  rw [if_pos hw]
  obtain ⟨v', w', F', hr, h2, h3⟩ := run_append_reads (w := w) o.type bytes t e i z ht hi hz hsize hby hzs hsz v vx L M F hrow hx hl h1 h63 hbytes
  unfold Oper.wp execOp
  simp only [ho, resolve, invoke, builtin, Sem.run_bind, Sem.run_pure, Result.andThen_ok, List.map_toArray, List.map_cons, List.map_nil, hs, hv, hr]
  exact h _ _ _ h2 h3
/-- '[]T{}': a row of one's own without elements -/
theorem row_empty (w : World) (e : TypeId) (k : Nat) (enc : α → List Value) : (row e k enc (.slice (some ⟨w.heap.size, 0, none⟩) 0 0) []).on (w.alloc (.cells #[] e)) (fun b => b = w.heap.size) :=
  ⟨⟨by simp, .inr ⟨w.heap.size, 0, #[], rfl, Nat.zero_le _, obj_alloc_at rfl, Nat.le_refl _, by decide, by simp, by simp⟩⟩, by funext b; simp [Value.ownBlock, eq_comm]⟩
end
end
end Go.Sub
