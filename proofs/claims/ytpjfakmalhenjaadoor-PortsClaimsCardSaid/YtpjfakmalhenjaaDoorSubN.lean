/- Part N: rows of bytes; nothing appended. No program's text. -/
import Derived.Test.YtpjfakmalhenjaaDoorSubM
namespace Go.Sub
abbrev encB (b : UInt8) : List Value := [bv b]
/-- a row of bytes reads as bytes -/
theorem row_bytes {e : TypeId} {v : Value} {L : List UInt8} {w : World} {F : Fp} (h : (row e 1 encB v L).on w F) : Bytes w v L := by
  have hr := (row_reads (enc := encB) (fun _ => rfl) h).1
  obtain ⟨hown, _⟩ := h
  obtain ⟨a, cap, rfl, hc⟩ := hr
  refine ⟨a, cap, rfl, ?_, fun i x hx => ?_⟩
  · rcases hown.2 with ⟨hv, hn⟩ | ⟨g', cap', cur, hv, hbg, hg', hnc, _⟩
    · simp only [Value.slice.injEq] at hv; omega
    · simp only [Value.slice.injEq] at hv; omega
  · obtain ⟨g, off, rfl, hg, h0⟩ := hc i x hx
    exact ⟨g, off, rfl, hg, by have := h0 0 _ rfl; simpa using this⟩
theorem flat_bv (M : List UInt8) : M.flatMap encB = M.map bv := by
  induction M with
  | nil => rfl
  | cons y M ih => rw [List.flatMap_cons, List.map_cons, ih]; rfl
section
variable {P : Program} {w : World} {ops : Array Oper} {rest : List Oper} {o : Oper} {a : Act} {Q : Exit → Act → World → Prop}
theorem run_append_zero {t ty e : TypeId} {i : TypeInfo} (ht : P.underlying t = some (.slice e)) (hi : P.info? e = some i) (base ad : Option Addr) (n cap c : Nat) (hn : n ≤ cap) :
    (Builtin.append_ #[t, t] ty #[.slice base n cap, .slice ad 0 c]).run P w = .ok (.slice base n cap) w := by
  cases ad <;> cases base <;> simp [Builtin.append_, run_underlying ht, sizeOf, typeInfo, hi, Builtin.lenOf, Builtin.firstCells, loadCells, loadCellsFrom, hn, storeCells]
/-- 'append(xs, ys...)', ys empty -/
theorem at_append_zero (hgd : o.guard = none) (s x : Operand) {t e : TypeId} {i : TypeInfo} (ho : o.op = .call { callee := .builtin .append, args := #[s, x], argTypes := #[t, t] })
    (ht : P.underlying t = some (.slice e)) (hi : P.info? e = some i) (base ad : Option Addr) (n cap c : Nat) (hn : n ≤ cap) (hs : a.eval s = .slice base n cap) (hx : a.eval x = .slice ad 0 c)
    (h : wpList P ops Q rest (a.put o.dst (.slice base n cap)) w) : wpList P ops Q (o :: rest) a w := by
  have hr := run_append_zero (w := w) (ty := o.type) ht hi base ad n cap c hn
  refine wpList_plain hgd fun K' hK' => ?_
  unfold Oper.wp execOp
  simp only [ho, resolve, invoke, builtin, Sem.run_bind, Sem.run_pure, Result.andThen_ok, List.map_toArray, List.map_cons, List.map_nil, hs, hx, hr]
  exact hK' _ _ h
/-- 'append(xs, ys...)' of bytes that are read, ys not empty, onto a row of one's own -/
theorem at_append_bytes (bytes : Nat) (hgd : o.guard = none) (s x : Operand) (t : TypeId)
    (ho : o.op = .call { callee := .builtin .append, args := #[s, x], argTypes := #[t, t] })
    (e : TypeId) (i : TypeInfo) (z : Value) (ht : P.underlying t = some (.slice e)) (hi : P.info? e = some i) (hz : i.zero = some z)
    (hsize : i.size = 1) (hby : i.bytes = bytes) (hzs : z.cells.size = 1)
    (v : Value) (L M : List UInt8) (F : Fp) (hs : a.eval s = v) (hrow : (row e 1 encB v L).on w F)
    (vx : Value) (hx : a.eval x = vx) (hb : Bytes w vx M) (h0 : 0 < M.length)
    (h63 : L.length + M.length ≤ maxLen) (hbytes : (L.length + M.length) * bytes ≤ 140737488355328)
    (h : ∀ v' w' F', (row e 1 encB v' (L ++ M)).on w' F' → Upd F F' w w' → wpList P ops Q rest (a.put o.dst v') w') : wpList P ops Q (o :: rest) a w := by
  obtain ⟨av, cv, rfl, _⟩ := hb.slice
  obtain ⟨ad, rfl, hsrc⟩ := hb.src M.length (Nat.le_refl _) h0
  rw [List.take_length] at hsrc
  have e1 := flat_bv M
  exact at_append_rows encB 1 bytes hgd s x t ho e i z ht hi hz hsize hby hzs (by decide) v L M M.length F hs hrow ad cv hx rfl (fun _ => rfl) (by rw [e1]; exact hsrc) (fun y u hu => by simp only [List.mem_singleton] at hu; subst hu; rfl) h63 hbytes h
end
end Go.Sub
