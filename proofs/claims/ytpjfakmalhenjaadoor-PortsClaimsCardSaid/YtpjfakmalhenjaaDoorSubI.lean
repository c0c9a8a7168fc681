/- Part I: 'copy' into a block that is known whole; 'make' of bytes. No program's text. -/
import Derived.Test.YtpjfakmalhenjaaDoorSubE
import Derived.Laws.CopyOwn
import Derived.Laws.MakeOwn
namespace Go.Sub
open Go.ChangeMaps (setBlock)
section
variable {P : Program} {w : World} {ops : Array Oper} {rest : List Oper} {o : Oper} {a : Act} {Q : Exit → Act → World → Prop}
theorem setRow_blk {g : Nat} {cur : Array Value} {t : TypeId} {w : World} {F : Fp} (h : (Asrt.blk g (.cells cur t (0, 0))).on w F) (cs : Array Value) :
    (Asrt.blk g (.cells cs t (0, 0))).on (w.setRow g cs) F ∧ Upd F F w (w.setRow g cs) :=
  ⟨⟨setRow_heap w g cur cs t (0, 0) h.1, h.2⟩, ⟨rfl, rfl, rfl, by simp [World.setRow], fun k _ hn => setRow_other w g k cs (fun e => hn (by rw [h.2]; exact e)), fun k hk => .inl hk⟩⟩
/-- 'copy(dst, src)', dst lying in a block that is known whole. -/
theorem at_copy (hgd : o.guard = none) (d s : Operand) (dT sT : TypeId)
    (ho : o.op = .call { callee := .builtin .copy, args := #[d, s], argTypes := #[dT, sT] }) (elem : TypeId) (hu : P.underlying dT = some (.slice elem)) (hsz : (P.info? elem).map (·.size) = some 1)
    (dp sp : Option Addr) (dLen dCap sLen sCap : Nat) (hd : a.eval d = .slice dp dLen dCap) (hs : a.eval s = .slice sp sLen sCap)
    (g off : Nat) (cur : List Value) (t : TypeId) (F : Fp) (hg : (Asrt.blk g (.cells cur.toArray t (0, 0))).on w F) (cs : List Value) (hn : cs.length = Nat.min sLen dLen)
    (hpos : 0 < cs.length → dp = some ⟨g, off, none⟩ ∧ ∃ ad, sp = some ad ∧ ∀ j v, cs[j]? = some v → w.cell? (ad.add j) = some v)
    (hfit : off + cs.length ≤ cur.length) (h1 : ∀ v ∈ cs, v.oneCell' = true)
    (h : ∀ w', (Asrt.blk g (.cells (splice cur off cs).toArray t (0, 0))).on w' F → Upd F F w w' → wpList P ops Q rest (a.put o.dst (goInt cs.length)) w') :
    wpList P ops Q (o :: rest) a w := by
  by_cases h0 : cs.length = 0
  · obtain rfl : cs = [] := List.eq_nil_of_length_eq_zero h0
    refine wpList_copy_nothing hgd d s dT sT ho elem hu hsz dp sp dLen dCap sLen sCap hd hs (by simpa using hn.symm) ?_
    exact h w (by simpa [splice] using hg) (Upd.refl F w)
  · obtain ⟨rfl, ad, rfl, hsrc⟩ := hpos (by omega)
    refine wpList_copy_own hgd d s dT sT ho elem hu hsz g off dLen dCap ad sLen sCap hd hs cur.toArray t hg.1 cs hn hsrc (by simpa using hfit) h1 ?_
    obtain ⟨b, u⟩ := setRow_blk hg (splice cur off cs).toArray
    have := h _ b u
    simpa [splice] using this
end

/-! ### bytes -/
abbrev bv (x : UInt8) : Value := .int .u8 (x.toNat : Int)
theorem bv_one (l : List UInt8) : ∀ v ∈ l.map bv, v.oneCell' = true := by
  intro v hv
  obtain ⟨x, _, rfl⟩ := List.mem_map.1 hv
  rfl
theorem splice_map {α β : Type} (f : α → β) (L : List α) (p : Nat) (c : List α) : splice (L.map f) p (c.map f) = (splice L p c).map f := by
  simp [splice]
theorem splice_get {α : Type} (L : List α) (p : Nat) (c : List α) (h : p + c.length ≤ L.length) (j : Nat) :
    (splice L p c)[j]? = if j < p then L[j]? else if j < p + c.length then c[j - p]? else L[j]? := by
  unfold splice
  by_cases h1 : j < p
  · rw [if_pos h1, List.getElem?_append_left (by simp; omega), List.getElem?_take_of_lt h1]
  · rw [if_neg h1, List.getElem?_append_right (by simp; omega)]
    have e : (L.take p).length = p := by simp; omega
    rw [e]
    by_cases h2 : j < p + c.length
    · rw [if_pos h2, List.getElem?_append_left (by omega)]
    · rw [if_neg h2, List.getElem?_append_right (by omega), List.getElem?_drop]
      congr 1; omega

/-! ### bytes in a ring -/
def wrapi (N i : Nat) : Nat := if i < N then i else i - N
structure RingOk (N : Nat) (R : List UInt8) (a : Nat) (B : List UInt8) : Prop where
  len : R.length = N
  at' : a < N
  fit : B.length ≤ N
  get : ∀ i, i < B.length → R[wrapi N (a + i)]? = B[i]?
theorem ring_new {N : Nat} (h : 0 < N) : RingOk N (List.replicate N 0) 0 [] := ⟨by simp, h, by simp, fun i hi => by simp at hi⟩
theorem ring_take {N : Nat} {R : List UInt8} {a : Nat} {B : List UInt8} (h : RingOk N R a B) {n : Nat} (hn : n ≤ B.length) : RingOk N R (wrapi N (a + n)) (B.drop n) := by
  have h1 := h.at'
  have h2 := h.fit
  refine ⟨h.len, by unfold wrapi; split <;> omega, by simp; omega, fun i hi => ?_⟩
  simp only [List.length_drop] at hi
  rw [List.getElem?_drop, ← h.get (n + i) (by omega)]
  congr 1
  unfold wrapi
  repeat' split
  all_goals omega
theorem ring_first {N : Nat} {R : List UInt8} {a : Nat} {B : List UInt8} (h : RingOk N R a B) {n : Nat} (hn : n ≤ B.length) :
    (R.drop a).take (min n (N - a)) ++ R.take (n - min n (N - a)) = B.take n := by
  have h1 := h.at'
  have h2 := h.fit
  have h3 := h.len
  apply List.ext_getElem?
  intro i
  by_cases hi : i < n
  · rw [List.getElem?_take_of_lt hi, ← h.get i (by omega)]
    by_cases h4 : i < min n (N - a)
    · rw [List.getElem?_append_left (by simp; omega), List.getElem?_take_of_lt h4, List.getElem?_drop]
      congr 1
      unfold wrapi
      split <;> omega
    · rw [List.getElem?_append_right (by simp; omega)]
      have e : ((R.drop a).take (min n (N - a))).length = min n (N - a) := by simp; omega
      rw [e, List.getElem?_take_of_lt (by omega)]
      congr 1
      unfold wrapi
      split <;> omega
  · rw [List.getElem?_eq_none (by simp; omega), List.getElem?_eq_none (by simp; omega)]
theorem ring_add {N : Nat} {R : List UInt8} {a : Nat} {B : List UInt8} (h : RingOk N R a B) (b : List UInt8) {n p f : Nat} (hn : n = min b.length (N - B.length)) (hp : p = wrapi N (a + B.length)) (hf : f = min n (N - p)) :
    RingOk N (splice (splice R p (b.take f)) 0 ((b.drop f).take (n - f))) a (B ++ b.take n) ∧ p + (b.take f).length ≤ R.length ∧ 0 + ((b.drop f).take (n - f)).length ≤ R.length := by
  have h1 := h.at'
  have h2 := h.fit
  have h3 := h.len
  have hpN : p < N ∨ n = 0 := by
    rw [hp]
    unfold wrapi
    split <;> omega
  have hpN' : p ≤ N := by
    rw [hp]
    unfold wrapi
    split <;> omega
  have lf : (b.take f).length = f := by simp; omega
  have lg : ((b.drop f).take (n - f)).length = n - f := by simp; omega
  have f1 : p + (b.take f).length ≤ R.length := by rw [lf]; omega
  have ls : (splice R p (b.take f)).length = N := by rw [length_splice _ _ _ f1, h3]
  have f2 : 0 + ((b.drop f).take (n - f)).length ≤ (splice R p (b.take f)).length := by rw [lg, ls]; omega
  refine ⟨⟨by rw [length_splice _ _ _ f2, ls], h1, by simp; omega, fun i hi => ?_⟩, f1, by rw [lg]; omega⟩
  have hl : (B ++ b.take n).length = B.length + n := by simp; omega
  rw [hl] at hi
  rw [splice_get _ _ _ f2, splice_get _ _ _ f1, lf, lg]
  by_cases hB : i < B.length
  · rw [List.getElem?_append_left hB, ← h.get i hB]
    have hw : wrapi N (a + i) < p ∨ p + f ≤ wrapi N (a + i) := by
      rw [hp] at *
      unfold wrapi at *
      repeat' split
      all_goals (repeat' split at hpN)
      all_goals (repeat' split at hf)
      all_goals omega
    have hw2 : n - f ≤ wrapi N (a + i) := by
      rw [hp] at *
      unfold wrapi at *
      repeat' split
      all_goals (repeat' split at hf)
      all_goals omega
    rw [if_neg (by omega), if_neg (by omega)]
    rcases hw with hw | hw
    · rw [if_pos hw]
    · rw [if_neg (by omega), if_neg (by omega)]
  · obtain ⟨k, rfl⟩ : ∃ k, i = B.length + k := ⟨i - B.length, by omega⟩
    have e0 : (b.take n)[k]? = b[k]? := List.getElem?_take_of_lt (by omega)
    rw [List.getElem?_append_right (by omega), Nat.add_sub_cancel_left, e0]
    by_cases hk : k < f
    · have e : wrapi N (a + (B.length + k)) = p + k := by
        rw [hp] at *
        unfold wrapi at *
        repeat' split
        all_goals (repeat' split at hf)
        all_goals omega
      rw [e, if_neg (by omega), if_neg (by omega), if_neg (by omega), if_pos (by omega), List.getElem?_take_of_lt (by omega)]
      congr 1; omega
    · have e : wrapi N (a + (B.length + k)) = k - f := by
        rw [hp] at *
        unfold wrapi at *
        repeat' split
        all_goals (repeat' split at hf)
        all_goals omega
      rw [e, if_neg (by omega), if_pos (by omega), List.getElem?_take_of_lt (by omega), List.getElem?_drop]
      congr 1; omega
end Go.Sub
