/- Part J: bytes that are read; cuts of them. No program's text. -/
import Derived.Test.YtpjfakmalhenjaaDoorSubH
import Derived.Test.YtpjfakmalhenjaaDoorSubI
namespace Go.Sub
/-- The slice value v reads as these bytes. -/
def Bytes (w : World) (v : Value) (L : List UInt8) : Prop :=
  ∃ a cap, v = .slice a L.length cap ∧ L.length ≤ cap ∧ ∀ i x, L[i]? = some x → ∃ g off, a = some ⟨g, off, none⟩ ∧ g < w.heap.size ∧ w.cell? ⟨g, off + i, none⟩ = some (bv x)
/-- where 'xs[k:]' stands -/
def cutAt (a : Option Addr) (cap k : Nat) : Option Addr := if cap = k then a else a.map (·.add k)
theorem add0 (a : Addr) : a.add 0 = a := by unfold Addr.add; simp
section
variable {P : Program} {t e : TypeId}
theorem run_cut (ht : P.underlying t = some (.slice e)) (hs : (P.info? e).map (·.size) = some 1) (a : Option Addr) (len cap k : Nat) (hk : k ≤ len) : ∀ W : World,
    (Instr.slice t (.slice a len cap) (some (.int .i64 k)) none none).run P W = .ok (.slice (cutAt a cap k) (len - k) (cap - k)) W := by
  intro W
  obtain ⟨i, hi, hz⟩ := Option.map_eq_some_iff.1 hs
  simp [Instr.slice, run_underlying ht, Instr.sliceBounds, run_sliceBound, sizeOf, typeInfo, hi, hz, cutAt, Result.andThen, hk, Int.toNat_natCast]
theorem run_cut_to (ht : P.underlying t = some (.slice e)) (hs : (P.info? e).map (·.size) = some 1) (a : Option Addr) (len cap k : Nat) (hk : k ≤ cap) : ∀ W : World,
    (Instr.slice t (.slice a len cap) none (some (.int .i64 k)) none).run P W = .ok (.slice a k cap) W := by
  intro W
  obtain ⟨i, hi, hz⟩ := Option.map_eq_some_iff.1 hs
  have ha : ¬ cap = 0 → Option.map (fun x => x.add 0) a = a := fun _ => by cases a <;> simp [add0]
  simp [Instr.slice, run_underlying ht, Instr.sliceBounds, run_sliceBound, sizeOf, typeInfo, hi, Result.andThen, hk, Int.toNat_natCast]
  exact ha
theorem run_cut_mid (ht : P.underlying t = some (.slice e)) (hs : (P.info? e).map (·.size) = some 1) (a : Option Addr) (len cap k h : Nat) (hk : k ≤ h) (hh : h ≤ cap) : ∀ W : World,
    (Instr.slice t (.slice a len cap) (some (.int .i64 k)) (some (.int .i64 h)) none).run P W = .ok (.slice (cutAt a cap k) (h - k) (cap - k)) W := by
  intro W
  obtain ⟨i, hi, hz⟩ := Option.map_eq_some_iff.1 hs
  simp [Instr.slice, run_underlying ht, Instr.sliceBounds, run_sliceBound, sizeOf, typeInfo, hi, hz, cutAt, Result.andThen, hk, hh, Int.toNat_natCast]
end
namespace Bytes
variable {w w' : World} {a : Option Addr} {n cap k h : Nat} {v : Value} {L : List UInt8} {F F' : Fp}
theorem slice (hb : Bytes w v L) : ∃ a cap, v = .slice a L.length cap ∧ L.length ≤ cap := let ⟨a, c, h1, h2, _⟩ := hb; ⟨a, c, h1, h2⟩
theorem len (hb : Bytes w (.slice a n cap) L) : n = L.length ∧ L.length ≤ cap := by
  obtain ⟨_, _, he, hc, _⟩ := hb
  cases he
  exact ⟨rfl, hc⟩
theorem at' (hb : Bytes w (.slice a n cap) L) (i : Nat) (hi : i < L.length) : ∃ g off, a = some ⟨g, off, none⟩ ∧ g < w.heap.size ∧ w.cell? ⟨g, off + i, none⟩ = some (bv L[i]) := by
  obtain ⟨_, _, he, _, hr⟩ := hb
  cases he
  exact hr i _ (List.getElem?_eq_getElem hi)
theorem src (hb : Bytes w (.slice a n cap) L) (m : Nat) (hm : m ≤ L.length) (h0 : 0 < m) : ∃ ad, a = some ad ∧ ∀ j u, ((L.take m).map bv)[j]? = some u → w.cell? (ad.add j) = some u := by
  obtain ⟨g, off, rfl, _, _⟩ := hb.at' 0 (by omega)
  refine ⟨_, rfl, fun j u hj => ?_⟩
  have hj' : j < m := by
    rcases Nat.lt_or_ge j m with h | h
    · exact h
    · rw [List.getElem?_eq_none (by simp; omega)] at hj; cases hj
  obtain ⟨g', off', he, _, hc⟩ := hb.at' j (by omega)
  cases he
  rw [List.getElem?_map, List.getElem?_take_of_lt hj', List.getElem?_eq_getElem (by omega)] at hj
  have e : (⟨g, off, none⟩ : Addr).add j = ⟨g, off + j, none⟩ := by
    unfold Addr.add
    split
    · rename_i h; subst h; rfl
    · rfl
  rw [e, hc]
  exact hj
theorem nil (w : World) (a : Option Addr) (cap : Nat) : Bytes w (.slice a 0 cap) [] := ⟨a, cap, rfl, Nat.zero_le _, fun i x hx => by simp at hx⟩
theorem drop (hb : Bytes w (.slice a n cap) L) (hk : k ≤ L.length) : Bytes w (.slice (cutAt a cap k) (L.length - k) (cap - k)) (L.drop k) := by
  obtain ⟨_, hc⟩ := hb.len
  refine ⟨_, _, by rw [List.length_drop], by rw [List.length_drop]; omega, fun i x hx => ?_⟩
  rw [List.getElem?_drop] at hx
  have hi : k + i < L.length := by
    rcases Nat.lt_or_ge (k + i) L.length with h | h
    · exact h
    · rw [List.getElem?_eq_none h] at hx; cases hx
  obtain ⟨g, off, rfl, hg, hcell⟩ := hb.at' (k + i) hi
  rw [List.getElem?_eq_getElem hi] at hx
  cases hx
  refine ⟨g, off + k, ?_, hg, by rw [Nat.add_assoc]; exact hcell⟩
  rw [cutAt, if_neg (by omega), Option.map_some]
  unfold Addr.add
  split
  · rename_i h; subst h; rfl
  · rfl
theorem take (hb : Bytes w (.slice a n cap) L) (hk : k ≤ L.length) : Bytes w (.slice a k cap) (L.take k) := by
  obtain ⟨_, hc⟩ := hb.len
  have e : (L.take k).length = k := by simp; omega
  refine ⟨a, cap, by rw [e], by omega, fun i x hx => ?_⟩
  have hi : i < k := by
    rcases Nat.lt_or_ge i k with h | h
    · exact h
    · rw [List.getElem?_eq_none (by omega)] at hx; cases hx
  rw [List.getElem?_take_of_lt hi, List.getElem?_eq_getElem (by omega)] at hx
  cases hx
  exact hb.at' i (by omega)
theorem upd (hb : Bytes w v L) (hu : Upd F F' w w') (hd : ∀ g, v.ownBlock = some g → L ≠ [] → ¬ F g) : Bytes w' v L := by
  obtain ⟨a, cap, rfl, hc, hr⟩ := hb
  refine ⟨a, cap, rfl, hc, fun i x hx => ?_⟩
  obtain ⟨g, off, rfl, hg, hcell⟩ := hr i x hx
  exact ⟨g, off, rfl, Nat.lt_of_lt_of_le hg hu.size, by rw [hu.cell hg (hd g rfl (fun e => by subst e; simp at hx))]; exact hcell⟩
end Bytes
/-- bytes that are all nothing -/
def zeros (n : Nat) : List UInt8 := List.replicate n 0
theorem zeros_len (n : Nat) : (zeros n).length = n := by simp [zeros]
theorem made_bytes (n : Nat) : madeCells #[Value.int .u8 0] n = ((zeros n).map bv).toArray := by
  apply Array.ext
  · simp [madeCells, zeros]
  · intro i h1 h2
    simp [madeCells, zeros, Nat.mod_one]
theorem run_make_bytes {P : Program} {t e : TypeId} (ht : P.underlying t = some (.slice e)) (hi : (P.info? e).map (fun i => (i.zero, i.size, i.bytes)) = some (some (.int .u8 0), 1, 1)) (n : Nat) (hn : n ≤ 1000000000) : ∀ W : World,
    (Instr.makeSlice t (.int .i64 n) (.int .i64 n)).run P W = .ok (.slice (some ⟨W.heap.size, 0, none⟩) n n) (W.alloc (.cells ((zeros n).map bv).toArray e)) := by
  intro W
  obtain ⟨i, h0, h1⟩ := Option.map_eq_some_iff.1 hi
  simp only [Prod.mk.injEq] at h1
  have hr := run_make (P := P) W t e i (.int .u8 0) ht h0 h1.1 .i64 .i64 n n (by omega) (Int.le_refl _) (by rw [h1.2.2]; omega) (by omega)
  rw [hr, h1.2.1, Nat.mul_one, Int.toNat_natCast]
  show _ = Result.ok _ (W.alloc (.cells _ e))
  rw [← made_bytes]
  rfl
/-- Bytes that one owns. -/
def bytesT (v : Value) (L : List UInt8) : Asrt where
  on := fun w F => Bytes w v L ∧ F = fun k => L ≠ [] ∧ v.ownBlock = some k
  loc := fun {w w' F} ⟨⟨a, cap, hv, hc, hr⟩, hF⟩ hk => by
    subst hF hv
    refine ⟨⟨a, cap, rfl, hc, fun i x hx => ?_⟩, rfl⟩
    obtain ⟨g, off, rfl, hg, hcell⟩ := hr i x hx
    have hL : L ≠ [] := fun e => by subst e; simp at hx
    have hb := hk g ⟨hL, rfl⟩
    refine ⟨g, off, rfl, ?_, (World.cell?_of_block (a := ⟨g, off + i, none⟩) hb).trans hcell⟩
    have : w.obj g ≠ none := fun h => by
      have : w.heap[g]? = none := h
      rw [Array.getElem?_eq_none_iff] at this
      omega
    rcases Nat.lt_or_ge g w'.heap.size with h | h
    · exact h
    · exact absurd (hb.symm.trans (show w'.obj g = none from Array.getElem?_eq_none h)) this
  lt := fun {w F} ⟨⟨a, cap, hv, hc, hr⟩, hF⟩ b hb => by
    subst hF hv
    obtain ⟨hL, hb⟩ := hb
    obtain ⟨x, L', rfl⟩ := List.exists_cons_of_ne_nil hL
    obtain ⟨g, off, rfl, hg, _⟩ := hr 0 x rfl
    cases hb
    exact hg
theorem bytesT_nil (w : World) (a : Option Addr) (cap : Nat) : (bytesT (.slice a 0 cap) []).on w none' := ⟨Bytes.nil w a cap, by funext k; simp [none']⟩
/-- something beside all that is there -/
theorem Asrt.stars_add {l : List Asrt} {A : Asrt} {w w' : World} {F F' Fn : Fp} (hS : (stars l).on w' F') (hA : A.on w' Fn) (hu : Upd F F' w w') (hn : ∀ k, Fn k → w.heap.size ≤ k) (hd : ∀ k, Fn k → ¬ F' k) :
    ∃ F'', (stars (A :: l)).on w' F'' ∧ Upd F F'' w w' :=
  ⟨fun k => Fn k ∨ F' k, ⟨Fn, F', hA, hS, fun k a b => hd k a b, rfl⟩, hu.re fun k hk => hk.elim (fun h => .inr (hn k h)) (hu.fp k)⟩
theorem Asrt.stars_upd2 : ∀ (l : List Asrt) (i : Nat) (A : Asrt), l[i]? = some A → ∀ {w : World} {F : Fp}, (stars l).on w F →
    ∃ Fi, A.on w Fi ∧ (∀ k, Fi k → F k) ∧ (∀ j B, j ≠ i → l[j]? = some B → ∃ Fj, B.on w Fj ∧ (∀ k, Fj k → F k) ∧ ∀ k, Fj k → ¬ Fi k) ∧
      ∀ (w' : World) (Fi' : Fp) (A' : Asrt), A'.on w' Fi' → Upd Fi Fi' w w' → ∃ F', (stars (l.set i A')).on w' F' ∧ Upd F F' w w'
  | [], i, A, h, _, _, _ => by simp at h
  | B :: l, 0, A, h, w, F, hS => by
    simp only [List.getElem?_cons_zero, Option.some.injEq] at h
    subst h
    have hS0 := hS
    obtain ⟨F1, F2, h1, h2, hd, rfl⟩ := hS
    refine ⟨F1, h1, fun k h => .inl h, fun j C hj hC => ?_, fun w' Fi' A' hA' hu => ⟨fun k => Fi' k ∨ F2 k, ⟨Fi', F2, hA', (stars l).frame h2 hu (fun k a b => hd k b a), fun k a b => ?_, rfl⟩, hu.weaken (fun k h => .inl h) fun k hk => ?_⟩⟩
    · obtain ⟨j, rfl⟩ : ∃ j', j = j' + 1 := ⟨j - 1, by omega⟩
      rw [List.getElem?_cons_succ] at hC
      obtain ⟨Fj, hj, hs⟩ := stars_get h2 j hC
      exact ⟨Fj, hj, fun k hk => .inr (hs k hk), fun k hk hk1 => hd k hk1 (hs k hk)⟩
    · rcases hu.fp k a with h3 | h3
      · exact hd k h3 b
      · have := (stars l).lt h2 k b; omega
    · rcases hk with h3 | h3
      · exact .inr (.inl h3)
      · exact .inl (.inr h3)
  | B :: l, i + 1, A, h, w, F, hS => by
    simp only [List.getElem?_cons_succ] at h
    obtain ⟨F1, F2, h1, h2, hd, rfl⟩ := hS
    obtain ⟨Fi, hA, hsub, hoth, hgo⟩ := stars_upd2 l i A h h2
    refine ⟨Fi, hA, fun k h => .inr (hsub k h), fun j C hj hC => ?_, fun w' Fi' A' hA' hu => ?_⟩
    · cases j with
      | zero =>
        simp only [List.getElem?_cons_zero, Option.some.injEq] at hC
        subst hC
        exact ⟨F1, h1, fun k hk => .inl hk, fun k hk hk1 => hd k hk (hsub k hk1)⟩
      | succ j =>
        rw [List.getElem?_cons_succ] at hC
        obtain ⟨Fj, a, b, c⟩ := hoth j C (by omega) hC
        exact ⟨Fj, a, fun k hk => .inr (b k hk), c⟩
    · obtain ⟨F2', hS', hu'⟩ := hgo w' Fi' A' hA' hu
      refine ⟨fun k => F1 k ∨ F2' k, ⟨F1, F2', B.frame h1 hu' hd, hS', fun k a b => ?_, rfl⟩, hu'.weaken (fun k h => .inr h) fun k hk => ?_⟩
      · rcases hu'.fp k b with h3 | h3
        · exact hd k a h3
        · have := B.lt h1 k a; omega
      · rcases hk with h3 | h3
        · exact .inl (.inl h3)
        · exact .inr (.inl h3)
theorem Asrt.star_comm {A B : Asrt} {w : World} {F : Fp} (h : (star A B).on w F) : (star B A).on w F := by
  obtain ⟨F1, F2, h1, h2, hd, rfl⟩ := h
  exact ⟨F2, F1, h2, h1, fun k a b => hd k b a, by funext k; exact propext Or.comm⟩
theorem Asrt.star_assoc {A B C : Asrt} {w : World} {F : Fp} (h : (star (star A B) C).on w F) : (star A (star B C)).on w F := by
  obtain ⟨F1, F2, ⟨F3, F4, h3, h4, hd', rfl⟩, h2, hd, rfl⟩ := h
  refine ⟨F3, fun k => F4 k ∨ F2 k, h3, ⟨F4, F2, h4, h2, fun k a b => hd k (.inr a) b, rfl⟩, fun k a b => b.elim (hd' k a) (hd k (.inl a)), ?_⟩
  funext k
  exact propext or_assoc
theorem Asrt.star_swap {A B C : Asrt} {w : World} {F : Fp} (h : (star A (star B C)).on w F) : (star B (star A C)).on w F := by
  obtain ⟨F1, F2, h1, ⟨F3, F4, h3, h4, hd', rfl⟩, hd, rfl⟩ := h
  refine ⟨F3, fun k => F1 k ∨ F4 k, h3, ⟨F1, F4, h1, h4, fun k a b => hd k a (.inr b), rfl⟩, fun k a b => b.elim (fun c => hd k c (.inl a)) (fun c => hd' k a c), ?_⟩
  funext k
  exact propext ⟨fun h => h.elim (fun a => .inr (.inl a)) (fun b => b.elim .inl fun c => .inr (.inr c)), fun h => h.elim (fun a => .inr (.inl a)) (fun b => b.elim .inl fun c => .inr (.inr c))⟩
theorem Asrt.star_imp {A B C : Asrt} {w : World} {F : Fp} (hi : ∀ G, B.on w G → C.on w G) (h : (star A B).on w F) : (star A C).on w F := by
  obtain ⟨F1, F2, h1, h2, hd, hF⟩ := h
  exact ⟨F1, F2, h1, hi _ h2, hd, hF⟩
theorem Asrt.emp_star {A : Asrt} {w : World} {F : Fp} (h : A.on w F) : (star emp A).on w F := ⟨fun _ => False, F, rfl, h, fun _ h _ => h, by funext k; simp⟩
theorem Asrt.of_emp_star {A : Asrt} {w : World} {F : Fp} (h : (star emp A).on w F) : A.on w F := by
  obtain ⟨F1, F2, h1, h2, _, rfl⟩ := h
  have h1 : F1 = fun _ => False := h1
  subst h1
  have : (fun k => False ∨ F2 k) = F2 := by funext k; simp
  rw [this]
  exact h2
/-- what a part gives besides comes out of the whole -/
theorem Asrt.star_out {X C : Asrt} : ∀ (l : List Asrt) (i : Nat), i < l.length → ∀ {w : World} {F : Fp}, (stars (l.set i (star X C))).on w F → (star X (stars (l.set i C))).on w F
  | [], i, hi, _, _, _ => by simp at hi
  | B :: l, 0, _, w, F, h => star_assoc h
  | B :: l, i + 1, hi, w, F, h => star_swap (star_imp (fun G hg => star_out l i (by simpa using hi) hg) h)
end Go.Sub
