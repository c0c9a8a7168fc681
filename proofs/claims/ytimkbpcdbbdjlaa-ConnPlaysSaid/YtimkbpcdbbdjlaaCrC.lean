/- The document's connections: a table in memory; find. -/
import Derived.Test.YtimkbpcdbbdjlaaCrB
set_option linter.unusedVariables false
namespace Go.Proofs.Ytimkbpcdbbdjlaa.Cr
open Go.RowKit Go.Sub Go.ChangeMaps
structure RE where
  id : Int
  ri : Nat
  ro : Nat
  c : Con
abbrev RE.val (x : RE) : Int × Con := (x.id, x.c)
abbrev encR (x : RE) : List Value := [.int .i64 x.id, .int .u32 x.c.addr, .pointer (some ⟨x.ri, 0, none⟩), .pointer (some ⟨x.ro, 0, none⟩), .int .i64 x.c.credit, .bool x.c.ended]
abbrev rowR (v : Value) (L : List RE) : Asrt := row 95 6 encR v L
def ringsT (ri ro : Nat) (c : Con) : Asrt := .stars [rringT ri 512 c.inn, rringT ro 1024 c.out]
abbrev RE.asrt (x : RE) : Asrt := ringsT x.ri x.ro x.c
abbrev tabO (v : Value) (last : Int) : Obj := .cells #[v, .int .i64 last] 92 (0, 0)
def crT (b : Nat) (last : Int) (M : List (Int × Con)) : Asrt := .ex fun q : Value × List RE => .fact (q.2.map RE.val = M) (.stars (.blk b (tabO q.1 last) :: rowR q.1 q.2 :: q.2.map RE.asrt))
theorem re_open (L : List RE) (id : Int) : (mget (L.map RE.val) id = none ∧ (∀ x ∈ L, x.id ≠ id)) ∨
    ∃ i x, L[i]? = some x ∧ x.id = id ∧ mget (L.map RE.val) id = some x.c ∧ (∀ j y, j < i → L[j]? = some y → y.id ≠ id) ∧
      (∀ c', mset (L.map RE.val) id c' = (L.set i { x with c := c' }).map RE.val) ∧ mdel (L.map RE.val) id = (L.eraseIdx i).map RE.val := by
  induction L with
  | nil => exact .inl ⟨rfl, by simp⟩
  | cons y L ih =>
    by_cases e : y.id = id
    · exact .inr ⟨0, y, rfl, e, by simp [mget, e], fun j z hj => by omega, fun c' => by simp [mset, e], by simp [mdel, e]⟩
    · rcases ih with ⟨h1, h3⟩ | ⟨i, x, h1, h2, h3, h4, h5, h6⟩
      · refine .inl ⟨by simp [mget, e, h1], fun x hx => ?_⟩
        rcases List.mem_cons.1 hx with rfl | hx
        · exact e
        · exact h3 x hx
      · refine .inr ⟨i + 1, x, by simpa using h1, h2, by simp [mget, e, h3], fun j z hj hz => ?_, fun c' => by simp [mset, e, h5], by simp [mdel, e, h6]⟩
        cases j with
        | zero => simp only [List.getElem?_cons_zero, Option.some.injEq] at hz; subst hz; exact e
        | succ j => exact h4 j z (by omega) (by simpa using hz)
theorem tail_fold {A B : Asrt} {l : List Asrt} {w : World} {F : Fp} (h : (Asrt.stars (A :: B :: l)).on w F) : (Asrt.stars [A, B, .stars l]).on w F := by
  obtain ⟨Fa, _, ha, ⟨Fb, Fc, hb, hc, hbc, rfl⟩, hac, rfl⟩ := h
  exact ⟨Fa, _, ha, ⟨Fb, Fc, hb, Asrt.stars_one hc, hbc, rfl⟩, hac, rfl⟩
theorem tail_unfold {A B C : Asrt} {l : List Asrt} {w : World} {F : Fp} (h : (Asrt.stars [A, B, C, .stars l]).on w F) : (Asrt.stars (A :: B :: C :: l)).on w F := by
  obtain ⟨Fa, _, ha, ⟨Fb, _, hb, ⟨Fc, _, hc, ⟨Fd, Fe, hd, he, hde, rfl⟩, hcd, rfl⟩, hbc, rfl⟩, hac, rfl⟩ := h
  have he' : Fe = fun _ => False := he
  subst he'
  exact ⟨Fa, _, ha, ⟨Fb, _, hb, ⟨Fc, _, hc, by simpa using hd, hcd, rfl⟩, hbc, rfl⟩, hac, rfl⟩
theorem stars_app {A : Asrt} {l : List Asrt} {i : Nat} (h : l[i]? = some A) : l.Perm (A :: l.eraseIdx i) := by
  induction l generalizing i with
  | nil => simp at h
  | cons B l ih =>
    cases i with
    | zero => simp only [List.getElem?_cons_zero, Option.some.injEq] at h; subst h; exact List.Perm.refl _
    | succ i =>
      simp only [List.getElem?_cons_succ] at h
      rw [List.eraseIdx_cons_succ]
      exact (List.Perm.cons B (ih h)).trans (List.Perm.swap _ _ _)
theorem set_erase {α : Type} (l : List α) (i : Nat) (x : α) : (l.set i x).eraseIdx i = l.eraseIdx i := by
  induction l generalizing i with
  | nil => simp
  | cons y l ih => cases i with
    | zero => simp
    | succ i => simp [ih]
/-- a table opened at one connection -/
def Opened (b : Nat) (last : Int) (v : Value) (L : List RE) (i : Nat) (x : RE) (R : Asrt) : Asrt := .stars [.blk b (tabO v last), rowR v (L.set i x), ringsT x.ri x.ro x.c, R]
theorem cr_open {b : Nat} {last : Int} {M : List (Int × Con)} {w : World} {F : Fp} (hM : (crT b last M).on w F) (id : Int) :
    ∃ v L, w.cell? ⟨b, 0, none⟩ = some v ∧ w.cell? ⟨b, 1, none⟩ = some (.int .i64 last) ∧ b < w.heap.size ∧ (∀ j, w.frozen? ⟨b, j, none⟩ = false) ∧ L.map RE.val = M ∧ Reads w 6 encR v L ∧
    ((mget M id = none ∧ (∀ x ∈ L, x.id ≠ id)) ∨
     ∃ i x R, ∃ hi : i < L.length, L[i] = x ∧ x.id = id ∧ mget M id = some x.c ∧ (∀ j (hj : j < i), (L[j]'(by omega)).id ≠ id) ∧ (Opened b last v L i x R).on w F ∧
       ∀ c' w' F', (Opened b last v L i { x with c := c' } R).on w' F' → (crT b last (mset M id c')).on w' F') := by
  obtain ⟨⟨v, L⟩, rfl, hS⟩ := hM
  obtain ⟨hc, hf, hlt⟩ := box_cell (i := 0) hS rfl
  obtain ⟨_, hr, _⟩ := Asrt.stars_get hS 1 rfl
  refine ⟨v, L, hc 0, hc 1, hlt, hf, rfl, (row_reads (enc := encR) (fun _ => rfl) hr).1, ?_⟩
  rcases re_open L id with ⟨h1, h2⟩ | ⟨i, x, h1, h2, h3, h4, h5, _⟩
  · exact .inl ⟨h1, h2⟩
  · obtain ⟨hi, hx⟩ := List.getElem?_eq_some_iff.1 h1
    refine .inr ⟨i, x, .stars ((L.map RE.asrt).eraseIdx i), hi, hx, h2, h3, fun j hj => h4 j _ hj (List.getElem?_eq_getElem _), ?_, fun c' w' F' h => ?_⟩
    · have hp := stars_app (l := L.map RE.asrt) (i := i) (A := x.asrt) (by simp [h1])
      have := Asrt.stars_perm (List.Perm.cons _ (List.Perm.cons _ hp)) hS
      have e : L.set i x = L := by rw [← hx]; exact List.set_getElem_self hi
      unfold Opened
      rw [e]
      obtain ⟨Fa, _, ha, ⟨Fb, _, hb, ⟨Fc, Fd, hc, hd, hcd, rfl⟩, hbc, rfl⟩, hac, rfl⟩ := this
      exact ⟨Fa, _, ha, ⟨Fb, _, hb, ⟨Fc, Fd, hc, Asrt.stars_one hd, hcd, rfl⟩, hbc, rfl⟩, hac, rfl⟩
    · have h' := tail_unfold h
      refine ⟨(v, L.set i { x with c := c' }), (h5 c').symm, ?_⟩
      have hp := stars_app (l := (L.set i { x with c := c' }).map RE.asrt) (i := i) (A := RE.asrt { x with c := c' }) (by simp [hi])
      have e : ((L.set i { x with c := c' }).map RE.asrt).eraseIdx i = (L.map RE.asrt).eraseIdx i := by
        rw [List.map_set, set_erase]
      rw [e] at hp
      exact Asrt.stars_perm (List.Perm.cons _ (List.Perm.cons _ hp.symm)) h'
abbrev isId (id : Int) (x : RE) : Bool := x.id == id
theorem reads_re {w : World} {v : Value} {L : List RE} (h : Reads w 6 encR v L) : ∃ a ca, v = .slice a L.length ca ∧ ∀ (k : Nat) (hk : k < L.length), ∃ g off, a = some ⟨g, off, none⟩ ∧ g < w.heap.size ∧
    w.cell? ⟨g, off + k * 6, none⟩ = some (.int .i64 L[k].id) := by
  obtain ⟨a, ca, e, ha⟩ := h
  refine ⟨a, ca, e, fun k hk => ?_⟩
  obtain ⟨g, off, e, hg, hc⟩ := ha k L[k] (List.getElem?_eq_getElem hk)
  exact ⟨g, off, e, hg, hc 0 _ rfl⟩
set_option maxHeartbeats 1000000 in
theorem rfind_no {b : Nat} {v : Value} {L : List RE} {w : World} (k0 : w.cell? ⟨b, 0, none⟩ = some v) (hr : Reads w 6 encR v L) (hl : L.length ≤ 1000000) (id : Int) (hn : ∀ x ∈ L, x.id ≠ id) :
    Calls Try.prog 89 #[.pointer (some ⟨b, 0, none⟩), .int .i64 id] w (Ret (.int .i64 (-1)) fun w' => w = w') := by
  obtain ⟨a, ca, rfl, hR⟩ := reads_re hr
  have HR := Keep.mk hR
  have HN := Keep.mk hn
  clear hR hr hn
  go_enter Try.func89, Try.ntmps89
  go_wp2_with fail
  go_loop [5] (fun i => ∃ k : Nat, k ≤ L.length ∧ i = .int .i64 k) (fun i => L.length - (intOf i).toNat)
  case atStart => exact ⟨0, by omega, rfl⟩
  case round =>
    obtain ⟨k, hk, rfl⟩ := hrel
    by_cases hk' : k < L.length
    · obtain ⟨g, off, rfl, hg, hx⟩ := HR.out k hk'
      have e1 : (L[k].id == id) = false := by simpa using HN.out _ (List.getElem_mem hk')
      generalize L[k].id = y at *
      go_wp2_with fail
      go_round
      case rel => exact ⟨k + 1, by omega, by go_num⟩
      case measure => simp [intOf]; omega
    · go_wp2_with fail
      go_returns
      exact ⟨rfl, rfl⟩
set_option maxHeartbeats 1000000 in
theorem rfind_at {b : Nat} {v : Value} {L : List RE} {w : World} (k0 : w.cell? ⟨b, 0, none⟩ = some v) (hr : Reads w 6 encR v L) (hl : L.length ≤ 1000000) (id : Int) {i : Nat} (hi : i < L.length) (he : L[i].id = id) (hn : ∀ j (hj : j < i), (L[j]'(by omega)).id ≠ id) :
    Calls Try.prog 89 #[.pointer (some ⟨b, 0, none⟩), .int .i64 id] w (Ret (.int .i64 (i : Int)) fun w' => w = w') := by
  obtain ⟨a, ca, rfl, hR⟩ := reads_re hr
  have HR := Keep.mk hR
  have HN := Keep.mk hn
  have HE := Keep.mk he
  clear hR hr hn he
  go_enter Try.func89, Try.ntmps89
  go_wp2_with fail
  go_loop [5] (fun u => ∃ k : Nat, k ≤ i ∧ u = .int .i64 k) (fun u => i - (intOf u).toNat)
  case atStart => exact ⟨0, by omega, rfl⟩
  case round =>
    obtain ⟨k, hk, rfl⟩ := hrel
    have hkL : k < L.length := by omega
    obtain ⟨g, off, rfl, hg, hx⟩ := HR.out k hkL
    by_cases hk' : k < i
    · have e1 : (L[k].id == id) = false := by simpa using HN.out k hk'
      generalize L[k].id = y at *
      go_wp2_with fail
      go_round
      case rel => exact ⟨k + 1, by omega, by go_num⟩
      case measure => simp [intOf]; omega
    · obtain rfl : k = i := by omega
      have e1 : (L[k].id == id) = true := by simpa using HE.out
      generalize L[k].id = y at *
      go_wp2_with fail
      go_returns
      exact ⟨rfl, rfl⟩
end Go.Proofs.Ytimkbpcdbbdjlaa.Cr
