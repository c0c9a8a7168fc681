/- ConnApart: the plain law. -/
import Derived.Test.YtimkbpcdbbdjlaaConnQ
import Derived.Test.YtimkbpcdbbdjlaaSubM
namespace Go.Proofs.Ytimkbpcdbbdjlaa
open Go.RowKit Go.Sub Go.ChangeMaps
namespace connApart
theorem does_self (o : COp) (h0 : o.what ≠ 0) (h1 : o.what ≠ 1) : ∃ f : Con → Con, (∀ c, (f c).addr = c.addr) ∧ ∀ (M : CT) (c : Con) (last : Int), mget M o.id = some c → mget (doesS last M o).2 o.id = some (f c) := by
  by_cases h2 : o.what = 2 ∨ o.what = 3
  · refine ⟨fun c => if c.ended = true then c else { c with inn := c.inn ++ o.b.take (min o.b.length (512 - c.inn.length)) }, fun c => by simp only; split <;> rfl, fun M c last h => ?_⟩
    simp only [doesS, if_neg h0, if_neg h1, if_pos h2, feedS, h]
    split
    · exact h
    · rw [mget_mset, if_pos rfl]
  · by_cases h4 : o.what = 4
    · refine ⟨fun c => { c with inn := c.inn.drop (firstS c.inn).2.1 }, fun c => rfl, fun M c last h => ?_⟩
      simp only [doesS, if_neg h0, if_neg h1, if_neg h2, if_pos h4, nextS, h]
      rw [mget_mset, if_pos rfl]
    · by_cases h5 : o.what = 5
      · refine ⟨fun c => { c with inn := c.inn.drop (min o.n.toNat c.inn.length) }, fun c => rfl, fun M c last h => ?_⟩
        simp only [doesS, if_neg h0, if_neg h1, if_neg h2, if_neg h4, if_pos h5, restS, h]
        rw [mget_mset, if_pos rfl]
      · by_cases h6 : o.what = 6 ∨ o.what = 7
        · refine ⟨fun c => if o.b.length ≤ 1024 - c.out.length then { c with out := c.out ++ o.b } else c, fun c => by simp only; split <;> rfl, fun M c last h => ?_⟩
          simp only [doesS, if_neg h0, if_neg h1, if_neg h2, if_neg h4, if_neg h5, if_pos h6, sayS, h]
          split
          · rw [mget_mset, if_pos rfl]
          · exact h
        · by_cases h8 : o.what = 8
          · refine ⟨fun c => if o.n < 0 ∨ 1073741824 < o.n then c else { c with credit := min (c.credit + o.n) 1073741824 }, fun c => by simp only; split <;> rfl, fun M c last h => ?_⟩
            simp only [doesS, if_neg h0, if_neg h1, if_neg h2, if_neg h4, if_neg h5, if_neg h6, if_pos h8, budgetS, h]
            split
            · exact h
            · rw [mget_mset, if_pos rfl]
          · by_cases h9 : o.what = 9
            · refine ⟨fun c => { c with out := c.out.drop (min c.credit.toNat c.out.length), credit := c.credit - (min c.credit.toNat c.out.length : Nat) }, fun c => rfl, fun M c last h => ?_⟩
              simp only [doesS, if_neg h0, if_neg h1, if_neg h2, if_neg h4, if_neg h5, if_neg h6, if_neg h8, if_pos h9, flushS, h]
              rw [mget_mset, if_pos rfl]
            · refine ⟨fun c => { c with ended := true }, fun c => rfl, fun M c last h => ?_⟩
              simp only [doesS, if_neg h0, if_neg h1, if_neg h2, if_neg h4, if_neg h5, if_neg h6, if_neg h8, if_neg h9, halfS, h]
              rw [mget_mset, if_pos rfl]
theorem does_other {last : Int} {M : CT} (hI : TInv last M) {o : COp} {id : Int} (h0 : o.what ≠ 0) (hid : o.id ≠ id) : mget (doesS last M o).2 id = mget M id := by
  unfold doesS
  rw [if_neg h0]
  simp only
  repeat' split
  · rw [mget_mdel hI.nd, if_neg hid]
  · unfold feedS; repeat' split
    all_goals first | rfl | rw [mget_mset, if_neg hid]
  · unfold nextS; repeat' split
    all_goals first | rfl | rw [mget_mset, if_neg hid]
  · unfold restS; repeat' split
    all_goals first | rfl | rw [mget_mset, if_neg hid]
  · unfold sayS; repeat' split
    all_goals first | rfl | rw [mget_mset, if_neg hid]
  · unfold budgetS; repeat' split
    all_goals first | rfl | rw [mget_mset, if_neg hid]
  · unfold flushS; repeat' split
    all_goals first | rfl | rw [mget_mset, if_neg hid]
  · unfold halfS; repeat' split
    all_goals first | rfl | rw [mget_mset, if_neg hid]
theorem mget_append {M N : CT} {id : Int} {c : Con} (h : mget M id = some c) : mget (M ++ N) id = some c := by
  induction M with
  | nil => cases h
  | cons p M ih =>
    obtain ⟨k, u⟩ := p
    by_cases e : k = id
    · simp only [List.cons_append, mget, if_pos e] at h ⊢; exact h
    · simp only [List.cons_append, mget, if_neg e] at h ⊢; exact ih h
theorem mget_last {M : CT} {id : Int} {c : Con} (h : mget M id = none) : mget (M ++ [(id, c)]) id = some c := by
  induction M with
  | nil => simp [mget]
  | cons p M ih =>
    obtain ⟨k, u⟩ := p
    by_cases e : k = id
    · simp [mget, e] at h
    · simp only [List.cons_append, mget, if_neg e] at h ⊢; exact ih h
/-- two tables, alike at one connection -/
structure Apa (id lt : Int) (Mt Mu : CT) (c : Con) : Prop where
  it : TInv lt Mt
  iu : TInv id Mu
  gt : mget Mt id = some c
  gu : mget Mu id = some c
  addr : c.addr = 7
theorem Apa.opens {id lt : Int} {Mt Mu : CT} {c : Con} (h : Apa id lt Mt Mu c) (a : Int) : Apa id (openS lt Mt a).1 (openS lt Mt a).2.1 Mu c := by
  refine ⟨h.it.opens a, h.iu, ?_, h.gu, h.addr⟩
  unfold openS
  split
  · exact h.gt
  · exact mget_append h.gt
theorem doesS_last {last : Int} {M : CT} {o : COp} (h0 : o.what ≠ 0) : (doesS last M o).1 = last := by simp [doesS, h0]
theorem Apa.other {id lt : Int} {Mt Mu : CT} {c : Con} (h : Apa id lt Mt Mu c) {o : COp} (h0 : o.what ≠ 0) (hid : o.id ≠ id) : Apa id lt (doesS lt Mt o).2 Mu c := by
  have := h.it.does o
  rw [doesS_last h0] at this
  exact ⟨this, h.iu, by rw [does_other h.it h0 hid]; exact h.gt, h.gu, h.addr⟩
theorem Apa.self {id lt : Int} {Mt Mu : CT} {c : Con} (h : Apa id lt Mt Mu c) {o : COp} (h0 : o.what ≠ 0) (h1 : o.what ≠ 1) (hid : o.id = id) : ∃ c', Apa id lt (doesS lt Mt o).2 (doesS id Mu o).2 c' := by
  obtain ⟨f, ha, hf⟩ := does_self o h0 h1
  have i1 := h.it.does o
  have i2 := h.iu.does o
  rw [doesS_last h0] at i1 i2
  subst hid
  exact ⟨f c, i1, i2, hf _ _ _ h.gt, hf _ _ _ h.gu, by rw [ha]; exact h.addr⟩
theorem flush_of {M : CT} {id : Int} {c : Con} (h : mget M id = some c) : (flushS M id).2 = c.out.take (min c.credit.toNat c.out.length) ∧ mget (flushS M id).1 id = some { c with out := c.out.drop (min c.credit.toNat c.out.length), credit := c.credit - (min c.credit.toNat c.out.length : Nat) } := by
  simp only [flushS, h, mget_mset, if_pos, true_and]
theorem rest_of {M : CT} {id n : Int} {c : Con} (h : mget M id = some c) : (restS M id n).2 = c.inn.take (min n.toNat c.inn.length) ∧ mget (restS M id n).1 id = some { c with inn := c.inn.drop (min n.toNat c.inn.length) } := by
  simp only [restS, h, mget_mset, if_pos, true_and]
theorem Apa.flush {id lt : Int} {Mt Mu : CT} {c : Con} (h : Apa id lt Mt Mu c) : ∃ Nt Nu x c', flushS Mt id = (Nt, x) ∧ flushS Mu id = (Nu, x) ∧ Apa id lt Nt Nu c' := by
  obtain ⟨a1, a2⟩ := flush_of h.gt
  obtain ⟨b1, b2⟩ := flush_of h.gu
  refine ⟨_, _, _, _, rfl, Prod.ext rfl (b1.trans a1.symm), h.it.flush id, h.iu.flush id, a2, b2, h.addr⟩
theorem Apa.rest {id lt : Int} {Mt Mu : CT} {c : Con} (h : Apa id lt Mt Mu c) (n : Int) : ∃ Nt Nu x c', restS Mt id n = (Nt, x) ∧ restS Mu id n = (Nu, x) ∧ Apa id lt Nt Nu c' := by
  obtain ⟨a1, a2⟩ := rest_of (n := n) h.gt
  obtain ⟨b1, b2⟩ := rest_of (n := n) h.gu
  refine ⟨_, _, _, _, rfl, Prod.ext rfl (b1.trans a1.symm), h.it.rest id n, h.iu.rest id n, a2, b2, h.addr⟩
/-- the connections ahead -/
structure Pre (k : Nat) (M : CT) : Prop where
  inv : TInv k M
  few : M.length ≤ k
theorem pre_nil : Pre 0 [] := ⟨tinv_nil, by simp⟩
theorem Pre.opens {k : Nat} {M : CT} (h : Pre k M) (hk : k < 64) (a : Int) : ∃ M', openS k M a = (((k + 1 : Nat) : Int), M', ((k + 1 : Nat) : Int), 0) ∧ Pre (k + 1) M' ∧ mget M' ((k + 1 : Nat) : Int) = some ⟨a, [], [], 0, false⟩ := by
  have hf : M.length ≠ 64 := by have := h.few; omega
  have e : openS k M a = (((k + 1 : Nat) : Int), M ++ [(((k + 1 : Nat) : Int), ⟨a, [], [], 0, false⟩)], ((k + 1 : Nat) : Int), 0) := by simp [openS, hf]
  have hI := h.inv.opens a
  rw [e] at hI
  refine ⟨_, e, ⟨hI, by have := h.few; simp; omega⟩, mget_last ?_⟩
  have := h.inv.none
  simpa using this
theorem ofC_some {α : Type} {M : CT} {i : Int} {c : Con} (h : mget M i = some c) (z : α) (f : Con → α) : ofC M i z f = f c := by simp [ofC, h]
theorem t_came {b : Nat} {last i : Int} {M : CT} {c : Con} {l : List Asrt} {w : World} {F : Fp} (hm : mget M i = some c) (S : (Asrt.stars (tabT b last M :: l)).on w F) :
    Calls Try.prog 33 #[.pointer (some ⟨b, 0, none⟩), .int .i64 i] w (Ret (.int .i64 (c.inn.length : Nat)) fun w' => (Asrt.stars (tabT b last M :: l)).on w' F ∧ Upd F F w w') :=
  on_head_quiet S fun Fi h => by have := came_c h i; rw [ofC_some hm] at this; exact this
theorem u_came {b : Nat} {last i : Int} {M : CT} {c : Con} {Z : Asrt} {l : List Asrt} {w : World} {F : Fp} (hm : mget M i = some c) (S : (Asrt.stars (Z :: tabT b last M :: l)).on w F) :
    Calls Try.prog 33 #[.pointer (some ⟨b, 0, none⟩), .int .i64 i] w (Ret (.int .i64 (c.inn.length : Nat)) fun w' => (Asrt.stars (Z :: tabT b last M :: l)).on w' F ∧ Upd F F w w') :=
  on_snd_quiet S fun Fi h => by have := came_c h i; rw [ofC_some hm] at this; exact this
theorem t_waits {b : Nat} {last i : Int} {M : CT} {c : Con} {l : List Asrt} {w : World} {F : Fp} (hm : mget M i = some c) (S : (Asrt.stars (tabT b last M :: l)).on w F) :
    Calls Try.prog 29 #[.pointer (some ⟨b, 0, none⟩), .int .i64 i] w (Ret (.int .i64 (c.out.length : Nat)) fun w' => (Asrt.stars (tabT b last M :: l)).on w' F ∧ Upd F F w w') :=
  on_head_quiet S fun Fi h => by have := waits_c h i; rw [ofC_some hm] at this; exact this
theorem u_waits {b : Nat} {last i : Int} {M : CT} {c : Con} {Z : Asrt} {l : List Asrt} {w : World} {F : Fp} (hm : mget M i = some c) (S : (Asrt.stars (Z :: tabT b last M :: l)).on w F) :
    Calls Try.prog 29 #[.pointer (some ⟨b, 0, none⟩), .int .i64 i] w (Ret (.int .i64 (c.out.length : Nat)) fun w' => (Asrt.stars (Z :: tabT b last M :: l)).on w' F ∧ Upd F F w w') :=
  on_snd_quiet S fun Fi h => by have := waits_c h i; rw [ofC_some hm] at this; exact this
theorem t_credit {b : Nat} {last i : Int} {M : CT} {c : Con} {l : List Asrt} {w : World} {F : Fp} (hm : mget M i = some c) (S : (Asrt.stars (tabT b last M :: l)).on w F) :
    Calls Try.prog 30 #[.pointer (some ⟨b, 0, none⟩), .int .i64 i] w (Ret (.int .i64 c.credit) fun w' => (Asrt.stars (tabT b last M :: l)).on w' F ∧ Upd F F w w') :=
  on_head_quiet S fun Fi h => by have := credit_c h i; rw [ofC_some hm] at this; exact this
theorem u_credit {b : Nat} {last i : Int} {M : CT} {c : Con} {Z : Asrt} {l : List Asrt} {w : World} {F : Fp} (hm : mget M i = some c) (S : (Asrt.stars (Z :: tabT b last M :: l)).on w F) :
    Calls Try.prog 30 #[.pointer (some ⟨b, 0, none⟩), .int .i64 i] w (Ret (.int .i64 c.credit) fun w' => (Asrt.stars (Z :: tabT b last M :: l)).on w' F ∧ Upd F F w w') :=
  on_snd_quiet S fun Fi h => by have := credit_c h i; rw [ofC_some hm] at this; exact this
theorem t_ended {b : Nat} {last i : Int} {M : CT} {c : Con} {l : List Asrt} {w : World} {F : Fp} (hm : mget M i = some c) (S : (Asrt.stars (tabT b last M :: l)).on w F) :
    Calls Try.prog 31 #[.pointer (some ⟨b, 0, none⟩), .int .i64 i] w (Ret (.bool c.ended) fun w' => (Asrt.stars (tabT b last M :: l)).on w' F ∧ Upd F F w w') :=
  on_head_quiet S fun Fi h => by have := ended_c h i; rw [ofC_some hm] at this; exact this
theorem u_ended {b : Nat} {last i : Int} {M : CT} {c : Con} {Z : Asrt} {l : List Asrt} {w : World} {F : Fp} (hm : mget M i = some c) (S : (Asrt.stars (Z :: tabT b last M :: l)).on w F) :
    Calls Try.prog 31 #[.pointer (some ⟨b, 0, none⟩), .int .i64 i] w (Ret (.bool c.ended) fun w' => (Asrt.stars (Z :: tabT b last M :: l)).on w' F ∧ Upd F F w w') :=
  on_snd_quiet S fun Fi h => by have := ended_c h i; rw [ofC_some hm] at this; exact this
theorem t_has {b : Nat} {last i : Int} {M : CT} {c : Con} {l : List Asrt} {w : World} {F : Fp} (hm : mget M i = some c) (S : (Asrt.stars (tabT b last M :: l)).on w F) :
    Calls Try.prog 23 #[.pointer (some ⟨b, 0, none⟩), .int .i64 i] w (Ret (.bool true) fun w' => (Asrt.stars (tabT b last M :: l)).on w' F ∧ Upd F F w w') :=
  on_head_quiet S fun Fi h => by have := has_c h i; rw [ofC_some hm] at this; exact this
theorem u_has {b : Nat} {last i : Int} {M : CT} {c : Con} {Z : Asrt} {l : List Asrt} {w : World} {F : Fp} (hm : mget M i = some c) (S : (Asrt.stars (Z :: tabT b last M :: l)).on w F) :
    Calls Try.prog 23 #[.pointer (some ⟨b, 0, none⟩), .int .i64 i] w (Ret (.bool true) fun w' => (Asrt.stars (Z :: tabT b last M :: l)).on w' F ∧ Upd F F w w') :=
  on_snd_quiet S fun Fi h => by have := has_c h i; rw [ofC_some hm] at this; exact this
theorem t_addr {b : Nat} {last i : Int} {M : CT} {c : Con} {l : List Asrt} {w : World} {F : Fp} (hm : mget M i = some c) (S : (Asrt.stars (tabT b last M :: l)).on w F) :
    Calls Try.prog 19 #[.pointer (some ⟨b, 0, none⟩), .int .i64 i] w (Ret (.int .u32 c.addr) fun w' => (Asrt.stars (tabT b last M :: l)).on w' F ∧ Upd F F w w') :=
  on_head_quiet S fun Fi h => by have := addr_c h i; rw [ofC_some hm] at this; exact this
theorem u_addr {b : Nat} {last i : Int} {M : CT} {c : Con} {Z : Asrt} {l : List Asrt} {w : World} {F : Fp} (hm : mget M i = some c) (S : (Asrt.stars (Z :: tabT b last M :: l)).on w F) :
    Calls Try.prog 19 #[.pointer (some ⟨b, 0, none⟩), .int .i64 i] w (Ret (.int .u32 c.addr) fun w' => (Asrt.stars (Z :: tabT b last M :: l)).on w' F ∧ Upd F F w w') :=
  on_snd_quiet S fun Fi h => by have := addr_c h i; rw [ofC_some hm] at this; exact this
end connApart
end Go.Proofs.Ytimkbpcdbbdjlaa
