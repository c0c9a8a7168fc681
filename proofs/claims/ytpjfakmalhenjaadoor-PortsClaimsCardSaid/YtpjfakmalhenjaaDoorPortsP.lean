/- PortsClaims: the book, since a world. -/
import Derived.Test.YtpjfakmalhenjaaDoorLpQ
import Derived.Test.YtpjfakmalhenjaaDoorPortsH
import Derived.Test.YtpjfakmalhenjaaDoorSubP
import Derived.Test.YtpjfakmalhenjaaDoorSubM
set_option linter.unusedVariables false
namespace Go.Proofs.YtpjfakmalhenjaaDoor
open Go.RowKit Go.Sub Go.Shelf Go.Sort Go.ChangeMaps
/-- a book, and what lies beside it, made since W -/
def Bs (W : World) (b : Nat) (e : Int) (M : LT) (l : List Asrt) (w : World) : Prop := ∃ F, (Asrt.stars (bookT b 4 100 e M :: l)).on w F ∧ Upd none' F W w
namespace Bs
variable {W w w' : World} {b : Nat} {e : Int} {M : LT} {l : List Asrt}
theorem quiet (h : Bs W b e M l w) (q : Quiet w w') : Bs W b e M l w' := by
  obtain ⟨F, S, U⟩ := h
  exact ⟨F, (Asrt.stars _).frame S q (fun _ _ h => h), U.thenQ q⟩
theorem drew (h : Bs W b e M l w) : Bs W b e M l w.drew := h.quiet (Upd.refl none' w).drew
theorem box (h : Bs W b e M l w) : Bs W b e M (.blk w.heap.size (blkL zeroL) :: l) (w.alloc (boxL zeroL)) := by
  obtain ⟨F, S, U⟩ := h
  obtain ⟨F1, S1, U1⟩ := Asrt.stars_box1 S (blkL zeroL)
  exact ⟨F1, S1, U.trans U1⟩
theorem boxx (h : Bs W b e M l w) (x : Lz) : Bs W b e M (.blk w.heap.size (blkL x) :: l) (w.alloc (boxL x)) := by
  obtain ⟨F, S, U⟩ := h
  obtain ⟨F1, S1, U1⟩ := Asrt.stars_box1 S (blkL x)
  exact ⟨F1, S1, U.trans U1⟩
theorem tab (h : Bs W b e M l w) (ht : Tab10 W) : Tab10 w := by
  obtain ⟨F, S, U⟩ := h
  exact tab_upd ht U
theorem bytes (h : Bs W b e M l w) {v : Value} {L : List UInt8} (hb : Bytes W v L) : Bytes w v L := by
  obtain ⟨F, S, U⟩ := h
  exact (hb.old U).1
theorem less {A : Asrt} (h : Bs W b e M (A :: l) w) : Bs W b e M l w := by
  obtain ⟨F, S, U⟩ := h
  obtain ⟨F1, S1, s1⟩ := stars_erase _ 1 S
  exact ⟨F1, S1, U.re fun k hk => U.fp k (s1 k hk)⟩
theorem fin (h : Bs W b e M l w) : Quiet W w := by
  obtain ⟨F, S, U⟩ := h
  exact U.quiet
theorem two_of {A B : Asrt} {w : World} {F : Fp} (h : (Asrt.stars [A, B]).on w F) : (Asrt.star A B).on w F :=
  Asrt.star_imp (fun _ hg => Asrt.of_emp_star (Asrt.star_comm hg)) h
theorem all (h : Bs W b e M l w) (I : InvB e M) : Calls Tryd.prog 21 #[.pointer (some ⟨b, 0, none⟩)] w fun e' w' => ∃ v, Ret v (fun w' => Bs W b e M l w' ∧ Reads w' 6 encL v (allS M)) e' w' := by
  obtain ⟨F, S, U⟩ := h
  refine (on_head_new (T := fun v => v) (A' := bookT b 4 100 e M) (X := fun v => row 34 6 encL v (allS M)) S fun Fi h _ => (all_c h I.nd I.sz (by have := I.len; omega)).mono (by
    rintro e1 w1 ⟨v, rfl, F1, S1, U1⟩
    exact ⟨v, rfl, F1, two_of (swap2 S1), U1⟩)).mono ?_
  rintro e1 w1 ⟨v, rfl, F1, S1, U1⟩
  obtain ⟨_, hr, _⟩ := Asrt.stars_get S1 1 rfl
  exact ⟨v, rfl, Bs.less ⟨F1, S1, U.trans U1⟩, (row_reads (enc := encL) (fun _ => rfl) hr).1⟩
theorem claim (h : Bs W b e M l w) (I : InvB e M) (he : e ≤ 1000000000) (tenant nm : ByteArray) (hts : tenant.size ≤ maxLen) (hns : nm.size ≤ maxLen) (conn now ttl : Int) {e' : Int} {M' : LT} {y : Lz} {er : Int} (hR : claimS 4 100 e M tenant nm conn now ttl = (e', M', y, er)) :
    Calls Tryd.prog 23 #[.pointer (some ⟨b, 0, none⟩), .string tenant, .string nm, .int .i64 conn, .int .i64 now, .int .i64 ttl] w (Ret (.tuple #[aggL y, .int .i64 er]) fun w' => Bs W b e' M' l w') := by
  obtain ⟨F, S, U⟩ := h
  refine (on_head S (A' := bookT b 4 100 e' M') (v := .tuple #[aggL y, .int .i64 er]) fun Fi h _ => by have := claim_c h (by decide) (by decide) (by decide) (by decide) I.e0 he I.tils tenant nm hts hns conn now ttl; unfold ClaimEnds at this; rw [hR] at this; exact this).mono ?_
  rintro e1 w1 ⟨rfl, F1, S1, U1⟩
  exact ⟨rfl, F1, S1, U.trans U1⟩
theorem release (h : Bs W b e M l w) (I : InvB e M) (tenant nm : ByteArray) (ep now : Int) {M' : LT} {er : Int} (hR : releaseS 4 M tenant nm ep now = (M', er)) :
    Calls Tryd.prog 22 #[.pointer (some ⟨b, 0, none⟩), .string tenant, .string nm, .int .i64 ep, .int .i64 now] w (Ret (.int .i64 er) fun w' => Bs W b e M' l w') := by
  obtain ⟨F, S, U⟩ := h
  refine (on_head S (A' := bookT b 4 100 e M') (v := .int .i64 er) fun Fi h _ => by have := release_c h (by decide) (by decide) I.tils tenant nm ep now; unfold RelEnds at this; rw [hR] at this; exact this).mono ?_
  rintro e1 w1 ⟨rfl, F1, S1, U1⟩
  exact ⟨rfl, F1, S1, U.trans U1⟩
theorem boxed {z : Nat} {x : Lz} (h : Bs W b e M (.blk z (blkL x) :: l) w) : (∀ j, w.cell? ⟨z, j, none⟩ = (cellsL x)[j]?) ∧ (∀ j, w.frozen? ⟨z, j, none⟩ = false) := by
  obtain ⟨F, S, U⟩ := h
  obtain ⟨_, ⟨hb, _⟩, _⟩ := Asrt.stars_get S 1 rfl
  obtain ⟨h1, h2, _⟩ := blk_facts hb
  exact ⟨h1, h2⟩
end Bs
/-- the book, and a box beside it -/
def Bx (W : World) (b : Nat) (e : Int) (M : LT) (z : Nat) (w : World) : Prop := ∃ (c : Array Value) (t : TypeId), Bs W b e M [.blk z (.cells c t (0, 0))] w
theorem Bx.of {W w : World} {b z : Nat} {e : Int} {M : LT} {x : Lz} (h : Bs W b e M [.blk z (blkL x)] w) : Bx W b e M z w := ⟨_, _, h⟩
theorem Bx.set {W w : World} {b z : Nat} {e : Int} {M : LT} (h : Bx W b e M z w) (j : Nat) (u : Value) : Bx W b e M z (w.setCell ⟨z, j, none⟩ u) := by
  obtain ⟨c, t, F, S, U⟩ := h
  obtain ⟨Fi, hb, _, hgo⟩ := Asrt.stars_upd _ 1 _ rfl S
  obtain ⟨B0, v0⟩ := blk_set hb j u
  obtain ⟨F', S', U'⟩ := hgo _ _ _ B0 v0
  exact ⟨_, _, F', S', U.trans U'⟩
theorem Bx.less {W w : World} {b z : Nat} {e : Int} {M : LT} (h : Bx W b e M z w) : Bs W b e M [] w := by
  obtain ⟨c, t, h⟩ := h
  exact Bs.less h
theorem new_b {W w : World} (q : Quiet W w) : Calls Tryd.prog 20 #[.int .i64 4, .int .i64 100] w fun e w' => ∃ b, Ret (.pointer (some ⟨b, 0, none⟩)) (fun w' => Bs W b 0 [] [] w') e w' := by
  refine (new_yes (by decide) (by decide)).mono ?_
  rintro e1 w1 ⟨b, rfl, F1, S1, U1⟩
  exact ⟨b, rfl, F1, Asrt.stars_one S1, q.trans U1⟩
end Go.Proofs.YtpjfakmalhenjaaDoor
