/- The statements on leases: the live question. -/
import Derived.Test.YtefnfhhdcginmaaDoorLeaseR
set_option linter.unusedVariables false
namespace Go.Proofs.YtefnfhhdcginmaaDoor
open Go.ChangeShapes Go.WideShapes Go.ChangeAt Go.RowKit Go.Sub Go.ChangeMaps
abbrev sAnn : ByteArray := ⟨#[97, 110, 110]⟩
abbrev sBob : ByteArray := ⟨#[98, 111, 98]⟩
abbrev sWeb : ByteArray := ⟨#[119, 101, 98]⟩
abbrev hA : Lz := ⟨sWeb, sAnn, 1, 1, 5, true⟩
abbrev hB : Lz := ⟨sWeb, sBob, 2, 2, 110, true⟩
abbrev hB2 : Lz := ⟨sWeb, sBob, 2, 2, 17, false⟩
abbrev hC : Lz := ⟨sWeb, sBob, 3, 3, 18, true⟩
theorem ok_names (t : ByteArray) (ht : nameB t.data.toList = true) {now ttl : Int} (h : clockB now = true) (h' : timeB ttl = true) : ¬ (nameB t.data.toList && (nameB sWeb.data.toList && (clockB now && timeB ttl))) = false := by
  rw [ht, h, h', show nameB sWeb.data.toList = true from by decide]; simp
theorem nAnn : nameB sAnn.data.toList = true := by decide
theorem nBob : nameB sBob.data.toList = true := by decide
theorem ab : (sAnn.toList == sBob.toList) = false := by rw [ByteArray.toList_eq, ByteArray.toList_eq]; decide
theorem hd1 : claimS 5 100 0 [] sAnn sWeb 1 0 5 = (1, [(sWeb, hA)], hA, 0) := by
  unfold claimS
  rw [if_neg (ok_names sAnn nAnn (by decide) (by decide))]
  rfl
theorem hd2 : claimS 5 100 1 [(sWeb, hA)] sAnn sWeb 1 4 5 = (1, [(sWeb, hA)], zeroL, 4) := by
  unfold claimS
  rw [if_neg (ok_names sAnn nAnn (by decide) (by decide)), show mget [(sWeb, hA)] sWeb = some hA from by simp [mget]]
  simp only
  rw [if_neg (by simp), if_pos (by decide)]
theorem hd3 : claimS 5 100 1 [(sWeb, hA)] sBob sWeb 2 9 5 = (1, [(sWeb, hA)], zeroL, 131) := by
  unfold claimS
  rw [if_neg (ok_names sBob nBob (by decide) (by decide)), show mget [(sWeb, hA)] sWeb = some hA from by simp [mget]]
  simp only
  rw [if_pos ⟨by decide, ab⟩]
theorem hd4 : claimS 5 100 1 [(sWeb, hA)] sBob sWeb 2 10 500 = (2, [(sWeb, hB)], hB, 0) := by
  unfold claimS
  rw [if_neg (ok_names sBob nBob (by decide) (by decide)), show mget [(sWeb, hA)] sWeb = some hA from by simp [mget]]
  simp only
  rw [if_neg (fun h => absurd h.1 (by decide)), if_neg (by decide)]
  simp [mset]
  decide
theorem hd5 : renewS 5 100 [(sWeb, hB)] sBob sWeb 1 11 5 = ([(sWeb, hB)], zeroL, 132) := by
  have : ownErr 5 [(sWeb, hB)] sBob sWeb 1 11 = 132 := by
    unfold ownErr
    rw [if_neg (by decide), show mget [(sWeb, hB)] sWeb = some hB from by simp [mget]]
    simp only
    rw [if_neg (by decide), if_neg (by simp), if_pos (by decide)]
  unfold renewS
  rw [if_neg (by decide), this, if_neg (by decide)]
theorem hd6 : releaseS 5 [(sWeb, hB)] sBob sWeb 2 12 = ([(sWeb, hB2)], 0) := by
  have : ownErr 5 [(sWeb, hB)] sBob sWeb 2 12 = 0 := by
    unfold ownErr
    rw [if_neg (by decide), show mget [(sWeb, hB)] sWeb = some hB from by simp [mget]]
    simp only
    rw [if_neg (by decide), if_neg (by simp), if_neg (by decide)]
  unfold releaseS
  rw [this, if_pos rfl, show mget [(sWeb, hB)] sWeb = some hB from by simp [mget]]
  simp [mset]
theorem hd7 : holdS 5 [(sWeb, hB2)] sWeb 12 = (zeroL, false) := by
  unfold holdS
  rw [show mget [(sWeb, hB2)] sWeb = some hB2 from by simp [mget]]
  simp only
  rw [if_neg (by decide)]
theorem hd8 : claimS 5 100 2 [(sWeb, hB2)] sBob sWeb 3 13 5 = (3, [(sWeb, hC)], hC, 0) := by
  unfold claimS
  rw [if_neg (ok_names sBob nBob (by decide) (by decide)), show mget [(sWeb, hB2)] sWeb = some hB2 from by simp [mget]]
  simp only
  rw [if_neg (fun h => absurd h.2 (by simp)), if_neg (by decide)]
  simp [mset]
  decide
theorem hd9 : evictS 5 [(sWeb, hC)] sWeb 14 = ([], hC, true) := by
  unfold evictS
  rw [show mget [(sWeb, hC)] sWeb = some hC from by simp [mget]]
  simp only
  rw [if_pos ⟨by decide, by decide⟩]
  simp [mdel]
theorem hd10 : allS [] = [] := by
  unfold allS outL
  simp [keysOf]
theorem on_head_same {f : Nat} {args : Array Value} {v : Value} {A : Asrt} {l : List Asrt} {w : World} {F : Fp} (hS : (Asrt.stars (A :: l)).on w F)
    (C : ∀ Fi, A.on w Fi → (∀ k, Fi k → F k) → Calls Tryd.prog f args w (Ret v fun w' => Quiet w w')) :
    Calls Tryd.prog f args w (Ret v fun w' => ∃ F', (Asrt.stars (A :: l)).on w' F' ∧ Upd F F' w w') := by
  obtain ⟨Fi, m, hs, go⟩ := Asrt.stars_head hS
  refine (C Fi m hs).mono ?_
  rintro e w' ⟨rfl, hq⟩
  exact ⟨rfl, F, (Asrt.stars (A :: l)).frame hS hq (fun _ _ h => h), (Upd.refl F w).thenQ hq⟩
theorem inv1 {e : Int} {x : Lz} (hn : x.name = sWeb) (ht : 0 ≤ x.til ∧ x.til ≤ tilMost) (he : 1 ≤ x.epoch ∧ x.epoch ≤ e) : InvB e [(sWeb, x)] := by
  refine ⟨by simp, ?_, ?_, by simp, ?_, ?_, by omega⟩
  all_goals intro p hp; simp only [List.mem_singleton] at hp; subst hp
  · exact hn
  · show sWeb.size ≤ maxLen
    decide
  · exact ht
  · exact he
set_option maxHeartbeats 4000000 in
set_option maxRecDepth 100000 in
theorem head_c {w : World} : Calls Tryd.prog 10 #[] w (Ret (.bool true) fun w' => Quiet w w') := by
  have I1 : InvB 1 [(sWeb, hA)] := inv1 rfl (by decide) (by decide)
  have I2 : InvB 2 [(sWeb, hB)] := inv1 rfl (by decide) (by decide)
  have I3 : InvB 2 [(sWeb, hB2)] := inv1 rfl (by decide) (by decide)
  have I4 : InvB 3 [(sWeb, hC)] := inv1 rfl (by decide) (by decide)
  have N0 := Keep.mk (fun w : World => new_yes (w := w) (g := 5) (m := 100) (by decide) (by decide))
  have N1 := Keep.mk (fun w : World => new_no (w := w) (g := 0) (m := 1) (by decide))
  have C1 := Keep.mk (fun (w : World) (b : Nat) (F : Fp) (hM : (bookT b 5 100 0 []).on w F) => by have := claim_c hM (by decide) (by decide) (by decide) (by decide) (by decide) (by decide) InvB.new.tils sAnn sWeb (by decide) (by decide) 1 0 5; unfold ClaimEnds at this; rw [hd1] at this; exact this)
  have C2 := Keep.mk (fun (w : World) (b : Nat) (F : Fp) (hM : (bookT b 5 100 1 [(sWeb, hA)]).on w F) => by have := claim_c hM (by decide) (by decide) (by decide) (by decide) (by decide) (by decide) I1.tils sAnn sWeb (by decide) (by decide) 1 4 5; unfold ClaimEnds at this; rw [hd2] at this; exact this)
  have C3 := Keep.mk (fun (w : World) (b : Nat) (F : Fp) (hM : (bookT b 5 100 1 [(sWeb, hA)]).on w F) => by have := claim_c hM (by decide) (by decide) (by decide) (by decide) (by decide) (by decide) I1.tils sBob sWeb (by decide) (by decide) 2 9 5; unfold ClaimEnds at this; rw [hd3] at this; exact this)
  have C4 := Keep.mk (fun (w : World) (b : Nat) (F : Fp) (hM : (bookT b 5 100 1 [(sWeb, hA)]).on w F) => by have := claim_c hM (by decide) (by decide) (by decide) (by decide) (by decide) (by decide) I1.tils sBob sWeb (by decide) (by decide) 2 10 500; unfold ClaimEnds at this; rw [hd4] at this; exact this)
  have C5 := Keep.mk (fun (w : World) (b : Nat) (F : Fp) (hM : (bookT b 5 100 2 [(sWeb, hB)]).on w F) => by have := renew_c hM (by decide) (by decide) (by decide) (by decide) I2.tils sBob sWeb 1 11 5; unfold RenEnds at this; rw [hd5] at this; exact this)
  have C6 := Keep.mk (fun (w : World) (b : Nat) (F : Fp) (hM : (bookT b 5 100 2 [(sWeb, hB)]).on w F) => by have := release_c hM (by decide) (by decide) I2.tils sBob sWeb 2 12; unfold RelEnds at this; rw [hd6] at this; exact this)
  have C7 := Keep.mk (fun (w : World) (b : Nat) (F : Fp) (hM : (bookT b 5 100 2 [(sWeb, hB2)]).on w F) => by have := holder_c hM (by decide) (by decide) I3.tils sWeb 12; rw [hd7] at this; exact this)
  have C8 := Keep.mk (fun (w : World) (b : Nat) (F : Fp) (hM : (bookT b 5 100 2 [(sWeb, hB2)]).on w F) => by have := claim_c hM (by decide) (by decide) (by decide) (by decide) (by decide) (by decide) I3.tils sBob sWeb (by decide) (by decide) 3 13 5; unfold ClaimEnds at this; rw [hd8] at this; exact this)
  have C9 := Keep.mk (fun (w : World) (b : Nat) (F : Fp) (hM : (bookT b 5 100 3 [(sWeb, hC)]).on w F) => by have := evict_c hM (by decide) (by decide) I4.tils sWeb 14; rw [hd9] at this; exact this)
  have C10 := Keep.mk (fun (w : World) (b : Nat) (F : Fp) (hM : (bookT b 5 100 3 []).on w F) => by have := all_c hM (by simp) (by simp) (by simp); unfold RowEnds at this; rw [hd10] at this; exact this)
  clear I1 I2 I3 I4
  go_enter Tryd.func10, Tryd.ntmps10
  go_wp2_with fail
  refine (N0.out _).mono ?_
  rintro e0 w0 ⟨b, rfl, F0, h0, u0⟩
  go_wp2_with fail
  refine (N1.out _).mono ?_
  rintro e0 w0' ⟨rfl, rfl⟩
  go_wp2_with fail
  refine (C1.out _ _ _ h0).mono ?_
  rintro e1 w1 ⟨rfl, F1, h1, u1⟩
  have V1 := u0.trans u1
  have T1 := Asrt.stars_one h1
  clear h0 h1 u1
  go_wp2_with (refine store_new T1 rfl 26 _ _ rfl (cellsL hA) rfl rfl (sizeL zeroL) rfl (oneL hA) ?_; intro x1 G1 S1 U1 q1; clear q1)
  have V1 := V1.trans U1
  refine (on_head S1 (fun Fi h _ => C2.out _ _ _ h)).mono ?_
  rintro e1 w2 ⟨rfl, F2, T2, u2⟩
  have V2 := V1.trans u2
  clear S1 T1 u2
  go_wp2_with (refine store_new T2 rfl 26 _ _ rfl (cellsL zeroL) rfl rfl (sizeL zeroL) rfl (oneL zeroL) ?_; intro x2 G2 S2 U2 q2; clear q2)
  have V2 := V2.trans U2
  refine (on_head S2 (fun Fi h _ => C3.out _ _ _ h)).mono ?_
  rintro e1 w3 ⟨rfl, F3, T3, u3⟩
  have V3 := V2.trans u3
  clear S2 T2 u3
  go_wp2_with (refine store_new T3 rfl 26 _ _ rfl (cellsL zeroL) rfl rfl (sizeL zeroL) rfl (oneL zeroL) ?_; intro x3 G3 S3 U3 q3; clear q3)
  have V3 := V3.trans U3
  refine (on_head S3 (fun Fi h _ => C4.out _ _ _ h)).mono ?_
  rintro e1 w4 ⟨rfl, F4, T4, u4⟩
  have V4 := V3.trans u4
  clear S3 T3 u4
  go_wp2_with (refine store_new T4 rfl 26 _ _ rfl (cellsL hB) rfl rfl (sizeL zeroL) rfl (oneL hB) ?_; intro x4 G4 S4 U4 q4; clear q4)
  have V4 := V4.trans U4
  refine (on_head S4 (fun Fi h _ => C5.out _ _ _ h)).mono ?_
  rintro e1 w5 ⟨rfl, F5, T5, u5⟩
  have V5 := V4.trans u5
  clear S4 T4 u5
  go_wp2_with (refine store_new T5 rfl 26 _ _ rfl (cellsL zeroL) rfl rfl (sizeL zeroL) rfl (oneL zeroL) ?_; intro x5 G5 S5 U5 q5; clear q5)
  have V5 := V5.trans U5
  refine (on_head S5 (fun Fi h _ => C6.out _ _ _ h)).mono ?_
  rintro e1 w6 ⟨rfl, F6, T6, u6⟩
  have V6 := V5.trans u6
  clear S5 T5 u6
  go_wp2_with fail
  refine (on_head_same T6 (fun Fi h _ => C7.out _ _ _ h)).mono ?_
  rintro e1 w7 ⟨rfl, F7, T7, u7⟩
  have V7 := V6.trans u7
  clear T6 u7
  go_wp2_with (refine store_new T7 rfl 26 _ _ rfl (cellsL zeroL) rfl rfl (sizeL zeroL) rfl (oneL zeroL) ?_; intro x7 G7 S7 U7 q7; clear q7)
  have V7 := V7.trans U7
  refine (on_head S7 (fun Fi h _ => C8.out _ _ _ h)).mono ?_
  rintro e1 w8 ⟨rfl, F8, T8, u8⟩
  have V8 := V7.trans u8
  clear S7 T7 u8
  go_wp2_with (refine store_new T8 rfl 26 _ _ rfl (cellsL hC) rfl rfl (sizeL zeroL) rfl (oneL hC) ?_; intro x8 G8 S8 U8 q8; clear q8)
  have V8 := V8.trans U8
  refine (on_head S8 (fun Fi h _ => C9.out _ _ _ h)).mono ?_
  rintro e1 w9 ⟨rfl, F9, T9, u9⟩
  have V9 := V8.trans u9
  clear S8 T8 u9
  have eW : (sWeb.toList == sWeb.toList) = true := by simp
  have eA : (sAnn.toList == sAnn.toList) = true := by simp
  have eB : (sBob.toList == sBob.toList) = true := by simp
  have V10 := Keep.mk (fun {F' : Fp} {w' : World} (u : Upd F9 F' w9 w') => (V9.trans u).quiet)
  go_wp2_with (refine store_new T9 rfl 26 _ _ rfl (cellsL hC) rfl rfl (sizeL zeroL) rfl (oneL hC) ?_; intro x9 G9 S9 U9 q9; have j1 := (box_cell (i := 8) S9 rfl).1; have j4 := (box_cell (i := 5) S9 rfl).1; have j8 := (box_cell (i := 2) S9 rfl).1)
  refine (on_head_new S9 (T := fun v => v) (A' := bookT b 5 100 3 []) (X := fun v => row 26 6 encL v []) fun Fi h _ => (C10.out _ _ _ h).mono (by rintro e1 w1 ⟨v, rfl, F1, S1, U1⟩; exact ⟨v, rfl, F1, two_of (swap2 S1), U1⟩)).mono ?_
  rintro e1 w10 ⟨v, rfl, F10, h10, u10⟩
  obtain ⟨_, hr, _⟩ := Asrt.stars_get h10 1 rfl
  obtain ⟨av, cv, rfl, _⟩ := (row_reads (enc := encL) (fun _ => rfl) hr).1
  have HQ := Keep.mk (V10.out (U9.trans u10))
  clear h10 u10 hr
  go_wp2_with fail
  go_ret
  exact ⟨rfl, HQ.out⟩
end Go.Proofs.YtefnfhhdcginmaaDoor
