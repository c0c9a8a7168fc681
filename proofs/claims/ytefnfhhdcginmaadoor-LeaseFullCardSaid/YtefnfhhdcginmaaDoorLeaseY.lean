/- The statement LeaseFull. -/
import Derived.Test.YtefnfhhdcginmaaDoorLeaseZ
import Derived.Laws.IdiomStrings
import Derived.Test.YtefnfhhdcginmaaDoorSubQ
set_option linter.unusedVariables false
namespace Go.Proofs.YtefnfhhdcginmaaDoor
open Go.ChangeShapes Go.WideShapes Go.ChangeAt Go.RowKit Go.Sub Go.ChangeMaps
def wordL (k : Nat) : List UInt8 := [UInt8.ofNat (97 + k / 10), UInt8.ofNat (48 + k % 10)]
def wordB (k : Nat) : ByteArray := ⟨(wordL k).toArray⟩
theorem word_inj {j k : Nat} (hj : j < 90) (hk : k < 90) (h : wordB j = wordB k) : j = k := by
  have h1 : wordL j = wordL k := by
    have := congrArg (fun b : ByteArray => b.data.toList) h
    simpa [wordB] using this
  simp only [wordL, List.cons.injEq, and_true] at h1
  have h2 := congrArg UInt8.toNat h1.1
  have h3 := congrArg UInt8.toNat h1.2
  simp only [UInt8.toNat_ofNat'] at h2 h3
  omega
theorem word_name {k : Nat} (hk : k < 90) : nameB (wordB k).data.toList = true := by
  have : ∀ k : Fin 90, nameB (wordL k.1) = true := by decide
  exact this ⟨k, hk⟩
theorem word_size (k : Nat) : (wordB k).size ≤ maxLen := by
  show 2 ≤ maxLen
  decide
abbrev fullX (j : Nat) : Lz := newL sAnn (wordB j) 1 j 0 10 1000
def fullM (k : Nat) : LT := (List.range k).map fun j => (wordB j, fullX j)
theorem fullM_succ (k : Nat) : fullM (k + 1) = fullM k ++ [(wordB k, fullX k)] := by simp [fullM, List.range_succ]
theorem fullM_len (k : Nat) : (fullM k).length = k := by simp [fullM]
theorem mget_snoc {κ V : Type} [DecidableEq κ] : ∀ (M : List (κ × V)) (x y : κ) (v : V), mget (M ++ [(x, v)]) y = match mget M y with | some u => some u | none => if x = y then some v else none
  | [], x, y, v => by simp [mget]
  | (a, u) :: M, x, y, v => by
    by_cases h : a = y
    · simp [mget, h]
    · simp [mget, h, mget_snoc M x y v]
theorem fullM_get {j : Nat} (hj : j < 90) : ∀ {k : Nat}, k ≤ 90 → mget (fullM k) (wordB j) = if j < k then some (fullX j) else none
  | 0, _ => rfl
  | k + 1, hk => by
    rw [fullM_succ, mget_snoc, fullM_get hj (by omega)]
    by_cases h : j < k
    · rw [if_pos h, if_pos (show j < k + 1 by omega)]
    · rw [if_neg h]
      simp only
      by_cases e : j = k
      · subst e; rw [if_pos rfl, if_pos (by omega)]
      · rw [if_neg (fun hh => e (word_inj (by omega) hj hh).symm), if_neg (by omega)]
theorem full_ok {k : Nat} (hk : k < 90) {now : Int} (h0 : 0 ≤ now) (h1 : now ≤ 100000) : ¬ (nameB sAnn.data.toList && (nameB (wordB k).data.toList && (clockB now && timeB 10))) = false := by
  rw [nAnn, word_name hk, clk h0 h1, show timeB 10 = true from by decide]; simp
theorem full_step {i : Nat} (hi : i < 64) : claimS 5 1000 i (fullM i) sAnn (wordB i) 1 0 10 = (((i + 1 : Nat) : Int), fullM (i + 1), fullX i, (0 : Int)) := by
  unfold claimS
  rw [if_neg (full_ok (by omega) (by decide) (by decide)), fullM_get (by omega) (by omega), if_neg (by omega)]
  simp only
  rw [if_neg (by rw [fullM_len]; omega), mset_none _ (by rw [fullM_get (by omega) (by omega), if_neg (by omega)]), ← fullM_succ]
  simp
theorem full_over {j : Nat} {conn : Int} (h0 : 64 ≤ j) (hj : j < 90) {now : Int} (n0 : 0 ≤ now) (n1 : now ≤ 100000) : claimS 5 1000 ((64 : Nat) : Int) (fullM 64) sAnn (wordB j) conn now 10 = (((64 : Nat) : Int), fullM 64, zeroL, (2 : Int)) := by
  unfold claimS
  rw [if_neg (full_ok hj n0 n1), fullM_get hj (by omega), if_neg (by omega)]
  simp only
  rw [if_pos (fullM_len 64)]
theorem full_inv : ∀ {k : Nat}, k ≤ 64 → InvB k (fullM k)
  | 0, _ => InvB.new
  | k + 1, hk => by
    have := (claim_inv (g := 5) (m := 1000) (full_inv (k := k) (by omega)) (by decide) (by decide) (by decide) (by decide) sAnn (wordB k) (word_size k) 1 0 10).1
    rw [full_step (by omega)] at this
    exact this
theorem allS_length {e : Int} {M : LT} (I : InvB e M) : (allS M).length = M.length := by
  have h := congrArg List.length (allS_names I.nm)
  rw [List.length_map, (keysOf_perm _).length_eq, List.length_map] at h
  exact h
/-- what the last claim comes to -/
theorem full_end {K k : Nat} (hK : K ≤ 64) (hk : k < 90) {now : Int} (n0 : 0 ≤ now) (n1 : now ≤ 255) :
    (k < K ∧ now < 10 ∧ claimS 5 1000 K (fullM K) sAnn (wordB k) 2 now 10 = ((K : Int), fullM K, zeroL, (4 : Int))) ∨
    (k < K ∧ 10 ≤ now ∧ ∃ e M x, claimS 5 1000 K (fullM K) sAnn (wordB k) 2 now 10 = ((e : Int), M, x, (0 : Int)) ∧ InvB e M ∧ M.length = K) ∨
    (K ≤ k ∧ K = 64 ∧ claimS 5 1000 K (fullM K) sAnn (wordB k) 2 now 10 = ((K : Int), fullM K, zeroL, (2 : Int))) ∨
    (K ≤ k ∧ K < 64 ∧ ∃ e M x, claimS 5 1000 K (fullM K) sAnn (wordB k) 2 now 10 = ((e : Int), M, x, (0 : Int))) := by
  have CI := (claim_inv (g := 5) (m := 1000) (full_inv hK) (by decide) (by decide) (by decide) (by decide) sAnn (wordB k) (word_size k) 2 now 10).1
  by_cases h : k < K
  · have hg : mget (fullM K) (wordB k) = some (fullX k) := by rw [fullM_get hk (by omega), if_pos h]
    have hs : statS 5 (fullX k) now = if now < 10 then 2 else if now < 15 then 1 else 0 := by
      simp only [statS, newL, if_true]
      rfl
    by_cases h10 : now < 10
    · refine .inl ⟨h, h10, ?_⟩
      unfold claimS
      rw [if_neg (full_ok hk n0 (by omega)), hg]
      simp only
      rw [if_neg (fun hh => absurd hh.2 (by simp)), hs, if_pos h10, if_pos rfl]
    · refine .inr (.inl ⟨h, by omega, ?_⟩)
      have : claimS 5 1000 K (fullM K) sAnn (wordB k) 2 now 10 = ((K : Int) + 1, mset (fullM K) (wordB k) (newL sAnn (wordB k) 2 K now 10 1000), newL sAnn (wordB k) 2 K now 10 1000, 0) := by
        unfold claimS
        rw [if_neg (full_ok hk n0 (by omega)), hg]
        simp only
        rw [if_neg (fun hh => absurd hh.2 (by simp)), hs, if_neg h10, if_neg (by split <;> decide)]
      rw [this] at CI
      refine ⟨_, _, _, this, CI, ?_⟩
      have := congrArg List.length (mset_keys hg (newL sAnn (wordB k) 2 K now 10 1000))
      simpa [fullM_len] using this
  · have hg : mget (fullM K) (wordB k) = none := by rw [fullM_get hk (by omega), if_neg h]
    by_cases h64 : K = 64
    · subst h64
      exact .inr (.inr (.inl ⟨by omega, rfl, full_over (by omega) hk n0 (by omega)⟩))
    · refine .inr (.inr (.inr ⟨by omega, by omega, (K : Int) + 1, mset (fullM K) (wordB k) (newL sAnn (wordB k) 2 K now 10 1000), newL sAnn (wordB k) 2 K now 10 1000, ?_⟩))
      unfold claimS
      rw [if_neg (full_ok hk n0 (by omega)), hg]
      simp only
      rw [if_neg (by rw [fullM_len]; omega)]
theorem word_text (w : World) (k : Nat) (hk : k < 90) : (convert 64 9 (.slice (some ⟨w.heap.size, 0, none⟩) 2 2)).run Tryd.prog (w.alloc (.cells #[.int .u8 (97 + (k : Int) / 10), .int .u8 (48 + (k : Int) % 10)] 5)) =
    .ok (.string (wordB k)) (w.alloc (.cells #[.int .u8 (97 + (k : Int) / 10), .int .u8 (48 + (k : Int) % 10)] 5)) := by
  have h1 : (UInt8.ofNat (97 + k / 10)).toNat = 97 + k / 10 := by rw [UInt8.toNat_ofNat']; exact Nat.mod_eq_of_lt (by omega)
  have h2 : (UInt8.ofNat (48 + k % 10)).toNat = 48 + k % 10 := by rw [UInt8.toNat_ofNat']; exact Nat.mod_eq_of_lt (by omega)
  refine run_text (L := wordL k) Tryd.underlying64 Tryd.underlying5 Tryd.underlying9 ⟨_, _, rfl, Nat.le_refl _, fun i x hx => ?_⟩
  rcases i with _ | _ | i
  · simp only [wordL, List.getElem?_cons_zero, Option.some.injEq] at hx
    subst hx
    refine ⟨_, _, rfl, by rw [size_alloc']; exact Nat.lt_succ_self _, ?_⟩
    rw [World.cell?_alloc_mark]
    simp only [bv, h1, Nat.zero_add]
    simp
  · simp only [wordL, List.getElem?_cons_succ, List.getElem?_cons_zero, Option.some.injEq, Nat.zero_add] at hx
    subst hx
    refine ⟨_, _, rfl, by rw [size_alloc']; exact Nat.lt_succ_self _, ?_⟩
    rw [World.cell?_alloc_mark]
    simp only [bv, h2, Nat.zero_add]
    simp
  · simp [wordL] at hx
set_option maxHeartbeats 1000000 in
set_option maxRecDepth 100000 in
theorem word_c {w : World} (k : Nat) (hk : k < 90) : Calls Tryd.prog 13 #[.int .i64 (k : Int)] w (Ret (.string (wordB k)) fun w' => Quiet w w') := by
  have H := word_text w k hk
  have U := Keep.mk ((Upd.refl none' w).alloc (.cells #[.int .u8 (97 + (k : Int) / 10), .int .u8 (48 + (k : Int) % 10)] 5))
  have k0 : (0 : Int) ≤ (k : Int) := by omega
  have k1 : (k : Int) ≤ 89 := by omega
  go_enter Tryd.func13, Tryd.ntmps13
  go_wp2_with fail
  go_ret
  exact ⟨rfl, U.out⟩
theorem ann_inv {e : Int} {M : LT} (I : InvB e M) (K : Nat) (hK : K ≤ 64) (he : e = K) : 0 ≤ e ∧ e ≤ 1000000000 := ⟨I.e0, by omega⟩
namespace leaseFull
set_option maxHeartbeats 16000000 in
set_option maxRecDepth 100000 in
theorem walk {W : World} (many : Int) (hm : (Lit.int .u8 many).wf = true) (again : Int) (ha : (Lit.int .u8 again).wf = true) (now : Int) (hn : (Lit.int .u8 now).wf = true) :
    Calls Tryd.prog 3 #[.int .u8 many, .int .u8 again, .int .u8 now] W (Ret (.bool true) fun W' => Quiet W W') := by
  obtain ⟨m0, m1⟩ : 0 ≤ many ∧ many ≤ 255 := by simpa [Lit.wf, IntKind.min, IntKind.max, IntKind.signed, IntKind.bits] using hm
  obtain ⟨a0, a1⟩ : 0 ≤ again ∧ again ≤ 255 := by simpa [Lit.wf, IntKind.min, IntKind.max, IntKind.signed, IntKind.bits] using ha
  obtain ⟨n0, n1⟩ : 0 ≤ now ∧ now ≤ 255 := by simpa [Lit.wf, IntKind.min, IntKind.max, IntKind.signed, IntKind.bits] using hn
  clear hm ha hn
  obtain ⟨N, hN⟩ : ∃ N : Nat, (N : Int) = many % 80 := ⟨(many % 80).toNat, by omega⟩
  obtain ⟨k, hk⟩ : ∃ k : Nat, (k : Int) = again % 90 := ⟨(again % 90).toNat, by omega⟩
  have N1 : N < 80 := by omega
  have k1 : k < 90 := by omega
  have HN := Keep.mk hN.symm
  have HK := Keep.mk hk.symm
  have HW := Keep.mk (fun w : World => new_yes (w := w) (g := 5) (m := 1000) (by decide) (by decide))
  have WC := Keep.mk (fun (w : World) (k : Nat) (hk : k < 90) => word_c (w := w) k hk)
  clear hN hk
  go_enter Tryd.func3, Tryd.ntmps3
  go_wp2_with fail
  refine (head_c).mono ?_
  rintro e0 w0 ⟨rfl, q0⟩
  go_wp2_with fail
  refine (HW.out _).mono ?_
  rintro e0 w1 ⟨b, rfl, F1, h1, u1⟩
  have U1 := q0.trans u1
  clear q0 u1
  go_wp2_with fail
  rw [HN.out]
  go_loopw [10] (fun i wr => ∃ (j : Nat) (F : Fp), j ≤ N ∧ i = .int .i64 j ∧ (bookT b 5 1000 ((min j 64 : Nat) : Int) (fullM (min j 64))).on wr F ∧ Upd none' F W wr) (fun i _ => N - (RowKit.intOf i).toNat)
  case atStart => exact ⟨0, F1, by omega, rfl, h1, U1⟩
  case round =>
    obtain ⟨j, F, hj, rfl, hB, hU⟩ := hrel
    clear U1 h1
    by_cases hlt : j < N
    · have S1 := Asrt.stars_one hB
      by_cases h64 : j < 64
      · have hm : min j 64 = j := by omega
        have hm1 : min (j + 1) 64 = j + 1 := by omega
        rw [hm] at S1
        have IV := full_inv (k := j) (by omega)
        have CC := Keep.mk (fun (w : World) (F : Fp) (h : (bookT b 5 1000 (j : Int) (fullM j)).on w F) => by have := claim_c h (by decide) (by decide) (by decide) (by decide) (by omega) (by omega) IV.tils sAnn (wordB j) (by decide) (word_size j) 1 0 10; unfold ClaimEnds at this; rw [full_step h64] at this; exact this)
        have HM := Keep.mk hm1
        clear hm hm1 IV hB
        go_wp2_with fail
        refine (WC.out _ j (by omega)).mono ?_
        rintro e0 w3 ⟨rfl, q3⟩
        obtain ⟨S3, u3⟩ := Asrt.stars_same S1 q3
        have U3 := hU.trans u3
        go_wp2_with fail
        refine (on_head S3 (A' := bookT b 5 1000 ((j + 1 : Nat) : Int) (fullM (j + 1))) (v := .tuple #[aggL (fullX j), .int .i64 0]) fun Fi h _ => CC.out _ _ h).mono ?_
        rintro e0 w4 ⟨rfl, F4, S4, u4⟩
        have U4 := U3.trans u4
        clear u4 U3 u3 S3 S1 hU
        go_wp2_with (refine store_new S4 rfl 26 _ _ rfl (cellsL (fullX j)) rfl rfl (sizeL zeroL) rfl (oneL (fullX j)) ?_; intro w5 F5 S5 u5 q5; clear q5)
        obtain ⟨F6, h6, u6⟩ := first_end S5 (U4.trans u5)
        go_roundw
        case rel => exact ⟨j + 1, F6, by omega, by go_num, by rw [HM.out]; exact h6, u6⟩
        case measure => simp [RowKit.intOf]; omega
      · have hm : min j 64 = 64 := by omega
        have hm1 : min (j + 1) 64 = 64 := by omega
        rw [hm] at S1
        have IV := full_inv (k := 64) (by omega)
        have CC := Keep.mk (fun (w : World) (F : Fp) (h : (bookT b 5 1000 ((64 : Nat) : Int) (fullM 64)).on w F) => by have := claim_c h (by decide) (by decide) (by decide) (by decide) (by omega) (by omega) IV.tils sAnn (wordB j) (by decide) (word_size j) 1 0 10; unfold ClaimEnds at this; rw [full_over (by omega) (by omega) (by decide) (by decide)] at this; exact this)
        have HM := Keep.mk hm1
        clear hm hm1 IV hB
        go_wp2_with fail
        refine (WC.out _ j (by omega)).mono ?_
        rintro e0 w3 ⟨rfl, q3⟩
        obtain ⟨S3, u3⟩ := Asrt.stars_same S1 q3
        have U3 := hU.trans u3
        go_wp2_with fail
        refine (on_head S3 (A' := bookT b 5 1000 ((64 : Nat) : Int) (fullM 64)) (v := .tuple #[aggL zeroL, .int .i64 2]) fun Fi h _ => CC.out _ _ h).mono ?_
        rintro e0 w4 ⟨rfl, F4, S4, u4⟩
        have U4 := U3.trans u4
        clear u4 U3 u3 S3 S1 hU
        go_wp2_with (refine store_new S4 rfl 26 _ _ rfl (cellsL zeroL) rfl rfl (sizeL zeroL) rfl (oneL zeroL) ?_; intro w5 F5 S5 u5 q5; clear q5)
        obtain ⟨F6, h6, u6⟩ := first_end S5 (U4.trans u5)
        go_roundw
        case rel => exact ⟨j + 1, F6, by omega, by go_num, by rw [HM.out]; exact h6, u6⟩
        case measure => simp [RowKit.intOf]; omega
    · obtain rfl : j = N := by omega
      obtain ⟨K, hK⟩ : ∃ K, K = min j 64 := ⟨_, rfl⟩
      rw [← hK] at hB
      have S1 := Asrt.stars_one hB
      have hK1 : K ≤ 64 := by omega
      have IV := full_inv hK1
      have CC := Keep.mk (fun (w : World) (F : Fp) (h : (bookT b 5 1000 (K : Int) (fullM K)).on w F) => claim_c h (by decide) (by decide) (by decide) (by decide) (by omega) (by omega) IV.tils sAnn (wordB k) (by decide) (word_size k) 2 now 10)
      unfold ClaimEnds at CC
      have FE := full_end hK1 k1 n0 n1
      have hmin : min ((j : Nat) : Int) 64 = (K : Int) := by
        rw [hK]
        rcases Nat.le_total j 64 with h | h
        · rw [Nat.min_eq_left h, Int.min_eq_left (by omega)]
        · rw [Nat.min_eq_right h, Int.min_eq_right (by omega)]; rfl
      have HMN := Keep.mk hmin
      have HKK := Keep.mk hK
      clear hB hK hmin
      go_wp2_with fail
      rw [HK.out, HMN.out]
      refine (WC.out _ k k1).mono ?_
      rintro e0 w3 ⟨rfl, q3⟩
      obtain ⟨S3, u3⟩ := Asrt.stars_same S1 q3
      have U3 := hU.trans u3
      have HIV := Keep.mk IV
      clear S1 hU u3 q3 IV
      rcases FE with ⟨f1, f2, f3⟩ | ⟨f1, f2, e', M', x', f3, f4, f5⟩ | ⟨f1, f2, f3⟩ | ⟨f1, f2, e', M', x', f3⟩
      · have g1 : (k : Int) < (K : Int) := by omega
        have hd : decide (10 ≤ now) = false := by simp; omega
        have hi : decide ((k : Int) < (K : Int)) = true := by simp; omega
        go_wp2_with fail
        refine (on_head S3 (A' := bookT b 5 1000 (K : Int) (fullM K)) (v := .tuple #[aggL zeroL, .int .i64 4]) fun Fi h _ => by have := CC.out _ _ h; rw [f3] at this; exact this).mono ?_
        rintro e0 w4 ⟨rfl, F4, S4, u4⟩
        have U4 := U3.trans u4
        clear u4 U3 S3
        clear f3
        go_wp2_with (refine store_new S4 rfl 26 _ _ rfl (cellsL zeroL) rfl rfl (sizeL zeroL) rfl (oneL zeroL) ?_; intro w5 F5 S5 u5 q5; clear q5)
        have U5 := U4.trans u5
        clear u5 U4 S4
        refine (all_on HIV.out S5 rfl).mono ?_
        rintro e0 w6 ⟨v6, rfl, F6, S6, u6⟩
        have U6 := U5.trans u6
        obtain ⟨_, hra, _⟩ := Asrt.stars_get S6 1 rfl
        obtain ⟨aa, ca, rfl, _⟩ := (row_reads (enc := encL) (fun _ => rfl) hra).1
        have hlen : ((allS (fullM K)).length : Nat) = K := by rw [allS_length HIV.out]; exact fullM_len K
        rw [hlen]
        clear hra S6 hlen
        go_wp2_with fail
        rw [HMN.out]
        go_wp2_with fail
        go_ret
        exact ⟨by simp, U6.quiet⟩
      · have g1 : (k : Int) < (K : Int) := by omega
        have hd : decide (10 ≤ now) = true := by simp; omega
        have hi : decide ((k : Int) < (K : Int)) = true := by simp; omega
        go_wp2_with fail
        refine (on_head S3 (A' := bookT b 5 1000 e' M') (v := .tuple #[aggL x', .int .i64 0]) fun Fi h _ => by have := CC.out _ _ h; rw [f3] at this; exact this).mono ?_
        rintro e0 w4 ⟨rfl, F4, S4, u4⟩
        have U4 := U3.trans u4
        clear u4 U3 S3
        clear f3
        obtain ⟨x0, x1, x2, x3, x4, x5⟩ := x'
        have HF4 := Keep.mk f4
        have HF5 := Keep.mk f5
        clear f4 f5
        go_wp2_with (refine store_new S4 rfl 26 _ _ rfl (cellsL ⟨x0, x1, x2, x3, x4, x5⟩) rfl rfl (sizeL zeroL) rfl (oneL ⟨x0, x1, x2, x3, x4, x5⟩) ?_; intro w5 F5 S5 u5 q5; clear q5)
        have U5 := U4.trans u5
        clear u5 U4 S4
        refine (all_on HF4.out S5 rfl).mono ?_
        rintro e0 w6 ⟨v6, rfl, F6, S6, u6⟩
        have U6 := U5.trans u6
        obtain ⟨_, hra, _⟩ := Asrt.stars_get S6 1 rfl
        obtain ⟨aa, ca, rfl, _⟩ := (row_reads (enc := encL) (fun _ => rfl) hra).1
        have hlen : ((allS M').length : Nat) = K := by rw [allS_length HF4.out]; exact HF5.out
        rw [hlen]
        clear hra S6 hlen
        go_wp2_with fail
        rw [HMN.out]
        go_wp2_with fail
        go_ret
        exact ⟨by simp, U6.quiet⟩
      · have g1 : ¬ (k : Int) < (K : Int) := by omega
        have g2 : ¬ (j : Int) < 64 := by have := HKK.out; omega
        have g3 : decide ((k : Int) < 64) = false := by simp; omega
        have g4 : decide ((j : Int) < 64) = false := by simp; omega
        have hd : decide ((k : Int) < (K : Int)) = false := by simp; omega
        go_wp2_with fail
        refine (on_head S3 (A' := bookT b 5 1000 (K : Int) (fullM K)) (v := .tuple #[aggL zeroL, .int .i64 2]) fun Fi h _ => by have := CC.out _ _ h; rw [f3] at this; exact this).mono ?_
        rintro e0 w4 ⟨rfl, F4, S4, u4⟩
        have U4 := U3.trans u4
        clear u4 U3 S3
        clear f3 f2
        go_wp2_with (refine store_new S4 rfl 26 _ _ rfl (cellsL zeroL) rfl rfl (sizeL zeroL) rfl (oneL zeroL) ?_; intro w5 F5 S5 u5 q5; clear q5)
        have U5 := U4.trans u5
        clear u5 U4 S4
        go_ret
        exact ⟨rfl, U5.quiet⟩
      · have g1 : ¬ (k : Int) < (K : Int) := by omega
        have g2 : (j : Int) < 64 := by have := HKK.out; omega
        have g4 : decide ((j : Int) < 64) = true := by simp; omega
        have hd : decide ((k : Int) < (K : Int)) = false := by simp; omega
        go_wp2_with fail
        refine (on_head S3 (A' := bookT b 5 1000 e' M') (v := .tuple #[aggL x', .int .i64 0]) fun Fi h _ => by have := CC.out _ _ h; rw [f3] at this; exact this).mono ?_
        rintro e0 w4 ⟨rfl, F4, S4, u4⟩
        have U4 := U3.trans u4
        clear u4 U3 S3
        clear f3
        obtain ⟨x0, x1, x2, x3, x4, x5⟩ := x'
        go_wp2_with (refine store_new S4 rfl 26 _ _ rfl (cellsL ⟨x0, x1, x2, x3, x4, x5⟩) rfl rfl (sizeL zeroL) rfl (oneL ⟨x0, x1, x2, x3, x4, x5⟩) ?_; intro w5 F5 S5 u5 q5; clear q5)
        have U5 := U4.trans u5
        clear u5 U4 S4
        go_ret
        exact ⟨rfl, U5.quiet⟩
end leaseFull
end Go.Proofs.YtefnfhhdcginmaaDoor
