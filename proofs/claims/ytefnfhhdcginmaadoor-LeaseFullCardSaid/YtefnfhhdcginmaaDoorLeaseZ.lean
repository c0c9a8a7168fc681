/- The statement LeaseKept. -/
import Derived.Test.YtefnfhhdcginmaaDoorLeaseX
set_option linter.unusedVariables false
namespace Go.Proofs.YtefnfhhdcginmaaDoor
open Go.ChangeShapes Go.WideShapes Go.ChangeAt Go.RowKit Go.Sub Go.ChangeMaps
abbrev kA (t : Int) : Lz := ⟨sWeb, sAnn, 1, 1, t, true⟩
abbrev kB (t : Int) : Lz := ⟨sWeb, sAnn, 1, 1, t, false⟩
theorem mget1 (x : Lz) : mget [(sWeb, x)] sWeb = some x := by simp [mget]
theorem mset1 (x y : Lz) : mset [(sWeb, x)] sWeb y = [(sWeb, y)] := by simp [mset]
theorem keys1 (x : Lz) : keysOf (([(sWeb, x)] : LT).map (·.1)) = [sWeb] := by
  have := (keysOf_perm (([(sWeb, x)] : LT).map (·.1)))
  simpa using this.eq_singleton
theorem clk {n : Int} (h0 : 0 ≤ n) (h1 : n ≤ 100000) : clockB n = true := clockB_iff.2 ⟨h0, by omega⟩
theorem kc {g t : Int} (h0 : 1 ≤ t) (h1 : t ≤ 1000) : claimS g 1000 0 [] sAnn sWeb 1 0 t = (1, [(sWeb, kA t)], kA t, 0) := by
  unfold claimS
  rw [if_neg (ok_names sAnn nAnn (by decide) (timeB_iff.2 ⟨h0, by omega⟩))]
  have e : (0 : Int) + min t 1000 = t := by omega
  simp only [mget, List.length_nil, mset, newL, e]
  rfl
theorem kr {g t en : Int} (h0 : 0 ≤ en) (h1 : en < t) (h2 : t ≤ 1000) : releaseS g [(sWeb, kA t)] sAnn sWeb 1 en = ([(sWeb, kB (en + g))], 0) := by
  have : ownErr g [(sWeb, kA t)] sAnn sWeb 1 en = 0 := by
    unfold ownErr
    rw [if_neg (by rw [clk h0 (by omega)]; simp), mget1]
    simp only [statS, if_true, if_pos h1]
    simp
  unfold releaseS
  rw [this, if_pos rfl, mget1]
  simp [mset]
theorem kl {g t en : Int} (h0 : 0 ≤ en) (h1 : en < t) (h2 : t ≤ 1000) : leaveS g [(sWeb, kA t)] 1 en = ([(sWeb, kB (en + g))], [kA t]) := by
  unfold leaveS
  rw [if_pos (clk h0 (by omega)), keys1]
  have e1 : soLeave 1 en (kA t) = true := by simp [soLeave, h1]
  have e2 : Option.filter (soLeave 1 en) (some (kA t)) = some (kA t) := by rw [Option.filter_some_pos e1]
  simp only [foldL, List.foldl, stepL, mget1, e1, if_true, mset1, outL, List.filterMap, e2]
theorem kp {g t : Int} (g1 : 1 ≤ g) (h0 : 0 ≤ t) (h2 : t ≤ 1000) : lapseS g [(sWeb, kA t)] t = ([(sWeb, kB (t + g))], [kA t]) := by
  unfold lapseS
  rw [if_pos (clk h0 (by omega)), keys1]
  have h3 : t < t + g := by omega
  have e1 : soLapse t (kA t) = true := by simp [soLapse]
  have e2 : Option.filter (soLapse t) (some (kA t)) = some (kA t) := by rw [Option.filter_some_pos e1]
  have e3 : statS g (kB (t + g)) t = 1 := by simp [statS, h3]
  simp only [foldL, List.foldl, stepL, mget1, e1, if_true, mset1, outL, List.filterMap, e2, List.filter, e3]
  rfl
/-- what the lease is behind its end -/
def AftX (g en : Int) (X : Lz) : Prop := X = kB (en + g) ∨ X = kA en
theorem AftX.stat {g en now : Int} {X : Lz} (h : AftX g en X) (hn : en ≤ now) : statS g X now = if now < en + g then 1 else 0 := by
  rcases h with rfl | rfl
  · simp [statS]
  · have : ¬ now < en := by omega
    simp [statS, this]
theorem AftX.inv {g en : Int} {X : Lz} (h : AftX g en X) (g0 : 0 ≤ g) (g1 : g ≤ 1000) (e0 : 0 ≤ en) (e1 : en ≤ 1000) : InvB 1 [(sWeb, X)] := by
  rcases h with rfl | rfl
  · exact inv1 rfl (by simp only [tilMost]; omega) ⟨by simp, by simp⟩
  · exact inv1 rfl (by simp only [tilMost]; omega) ⟨by simp, by simp⟩
theorem AftX.hold {g en now : Int} {X : Lz} (h : AftX g en X) (hn : en ≤ now) : holdS g [(sWeb, X)] sWeb now = (zeroL, false) := by
  unfold holdS
  rw [mget1]
  simp only
  rw [h.stat hn, if_neg]
  split <;> decide
theorem AftX.ten {g en : Int} {X : Lz} (h : AftX g en X) : X.tenant = sAnn := by rcases h with rfl | rfl <;> rfl
theorem AftX.ann {g en now : Int} {X : Lz} (h : AftX g en X) (hn : en ≤ now) (e0 : 0 ≤ en) (e1 : now ≤ 1000) : ∃ y, claimS g 1000 1 [(sWeb, X)] sAnn sWeb 2 now 5 = (2, [(sWeb, y)], y, 0) := by
  refine ⟨newL sAnn sWeb 2 1 now 5 1000, ?_⟩
  unfold claimS
  rw [if_neg (ok_names sAnn nAnn (clk (by omega) (by omega)) (by decide)), mget1]
  simp only
  rw [h.stat hn, h.ten, if_neg (fun hh => absurd hh.2 (by simp)), if_neg (by split <;> decide), mset1]
  rfl
theorem AftX.bob {g en now : Int} {X : Lz} (h : AftX g en X) (hn : en ≤ now) (e0 : 0 ≤ en) (e1 : now ≤ 1000) (hg : en + g ≤ now) : ∃ y, claimS g 1000 1 [(sWeb, X)] sBob sWeb 2 now 5 = (2, [(sWeb, y)], y, 0) := by
  refine ⟨newL sBob sWeb 2 1 now 5 1000, ?_⟩
  unfold claimS
  rw [if_neg (ok_names sBob nBob (clk (by omega) (by omega)) (by decide)), mget1]
  simp only
  rw [h.stat hn, if_neg (show ¬ now < en + g by omega), if_neg (fun hh => absurd hh.1 (by decide)), if_neg (by decide), mset1]
  rfl
theorem AftX.bob_no {g en now : Int} {X : Lz} (h : AftX g en X) (hn : en ≤ now) (e0 : 0 ≤ en) (e1 : now ≤ 1000) (hg : now < en + g) : claimS g 1000 1 [(sWeb, X)] sBob sWeb 2 now 5 = (1, [(sWeb, X)], zeroL, 131) := by
  unfold claimS
  rw [if_neg (ok_names sBob nBob (clk (by omega) (by omega)) (by decide)), mget1]
  simp only
  rw [h.stat hn, h.ten, if_pos hg, if_pos ⟨by decide, ab⟩]
theorem lapse_on {b : Nat} {g m e : Int} {M : LT} {l : List Asrt} {w : World} {F : Fp} (I : InvB e M) (g0 : 0 ≤ g) (g1 : g ≤ 1073741824) (hS : (Asrt.stars (bookT b g m e M :: l)).on w F) (now : Int) {M' : LT} {O : List Lz} (hR : lapseS g M now = (M', O)) :
    Calls Tryd.prog 26 #[.pointer (some ⟨b, 0, none⟩), .int .i64 now] w fun e' w' => ∃ v, Ret v (fun w' => ∃ F', (Asrt.stars (bookT b g m e M' :: row 26 6 encL v O :: l)).on w' F' ∧ Upd F F' w w') e' w' :=
  on_head_new (T := fun v => v) hS fun Fi h _ => (lapse_c h I.nd I.sz (by have := I.len; omega) g0 g1 I.tils now).mono (by
    rw [hR]
    rintro e1 w1 ⟨v, rfl, F1, S1, U1⟩
    exact ⟨v, rfl, F1, two_of (swap2 S1), U1⟩)
namespace leaseKept
set_option maxHeartbeats 16000000 in
set_option maxRecDepth 100000 in
theorem walk {W : World} (grace : Int) (hg : (Lit.int .u8 grace).wf = true) (ttl : Int) (ht : (Lit.int .u8 ttl).wf = true) (way : Int) (hwy : (Lit.int .u8 way).wf = true) (at' : Int) (hat : (Lit.int .u8 at').wf = true) (behind : Int) (hbh : (Lit.int .u8 behind).wf = true) (other : Bool) :
    Calls Tryd.prog 7 #[.int .u8 grace, .int .u8 ttl, .int .u8 way, .int .u8 at', .int .u8 behind, .bool other] W (Ret (.bool true) fun W' => Quiet W W') := by
  obtain ⟨g0, g1⟩ : 0 ≤ grace ∧ grace ≤ 255 := by simpa [Lit.wf, IntKind.min, IntKind.max, IntKind.signed, IntKind.bits] using hg
  obtain ⟨t0, t1⟩ : 0 ≤ ttl ∧ ttl ≤ 255 := by simpa [Lit.wf, IntKind.min, IntKind.max, IntKind.signed, IntKind.bits] using ht
  obtain ⟨w0, w1⟩ : 0 ≤ way ∧ way ≤ 255 := by simpa [Lit.wf, IntKind.min, IntKind.max, IntKind.signed, IntKind.bits] using hwy
  obtain ⟨a0, a1⟩ : 0 ≤ at' ∧ at' ≤ 255 := by simpa [Lit.wf, IntKind.min, IntKind.max, IntKind.signed, IntKind.bits] using hat
  obtain ⟨b0, b1⟩ : 0 ≤ behind ∧ behind ≤ 255 := by simpa [Lit.wf, IntKind.min, IntKind.max, IntKind.signed, IntKind.bits] using hbh
  clear hg ht hwy hat hbh
  have HN := Keep.mk (fun w : World => new_yes (w := w) (g := 1 + grace) (m := 1000) (timeB_iff.2 ⟨by omega, by omega⟩) (by decide))
  go_enter Tryd.func7, Tryd.ntmps7
  go_wp2_with fail
  refine (head_c).mono ?_
  rintro e0 w0 ⟨rfl, q0⟩
  go_wp2_with fail
  refine (HN.out _).mono ?_
  rintro e0 w1 ⟨b, rfl, F1, h1, u1⟩
  have U1 := q0.trans u1
  clear HN q0 u1
  generalize hgg : 1 + grace = g at *
  generalize htt : 1 + ttl = t at *
  have g2 : 1 ≤ g := by omega
  have g3 : g ≤ 256 := by omega
  have t2 : 1 ≤ t := by omega
  have t3 : t ≤ 256 := by omega
  have hG := Keep.mk hgg
  have hT := Keep.mk htt
  clear hgg htt g0 g1 t0 t1
  have S1 := Asrt.stars_one h1
  clear h1
  have I1 : InvB 1 [(sWeb, kA t)] := inv1 rfl (by simp only [tilMost]; omega) ⟨by simp, by simp⟩
  go_wp2_with fail
  refine (on_head S1 (A' := bookT b g 1000 1 [(sWeb, kA t)]) (v := .tuple #[aggL (kA t), .int .i64 0]) fun Fi h _ => by have := claim_c h (by omega) (by omega) (by decide) (by decide) (by decide) (by decide) InvB.new.tils sAnn sWeb (by decide) (by decide) 1 0 t; unfold ClaimEnds at this; rw [kc (by omega) (by omega)] at this; exact this).mono ?_
  rintro e0 w2 ⟨rfl, F2, S2, u2⟩
  have U2 := U1.trans u2
  clear S1 u2 U1
  have e0 : 0 ≤ at' % t := Int.emod_nonneg _ (by omega)
  have e1 : at' % t < t := Int.emod_lt_of_pos _ (by omega)
  go_wp2_with (refine store_new S2 rfl 26 _ _ rfl (cellsL (kA t)) rfl rfl (sizeL zeroL) rfl (oneL (kA t)) ?_; intro w3 F3 S3 u3 q3)
  -- the ways
  · have U3 := U2.trans u3
    clear u3 U2 S2
    refine (on_head S3 (A' := bookT b g 1000 1 [(sWeb, kB (at' % t + g))]) (v := .int .i64 0) fun Fi h _ => by have := release_c h (by omega) (by omega) I1.tils sAnn sWeb 1 (at' % t); unfold RelEnds at this; rw [kr (by omega) (by omega) (by omega)] at this; exact this).mono ?_
    rintro e0 w4 ⟨rfl, F4, S4, u4⟩
    have U4 := U3.trans u4
    clear u4 U3 S3 q3
    obtain ⟨X, hX⟩ : ∃ X, X = kB (at' % t + g) := ⟨_, rfl⟩
    have HX : Keep (AftX g (at' % t) X) := ⟨.inl hX⟩
    have HI := Keep.mk (HX.out.inv (by omega) (by omega) (by omega) (by omega))
    rw [← hX] at S4
    clear hX
    go_wp2_with fail
    · have U4 := U4
      refine (on_head_same S4 fun Fi h _ => by have := holder_c h (by omega) (by omega) HI.out.tils sWeb (at' % t + behind); rw [HX.out.hold (by omega)] at this; exact this).mono ?_
      rintro e0 w5 ⟨rfl, F5, S5, u5⟩
      have U5 := U4.trans u5
      clear u5
      go_wp2_with (refine store_new S5 rfl 26 _ _ rfl (cellsL zeroL) rfl rfl (sizeL zeroL) rfl (oneL zeroL) ?_; intro w6 F6 S6 u6 q6; clear q6)
      have U6 := U5.trans u6
      clear u6
      by_cases hb : at' % t + g ≤ at' % t + behind
      · obtain ⟨y, hy⟩ := HX.out.bob (now := at' % t + behind) (by omega) (by omega) (by omega) hb
        refine (on_head S6 (A' := bookT b g 1000 2 [(sWeb, y)]) (v := .tuple #[aggL y, .int .i64 0]) fun Fi h _ => by have := claim_c h (by omega) (by omega) (by decide) (by decide) (by decide) (by decide) HI.out.tils sBob sWeb (by decide) (by decide) 2 (at' % t + behind) 5; unfold ClaimEnds at this; rw [hy] at this; exact this).mono ?_
        rintro e0 w7 ⟨rfl, F7, S7, u7⟩
        have U7 := U6.trans u7
        clear u7 hy S6 S5
        go_wp2_with fail
        go_ret
        exact ⟨rfl, (U7.alloc _).quiet⟩
      · have hy := HX.out.bob_no (now := at' % t + behind) (by omega) (by omega) (by omega) (by omega)
        refine (on_head S6 (A' := bookT b g 1000 1 [(sWeb, X)]) (v := .tuple #[aggL zeroL, .int .i64 131]) fun Fi h _ => by have := claim_c h (by omega) (by omega) (by decide) (by decide) (by decide) (by decide) HI.out.tils sBob sWeb (by decide) (by decide) 2 (at' % t + behind) 5; unfold ClaimEnds at this; rw [hy] at this; exact this).mono ?_
        rintro e0 w7 ⟨rfl, F7, S7, u7⟩
        have U7 := U6.trans u7
        clear u7 hy S6 S5
        have hd : decide (g ≤ behind) = false := by simp; omega
        clear hb
        go_wp2_with fail
        go_ret
        exact ⟨rfl, (U7.alloc _).quiet⟩
    · have U4 := U4
      refine (on_head_same S4 fun Fi h _ => by have := holder_c h (by omega) (by omega) HI.out.tils sWeb (at' % t + behind); rw [HX.out.hold (by omega)] at this; exact this).mono ?_
      rintro e0 w5 ⟨rfl, F5, S5, u5⟩
      have U5 := U4.trans u5
      clear u5
      go_wp2_with (refine store_new S5 rfl 26 _ _ rfl (cellsL zeroL) rfl rfl (sizeL zeroL) rfl (oneL zeroL) ?_; intro w6 F6 S6 u6 q6; clear q6)
      have U6 := U5.trans u6
      clear u6
      obtain ⟨y, hy⟩ := HX.out.ann (now := at' % t + behind) (by omega) (by omega) (by omega)
      refine (on_head S6 (A' := bookT b g 1000 2 [(sWeb, y)]) (v := .tuple #[aggL y, .int .i64 0]) fun Fi h _ => by have := claim_c h (by omega) (by omega) (by decide) (by decide) (by decide) (by decide) HI.out.tils sAnn sWeb (by decide) (by decide) 2 (at' % t + behind) 5; unfold ClaimEnds at this; rw [hy] at this; exact this).mono ?_
      rintro e0 w7 ⟨rfl, F7, S7, u7⟩
      have U7 := U6.trans u7
      clear u7 hy S6 S5
      go_wp2_with fail
      go_ret
      exact ⟨rfl, (U7.alloc _).quiet⟩
  · have U3 := U2.trans u3
    clear u3 U2 S2
    refine (leaseLeaves.leave_on I1 (by omega) (by omega) S3 1 (at' % t) (kl (by omega) (by omega) (by omega))).mono ?_
    rintro e0 w4 ⟨v4, rfl, F4, S4, u4⟩
    have U4 := U3.trans u4
    clear u4 U3 S3 q3
    obtain ⟨_, hr4, _⟩ := Asrt.stars_get S4 1 rfl
    obtain ⟨a4, c4, rfl, _⟩ := (row_reads (enc := encL) (fun _ => rfl) hr4).1
    clear hr4
    obtain ⟨X, hX⟩ : ∃ X, X = kB (at' % t + g) := ⟨_, rfl⟩
    have HX : Keep (AftX g (at' % t) X) := ⟨.inl hX⟩
    have HI := Keep.mk (HX.out.inv (by omega) (by omega) (by omega) (by omega))
    rw [← hX] at S4
    clear hX
    go_wp2_with fail
    · have U4 := U4
      refine (on_head_same S4 fun Fi h _ => by have := holder_c h (by omega) (by omega) HI.out.tils sWeb (at' % t + behind); rw [HX.out.hold (by omega)] at this; exact this).mono ?_
      rintro e0 w5 ⟨rfl, F5, S5, u5⟩
      have U5 := U4.trans u5
      clear u5
      go_wp2_with (refine store_new S5 rfl 26 _ _ rfl (cellsL zeroL) rfl rfl (sizeL zeroL) rfl (oneL zeroL) ?_; intro w6 F6 S6 u6 q6; clear q6)
      have U6 := U5.trans u6
      clear u6
      by_cases hb : at' % t + g ≤ at' % t + behind
      · obtain ⟨y, hy⟩ := HX.out.bob (now := at' % t + behind) (by omega) (by omega) (by omega) hb
        refine (on_head S6 (A' := bookT b g 1000 2 [(sWeb, y)]) (v := .tuple #[aggL y, .int .i64 0]) fun Fi h _ => by have := claim_c h (by omega) (by omega) (by decide) (by decide) (by decide) (by decide) HI.out.tils sBob sWeb (by decide) (by decide) 2 (at' % t + behind) 5; unfold ClaimEnds at this; rw [hy] at this; exact this).mono ?_
        rintro e0 w7 ⟨rfl, F7, S7, u7⟩
        have U7 := U6.trans u7
        clear u7 hy S6 S5
        go_wp2_with fail
        go_ret
        exact ⟨rfl, (U7.alloc _).quiet⟩
      · have hy := HX.out.bob_no (now := at' % t + behind) (by omega) (by omega) (by omega) (by omega)
        refine (on_head S6 (A' := bookT b g 1000 1 [(sWeb, X)]) (v := .tuple #[aggL zeroL, .int .i64 131]) fun Fi h _ => by have := claim_c h (by omega) (by omega) (by decide) (by decide) (by decide) (by decide) HI.out.tils sBob sWeb (by decide) (by decide) 2 (at' % t + behind) 5; unfold ClaimEnds at this; rw [hy] at this; exact this).mono ?_
        rintro e0 w7 ⟨rfl, F7, S7, u7⟩
        have U7 := U6.trans u7
        clear u7 hy S6 S5
        have hd : decide (g ≤ behind) = false := by simp; omega
        clear hb
        go_wp2_with fail
        go_ret
        exact ⟨rfl, (U7.alloc _).quiet⟩
    · have U4 := U4
      refine (on_head_same S4 fun Fi h _ => by have := holder_c h (by omega) (by omega) HI.out.tils sWeb (at' % t + behind); rw [HX.out.hold (by omega)] at this; exact this).mono ?_
      rintro e0 w5 ⟨rfl, F5, S5, u5⟩
      have U5 := U4.trans u5
      clear u5
      go_wp2_with (refine store_new S5 rfl 26 _ _ rfl (cellsL zeroL) rfl rfl (sizeL zeroL) rfl (oneL zeroL) ?_; intro w6 F6 S6 u6 q6; clear q6)
      have U6 := U5.trans u6
      clear u6
      obtain ⟨y, hy⟩ := HX.out.ann (now := at' % t + behind) (by omega) (by omega) (by omega)
      refine (on_head S6 (A' := bookT b g 1000 2 [(sWeb, y)]) (v := .tuple #[aggL y, .int .i64 0]) fun Fi h _ => by have := claim_c h (by omega) (by omega) (by decide) (by decide) (by decide) (by decide) HI.out.tils sAnn sWeb (by decide) (by decide) 2 (at' % t + behind) 5; unfold ClaimEnds at this; rw [hy] at this; exact this).mono ?_
      rintro e0 w7 ⟨rfl, F7, S7, u7⟩
      have U7 := U6.trans u7
      clear u7 hy S6 S5
      go_wp2_with fail
      go_ret
      exact ⟨rfl, (U7.alloc _).quiet⟩
  · have U3 := U2.trans u3
    clear u3 U2 S2
    refine (lapse_on I1 (by omega) (by omega) S3 t (kp (by omega) (by omega) (by omega))).mono ?_
    rintro e0 w4 ⟨v4, rfl, F4, S4, u4⟩
    have U4 := U3.trans u4
    clear u4 U3 S3 q3
    obtain ⟨_, hr4, _⟩ := Asrt.stars_get S4 1 rfl
    obtain ⟨a4, c4, rfl, _⟩ := (row_reads (enc := encL) (fun _ => rfl) hr4).1
    clear hr4
    obtain ⟨X, hX⟩ : ∃ X, X = kB (t + g) := ⟨_, rfl⟩
    have HX : Keep (AftX g (t) X) := ⟨.inl hX⟩
    have HI := Keep.mk (HX.out.inv (by omega) (by omega) (by omega) (by omega))
    rw [← hX] at S4
    clear hX
    go_wp2_with fail
    · have U4 := U4
      refine (on_head_same S4 fun Fi h _ => by have := holder_c h (by omega) (by omega) HI.out.tils sWeb (t + behind); rw [HX.out.hold (by omega)] at this; exact this).mono ?_
      rintro e0 w5 ⟨rfl, F5, S5, u5⟩
      have U5 := U4.trans u5
      clear u5
      go_wp2_with (refine store_new S5 rfl 26 _ _ rfl (cellsL zeroL) rfl rfl (sizeL zeroL) rfl (oneL zeroL) ?_; intro w6 F6 S6 u6 q6; clear q6)
      have U6 := U5.trans u6
      clear u6
      by_cases hb : t + g ≤ t + behind
      · obtain ⟨y, hy⟩ := HX.out.bob (now := t + behind) (by omega) (by omega) (by omega) hb
        refine (on_head S6 (A' := bookT b g 1000 2 [(sWeb, y)]) (v := .tuple #[aggL y, .int .i64 0]) fun Fi h _ => by have := claim_c h (by omega) (by omega) (by decide) (by decide) (by decide) (by decide) HI.out.tils sBob sWeb (by decide) (by decide) 2 (t + behind) 5; unfold ClaimEnds at this; rw [hy] at this; exact this).mono ?_
        rintro e0 w7 ⟨rfl, F7, S7, u7⟩
        have U7 := U6.trans u7
        clear u7 hy S6 S5
        go_wp2_with fail
        go_ret
        exact ⟨rfl, (U7.alloc _).quiet⟩
      · have hy := HX.out.bob_no (now := t + behind) (by omega) (by omega) (by omega) (by omega)
        refine (on_head S6 (A' := bookT b g 1000 1 [(sWeb, X)]) (v := .tuple #[aggL zeroL, .int .i64 131]) fun Fi h _ => by have := claim_c h (by omega) (by omega) (by decide) (by decide) (by decide) (by decide) HI.out.tils sBob sWeb (by decide) (by decide) 2 (t + behind) 5; unfold ClaimEnds at this; rw [hy] at this; exact this).mono ?_
        rintro e0 w7 ⟨rfl, F7, S7, u7⟩
        have U7 := U6.trans u7
        clear u7 hy S6 S5
        have hd : decide (g ≤ behind) = false := by simp; omega
        clear hb
        go_wp2_with fail
        go_ret
        exact ⟨rfl, (U7.alloc _).quiet⟩
    · have U4 := U4
      refine (on_head_same S4 fun Fi h _ => by have := holder_c h (by omega) (by omega) HI.out.tils sWeb (t + behind); rw [HX.out.hold (by omega)] at this; exact this).mono ?_
      rintro e0 w5 ⟨rfl, F5, S5, u5⟩
      have U5 := U4.trans u5
      clear u5
      go_wp2_with (refine store_new S5 rfl 26 _ _ rfl (cellsL zeroL) rfl rfl (sizeL zeroL) rfl (oneL zeroL) ?_; intro w6 F6 S6 u6 q6; clear q6)
      have U6 := U5.trans u6
      clear u6
      obtain ⟨y, hy⟩ := HX.out.ann (now := t + behind) (by omega) (by omega) (by omega)
      refine (on_head S6 (A' := bookT b g 1000 2 [(sWeb, y)]) (v := .tuple #[aggL y, .int .i64 0]) fun Fi h _ => by have := claim_c h (by omega) (by omega) (by decide) (by decide) (by decide) (by decide) HI.out.tils sAnn sWeb (by decide) (by decide) 2 (t + behind) 5; unfold ClaimEnds at this; rw [hy] at this; exact this).mono ?_
      rintro e0 w7 ⟨rfl, F7, S7, u7⟩
      have U7 := U6.trans u7
      clear u7 hy S6 S5
      go_wp2_with fail
      go_ret
      exact ⟨rfl, (U7.alloc _).quiet⟩
  · have U4 := U2.trans u3
    have S4 := S3
    clear u3 U2 S2 S3 q3
    obtain ⟨X, hX⟩ : ∃ X, X = kA t := ⟨_, rfl⟩
    have HX : Keep (AftX g (t) X) := ⟨.inr hX⟩
    have HI := Keep.mk (HX.out.inv (by omega) (by omega) (by omega) (by omega))
    rw [← hX] at S4
    clear hX
    refine (on_head_same S4 fun Fi h _ => by have := holder_c h (by omega) (by omega) HI.out.tils sWeb (t + behind); rw [HX.out.hold (by omega)] at this; exact this).mono ?_
    rintro e0 w5 ⟨rfl, F5, S5, u5⟩
    have U5 := U4.trans u5
    clear u5
    go_wp2_with (refine store_new S5 rfl 26 _ _ rfl (cellsL zeroL) rfl rfl (sizeL zeroL) rfl (oneL zeroL) ?_; intro w6 F6 S6 u6 q6; clear q6)
    have U6 := U5.trans u6
    clear u6
    by_cases hb : t + g ≤ t + behind
    · obtain ⟨y, hy⟩ := HX.out.bob (now := t + behind) (by omega) (by omega) (by omega) hb
      refine (on_head S6 (A' := bookT b g 1000 2 [(sWeb, y)]) (v := .tuple #[aggL y, .int .i64 0]) fun Fi h _ => by have := claim_c h (by omega) (by omega) (by decide) (by decide) (by decide) (by decide) HI.out.tils sBob sWeb (by decide) (by decide) 2 (t + behind) 5; unfold ClaimEnds at this; rw [hy] at this; exact this).mono ?_
      rintro e0 w7 ⟨rfl, F7, S7, u7⟩
      have U7 := U6.trans u7
      clear u7 hy S6 S5
      go_wp2_with fail
      go_ret
      exact ⟨rfl, (U7.alloc _).quiet⟩
    · have hy := HX.out.bob_no (now := t + behind) (by omega) (by omega) (by omega) (by omega)
      refine (on_head S6 (A' := bookT b g 1000 1 [(sWeb, X)]) (v := .tuple #[aggL zeroL, .int .i64 131]) fun Fi h _ => by have := claim_c h (by omega) (by omega) (by decide) (by decide) (by decide) (by decide) HI.out.tils sBob sWeb (by decide) (by decide) 2 (t + behind) 5; unfold ClaimEnds at this; rw [hy] at this; exact this).mono ?_
      rintro e0 w7 ⟨rfl, F7, S7, u7⟩
      have U7 := U6.trans u7
      clear u7 hy S6 S5
      have hd : decide (g ≤ behind) = false := by simp; omega
      clear hb
      go_wp2_with fail
      go_ret
      exact ⟨rfl, (U7.alloc _).quiet⟩
  · have U4 := U2.trans u3
    have S4 := S3
    clear u3 U2 S2 S3 q3
    obtain ⟨X, hX⟩ : ∃ X, X = kA t := ⟨_, rfl⟩
    have HX : Keep (AftX g (t) X) := ⟨.inr hX⟩
    have HI := Keep.mk (HX.out.inv (by omega) (by omega) (by omega) (by omega))
    rw [← hX] at S4
    clear hX
    refine (on_head_same S4 fun Fi h _ => by have := holder_c h (by omega) (by omega) HI.out.tils sWeb (t + behind); rw [HX.out.hold (by omega)] at this; exact this).mono ?_
    rintro e0 w5 ⟨rfl, F5, S5, u5⟩
    have U5 := U4.trans u5
    clear u5
    go_wp2_with (refine store_new S5 rfl 26 _ _ rfl (cellsL zeroL) rfl rfl (sizeL zeroL) rfl (oneL zeroL) ?_; intro w6 F6 S6 u6 q6; clear q6)
    have U6 := U5.trans u6
    clear u6
    obtain ⟨y, hy⟩ := HX.out.ann (now := t + behind) (by omega) (by omega) (by omega)
    refine (on_head S6 (A' := bookT b g 1000 2 [(sWeb, y)]) (v := .tuple #[aggL y, .int .i64 0]) fun Fi h _ => by have := claim_c h (by omega) (by omega) (by decide) (by decide) (by decide) (by decide) HI.out.tils sAnn sWeb (by decide) (by decide) 2 (t + behind) 5; unfold ClaimEnds at this; rw [hy] at this; exact this).mono ?_
    rintro e0 w7 ⟨rfl, F7, S7, u7⟩
    have U7 := U6.trans u7
    clear u7 hy S6 S5
    go_wp2_with fail
    go_ret
    exact ⟨rfl, (U7.alloc _).quiet⟩
end leaseKept
end Go.Proofs.YtefnfhhdcginmaaDoor
