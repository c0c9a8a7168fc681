/- PairPlays: its walk. -/
import Derived.Test.YtnjdhijngioljaaPairJ
import Derived.Test.YtnjdhijngioljaaPairM
import Derived.Deep.DeepCutAuto
import Derived.Deep.RegionHeld3
namespace Go.Proofs.Ytnjdhijngioljaa.pairPlays
open Go.RowKit Go.Sub Go.ChangeMaps Go.Proofs.Ytnjdhijngioljaa.pairs
theorem find_none : ∀ (l : List (Int × Int)) (n : Int), (∀ p ∈ l, p.1 ≠ n ∧ p.2 ≠ n) → rfind l n = (0, false)
  | [], _, _ => rfl
  | p :: r, n, h => by
    have h1 := h p (by simp)
    simp only [rfind, if_neg h1.1, if_neg h1.2]
    exact find_none r n fun q hq => h q (by simp [hq])
theorem find_some : ∀ (l : List (Int × Int)) (n o : Int), (∃ p ∈ l, p.1 = n ∨ p.2 = n) → (∀ p ∈ l, (p.1 = n → p.2 = o) ∧ (p.2 = n → p.1 = o)) → rfind l n = (o, true)
  | [], _, _, h, _ => by obtain ⟨p, hp, _⟩ := h; simp at hp
  | p :: r, n, o, h, hu => by
    have h1 := hu p (by simp)
    by_cases e1 : p.1 = n
    · simp only [rfind, if_pos e1, h1.1 e1]
    · by_cases e2 : p.2 = n
      · rw [rfind, if_neg e1, if_pos e2, h1.2 e2]
      · simp only [rfind, if_neg e1, if_neg e2]
        refine find_some r n o ?_ fun q hq => hu q (by simp [hq])
        obtain ⟨q, hq, hqn⟩ := h
        rcases List.mem_cons.1 hq with rfl | hq
        · rcases hqn with h | h
          · exact absurd h e1
          · exact absurd h e2
        · exact ⟨q, hq, hqn⟩
theorem mem_all {T : Tab} (hI : Inv T) {l : List (Int × Int)} (hl : AllOf T l) {p : Int × Int} : p ∈ l ↔ mget T.ends p.1 = some (p.2, true) := hl.perm.mem_iff.trans (mem_vis hI)
theorem find_eq {T : Tab} (hI : Inv T) {l : List (Int × Int)} (hl : AllOf T l) (n : Int) : rfind l n = T.other n := by
  cases hg : mget T.ends n with
  | none =>
    rw [show T.other n = (0, false) from by simp [Tab.other, hg]]
    refine find_none l n fun p hp => ?_
    have h1 := (mem_all hI hl).1 hp
    obtain ⟨h2, _⟩ := hI.back _ _ _ h1
    refine ⟨fun e => ?_, fun e => ?_⟩
    · rw [e, hg] at h1; cases h1
    · rw [e, hg] at h2; cases h2
  | some q =>
    obtain ⟨o, s⟩ := q
    rw [show T.other n = (o, true) from by simp [Tab.other, hg]]
    refine find_some l n o ?_ fun p hp => ?_
    · cases s
      · obtain ⟨h2, _⟩ := hI.back _ _ _ hg
        exact ⟨(o, n), (mem_all hI hl).2 h2, .inr rfl⟩
      · exact ⟨(n, o), (mem_all hI hl).2 hg, .inl rfl⟩
    · have h1 := (mem_all hI hl).1 hp
      obtain ⟨h2, _⟩ := hI.back _ _ _ h1
      refine ⟨fun e => ?_, fun e => ?_⟩
      · rw [e, hg] at h1; simp at h1; exact h1.1.symm
      · rw [e, hg] at h2; simp at h2; exact h2.1.symm
theorem part_all {T : Tab} (hI : Inv T) {l : List (Int × Int)} (hl : AllOf T l) (n : Int) : AllOf (T.part n) (l.filter fun p => p.1 != n && p.2 != n) := by
  refine ⟨?_, hl.rising.sublist List.filter_sublist⟩
  have hI' := inv_part hI n
  have hn : mget (T.part n).ends n = none := by
    cases hg : mget T.ends n with
    | none => simp [Tab.part, hg]
    | some q => obtain ⟨o, s⟩ := q; rw [part_get hI hg]; simp
  have free : ∀ p ∈ vis (T.part n).ends, (p.1 != n && p.2 != n) = true := fun p hp => by
    have h1 := (mem_vis hI').1 hp
    obtain ⟨h2, _⟩ := hI'.back _ _ _ h1
    have a1 : p.1 ≠ n := fun e => by rw [e, hn] at h1; cases h1
    have a2 : p.2 ≠ n := fun e => by rw [e, hn] at h2; cases h2
    simp [a1, a2]
  cases hg : mget T.ends n with
  | none =>
    have e1 : T.part n = T := by simp [Tab.part, hg]
    rw [e1] at free ⊢
    have := hl.perm.filter fun p => p.1 != n && p.2 != n
    rwa [List.filter_eq_self.2 free] at this
  | some q =>
    obtain ⟨o, s⟩ := q
    have h1 := (hl.perm.trans (vis_part hI hg)).filter fun p => p.1 != n && p.2 != n
    rw [List.filter_cons, List.filter_eq_self.2 free] at h1
    cases s <;> simpa using h1
theorem ins_perm : ∀ (l : List (Int × Int)) (p : Int × Int), (rins l p).Perm (p :: l)
  | [], p => List.Perm.refl _
  | x :: r, p => by
    simp only [rins]
    split
    · exact List.Perm.refl _
    · exact ((ins_perm r p).cons x).trans (List.Perm.swap ..)
theorem ins_sorted : ∀ (l : List (Int × Int)) (p : Int × Int), l.Pairwise (fun x y => x.1 ≤ y.1) → (rins l p).Pairwise fun x y => x.1 ≤ y.1
  | [], p, _ => by simp [rins]
  | x :: r, p, h => by
    have h2 := List.pairwise_cons.1 h
    simp only [rins]
    split
    · rename_i hlt
      refine List.pairwise_cons.2 ⟨fun y hy => ?_, h⟩
      rcases List.mem_cons.1 hy with rfl | hy
      · omega
      · have := h2.1 y hy; omega
    · rename_i hge
      refine List.pairwise_cons.2 ⟨fun y hy => ?_, ins_sorted r p h2.2⟩
      rcases List.mem_cons.1 ((ins_perm r p).mem_iff.1 hy) with rfl | hy
      · omega
      · exact h2.1 y hy
theorem join_all {T : Tab} (hI : Inv T) {l : List (Int × Int)} (hl : AllOf T l) {v c : Int} (h : (T.join v c).2 = 0) : AllOf (T.join v c).1 (rins l (v, c)) :=
  ⟨by rw [vis_join hI h]; exact (ins_perm l _).trans ((hl.perm.cons _).trans (List.perm_append_singleton _ _).symm), ins_sorted l _ hl.rising⟩
/-- the two tables are alike -/
structure Like (T : Tab) (R : RTab) (k : Nat) : Prop where
  inv : Inv T
  all : AllOf T R.l
  was : ∀ x, T.was x = R.was x
  small : R.ever.length ≤ 2 * k
  short : T.ends.length ≤ 2 * k
theorem Like.find {T : Tab} {R : RTab} {k : Nat} (h : Like T R k) (n : Int) : rfind R.l n = T.other n := find_eq h.inv h.all n
theorem Like.part {T : Tab} {R : RTab} {k : Nat} (h : Like T R k) (n : Int) : Like (T.part n) ⟨R.l.filter (fun p => p.1 != n && p.2 != n), R.ever⟩ (k + 1) :=
  ⟨inv_part h.inv n, part_all h.inv h.all n, fun x => by rw [part_was]; exact h.was x, by have := h.small; simp only; omega, by have := h.short; have := ends_part h.inv n; omega⟩
theorem Like.code {T : Tab} {R : RTab} {k : Nat} (h : Like T R k) (v c : Int) : (R.join v c).2 = (T.join v c).2 := by
  simp only [Tab.join, RTab.join, h.was]
  split
  · rfl
  · split <;> rfl
theorem Like.join {T : Tab} {R : RTab} {k : Nat} (h : Like T R k) (v c : Int) : Like (T.join v c).1 (R.join v c).1 (k + 1) := by
  have hs := h.small
  have hs' := h.short
  have he := ends_join h.inv v c
  by_cases h0 : (T.join v c).2 = 0
  · have hc := join_code T v c
    rw [h0] at hc
    have e1 : ¬ (v < 1 ∨ c < 1 ∨ v = c) := fun q => by rw [if_pos q] at hc; cases hc
    rw [if_neg e1] at hc
    have e2 : ¬ (T.was v = true ∨ T.was c = true) := fun q => by rw [if_pos q] at hc; cases hc
    have e3 : (R.join v c).1 = ⟨rins R.l (v, c), R.ever ++ [v, c]⟩ := by
      rw [h.was, h.was] at e2
      simp only [RTab.join, if_neg e1, if_neg e2]
    rw [e3]
    refine ⟨inv_join h.inv v c, join_all h.inv h.all h0, fun x => ?_, by simp; omega, by omega⟩
    rw [join_was h.inv h0, h.was]
    simp [RTab.was, Bool.or_assoc]
  · have e3 : (R.join v c).1 = R := by
      have hc := h.code v c
      unfold RTab.join at hc ⊢
      split
      · rfl
      · split
        · rfl
        · rename_i a1 a2
          rw [if_neg a1, if_neg a2] at hc
          exact absurd hc.symm h0
    rw [join_no h0, e3]
    exact ⟨h.inv, h.all, h.was, by omega, by omega⟩
theorem Like.len {T : Tab} {R : RTab} {k : Nat} (h : Like T R k) : R.l.length ≤ 2 * k := by
  have h1 := h.all.perm.length_eq
  have h2 : (vis T.ends).length ≤ T.ends.length := List.length_filterMap_le _ _
  have := h.short
  omega
/-- what holds at the head of a round -/
structure At (W : World) (b br : Nat) (k : Nat) (w : World) (T : Tab) (R : RTab) (F : Fp) : Prop where
  mem : (Asrt.stars [refT br R, pairT b T]).on w F
  upd : Upd none' F W w
  like : Like T R k
set_option maxHeartbeats 4000000 in
set_option maxRecDepth 100000 in
theorem walk {W : World} (v : Value) (L : List (Int × Int × Int)) (hL : Reads W 3 encOp v L) (_ : L.length ≤ maxLen) : Calls Try.prog 3 #[v] W (Ret (.bool true) fun W' => Quiet W W') := by
  obtain ⟨a, cap, rfl, ha⟩ := hL
  by_cases hbig : 300 < L.length
  · go_enter Try.func3, Try.ntmps3
    go_wp2_with fail
    refine (head_c _).mono ?_
    rintro e w1 ⟨rfl, u1⟩
    go_wp2_with fail
    refine (new_c _).mono ?_
    rintro e w2 ⟨b, rfl, F, t, u2⟩
    go_wp2_with fail
    refine (rnew_c _).mono ?_
    rintro e w3 ⟨br, rfl, Fr, tr, u3⟩
    go_wp2_with fail
    go_ret
    exact ⟨rfl, (((Upd.trans u1 u2).quiet).thenQ u3).quiet⟩
  · have e0 : decide (300 < (L.length : Int)) = false := by simp; omega
    have hsz : L.length ≤ 300 := by omega
    clear hbig
    go_enter Try.func3, Try.ntmps3
    go_wp2_with fail
    refine (head_c _).mono ?_
    rintro e w1 ⟨rfl, u1⟩
    go_wp2_with fail
    refine (new_c _).mono ?_
    rintro e w2 ⟨b, rfl, F, t, u2⟩
    go_wp2_with fail
    refine (rnew_c _).mono ?_
    rintro e w3 ⟨br, rfl, Fr, tr, u3⟩
    obtain ⟨F3, hS3, hU3⟩ := Asrt.stars_new (Asrt.stars_one t) tr u3
    go_wp2_with fail
    go_loopw [6] (fun i wr => ∃ k T R F, k ≤ L.length ∧ i = .int .i64 (k : Nat) ∧ At W b br k wr T R F) (fun i _ => L.length - (intOf i).toNat)
    case atStart =>
      exact ⟨0, ⟨[], []⟩, ⟨[], []⟩, F3, by omega, rfl, ⟨hS3, (Upd.trans u1 u2).trans hU3, ⟨inv_nil, ⟨by simp [vis], by simp⟩, by simp [Tab.was, RTab.was, mget], by simp, by simp⟩⟩⟩
    case round =>
      obtain ⟨k, T, R, F, hk, rfl, hA⟩ := hrel
      by_cases hlt : k < L.length
      · obtain ⟨g, off, rfl, hg, hc⟩ := ha k L[k] (List.getElem?_eq_getElem hlt)
        generalize hx : L[k] = x at *
        obtain ⟨x0, x1, x2⟩ := x
        have k0 : wr.cell? ⟨g, off + k * 3, none⟩ = some (.int .i64 x0) := by rw [hA.upd.cell hg id]; exact hc 0 _ rfl
        have k1 : wr.cell? ⟨g, off + k * 3 + 1, none⟩ = some (.int .i64 x1) := by rw [hA.upd.cell hg id]; exact hc 1 _ rfl
        have k2 : wr.cell? ⟨g, off + k * 3 + 2, none⟩ = some (.int .i64 x2) := by rw [hA.upd.cell hg id]; exact hc 2 _ rfl
        clear hx ha
        have q1 : R.ever.length ≤ 1000000 := by have := hA.like.small; omega
        have q2 : R.l.length ≤ 1000000 := by have := hA.like.len; omega
        -- the operation stands in a block of its own
        obtain ⟨F1, h1, u1⟩ := Asrt.stars_new hA.mem (A := .blk wr.heap.size (.cells #[.int .i64 x0, .int .i64 x1, .int .i64 x2] 29)) (w' := wr.alloc (.cells #[.int .i64 x0, .int .i64 x1, .int .i64 x2] 29)) (Fn := fun k => k = wr.heap.size) ⟨obj_alloc_at rfl, rfl⟩ (((Upd.refl none' wr).alloc _).re fun k hk => .inr (by rw [hk]; exact Nat.le_refl _))
        have hUx := hA.upd.trans u1
        obtain ⟨Fi, hT, _, hgo⟩ := Asrt.stars_upd _ 2 _ rfl h1
        go_upto_if 45 with fail
        go_cut [8] (fun _ wx => ∃ T' R' F', (Asrt.stars [.blk wr.heap.size (.cells #[.int .i64 x0, .int .i64 x1, .int .i64 x2] 29), refT br R', pairT b T']).on wx F' ∧ Upd none' F' W wx ∧ Like T' R' (k + 1))
        case first =>
          by_cases hx0 : x0 = 2
          · subst hx0
            have hf := hA.like.find x1
            have rp := fun (w : World) (F : Fp) (h : (refT br R).on w F) => rpart_c h x1 q2
            rw [hf] at rp
            have cp := fun (w : World) (F : Fp) (h : (pairT b T).on w F) => part_c h x1
            have hlk := hA.like.part x1
            generalize T.other x1 = O at *
            generalize T.part x1 = T' at *
            obtain ⟨y, s⟩ := O
            have RP := Keep.mk rp
            have CP := Keep.mk cp
            clear rp cp hf
            go_wp2_with fail
            refine (CP.out _ _ hT).mono ?_
            rintro e w4 ⟨rfl, Fi', hT', hu⟩
            obtain ⟨F4, h4, u4⟩ := hgo w4 Fi' _ hT' hu
            obtain ⟨Fb, ⟨hb4, _⟩, _⟩ := Asrt.stars_get h4 0 rfl
            obtain ⟨hc4, _, hl4⟩ := blk_facts hb4
            obtain ⟨Fj, hR, _, hgo2⟩ := Asrt.stars_upd _ 1 _ rfl h4
            clear hb4
            go_wp2_with fail
            refine (RP.out _ _ hR).mono ?_
            rintro e w5 ⟨rfl, Fj', hR', hu5⟩
            obtain ⟨F5, h5, u5⟩ := hgo2 w5 Fj' _ hR' hu5
            go_wp2_with fail
            go_meet
            exact ⟨T', _, F5, h5, (hUx.trans u4).trans u5, hlk⟩
          · have e1 : (x0 == 2) = false := by simp [hx0]
            have hcode := hA.like.code x1 x2
            have rj := fun (w : World) (F : Fp) (h : (refT br R).on w F) => rjoin_c h q2 q1 x1 x2
            have cj := fun (w : World) (F : Fp) (h : (pairT b T).on w F) => join_c h x1 x2
            have hlk := hA.like.join x1 x2
            rw [hcode] at rj
            generalize (T.join x1 x2).2 = r at *
            generalize (T.join x1 x2).1 = T' at *
            have RJ := Keep.mk rj
            have CJ := Keep.mk cj
            clear rj cj hcode
            go_wp2_with fail
            refine (CJ.out _ _ hT).mono ?_
            rintro e w4 ⟨rfl, Fi', hT', hu⟩
            obtain ⟨F4, h4, u4⟩ := hgo w4 Fi' _ hT' hu
            obtain ⟨Fb, ⟨hb4, _⟩, _⟩ := Asrt.stars_get h4 0 rfl
            obtain ⟨hc4, _, hl4⟩ := blk_facts hb4
            obtain ⟨Fj, hR, _, hgo2⟩ := Asrt.stars_upd _ 1 _ rfl h4
            clear hb4
            go_wp2_with fail
            refine (RJ.out _ _ hR).mono ?_
            rintro e w5 ⟨rfl, Fj', hR', hu5⟩
            obtain ⟨F5, h5, u5⟩ := hgo2 w5 Fj' _ hR' hu5
            go_wp2_with fail
            go_meet
            exact ⟨T', _, F5, h5, (hUx.trans u4).trans u5, hlk⟩
        case rest =>
          obtain ⟨T', R', F', h4, hU4, hlk⟩ := hcut
          obtain ⟨Fb, ⟨hb4, _⟩, _⟩ := Asrt.stars_get h4 0 rfl
          obtain ⟨hc4, _, hl4⟩ := blk_facts hb4
          obtain ⟨Fj, hR, _⟩ := Asrt.stars_get h4 1 rfl
          obtain ⟨Fi, hT, _⟩ := Asrt.stars_get h4 2 rfl
          have p1 : R'.ever.length ≤ 1000000 := by have := hlk.small; omega
          have p2 : R'.l.length ≤ 1000000 := by have := hlk.len; omega
          have p3 : T'.ends.length ≤ 1000000 := by have := hlk.short; omega
          have co := other_c hT x2
          have ro := fun (w : World) (F : Fp) (h : (refT br R').on w F) => rother_c h x2 p2
          rw [hlk.find] at ro
          have cw := fun (w : World) (F : Fp) (h : (pairT b T').on w F) => was_c h x1
          have rw' := fun (w : World) (F : Fp) (h : (refT br R').on w F) => rwas_c h x1 p1
          rw [← hlk.was] at rw'
          have hsame : ∀ M, AllOf T' M → M = R'.l := fun M hM => all_unique hlk.inv hlk.all (hM.perm.trans hlk.all.perm.symm) (all_strict hlk.inv hM)
          generalize T'.other x2 = O at *
          generalize T'.was x1 = q at *
          obtain ⟨y, s⟩ := O
          have CO := Keep.mk co
          have RO := Keep.mk ro
          have CW := Keep.mk cw
          have RW := Keep.mk rw'
          have HS := Keep.mk hsame
          clear co ro cw rw' hsame hb4 hT hR
          go_wp2_with fail
          refine CO.out.mono ?_
          rintro e w5 ⟨rfl, hq5⟩
          obtain ⟨h5, u5⟩ := Asrt.stars_same h4 hq5
          obtain ⟨Fb5, ⟨hb5, _⟩, _⟩ := Asrt.stars_get h5 0 rfl
          obtain ⟨hc5, _, hl5⟩ := blk_facts hb5
          obtain ⟨Fj5, hR5, _⟩ := Asrt.stars_get h5 1 rfl
          obtain ⟨Fi5, hT5, _⟩ := Asrt.stars_get h5 2 rfl
          clear hb5
          have hRd := Asrt.drew hR5
          go_wp2_with fail
          refine (RO.out _ _ hR5).mono ?_
          rintro e w6 ⟨rfl, rfl⟩
          obtain ⟨⟨v1, v2⟩, hP⟩ := hR5
          have hP := Asrt.drew (A := Asrt.stars _) hP
          obtain ⟨Fl, hl, _⟩ := Asrt.stars_get hP 1 rfl
          obtain ⟨al, cl, rfl, _⟩ := (row_reads (enc := encP) (fun _ => rfl) hl).1
          obtain ⟨Fo, ⟨ho, _⟩, _⟩ := Asrt.stars_get hP 0 rfl
          have c1 : w5.drew.cell? ⟨br, 0, none⟩ = some (.slice al R'.l.length cl) := (blk_facts ho).1 0
          have c2 : w5.drew.cell? ⟨wr.heap.size, 1, none⟩ = some (.int .i64 x1) := hc5 1
          clear ho hl
          have hS5 := Asrt.drew (A := Asrt.stars _) h5
          have hTd := Asrt.drew hT5
          have n1 : (y != y) = false := by simp
          have n2 : (s != s) = false := by simp
          have n3 : (q != q) = false := by simp
          go_wp2_with fail
          go_region_held3 (fun w' => w'.cell? ⟨wr.heap.size, 1, none⟩ = some (.int .i64 x1) ∧ w'.cell? ⟨br, 0, none⟩ = some (.slice al R'.l.length cl)) (first | exact ⟨c2, c1⟩ | exact ⟨c26, c16⟩ | exact ⟨c27, c17⟩)
            (first
              | (go_at_call 21; refine (all_c hTd p3).mono ?_; rintro e w6 ⟨v6, rfl, F6, M, hrow6, hu6, hA6⟩; have hM := HS.out M hA6; obtain ⟨h6, u6⟩ := Asrt.stars_same hS5 hu6; obtain ⟨hP6, _⟩ := Asrt.stars_same hP hu6; obtain ⟨Fl6, hl6, _⟩ := Asrt.stars_get hP6 1 rfl; have hrd6 := (row_reads (enc := encP) (fun _ => rfl) hl6).1; obtain ⟨Fo6, ⟨ho6, _⟩, _⟩ := Asrt.stars_get hP6 0 rfl; obtain ⟨Fb6, ⟨hb6, _⟩, _⟩ := Asrt.stars_get h6 0 rfl; have hrm6 := (row_reads (enc := encP) (fun _ => rfl) hrow6).1; rw [hM] at hrm6; have c16 : w6.cell? ⟨br, 0, none⟩ = some (.slice al R'.l.length cl) := (blk_facts ho6).1 0; have c26 : w6.cell? ⟨wr.heap.size, 1, none⟩ = some (.int .i64 x1) := (blk_facts hb6).1 1; clear hb6 ho6 hl6 hM)
              | (go_at_call 18; refine (CW.out _ _ hTd).mono ?_; rintro e w6 ⟨rfl, rfl⟩)
              | (go_at_call 19; refine (RW.out _ _ hRd).mono ?_; rintro e w6 ⟨rfl, rfl⟩)
              | (go_at_call 20; refine (same_c hrm6 hrd6 p2 p2).mono ?_; rintro e w7 ⟨rfl, hq7⟩; obtain ⟨h7, u7⟩ := Asrt.stars_same h6 hq7; obtain ⟨hP7, _⟩ := Asrt.stars_same hP6 hq7; obtain ⟨Fo7, ⟨ho7, _⟩, _⟩ := Asrt.stars_get hP7 0 rfl; obtain ⟨Fb7, ⟨hb7, _⟩, _⟩ := Asrt.stars_get h7 0 rfl; have c17 : w7.cell? ⟨br, 0, none⟩ = some (.slice al R'.l.length cl) := (blk_facts ho7).1 0; have c27 : w7.cell? ⟨wr.heap.size, 1, none⟩ = some (.int .i64 x1) := (blk_facts hb7).1 1; clear ho7 hb7; have n4 : decide (R'.l = R'.l) = true := decide_eq_true rfl))
          go_wp2_with fail
          go_roundw
          case rel =>
            have hU7 := (((hU4.trans u5).drew.trans (u6.trans u7)))
            have hF := Asrt.stars_drop h7
            obtain ⟨F7, h8, hs8⟩ := hF
            exact ⟨k + 1, T', R', F7, by omega, by go_num, ⟨h8, hU7.re fun k hk => hU7.fp k (hs8 k hk), hlk⟩⟩
          case measure => simp [intOf]; omega
      · go_wp2_with fail
        go_ret
        exact ⟨rfl, hA.upd.quiet⟩
end Go.Proofs.Ytnjdhijngioljaa.pairPlays
