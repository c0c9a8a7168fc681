/- The document's frames: First, Cut, Same. -/
import Derived.Test.YtimkbpcdbbdjlaaConnW0
import Derived.Test.YtimkbpcdbbdjlaaSubN
import Derived.Test.YtimkbpcdbbdjlaaConnR
namespace Go.Proofs.Ytimkbpcdbbdjlaa
open Go.RowKit Go.Sub Go.ChangeMaps
theorem ends_nil6 {b : List UInt8} {w : World} {n e : Int} (h : firstS b = ([], n.toNat, e)) (hn : 0 ≤ n) : FirstEnds b w (.returned (.tuple #[.slice none 0 0, .int .i64 n, .int .i64 e])) w := ends_nil h hn
set_option maxHeartbeats 2000000 in
set_option maxRecDepth 100000 in
theorem first6_c {v : Value} {b : List UInt8} {w : World} (hv : Bytes w v b) (hl : b.length ≤ 1000000) : Calls Try.prog 46 #[v] w (FirstEnds b w) := by
  obtain ⟨av, cv, rfl, hcap⟩ := hv.slice
  match b, hv, hl, hcap with
  | [], hv, hl, hcap =>
    go_enter Try.func46, Try.ntmps46
    go_wp2_with fail
    go_ret3
    exact ends_nil (n := 0) (e := 0) rfl (by omega)
  | x :: r, hv, hl, hcap =>
    obtain ⟨g, off, rfl, hg, hc0⟩ := hv.at' 0 (by simp)
    simp only [List.getElem_cons_zero, Nat.add_zero] at hc0
    have hlen : (x :: r).length = r.length + 1 := rfl
    by_cases hx : x = 170
    · subst hx
      match r, hv, hl, hcap with
      | [], hv, hl, hcap =>
        go_enter Try.func46, Try.ntmps46
        go_wp2_with fail
        go_ret3
        exact ends_nil (n := 0) (e := 0) rfl (by omega)
      | n :: q, hv, hl, hcap =>
        obtain ⟨_, _, he, _, hc1⟩ := hv.at' 1 (by simp)
        cases he
        simp only [List.getElem_cons_succ, List.getElem_cons_zero] at hc1
        have hn256 := n.toNat_lt
        have hz : ((n.toNat : Int) == 0) = decide (n = 0) := by
          rw [Bool.eq_iff_iff, beq_iff_eq, decide_eq_true_eq]
          exact ⟨fun h => UInt8.toNat_inj.1 (by have : (0 : UInt8).toNat = 0 := rfl; omega), fun h => by rw [h]; rfl⟩
        by_cases h0 : n = 0 ∨ 200 < n.toNat
        · have HE := Keep.mk (show firstS (170 :: n :: q) = ([], 0, 61) from by simp [firstS, h0])
          by_cases h00 : n = 0
          · have e1 : ((n.toNat : Int) == 0) = true := by rw [hz, decide_eq_true h00]
            clear hz h0 h00
            go_enter Try.func46, Try.ntmps46
            go_wp2_with fail
            go_ret3
            exact ends_nil (n := 0) (e := 61) HE.out (by omega)
          · have e1 : ((n.toNat : Int) == 0) = false := by rw [hz, decide_eq_false h00]
            have e2 : decide ((200 : Int) < (n.toNat : Int)) = true := by rw [decide_eq_true_eq]; have := h0.resolve_left h00; omega
            clear hz h0 h00
            go_enter Try.func46, Try.ntmps46
            go_wp2_with fail
            go_ret3
            exact ends_nil (n := 0) (e := 61) HE.out (by omega)
        · have h00 : ¬ n = 0 := fun h => h0 (.inl h)
          have h200 : ¬ 200 < n.toNat := fun h => h0 (.inr h)
          have e1 : ((n.toNat : Int) == 0) = false := by rw [hz, decide_eq_false h00]
          have e2 : decide ((200 : Int) < (n.toNat : Int)) = false := by rw [decide_eq_false_iff_not]; omega
          have hnp : 0 < n.toNat := Nat.pos_of_ne_zero fun h => h00 (UInt8.toNat_inj.1 h)
          have e4 : IntKind.i64.wrap (2 + (n.toNat : Int)) = 2 + (n.toNat : Int) := by rw [IntKind.wrap_i64]; omega
          by_cases hs : q.length < n.toNat
          · have HE := Keep.mk (show firstS (170 :: n :: q) = ([], 0, 0) from by simp [firstS, h0, hs])
            have e3 : decide ((q.length : Int) + 1 + 1 < 2 + (n.toNat : Int)) = true := by rw [decide_eq_true_eq]; omega
            clear hz h0 h00 h200 hs
            go_enter Try.func46, Try.ntmps46
            go_wp2_with fail
            go_ret3
            exact ends_nil (n := 0) (e := 0) HE.out (by omega)
          · have HE := Keep.mk (show firstS (170 :: n :: q) = (q.take n.toNat, 2 + n.toNat, 0) from by simp [firstS, h0, hs])
            have e3 : decide ((q.length : Int) + 1 + 1 < 2 + (n.toNat : Int)) = false := by rw [decide_eq_false_iff_not]; omega
            have hcut : Bytes w (.slice (cutAt (some ⟨g, off, none⟩) cv 2) n.toNat (cv - 2)) (q.take n.toNat) := by
              have h1 := (hv.drop (k := 2) (by simp)).take (k := n.toNat) (by simp; omega)
              exact h1
            have hc2 : cutAt (some ⟨g, off, none⟩) cv 2 = some ⟨g, off + 2, none⟩ := by
              rw [cutAt, if_neg (by simp at hcap; omega)]; rfl
            rw [hc2] at hcut
            have hne : q.take n.toNat ≠ [] := by intro h; have := congrArg List.length h; rw [List.length_take, List.length_nil] at this; omega
            have HV : Keep (Bytes (w.alloc (.cells #[] 5)) (.slice (some ⟨g, off + 2, none⟩) (2 + n.toNat - 2) (cv - 2)) (q.take n.toNat)) := Keep.mk (by rw [show 2 + n.toNat - 2 = n.toNat by omega]; exact hcut.upd ((Upd.refl none' w).alloc (.cells #[] 5)) fun _ _ _ h => h)
            have hle : 2 + (n.toNat : Int) ≤ (cv : Int) := by simp at hcap; omega
            have hlq : n.toNat ≤ q.length := by omega
            have HNE := Keep.mk hne
            have hll : (q.take n.toNat).length ≤ 1000000 := by simp at hl ⊢; omega
            have HLL := Keep.mk hll
            clear hz h0 h00 h200 hs hcut hc2 hne hll
            go_enter Try.func46, Try.ntmps46
            go_wp2_with (at_builtin; refine at_append_new rfl (.tmp 50) (.tmp 53) rfl Try.underlying22 infoB1 ⟨w.heap.size, 0, none⟩ _ _ _ rfl rfl HV.out HNE.out HLL.out ?next)
            case next =>
              intro v' w2 Fv hb2 u2
              go_wp2_with fail
              go_ret3
              exact ⟨v', by rw [HE.out]; rfl, Fv, by rw [HE.out]; exact hb2, ((Upd.refl none' w).alloc _).trans u2⟩
    · have e1 : ((x.toNat : Int) != 170) = true := by
        rw [bne_iff_ne]
        intro h
        have h7 : (170 : UInt8).toNat = 170 := rfl
        exact hx (UInt8.toNat_inj.1 (by omega))
      have HE := Keep.mk (show firstS (x :: r) = ([], 0, 61) from by simp [firstS, hx])
      clear hx
      go_enter Try.func46, Try.ntmps46
      go_wp2_with fail
      go_ret3
      exact ends_nil (n := 0) (e := 61) HE.out (by omega)
theorem infoF : (Try.prog.info? 22).map (fun i => (i.zero, i.size, i.bytes)) = some (some (.slice none 0 0), 1, 24) := by kernel_rfl
abbrev VB := Value × List UInt8
abbrev encVB (p : VB) : List Value := [p.1]
/-- pieces of bytes, each in a block of its own, in a row -/
def framesL (v : Value) (P : List VB) : List Asrt := row 22 1 encVB v P :: P.map fun p => bytesT p.1 p.2
theorem frames_nil (w : World) : (Asrt.stars (framesL (.slice none 0 0) [])).on w none' := by
  have h := Asrt.stars_one (row_nil w 22 1 encVB)
  exact h
theorem frames_slice {v : Value} {P : List VB} {w : World} {F : Fp} (h : (row 22 1 encVB v P).on w F) : ∃ a cap, v = .slice a P.length cap := by
  obtain ⟨a, cap, rfl, _⟩ := (row_reads (enc := encVB) (fun _ => rfl) h).1
  exact ⟨a, cap, rfl⟩
/-- a piece more -/
theorem frames_more {v : Value} {P : List VB} {p : VB} {l : List Asrt} {w : World} {F : Fp} (h : (Asrt.stars (row 22 1 encVB v (P ++ [p]) :: bytesT p.1 p.2 :: (P.map (fun p => bytesT p.1 p.2) ++ l))).on w F) :
    (Asrt.stars (framesL v (P ++ [p]) ++ l)).on w F := by
  refine Asrt.stars_perm ?_ h
  unfold framesL
  rw [List.map_append, List.cons_append]
  refine List.Perm.cons _ ?_
  rw [List.append_assoc]
  exact (List.perm_middle (l₁ := P.map fun p => bytesT p.1 p.2) (l₂ := l) (a := bytesT p.1 p.2)).symm
theorem perm_a {α : Type} (T X U R : α) (M : List α) : (T :: X :: U :: R :: M).Perm (R :: X :: T :: U :: M) :=
  ((((List.Perm.swap R U M).cons X).trans (List.Perm.swap R X (U :: M))).cons T).trans ((List.Perm.swap R T (X :: U :: M)).trans ((List.Perm.swap X T (U :: M)).cons R))
theorem perm_b {α : Type} (R X T U : α) (M : List α) : (R :: X :: T :: U :: M).Perm (T :: U :: R :: (M ++ [X])) :=
  ((List.perm_append_singleton X (T :: U :: M)).symm.cons R).trans ((List.Perm.swap T R _).trans ((List.Perm.swap U R _).cons T))
/-- a piece more, and all back in its place -/
theorem frames_back {v : Value} {P : List VB} {p : VB} {T U : Asrt} {w : World} {F : Fp} (h : (Asrt.stars (row 22 1 encVB v (P ++ [p]) :: bytesT p.1 p.2 :: T :: U :: P.map fun p => bytesT p.1 p.2)).on w F) :
    (Asrt.stars (T :: U :: framesL v (P ++ [p]))).on w F := by
  have := Asrt.stars_perm (perm_b _ _ _ _ _) h
  unfold framesL
  rw [List.map_append]
  exact this
/-- how 'Cut' ends -/
def CutEnds (b : List UInt8) (w : World) (e : Ending) (w' : World) : Prop := ∃ (vo : Value) (at' : Nat) (P : List VB) (r : List UInt8), connFrames.Pre b (P.map (·.2)) r ∧ (firstS r).2.1 = 0 ∧
  Ret (.tuple #[vo, .int .i64 at', .int .i64 (firstS r).2.2]) (fun w' => ∃ F, (Asrt.stars (framesL vo P)).on w' F ∧ Upd none' F w w') e w'
set_option maxHeartbeats 2000000 in
set_option maxRecDepth 100000 in
theorem cut6_c {v : Value} {b : List UInt8} {w : World} (hv : Bytes w v b) (hl : b.length ≤ 100000) : Calls Try.prog 16 #[v] w (CutEnds b w) := by
  obtain ⟨av, cv, rfl, hcap⟩ := hv.slice
  obtain ⟨i3, hi, hz0, hz1, hz2⟩ := info_parts infoF
  have hI := Keep.mk (And.intro hi (And.intro hz0 (And.intro hz1 hz2)))
  have HV := Keep.mk hv
  have S0 := frames_nil w
  have U0 := Upd.refl none' w
  clear hv hi hz0 hz1 hz2
  go_enter Try.func16, Try.ntmps16
  go_wp2_with fail
  go_loopw [5, 6] (fun vo i wr => ∃ (k : Nat) (P : List VB) (F : Fp) (ao : Option Addr) (co : Nat), k ≤ b.length ∧ vo = .slice ao P.length co ∧ i = .int .i64 (k : Nat) ∧ connFrames.Pre b (P.map (·.2)) (b.drop k) ∧ (Asrt.stars (framesL (.slice ao P.length co) P)).on wr F ∧ Upd none' F w wr) (fun _ i _ => b.length - (intOf i).toNat)
  case atStart => exact ⟨0, [], none', none, 0, by omega, rfl, rfl, .nil _, S0, U0⟩
  case round =>
    obtain ⟨k, P, F, ao, co, hk, rfl, rfl, hP, S, U⟩ := hrel
    clear S0 U0
    have CUT := run_cut (P := Try.prog) Try.underlying22 sizeB av b.length cv k hk
    have hvr := (HV.out.upd U fun _ _ _ h => h).drop hk
    have C := Keep.mk (first6_c hvr (by simp; omega))
    have hdl : (b.drop k).length = b.length - k := by simp
    have hsz := hP.size
    have hfl := firstS_le (b.drop k)
    rw [hdl] at hsz hfl
    simp only [List.length_map] at hsz
    have HP := Keep.mk hP
    clear hvr hP hdl
    go_wp2_with fail
    refine C.out.mono ?_
    rintro e w1 ⟨v1, rfl, F1, h1, u1⟩
    by_cases hn : (firstS (b.drop k)).2.1 = 0
    · have HN := Keep.mk hn
      rw [show (((firstS (b.drop k)).2.1 : Nat) : Int) = 0 from by omega]
      generalize hR : b.drop k = R at *
      obtain ⟨F2, S2, u2⟩ := Asrt.stars_new S h1 u1
      obtain ⟨F3, S3, s3⟩ := Asrt.stars_drop S2
      have U3 := U.trans (u2.re fun k hk => u2.fp k (s3 k hk))
      have HPR := HP.out
      clear HP hfl hn S u1 h1 u2 S2 s3 hsz
      have HPR := Keep.mk HPR
      by_cases he : (firstS R).2.2 = 0
      · have HE := Keep.mk he
        rw [he]
        clear he C
        go_wp2_with fail
        go_ret3
        exact ⟨_, _, P, R, HPR.out, HN.out, by rw [HE.out]; rfl, F3, S3, U3⟩
      · have ee : ((firstS R).2.2 != 0) = true := by simp [he]
        have HE := Keep.mk (rfl : (firstS R).2.2 = (firstS R).2.2)
        clear he C HE
        generalize hx : (firstS R).2.2 = x at *
        have HX := Keep.mk hx
        clear hx
        go_wp2_with fail
        go_ret3
        exact ⟨_, _, P, R, HPR.out, HN.out, by rw [HX.out]; rfl, F3, S3, U3⟩
    · have he := connFrames.first_err _ hn
      have HS := Keep.mk (HP.out.step hn)
      rw [List.drop_drop] at HS
      rw [he]
      generalize hx : firstS (b.drop k) = R at *
      obtain ⟨x, n, e⟩ := R
      simp only at he hn hfl h1 HS
      have en : ((n : Int) == 0) = false := by simp; omega
      have hpos : 0 < n := by omega
      obtain ⟨a1, c1, rfl, _⟩ := h1.1.slice
      obtain ⟨F2, S2, u2⟩ := Asrt.stars_new S h1 u1
      have U2 := U.trans u2
      have S2' := swap2 S2
      obtain ⟨Fo, hrow, _, hgo⟩ := Asrt.stars_upd _ 0 _ rfl S2'
      obtain ⟨hi, hz0, hz1, hz2⟩ := hI.out
      clear C HP hx u1 S h1 u2 S2 U hn
      go_wp2_with (at_builtin; refine at_append_row encVB 1 24 rfl (.tmp 27) (.tmp 29) 30 rfl 22 i3 _ Try.underlying30 hi hz0 hz1 hz2 rfl (by decide) (.slice ao P.length co) P (.slice a1 x.length c1, x) Fo rfl (Asrt.alloc hrow _) ⟨w1.heap.size, 0, none⟩ 1 rfl rfl (cells_new w1 (encVB (.slice a1 x.length c1, x)) _) ?hone ?h63 ?hby ?next)
      case hone => intro u hu; simp only [List.mem_singleton] at hu; subst hu; rfl
      case h63 => unfold maxLen; omega
      case hby => omega
      case next =>
        intro v' w8 F8 hr8 u8
        obtain ⟨F9, S9, u9⟩ := hgo w8 F8 _ hr8 (((Upd.refl Fo w1).alloc _).trans u8)
        have U9 := U2.trans u9
        obtain ⟨a', c', rfl⟩ := frames_slice hr8
        simp only [List.set_cons_zero, List.set_cons_succ] at S9
        have S10 := frames_more (l := []) (p := (Value.slice a1 x.length c1, x)) (by rw [List.append_nil]; exact S9)
        rw [List.append_nil] at S10
        clear S9 U2 hr8 u8 u9 hi hz0 hz1 hz2 hgo hrow S2'
        have HS2 : connFrames.Pre b ((P ++ [(Value.slice a1 x.length c1, x)]).map (·.2)) (b.drop (k + n)) := by rw [List.map_append]; exact HS.out
        have HS := Keep.mk HS2
        clear HS2
        generalize P ++ [(Value.slice a1 x.length c1, x)] = P' at *
        go_wp2_with fail
        go_roundw
        case rel => exact ⟨k + n, P', F9, a', c', by omega, rfl, by go_num, HS.out, S10, U9⟩
        case measure => simp [intOf]; omega
/-- pieces of bytes that are read -/
def ReadsVB (w : World) (v : Value) (P : List VB) : Prop := Reads w 1 encVB v P ∧ ∀ p ∈ P, Bytes w p.1 p.2
theorem frames_reads {v : Value} {P : List VB} {l : List Asrt} {w : World} {F : Fp} (h : (Asrt.stars (framesL v P ++ l)).on w F) : ReadsVB w v P := by
  refine ⟨?_, fun p hp => ?_⟩
  · obtain ⟨_, hr, _⟩ := Asrt.stars_get h 0 rfl
    exact (row_reads (enc := encVB) (fun _ => rfl) hr).1
  · obtain ⟨i, hi, rfl⟩ := List.mem_iff_getElem.1 hp
    obtain ⟨_, hr, _⟩ := Asrt.stars_get h (i + 1) (A := bytesT P[i].1 P[i].2) (by unfold framesL; rw [List.cons_append, List.getElem?_cons_succ, List.getElem?_append_left (by simpa using hi), List.getElem?_map, List.getElem?_eq_getElem hi]; rfl)
    exact hr.1
set_option maxRecDepth 100000 in
set_option maxHeartbeats 1000000 in
theorem same6_c {w : World} {v v' : Value} {P P' : List VB} (hv : ReadsVB w v P) (hv' : ReadsVB w v' P') (he : P.map (·.2) = P'.map (·.2)) (hl : P.length ≤ 1000000) :
    Calls Try.prog 17 #[v, v'] w (Ret (.bool true) fun w' => ∃ n, w' = w.drewN n) := by
  obtain ⟨⟨a, ca, rfl, ha⟩, hb⟩ := hv
  obtain ⟨⟨a', ca', rfl, ha'⟩, hb'⟩ := hv'
  have hlen : P'.length = P.length := by have := congrArg List.length he; simpa using this.symm
  rw [hlen]
  have HE := Keep.mk he
  have HA := Keep.mk ha
  have HA' := Keep.mk ha'
  have HB := Keep.mk hb
  have HB' := Keep.mk hb'
  have HL := Keep.mk hlen
  clear he ha ha' hb hb' hlen
  go_enter Try.func17, Try.ntmps17
  go_wp2_with fail
  go_loopw [5] (fun i wr => ∃ k n : Nat, k ≤ P.length ∧ i = .int .i64 k ∧ wr = w.drewN n) (fun i _ => P.length - (intOf i).toNat)
  case atStart => exact ⟨0, 0, by omega, rfl, rfl⟩
  case round =>
    obtain ⟨k, n, hk, rfl, rfl⟩ := hrel
    by_cases hlt : k < P.length
    · have hlt' : k < P'.length := by have := HL.out; omega
      obtain ⟨g, off, rfl, hg, hc⟩ := HA.out k P[k] (List.getElem?_eq_getElem hlt)
      obtain ⟨g', off', rfl, hg', hc'⟩ := HA'.out k P'[k] (List.getElem?_eq_getElem hlt')
      have c0 : w.cell? ⟨g, off + k, none⟩ = some P[k].1 := by have := hc 0 _ rfl; simpa using this
      have c1 : w.cell? ⟨g', off' + k, none⟩ = some P'[k].1 := by have := hc' 0 _ rfl; simpa using this
      have hb := HB.out P[k] (List.getElem_mem hlt)
      have hb' := HB'.out P'[k] (List.getElem_mem hlt')
      have hs : P[k].2 = P'[k].2 := by
        have := congrArg (fun l => l[k]?) HE.out
        simp only [List.getElem?_map, List.getElem?_eq_getElem hlt, List.getElem?_eq_getElem hlt', Option.map_some, Option.some.injEq] at this
        exact this
      clear hc hc'
      generalize P[k] = x at *
      generalize P'[k] = y at *
      obtain ⟨xv, xs⟩ := x
      obtain ⟨yv, ys⟩ := y
      simp only at hs hb hb' c0 c1
      subst hs
      have t0 := text_drewN (dst := 9) Try.underlying22 Try.underlying5 Try.underlying9 hb
      have t1 := text_drewN (dst := 9) Try.underlying22 Try.underlying5 Try.underlying9 hb'
      obtain ⟨av, cv, rfl, _⟩ := hb.slice
      obtain ⟨av', cv', rfl, _⟩ := hb'.slice
      generalize strB xs = sx at *
      clear hb hb'
      go_wp2_with fail
      go_quiet (fail)
      go_wp2_with fail
      go_roundw
      case rel => exact ⟨k + 1, n + nq, by omega, by go_num, rfl⟩
      case measure => simp [intOf]; omega
    · go_wp2_with fail
      go_returns
      exact ⟨rfl, n, rfl⟩
end Go.Proofs.Ytimkbpcdbbdjlaa
