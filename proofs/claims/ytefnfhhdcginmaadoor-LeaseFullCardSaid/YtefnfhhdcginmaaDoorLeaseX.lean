/- The statement LeaseLeaves. -/
import Derived.Test.YtefnfhhdcginmaaDoorLeaseX0
set_option linter.unusedVariables false
namespace Go.Proofs.YtefnfhhdcginmaaDoor
open Go.ChangeShapes Go.WideShapes Go.ChangeAt Go.RowKit Go.Sub Go.ChangeMaps
theorem rows_at {l : List Asrt} {w : World} {F : Fp} (hS : (Asrt.stars l).on w F) (i : Nat) {a : Option Addr} {n c : Nat} {A : List Lz} (hi : l[i]? = some (row 26 6 encL (.slice a n c) A)) {k : Nat} {x : Lz} (hx : A[k]? = some x) :
    ∀ g off, a = some ⟨g, off, none⟩ → (w.cell? ⟨g, off + k * 6, none⟩ = some (.string x.name) ∧ w.cell? ⟨g, off + k * 6 + 1, none⟩ = some (.string x.tenant) ∧ w.cell? ⟨g, off + k * 6 + 2, none⟩ = some (.int .i64 x.conn) ∧ w.cell? ⟨g, off + k * 6 + 3, none⟩ = some (.int .i64 x.epoch) ∧ w.cell? ⟨g, off + k * 6 + 4, none⟩ = some (.int .i64 x.til) ∧ w.cell? ⟨g, off + k * 6 + 5, none⟩ = some (.bool x.held)) := by
  obtain ⟨_, h1, _⟩ := Asrt.stars_get hS i hi
  obtain ⟨a', c', heq, hc⟩ := (row_reads (enc := encL) (fun _ => rfl) h1).1
  cases heq
  rintro g off rfl
  obtain ⟨g', off', e, _, hcell⟩ := hc k x hx
  cases e
  exact ⟨hcell 0 _ rfl, hcell 1 _ rfl, hcell 2 _ rfl, hcell 3 _ rfl, hcell 4 _ rfl, hcell 5 _ rfl⟩
theorem row_slot {l : List Asrt} {w : World} {F : Fp} (hS : (Asrt.stars l).on w F) (i : Nat) {a : Option Addr} {n c : Nat} {A : List Lz} (hi : l[i]? = some (row 26 6 encL (.slice a n c) A)) {k : Nat} {x : Lz} (hx : A[k]? = some x) : ∃ g off, a = some ⟨g, off, none⟩ := by
  obtain ⟨_, h1, _⟩ := Asrt.stars_get hS i hi
  obtain ⟨a', c', heq, hc⟩ := (row_reads (enc := encL) (fun _ => rfl) h1).1
  cases heq
  obtain ⟨g', off', e, _⟩ := hc k x hx
  exact ⟨g', off', e⟩
namespace leaseLeaves
theorem leave_on {b : Nat} {g m e : Int} {M : LT} {l : List Asrt} {w : World} {F : Fp} (I : InvB e M) (g0 : 0 ≤ g) (g1 : g ≤ 1073741824) (hS : (Asrt.stars (bookT b g m e M :: l)).on w F) (conn now : Int) {M' : LT} {O : List Lz} (hR : leaveS g M conn now = (M', O)) :
    Calls Tryd.prog 24 #[.pointer (some ⟨b, 0, none⟩), .int .i64 conn, .int .i64 now] w fun e' w' => ∃ v, Ret v (fun w' => ∃ F', (Asrt.stars (bookT b g m e M' :: row 26 6 encL v O :: l)).on w' F' ∧ Upd F F' w w') e' w' :=
  on_head_new (T := fun v => v) hS fun Fi h _ => (leave_c h I.nd I.sz (by have := I.len; omega) g0 g1 conn now).mono (by
    rw [hR]
    rintro e1 w1 ⟨v, rfl, F1, S1, U1⟩
    exact ⟨v, rfl, F1, two_of (swap2 S1), U1⟩)
set_option maxHeartbeats 16000000 in
set_option maxRecDepth 100000 in
theorem walk {W : World} (v : Value) (L : List LO) (hL : ReadsLO W v L) (hmax : L.length ≤ maxLen) (conn : Int) (hcw : (Lit.int .i64 conn).wf = true) (now : Int) (hnw : (Lit.int .i64 now).wf = true) :
    Calls Tryd.prog 9 #[v, .int .i64 conn, .int .i64 now] W (Ret (.bool true) fun W' => Quiet W W') := by
  obtain ⟨iL, hi, hz0, hz1, hz2⟩ := info_parts infoL
  have hI := Keep.mk (And.intro hi (And.intro hz0 (And.intro hz1 hz2)))
  clear hi hz0 hz1 hz2
  obtain ⟨a, cap, rfl, ha⟩ := hL.1
  have HL := Keep.mk hL
  have HN := Keep.mk (fun w : World => new_yes (w := w) (g := 5) (m := 50) (by decide) (by decide))
  clear hL hnw
  go_enter Tryd.func9, Tryd.ntmps9
  go_wp2_with fail
  refine (head_c).mono ?_
  rintro e0 w0 ⟨rfl, q0⟩
  go_wp2_with fail
  refine (HN.out _).mono ?_
  rintro e0 w1 ⟨b, rfl, F1, h1, u1⟩
  have u1 := q0.trans u1
  have hR1 := HL.out.1.upd (u1.quiet) fun _ _ h => h
  have GC := Keep.mk (great_c (⟨hR1, HL.out.2⟩ : ReadsLO w1 _ L) hmax)
  have H1 := Keep.mk (And.intro h1 u1)
  clear h1 u1 q0 hR1
  go_wp2_with fail
  refine GC.out.mono ?_
  rintro e0 w2 ⟨r, rfl, ⟨n, rfl⟩, hr⟩
  cases r with
  | true =>
    go_wp2_with fail
    go_ret
    exact ⟨rfl, (H1.out.2.drewN n).quiet⟩
  | false =>
    have hF : L.length ≤ 300 := hr rfl
    have I0 := fun k => runB_inv (g := 5) (m := 50) (by decide) (by decide) (by decide) (by decide) (L.take k) (fun o ho => HL.out.2 o (List.mem_of_mem_take ho))
    have I1 := Keep.mk (fun k => And.intro (I0 k).1 (Int.le_trans (I0 k).2 (show (((L.take k).length : Nat) : Int) ≤ 300 by rw [List.length_take]; omega)))
    clear hr I0
    cases d0 : decide (now < 0) with
    | true =>
      go_wp2_with fail
      go_ret
      exact ⟨rfl, (H1.out.2.drewN n).quiet⟩
    | false =>
     cases d1 : decide (1099511627776 < now) with
     | true =>
      go_wp2_with fail
      go_ret
      exact ⟨rfl, (H1.out.2.drewN n).quiet⟩
     | false =>
      have hck : clockB now = true := by
        rw [clockB_iff]
        simp only [decide_eq_false_iff_not] at d0 d1
        omega
      have HCK := Keep.mk hck
      clear hck
      go_wp2_with fail
      go_loopw [9] (fun i wr => ∃ (k : Nat) (F' : Fp), k ≤ L.length ∧ i = .int .i64 k ∧ (bookT b 5 50 (runB 5 50 (L.take k)).1 (runB 5 50 (L.take k)).2).on wr F' ∧ Upd none' F' W wr) (fun i _ => L.length - (RowKit.intOf i).toNat)
      case atStart => exact ⟨0, F1, by omega, rfl, Asrt.drewN H1.out.1 n, H1.out.2.drewN n⟩
      case round =>
        obtain ⟨k, F', hk, rfl, hB, hU⟩ := hrel
        by_cases hlt : k < L.length
        · obtain ⟨g, off, rfl, hg, hc⟩ := ha k L[k] (List.getElem?_eq_getElem hlt)
          have UU := fun j u h => (hU.quiet.cell (a := ⟨g, j, none⟩) hg id).trans (h : W.cell? ⟨g, j, none⟩ = some u)
          have k0 := UU _ _ (hc 0 _ rfl)
          have k1 := UU _ _ (hc 1 _ rfl)
          have k2 := UU _ _ (hc 2 _ rfl)
          have k3 := UU _ _ (hc 3 _ rfl)
          have k4 := UU _ _ (hc 4 _ rfl)
          have k5 := UU _ _ (hc 5 _ rfl)
          have k6 := UU _ _ (hc 6 _ rfl)
          have hok := HL.out.2 L[k] (List.getElem_mem hlt)
          have hsn := runB_snoc 5 50 (L.take k) L[k]
          rw [← List.take_succ_eq_append_getElem hlt] at hsn
          obtain ⟨IV, hle⟩ := I1.out k
          have D := does_c hB IV (by omega) (by decide) (by decide) (by decide) (by decide) L[k] hok.1 hok.2.1
          generalize runB 5 50 (L.take k) = S at *
          obtain ⟨e, M⟩ := S
          have HS := Keep.mk hsn
          generalize L[k] = o at *
          simp only at D HS
          obtain ⟨wh, tenant', name', conn, epoch, now', ttl'⟩ := o
          simp only [Nat.add_zero] at k0 k1 k2 k3 k4 k5 k6
          have HU := Keep.mk (fun {w' : World} {F'' : Fp} (u : Upd F' F'' wr w') => hU.trans u)
          clear hsn UU hB hok IV hle hU hc
          have C := D
          unfold DoEnds at C
          generalize hD : doesS 5 50 e M ⟨wh, tenant', name', conn, epoch, now', ttl'⟩ = R at *
          obtain ⟨e', M', x', er⟩ := R
          simp only at C HS
          clear hD D
          replace C := Keep.mk C
          go_wp2_with fail
          refine C.out.mono ?_
          rintro e0 w3 ⟨rfl, F3, h3, u3⟩
          go_wp2_with fail
          go_roundw
          case rel => exact ⟨k + 1, F3, by omega, by go_num, by rw [HS.out]; exact h3, HU.out u3⟩
          case measure => simp [RowKit.intOf]; omega
        · obtain rfl : k = L.length := by omega
          obtain ⟨IV, hle⟩ := I1.out L.length
          generalize runB 5 50 (L.take L.length) = S at *
          obtain ⟨e, M⟩ := S
          simp only at hB IV hle
          have hlen := allS_len IV
          obtain ⟨r1, r2, r3, r4⟩ := leave_says (g := 5) (conn := conn) (now := now) IV HCK.out
          have IV' := leave_inv (g := 5) IV (by decide) (by decide) conn now
          have AC := Keep.mk (fun (w : World) (F : Fp) (l : List Asrt) (h : (Asrt.stars (bookT b 5 50 e M :: l)).on w F) => all_on IV h rfl)
          have HC := Keep.mk (fun (nm : ByteArray) (w : World) (F : Fp) (h : (bookT b 5 50 e M).on w F) => holder_c h (by decide) (by decide) IV.tils nm now)
          have GET := Keep.mk (fun x (h : x ∈ allS M) => mem_allS IV h)
          have HLe := Keep.mk (show leaveS 5 M conn now = ((leaveS 5 M conn now).1, (allS M).filter (soLeave conn now)) by rw [← r1])
          generalize (leaveS 5 M conn now).1 = M' at *
          have AC' := Keep.mk (fun (w : World) (F : Fp) (l : List Asrt) (h : (Asrt.stars (bookT b 5 50 e M' :: l)).on w F) => all_on IV' h r2)
          have HC' := Keep.mk (fun (nm : ByteArray) (w : World) (F : Fp) (h : (bookT b 5 50 e M').on w F) => holder_c h (by decide) (by decide) IV'.tils nm now)
          have LC := Keep.mk (fun (w : World) (F : Fp) (l : List Asrt) (h : (Asrt.stars (bookT b 5 50 e M :: l)).on w F) => leave_on IV (by decide) (by decide) h conn now HLe.out)
          have LC' := Keep.mk (fun (w : World) (F : Fp) (l : List Asrt) (h : (Asrt.stars (bookT b 5 50 e M' :: l)).on w F) => leave_on IV' (by decide) (by decide) h conn now r4)
          have HB := Keep.mk (And.intro hB hU)
          have R3 := Keep.mk r3
          clear hB hU I1 ha hle IV IV' r1 r2 r3 r4 HLe
          generalize allS M = A at *
          go_wp2_with fail
          refine (AC.out _ _ [] (Asrt.stars_one HB.out.1)).mono ?_
          rintro e0 w3 ⟨va, rfl, F3, S3, u3⟩
          have U3 := HB.out.2.trans u3
          obtain ⟨_, hra, _⟩ := Asrt.stars_get S3 1 rfl
          obtain ⟨aa, ca, rfl, _⟩ := (row_reads (enc := encL) (fun _ => rfl) hra).1
          have S3' := swap2 (Asrt.stars_emp (row_nil w3 26 6 encL) S3)
          have HS3 := Keep.mk (And.intro S3' U3)
          clear S3 S3' hra u3 U3
          go_wp2_with fail
          go_loopw [10, 12] (fun vw i wr => ∃ (k : Nat) (F' : Fp) (ao : Option Addr) (co : Nat), k ≤ A.length ∧ i = .int .i64 k ∧ vw = .slice ao ((A.take k).filter (soLeave conn now)).length co ∧ (Asrt.stars [bookT b 5 50 e M, row 26 6 encL (.slice ao ((A.take k).filter (soLeave conn now)).length co) ((A.take k).filter (soLeave conn now)), row 26 6 encL (.slice aa A.length ca) A]).on wr F' ∧ Upd none' F' W wr) (fun _ i _ => A.length - (RowKit.intOf i).toNat)
          case atStart => exact ⟨0, F3, none, 0, by omega, rfl, rfl, HS3.out.1, HS3.out.2⟩
          case round =>
            obtain ⟨k, F', ao, co, hk, rfl, rfl, hSt, hU⟩ := hrel
            clear HS3
            by_cases hlt : k < A.length
            · obtain ⟨_, hra, _⟩ := Asrt.stars_get hSt 2 rfl
              obtain ⟨aa', ca', heq, hca⟩ := (row_reads (enc := encL) (fun _ => rfl) hra).1
              cases heq
              obtain ⟨g, off, rfl, hg, hc⟩ := hca k A[k] (List.getElem?_eq_getElem hlt)
              have k0 : wr.cell? ⟨g, off + k * 6, none⟩ = some (.string A[k].name) := hc 0 _ rfl
              have hget := GET.out A[k] (List.getElem_mem hlt)
              have htk : (A.take (k + 1)).filter (soLeave conn now) = (A.take k).filter (soLeave conn now) ++ (if soLeave conn now A[k] = true then [A[k]] else []) := by
                rw [List.take_succ_eq_append_getElem hlt, List.filter_append, List.filter_cons]
                simp
              have hql : ((A.take k).filter (soLeave conn now)).length ≤ A.length := Nat.le_trans (List.length_filter_le ..) (by rw [List.length_take]; omega)
              generalize (A.take k).filter (soLeave conn now) = q at *
              generalize A[k] = x at *
              have HO := hold_of (g := 5) (now := now) hget
              have HCx := HC.out x.name
              rw [HO] at HCx
              have HCx := Keep.mk HCx
              have hst := statS_two 5 x now
              have HTK := Keep.mk htk
              have HST := Keep.mk hSt
              have hso : soLeave conn now x = ((x.conn == conn) && (x.held && decide (now < x.til))) := rfl
              clear hc hget HO htk hSt hra hca
              by_cases h2 : statS 5 x now = 2
              · rw [if_pos h2] at HCx
                have hx2 := hst.1 h2
                have hso2 : soLeave conn now x = (x.conn == conn) := by rw [hso, hx2.1, decide_eq_true hx2.2]; simp
                clear hst h2 hx2 hso
                have HQ := Keep.mk hso2
                clear hso2
                go_wp2_with fail
                refine (on_head_same HST.out fun Fi h _ => HCx.out _ _ h).mono ?_
                rintro e0 w4 ⟨rfl, F4, S4, u4⟩
                have U4 := hU.trans u4
                obtain ⟨x0, x1, xc, x3, x4, x5⟩ := x
                simp only at HQ HCx HTK k0
                cases hcn : (xc == conn) with
                | true =>
                  rw [hcn] at HQ
                  have HT2 := Keep.mk (HTK.out.trans (by rw [if_pos HQ.out]))
                  obtain ⟨hi, hz0, hz1, hz2⟩ := hI.out
                  go_wp2_with (first | (refine store_new S4 rfl 26 _ _ rfl (cellsL ⟨x0, x1, xc, x3, x4, x5⟩) rfl rfl (sizeL zeroL) rfl (oneL ⟨x0, x1, xc, x3, x4, x5⟩) ?_; intro w5 F5 S5 u5 q5; obtain ⟨Fo, hrow, _, hgo⟩ := Asrt.stars_upd _ 2 _ rfl S5) | (at_builtin; refine at_append_row encL 6 64 rfl (.tmp 79) (.tmp 81) 31 rfl 26 iL _ Tryd.underlying31 hi hz0 hz1 hz2 rfl (by decide) (.slice ao q.length co) q ⟨x0, x1, xc, x3, x4, x5⟩ Fo rfl (Asrt.alloc hrow _) ⟨w5.heap.size, 0, none⟩ 1 rfl rfl (cells_new w5 (encL ⟨x0, x1, xc, x3, x4, x5⟩) _) (hone_L ⟨x0, x1, xc, x3, x4, x5⟩) ?h63 ?hby ?next))
                  case h63 => unfold maxLen; omega
                  case hby => omega
                  case next =>
                    intro v' w8 F8 hr8 u8
                    have u8' := ((Upd.refl Fo w5).alloc _).trans u8
                    obtain ⟨F9, S9, u9⟩ := hgo w8 F8 _ hr8 u8'
                    have U9 := (U4.trans u5).trans u9
                    obtain ⟨ao', co', rfl, _⟩ := (row_reads (enc := encL) (fun _ => rfl) hr8).1
                    simp only [List.set_cons_succ, List.set_cons_zero] at S9
                    obtain ⟨F6, S6, s6⟩ := stars_erase _ 1 S9
                    simp only [List.eraseIdx_cons_succ, List.eraseIdx_cons_zero] at S6
                    clear hi hz0 hz1 hz2 hrow hgo S9 u9 u8 u8' hr8 S5 q5 S4
                    go_wp2_with fail
                    go_roundw
                    case rel => exact ⟨k + 1, F6, ao', co', by omega, by go_num, by rw [HT2.out], by rw [HT2.out]; exact S6, U9.re fun k hk => U9.fp k (s6 k hk)⟩
                    case measure => simp [RowKit.intOf]; omega
                | false =>
                  rw [hcn] at HQ
                  have HT2 := Keep.mk (HTK.out.trans (by rw [if_neg (by rw [HQ.out]; simp)]))
                  go_wp2_with (refine store_new S4 rfl 26 _ _ rfl (cellsL ⟨x0, x1, xc, x3, x4, x5⟩) rfl rfl (sizeL zeroL) rfl (oneL ⟨x0, x1, xc, x3, x4, x5⟩) ?_; intro w5 F5 S5 u5 q5)
                  obtain ⟨F6, S6, s6⟩ := stars_erase _ 1 S5
                  simp only [List.eraseIdx_cons_succ, List.eraseIdx_cons_zero] at S6
                  have U6 := U4.trans u5
                  go_roundw
                  case rel => exact ⟨k + 1, F6, ao, co, by omega, by go_num, by rw [HT2.out, List.append_nil], by rw [HT2.out, List.append_nil]; exact S6, U6.re fun k hk => U6.fp k (s6 k hk)⟩
                  case measure => simp [RowKit.intOf]; omega
              · rw [if_neg h2] at HCx
                have hso2 : soLeave conn now x = false := by
                  rw [hso]
                  cases hh : x.held with
                  | false => simp
                  | true =>
                    have : ¬ now < x.til := fun h => h2 (hst.2 ⟨hh, h⟩)
                    rw [decide_eq_false this]; simp
                have HT2 := Keep.mk (HTK.out.trans (by rw [if_neg (by rw [hso2]; simp)]))
                clear hst h2 hso2 hso
                go_wp2_with fail
                refine (on_head_same HST.out fun Fi h _ => HCx.out _ _ h).mono ?_
                rintro e0 w4 ⟨rfl, F4, S4, u4⟩
                have U4 := hU.trans u4
                go_wp2_with (refine store_new S4 rfl 26 _ _ rfl (cellsL zeroL) rfl rfl (sizeL zeroL) rfl (oneL zeroL) ?_; intro w5 F5 S5 u5 q5)
                obtain ⟨F6, S6, s6⟩ := stars_erase _ 1 S5
                simp only [List.eraseIdx_cons_succ, List.eraseIdx_cons_zero] at S6
                have U6 := U4.trans u5
                go_roundw
                case rel => exact ⟨k + 1, F6, ao, co, by omega, by go_num, by rw [HT2.out, List.append_nil], by rw [HT2.out, List.append_nil]; exact S6, U6.re fun k hk => U6.fp k (s6 k hk)⟩
                case measure => simp [RowKit.intOf]; omega
            · obtain rfl : k = A.length := by omega
              rw [List.take_length] at hSt
              have HS4 := Keep.mk hSt
              clear hSt hlt hk
              go_wp2_with fail
              refine (LC.out _ _ _ HS4.out).mono ?_
              rintro e0 w5 ⟨vg, rfl, F5, S5, u5⟩
              have U5 := hU.trans u5
              have hfl : (A.filter (soLeave conn now)).length ≤ 64 := Nat.le_trans (List.length_filter_le ..) hlen
              go_wp2_with fail
              refine (same_on S5 1 2 rfl rfl hfl).mono ?_
              rintro e0 w6 ⟨rfl, n6, rfl⟩
              have U6 := U5.drewN n6
              obtain ⟨Fa, Sa, sa⟩ := stars_erase _ 1 (Asrt.drewN S5 n6)
              obtain ⟨Fb, Sb, sb⟩ := stars_erase _ 1 Sa
              simp only [List.eraseIdx_cons_succ, List.eraseIdx_cons_zero] at Sb
              have U6 := U6.re fun k hk => U6.fp k (sa k (sb k hk))
              clear hfl S5 u5 Sa sa sb U5
              go_wp2_with fail
              refine (AC'.out _ _ _ Sb).mono ?_
              rintro e0 w7 ⟨v7, rfl, F7, S7, u7⟩
              have U7 := U6.trans u7
              obtain ⟨_, hr7, _⟩ := Asrt.stars_get S7 1 rfl
              obtain ⟨a7, c7, rfl, _⟩ := (row_reads (enc := encL) (fun _ => rfl) hr7).1
              obtain ⟨Fc, Sc, sc⟩ := stars_erase _ 1 S7
              simp only [List.eraseIdx_cons_succ, List.eraseIdx_cons_zero] at Sc
              have U7 := U7.re fun k hk => U7.fp k (sc k hk)
              have hml : (A.map (leftF 5 conn now)).length = A.length := List.length_map ..
              rw [hml]
              clear hr7 S7 u7 sc
              go_wp2_with fail
              refine (LC'.out _ _ _ Sc).mono ?_
              rintro e0 w8 ⟨v8, rfl, F8, S8, u8⟩
              have U8 := U7.trans u8
              obtain ⟨_, hr8, _⟩ := Asrt.stars_get S8 1 rfl
              obtain ⟨a8, c8, rfl, _⟩ := (row_reads (enc := encL) (fun _ => rfl) hr8).1
              obtain ⟨Fd, Sd, sd⟩ := stars_erase _ 1 S8
              simp only [List.eraseIdx_cons_succ, List.eraseIdx_cons_zero] at Sd
              have U8 := U8.re fun k hk => U8.fp k (sd k hk)
              clear hr8 S8 u8 sd Sc
              go_wp2_with fail
              refine (AC'.out _ _ _ Sd).mono ?_
              rintro e0 w9 ⟨v9, rfl, F9, S9, u9⟩
              have U9 := U8.trans u9
              obtain ⟨_, hr9, _⟩ := Asrt.stars_get S9 1 rfl
              obtain ⟨a9, c9, rfl, _⟩ := (row_reads (enc := encL) (fun _ => rfl) hr9).1
              have HS9 := Keep.mk (And.intro S9 U9)
              clear hr9 u9 S9 U9 Sd U6 U7 U8
              go_wp2_with fail
              go_loopw [17] (fun i wr => ∃ (k : Nat) (F' : Fp), k ≤ A.length ∧ i = .int .i64 k ∧ (Asrt.stars [bookT b 5 50 e M', row 26 6 encL (.slice a9 (A.map (leftF 5 conn now)).length c9) (A.map (leftF 5 conn now)), row 26 6 encL (.slice aa A.length ca) A]).on wr F' ∧ Upd none' F' W wr) (fun i _ => A.length - (RowKit.intOf i).toNat)
              case atStart => exact ⟨0, F9, by omega, rfl, HS9.out.1, HS9.out.2⟩
              case round =>
                obtain ⟨k, F', hk, rfl, hSt, hU⟩ := hrel
                clear HS9
                by_cases hlt : k < A.length
                · have hxa : A[k]? = some A[k] := List.getElem?_eq_getElem hlt
                  have hxl : (A.map (leftF 5 conn now))[k]? = some (leftF 5 conn now A[k]) := by rw [List.getElem?_map, hxa]; rfl
                  obtain ⟨ga, oa, rfl⟩ := row_slot hSt 2 rfl hxa
                  obtain ⟨gl, ol, rfl⟩ := row_slot hSt 1 rfl hxl
                  have hxn := (rows_at hSt 2 rfl hxa _ _ rfl).1
                  have hget := R3.out A[k] (List.getElem_mem hlt)
                  have HCx := HC'.out A[k].name
                  rw [hold_of (g := 5) (now := now) hget] at HCx
                  have HLk := Keep.mk hlt
                  generalize A[k] = x at *
                  have hst := statS_two 5 (leftF 5 conn now x) now
                  have HST := Keep.mk hSt
                  have hso : soLeave conn now x = ((x.conn == conn) && (x.held && decide (now < x.til))) := rfl
                  have hle : soLeave conn now x = false → leftF 5 conn now x = x := fun h => by unfold leftF; rw [if_neg (by rw [h]; simp)]
                  clear hget hSt
                  cases hcn : (x.conn == conn) with
                  | false =>
                    have hcn2 : (x.conn != conn) = true := by rw [bne, hcn]; rfl
                    rw [hle (by rw [hso, hcn]; simp)] at hxl HCx hst
                    clear hso hle
                    by_cases h2 : statS 5 x now = 2
                    · rw [if_pos h2] at HCx
                      replace HCx := Keep.mk HCx
                      clear hst h2
                      obtain ⟨x0, x1, xc, x3, x4, x5⟩ := x
                      simp only at hcn hcn2 hxn HCx
                      go_wp2_with fail
                      refine (on_head_same HST.out fun Fi h _ => HCx.out _ _ h).mono ?_
                      rintro e0 w4 ⟨rfl, F4, S4, u4⟩
                      have U4 := hU.trans u4
                      go_wp2_with (refine store_new S4 rfl 26 _ _ rfl (cellsL ⟨x0, x1, xc, x3, x4, x5⟩) rfl rfl (sizeL zeroL) rfl (oneL ⟨x0, x1, xc, x3, x4, x5⟩) ?_; intro w5 F5 S5 u5 q5; have hra5 := rows_at S5 3 rfl hxa _ _ rfl; have hrl5 := rows_at S5 2 rfl hxl _ _ rfl; obtain ⟨a0, a1, a2, a3, a4, a5⟩ := hra5; obtain ⟨b0, b1, b2, b3, b4, b5⟩ := hrl5; simp only at a0 a1 a2 a3 a4 a5 b0 b1 b2 b3 b4 b5)
                      go_quiet (fail)
                      go_wp2_with fail
                      obtain ⟨F6, S6, s6⟩ := stars_erase _ 1 (Asrt.drewN S5 nq)
                      simp only [List.eraseIdx_cons_succ, List.eraseIdx_cons_zero] at S6
                      have U6 := (U4.trans u5).drewN nq
                      go_roundw
                      case rel => exact ⟨k + 1, F6, by omega, by go_num, S6, U6.re fun k hk => U6.fp k (s6 k hk)⟩
                      case measure => simp [RowKit.intOf]; omega
                    · rw [if_neg h2] at HCx
                      replace HCx := Keep.mk HCx
                      clear hst h2
                      obtain ⟨x0, x1, xc, x3, x4, x5⟩ := x
                      simp only at hcn hcn2 hxn HCx
                      go_wp2_with fail
                      refine (on_head_same HST.out fun Fi h _ => HCx.out _ _ h).mono ?_
                      rintro e0 w4 ⟨rfl, F4, S4, u4⟩
                      have U4 := hU.trans u4
                      go_wp2_with (refine store_new S4 rfl 26 _ _ rfl (cellsL zeroL) rfl rfl (sizeL zeroL) rfl (oneL zeroL) ?_; intro w5 F5 S5 u5 q5; have hra5 := rows_at S5 3 rfl hxa _ _ rfl; have hrl5 := rows_at S5 2 rfl hxl _ _ rfl; obtain ⟨a0, a1, a2, a3, a4, a5⟩ := hra5; obtain ⟨b0, b1, b2, b3, b4, b5⟩ := hrl5; simp only at a0 a1 a2 a3 a4 a5 b0 b1 b2 b3 b4 b5)
                      go_quiet (fail)
                      go_wp2_with fail
                      obtain ⟨F6, S6, s6⟩ := stars_erase _ 1 (Asrt.drewN S5 nq)
                      simp only [List.eraseIdx_cons_succ, List.eraseIdx_cons_zero] at S6
                      have U6 := (U4.trans u5).drewN nq
                      go_roundw
                      case rel => exact ⟨k + 1, F6, by omega, by go_num, S6, U6.re fun k hk => U6.fp k (s6 k hk)⟩
                      case measure => simp [RowKit.intOf]; omega
                  | true =>
                    have hcn2 : (x.conn != conn) = false := by rw [bne, hcn]; rfl
                    have h2 : ¬ statS 5 (leftF 5 conn now x) now = 2 := fun h => by
                      obtain ⟨h3, h4⟩ := hst.1 h
                      have h5 := leftF_so 5 conn now x
                      have h6 : (leftF 5 conn now x).conn = x.conn := by unfold leftF; split <;> rfl
                      unfold soLeave at h5
                      rw [h6, hcn, h3, decide_eq_true h4] at h5
                      simp at h5
                    rw [if_neg h2] at HCx
                    replace HCx := Keep.mk HCx
                    clear hst h2 hso hle
                    generalize leftF 5 conn now x = y at *
                    obtain ⟨x0, x1, xc, x3, x4, x5⟩ := x
                    obtain ⟨y0, y1, yc, y3, y4, y5⟩ := y
                    simp only at hcn hcn2 hxn HCx
                    go_wp2_with fail
                    refine (on_head_same HST.out fun Fi h _ => HCx.out _ _ h).mono ?_
                    rintro e0 w4 ⟨rfl, F4, S4, u4⟩
                    have U4 := hU.trans u4
                    go_wp2_with (refine store_new S4 rfl 26 _ _ rfl (cellsL zeroL) rfl rfl (sizeL zeroL) rfl (oneL zeroL) ?_; intro w5 F5 S5 u5 q5; have hra5 := rows_at S5 3 rfl hxa _ _ rfl; have hrl5 := rows_at S5 2 rfl hxl _ _ rfl; obtain ⟨a0, a1, a2, a3, a4, a5⟩ := hra5; obtain ⟨b0, b1, b2, b3, b4, b5⟩ := hrl5; simp only at a0 a1 a2 a3 a4 a5 b0 b1 b2 b3 b4 b5)
                    go_quiet (fail)
                    go_wp2_with fail
                    obtain ⟨F6, S6, s6⟩ := stars_erase _ 1 (Asrt.drewN S5 nq)
                    simp only [List.eraseIdx_cons_succ, List.eraseIdx_cons_zero] at S6
                    have U6 := (U4.trans u5).drewN nq
                    go_roundw
                    case rel => exact ⟨k + 1, F6, by omega, by go_num, S6, U6.re fun k hk => U6.fp k (s6 k hk)⟩
                    case measure => simp [RowKit.intOf]; omega
                · go_wp2_with fail
                  go_ret
                  exact ⟨rfl, hU.quiet⟩
end leaseLeaves
end Go.Proofs.YtefnfhhdcginmaaDoor
