/- The live question of the statements on connections. -/
import Derived.Test.YtimkbpcdbbdjlaaConnK
import Derived.Test.YtimkbpcdbbdjlaaSubK
import Derived.Lib.SlBytesConst
import Derived.Outline
import Derived.Deep.RegionHeld3
namespace Go.Proofs.Ytimkbpcdbbdjlaa
open Go.RowKit Go.Sub Go.ChangeMaps
abbrev CT := List (Int × Con)
def h1M : CT := [(1, ⟨5, [], [], 0, false⟩)]
def h2M : CT := [(1, ⟨5, [], [], 0, false⟩), (2, ⟨6, [], [], 0, false⟩)]
def h3M : CT := [(1, ⟨5, [170, 1, 7, 8], [], 0, false⟩), (2, ⟨6, [], [], 0, false⟩)]
def h4M : CT := [(1, ⟨5, [8], [], 0, false⟩), (2, ⟨6, [], [], 0, false⟩)]
def h5M : CT := [(1, ⟨5, [8], [], 0, false⟩), (2, ⟨6, [], [97, 98, 99], 0, false⟩)]
def h6M : CT := [(1, ⟨5, [8], [], 0, false⟩), (2, ⟨6, [], [97, 98, 99], 2, false⟩)]
def h7M : CT := [(1, ⟨5, [8], [], 0, false⟩), (2, ⟨6, [], [99], 0, false⟩)]
def h8M : CT := [(2, ⟨6, [], [99], 0, false⟩)]
def h9M : CT := [(2, ⟨6, [], [99], 0, false⟩), (3, ⟨9, [], [], 0, false⟩)]
def hAM : CT := [(2, ⟨6, [], [99], 0, true⟩), (3, ⟨9, [], [], 0, false⟩)]
theorem hs1 : openS 0 [] 5 = (1, h1M, 1, 0) := by kernel_rfl
theorem hs2 : openS 1 h1M 6 = (2, h2M, 2, 0) := by kernel_rfl
theorem hs3 : feedS h2M 1 [170, 1, 7, 8] = (h3M, 4) := by kernel_rfl
theorem hs4 : nextS h3M 1 = (h4M, [7], true, 0) := by kernel_rfl
theorem hs5 : nextS h4M 1 = (h4M, [], false, 61) := by kernel_rfl
theorem hs6 : sayS h4M 2 [97, 98, 99] = (h5M, true) := by kernel_rfl
theorem hs7 : budgetS h5M 2 2 = (h6M, true) := by kernel_rfl
theorem hs8 : flushS h6M 2 = (h7M, [97, 98]) := by kernel_rfl
theorem hs9 : flushS h7M 2 = (h7M, []) := by kernel_rfl
theorem hsA : mdel h7M 1 = h8M := by kernel_rfl
theorem hsB : openS 2 h8M 9 = (3, h9M, 3, 0) := by kernel_rfl
theorem hsC : halfS h9M 2 = (hAM, true) := by kernel_rfl
def okB (M : CT) : Bool := M.all fun x => decide (0 ≤ x.2.credit ∧ x.2.credit ≤ 1073741824 ∧ x.2.inn.length ≤ 512 ∧ x.2.out.length ≤ 1024)
theorem ok_of {M : CT} (h : okB M = true) : AllOk M := fun x hx => by
  have := List.all_eq_true.1 h x hx
  simp only [decide_eq_true_eq] at this
  obtain ⟨a, b, c, d⟩ := this
  exact ⟨a, b, c, d⟩
theorem bytes_lit (w : World) (l : List UInt8) (fr : Nat × Nat) : Bytes (w.alloc (.cells (l.map bv).toArray 5 fr)) (.slice (some ⟨w.heap.size, 0, none⟩) l.length l.length) l := by
  refine ⟨_, _, rfl, Nat.le_refl _, fun i x hx => ⟨_, _, rfl, by rw [size_alloc']; exact Nat.lt_succ_self _, ?_⟩⟩
  rw [World.cell?_alloc_mark, Nat.zero_add, List.getElem?_toArray, List.getElem?_map, hx]
  rfl
theorem conv_text {w : World} {v : Value} {L : List UInt8} (hv : Bytes w v L) : (convert 22 9 v).run Try.prog w = .ok (.string (strB L)) w :=
  run_text Try.underlying22 Try.underlying5 Try.underlying9 hv
theorem feed_s {b : Nat} {last : Int} {M : CT} {l : List Asrt} {w : World} {F : Fp} (hS : (Asrt.stars (tabT b last M :: l)).on w F) (id : Int) (s : List UInt8) (hs : s.length ≤ 1000000) (fr : Nat × Nat) :
    Calls Try.prog 14 #[.pointer (some ⟨b, 0, none⟩), .int .i64 id, .slice (some ⟨w.heap.size, 0, none⟩) s.length s.length] (w.alloc (.cells (s.map bv).toArray 5 fr))
      (Ret (.int .i64 ((feedS M id s).2 : Nat)) fun w' => ∃ F', (Asrt.stars (tabT b last (feedS M id s).1 :: l)).on w' F' ∧ Upd F F' w w') := by
  obtain ⟨Fi, m, _, go⟩ := Asrt.stars_head hS
  refine (feed_c (Asrt.alloc m _) id (bytes_lit w s fr) (fun g hg _ => by cases hg; exact Asrt.not_new m (Nat.le_refl _)) hs).mono ?_
  rintro e w' ⟨rfl, F', h', u'⟩
  exact ⟨rfl, go w' F' _ h' (((Upd.refl Fi w).alloc _).trans u')⟩
theorem quiet_ret {f : Nat} {args : Array Value} {w : World} {v : Value} (h : Calls Try.prog f args w (Ret v fun w' => ∃ n, w' = w.drewN n)) : Calls Try.prog f args w (Ret v fun w' => Quiet w w') := by
  refine h.mono ?_
  rintro e w' ⟨rfl, n, rfl⟩
  exact ⟨rfl, (Upd.refl none' w).drewN n⟩
theorem ints_lit (w : World) (l : List Int) : ReadsI (w.alloc (.cells (l.map fun x => Value.int .i64 x).toArray 3)) (.slice (some ⟨w.heap.size, 0, none⟩) l.length l.length) l := by
  refine ⟨_, _, rfl, fun i x hx => ⟨_, _, rfl, by rw [size_alloc']; exact Nat.lt_succ_self _, fun j u hu => ?_⟩⟩
  cases j with
  | succ j => simp at hu
  | zero =>
    simp only [List.getElem?_cons_zero, Option.some.injEq] at hu
    subst hu
    rw [World.cell?_alloc_mark, Nat.zero_add, Nat.mul_one, Nat.add_zero, List.getElem?_toArray, List.getElem?_map, hx]
    rfl
/-- what the head's last test reads -/
structure HeadS (g o : Nat) (v : Value) (w' : World) : Prop where
  mk ::
  all : w'.cell? ⟨g, o, none⟩ = some (.int .u8 7) ∧ Bytes w' v [97, 98]
theorem Asrt.tab_of {b : Nat} {last : Int} {M : CT} {l : List Asrt} {w : World} {F : Fp} (h : (Asrt.stars (tabT b last M :: l)).on w F) : ∃ F', (tabT b last M).on w F' := by
  obtain ⟨F', h', _⟩ := Asrt.stars_get h 0 rfl
  exact ⟨F', h'⟩
theorem ids9 : keysOf (hAM.map (·.1)) = [2, 3] := by
  show keysOf [2, 3] = _
  exact List.mergeSort_of_pairwise (by decide)
set_option maxHeartbeats 8000000 in
set_option maxRecDepth 100000 in
theorem head_c (w : World) : Calls Try.prog 11 #[] w (Ret (.bool true) fun w' => Quiet w w') := by
  have kc := fun (w : World) (C : Array Value) (n c : Nat) => Lib.run_convert_bytes_const (P := Try.prog) w 22 5 C n c Try.underlying22 Try.underlying5
  go_enter Try.func11, Try.ntmps11
  go_wp2_with fail
  refine (connnew_c _).mono ?_
  rintro e w1 ⟨b, rfl, F1, t1, u1⟩
  have c1 := open_c t1 rfl (by decide) (by decide) 5
  rw [hs1] at c1
  go_wp2_with fail
  refine c1.mono ?_
  rintro e w2 ⟨rfl, F2, t2, u2⟩
  clear c1
  have c2 := open_c t2 rfl (by decide) (by decide) 6
  rw [hs2] at c2
  go_wp2_with fail
  refine c2.mono ?_
  rintro e w3 ⟨rfl, F3, t3, u3⟩
  clear c2
  have b4 : Bytes (w3.alloc (.cells #[.int .u8 170, .int .u8 1, .int .u8 7, .int .u8 8] 5)) (.slice (some ⟨w3.heap.size, 0, none⟩) 4 4) [170, 1, 7, 8] := bytes_lit w3 [170, 1, 7, 8] (0, 0)
  have c4 := feed_c (Asrt.alloc t3 (.cells #[.int .u8 170, .int .u8 1, .int .u8 7, .int .u8 8] 5)) 1 b4 (fun g hg _ => by cases hg; exact Asrt.not_new t3 (Nat.le_refl _)) (by decide)
  rw [hs3] at c4
  have v4 := (u3.alloc (.cells #[.int .u8 170, .int .u8 1, .int .u8 7, .int .u8 8] 5))
  clear b4
  go_wp2_with fail
  refine c4.mono ?_
  rintro e w4 ⟨rfl, F4, t4, u4⟩
  clear c4
  have U4 := ((u1.trans u2).trans v4).trans u4
  have c5 := next_c t4 (ok_of rfl) 1
  unfold NextEnds at c5
  rw [hs4] at c5
  clear t1 t2 t3 u1 u2 u3 v4 u4
  go_wp2_with fail
  refine c5.mono ?_
  rintro e w5 ⟨v5, rfl, F5, t5, u5⟩
  clear c5
  have S5 := Asrt.stars_split (Asrt.stars_one t5)
  have U5 := U4.trans u5
  obtain ⟨G5, m5, _, go5⟩ := Asrt.stars_head S5
  have c6 := next_c m5 (ok_of rfl) 1
  unfold NextEnds at c6
  rw [hs5] at c6
  clear t4 t5 u5
  go_wp2_with fail
  refine c6.mono ?_
  rintro e w6 ⟨v6, rfl, F6, t6, u6⟩
  clear c6
  obtain ⟨F6, S6, u6⟩ := go5 _ _ _ t6 u6
  have S6 := Asrt.stars_split S6
  have U6 := U5.trans u6
  clear go5 m5 S5 U5 U4 u6 t6
  obtain ⟨G6, m6, sub6, go6⟩ := Asrt.stars_head S6
  have b7 : Bytes (w6.alloc (.cells #[.int .u8 97, .int .u8 98, .int .u8 99] 5 (3, 4))) (.slice (some ⟨w6.heap.size, 0, none⟩) 3 3) [97, 98, 99] := bytes_lit w6 [97, 98, 99] (3, 4)
  have c7 := say_c (Asrt.alloc m6 (.cells #[.int .u8 97, .int .u8 98, .int .u8 99] 5 (3, 4))) 2 b7 (fun g hg _ => by cases hg; exact Asrt.not_new m6 (Nat.le_refl _)) (by decide)
  rw [hs6] at c7
  have v7 := (Upd.refl G6 w6).alloc (.cells #[.int .u8 97, .int .u8 98, .int .u8 99] 5 (3, 4))
  clear b7
  go_wp2_with fail
  refine c7.mono ?_
  rintro e w7 ⟨rfl, F7, t7, u7⟩
  obtain ⟨F7, S7, u7⟩ := go6 _ _ _ t7 (v7.trans u7)
  have U7 := U6.trans u7
  clear c7 go6 m6 S6 U6 u7 t7 v7 sub6
  obtain ⟨G7, m7, _, go7⟩ := Asrt.stars_head S7
  have c8 := budget_c m7 (ok_of rfl) 2 2
  rw [hs7] at c8
  go_wp2_with fail
  refine c8.mono ?_
  rintro e w8 ⟨rfl, F8, t8, u8⟩
  obtain ⟨F8, S8, u8⟩ := go7 _ _ _ t8 u8
  have U8 := U7.trans u8
  clear c8 go7 m7 S7 U7 u8 t8
  obtain ⟨G8, m8, _, go8⟩ := Asrt.stars_head S8
  have c9 := flush_c m8 (ok_of rfl) 2
  rw [hs8] at c9
  go_wp2_with fail
  refine c9.mono ?_
  rintro e w9 ⟨v9, rfl, F9, t9, u9⟩
  obtain ⟨F9, S9, u9⟩ := go8 _ _ _ t9 u9
  have S9 := Asrt.stars_split S9
  have U9 := U8.trans u9
  clear c9 go8 m8 S8 U8 u9 t9
  obtain ⟨G9, m9, _, go9⟩ := Asrt.stars_head S9
  have cA := flush_c m9 (ok_of rfl) 2
  rw [hs9] at cA
  go_wp2_with fail
  refine cA.mono ?_
  rintro e wA ⟨vA, rfl, FA, tA, uA⟩
  obtain ⟨FA, SA, uA⟩ := go9 _ _ _ tA uA
  have SA := Asrt.stars_split SA
  have UA := U9.trans uA
  clear cA go9 m9 S9 U9 uA tA
  obtain ⟨GA, mA, _, goA⟩ := Asrt.stars_head SA
  have cB := close_c mA 1
  rw [show ofC h7M 1 false (fun _ => true) = true from by kernel_rfl, hsA] at cB
  go_wp2_with fail
  refine cB.mono ?_
  rintro e wB ⟨rfl, FB, tB, uB⟩
  obtain ⟨FB, SB, uB⟩ := goA _ _ _ tB uB
  have UB := UA.trans uB
  clear cB goA mA SA UA uB tB
  obtain ⟨GB, mB, _, goB⟩ := Asrt.stars_head SB
  have cC := open_c mB rfl (by decide) (by decide) 9
  rw [hsB] at cC
  go_wp2_with fail
  refine cC.mono ?_
  rintro e wC ⟨rfl, FC, tC, uC⟩
  obtain ⟨FC, SC, uC⟩ := goB _ _ _ tC uC
  have UC := UB.trans uC
  clear cC goB mB SB UB uC tC
  obtain ⟨GC, mC, _, goC⟩ := Asrt.stars_head SC
  have cD := half_c mC 2
  rw [hsC] at cD
  go_wp2_with fail
  refine cD.mono ?_
  rintro e wD ⟨rfl, FD, tD, uD⟩
  obtain ⟨FD, SD, uD⟩ := goC _ _ _ tD uD
  have UD := UC.trans uD
  clear cD goC mC SC UC uD tD
  obtain ⟨_, hA, _⟩ := Asrt.stars_get SD 1 rfl
  obtain ⟨_, hN, _⟩ := Asrt.stars_get SD 2 rfl
  obtain ⟨_, h5, _⟩ := Asrt.stars_get SD 4 rfl
  obtain ⟨aA, cA, rfl, _⟩ := hA.1.slice
  obtain ⟨a9, c9, rfl, _⟩ := hN.1.slice
  obtain ⟨a5, c5, rfl, _⟩ := h5.1.slice
  obtain ⟨g5, o5, rfl, _, hc5⟩ := Bytes.at' h5.1 0 (by decide)
  rw [Nat.add_zero] at hc5
  clear hA hN h5
  simp only [List.length_nil, List.length_cons, Nat.zero_add, Nat.reduceAdd] at *
  generalize hl : [bytesT (.slice aA 0 cA) [], bytesT (.slice a9 2 c9) [97, 98], bytesT v6 [], bytesT (.slice (some ⟨g5, o5, none⟩) 1 c5) [7]] = l at *
  have HD := fun (w : World) (F : Fp) (h : (Asrt.stars (tabT b 3 hAM :: l)).on w F) => (by
    subst hl
    obtain ⟨_, h9, _⟩ := Asrt.stars_get h 2 rfl
    obtain ⟨_, h5, _⟩ := Asrt.stars_get h 4 rfl
    obtain ⟨_, _, e, _, hc⟩ := Bytes.at' h5.1 0 (by decide)
    cases e
    exact ⟨hc, h9.1⟩ : HeadS g5 o5 (.slice a9 2 c9) w)
  have CE := fun (w : World) (F : Fp) (h : (Asrt.stars (tabT b 3 hAM :: l)).on w F) => quiet_ret (ended_c (Asrt.tab_of h).choose_spec 2)
  rw [show ofC hAM 2 false Con.ended = true from by kernel_rfl] at CE
  have CF := fun (w : World) (F : Fp) (h : (Asrt.stars (tabT b 3 hAM :: l)).on w F) => feed_s h 2 [120] (by decide) (1, 2)
  rw [show feedS hAM 2 [120] = (hAM, 0) from by kernel_rfl] at CF
  have CD := fun (w : World) (F : Fp) (h : (Asrt.stars (tabT b 3 hAM :: l)).on w F) => quiet_ret (addr_c (Asrt.tab_of h).choose_spec 3)
  rw [show ofC hAM 3 0 Con.addr = 9 from by kernel_rfl] at CD
  have CH := fun (w : World) (F : Fp) (h : (Asrt.stars (tabT b 3 hAM :: l)).on w F) => quiet_ret (has_c (Asrt.tab_of h).choose_spec 1)
  rw [show ofC hAM 1 false (fun _ => true) = false from by kernel_rfl] at CH
  have CL := fun (w : World) (F : Fp) (h : (Asrt.stars (tabT b 3 hAM :: l)).on w F) => all_c (Asrt.tab_of h).choose_spec (by decide) (by decide) (by decide)
  rw [ids9] at CL
  have cv : ∀ W : World, Bytes W (.slice a9 2 c9) [97, 98] → (convert 22 9 (.slice a9 2 c9)).run Try.prog W = .ok (.string ⟨#[97, 98]⟩) W := fun W h => conv_text h
  have HD := Keep.mk HD
  have CE := Keep.mk CE
  have CF := Keep.mk CF
  have CD := Keep.mk CD
  have CH := Keep.mk CH
  have CL := Keep.mk CL
  have h8 := SD
  have s8 := HD.out _ _ h8
  have U8 := UD
  obtain ⟨s80, s81⟩ := s8.all
  have cv := cv wD s81
  have hl := Keep.mk hl
  clear kc SD UD hc5
  go_wp2_with fail
  refine (CE.out _ _ h8).mono ?_
  rintro e w9 ⟨rfl, q9⟩
  have h9 := Asrt.stars_quiet h8 q9
  have kc := fun (w : World) (C : Array Value) (n c : Nat) => Lib.run_convert_bytes_const (P := Try.prog) w 22 5 C n c Try.underlying22 Try.underlying5
  go_wp2_with fail
  refine (CF.out _ _ h9).mono ?_
  rintro e w10 ⟨rfl, F10, h10, u10⟩
  go_wp2_with fail
  refine (CD.out _ _ h10).mono ?_
  rintro e w11 ⟨rfl, q11⟩
  have h11 := Asrt.stars_quiet h10 q11
  go_wp2_with fail
  refine (CH.out _ _ h11).mono ?_
  rintro e w12 ⟨rfl, q12⟩
  have h12 := Asrt.stars_quiet h11 q12
  go_wp2_with fail
  refine (CL.out _ _ h12).mono ?_
  rintro e w13 ⟨vL, rfl, FL, hL, u13⟩
  have rL := row_readsI hL
  obtain ⟨aL, cL, rfl⟩ := rL.slice
  have rL' := rL.quiet (Upd.alloc (Upd.refl none' w13) (.cells #[.int .i64 2, .int .i64 3] 3))
  have CS := same8_c (w := w13.alloc (.cells #[.int .i64 2, .int .i64 3] 3)) rL' (ints_lit w13 [2, 3]) (by decide) (by decide)
  rw [sameI_refl] at CS
  go_wp2_with fail
  refine CS.mono ?_
  rintro e w14 ⟨rfl, n14, rfl⟩
  go_wp2_with fail
  go_ret
  have QA : Quiet w w12 := Upd.trans (Upd.trans ((U8.trans (Asrt.stars_same h8 q9).2).trans u10).quiet q11) q12
  exact ⟨rfl, (((Upd.trans QA u13.quiet).alloc _).drewN n14)⟩
end Go.Proofs.Ytimkbpcdbbdjlaa
