/- The statements on ports: the live question; is it too much? -/
import Derived.Test.YtpjfakmalhenjaaDoorPortsG
set_option linter.unusedVariables false
namespace Go.Proofs.YtpjfakmalhenjaaDoor
open Go.RowKit Go.Sub Go.Shelf Go.Sort Go.ChangeMaps Go.Lib
abbrev sAnn : ByteArray := ⟨#[97, 110, 110]⟩
abbrev sBob : ByteArray := ⟨#[98, 111, 98]⟩
abbrev sP0 : ByteArray := ⟨#[116, 99, 112, 45, 50, 48, 48, 48, 48]⟩
abbrev sP1 : ByteArray := ⟨#[116, 99, 112, 45, 50, 48, 48, 48, 49]⟩
abbrev sP7 : ByteArray := ⟨#[116, 99, 112, 45, 50, 48, 48, 48, 55]⟩
abbrev sPF : ByteArray := ⟨#[116, 99, 112, 45, 50, 48, 48, 54, 52]⟩
theorem ints_lit (w : World) (l : List Int) : ReadsI (w.alloc (.cells (l.map fun x => Value.int .i64 x).toArray 3)) (.slice (some ⟨w.heap.size, 0, none⟩) l.length l.length) l := by
  refine ⟨_, _, rfl, fun i x hx => ⟨_, _, rfl, by rw [size_alloc']; exact Nat.lt_succ_self _, fun j u hu => ?_⟩⟩
  cases j with
  | succ j => simp at hu
  | zero =>
    simp only [List.getElem?_cons_zero, Option.some.injEq] at hu
    subst hu
    rw [World.cell?_alloc_mark, Nat.zero_add, Nat.mul_one, Nat.add_zero, List.getElem?_toArray, List.getElem?_map, hx]
    rfl
def hx1 : Lz := ⟨sP0, sAnn, 0, 0, 5, true⟩
def hx2 : Lz := ⟨sP1, sBob, 0, 0, 9, false⟩
theorem it0 : itoa 20000 = [50, 48, 48, 48, 48] := by simp [itoa, decDigits]
theorem it1 : itoa 20001 = [50, 48, 48, 48, 49] := by simp [itoa, decDigits]
theorem it7 : itoa 20007 = [50, 48, 48, 48, 55] := by simp [itoa, decDigits]
theorem itF : itoa 20064 = [50, 48, 48, 54, 52] := by simp [itoa, decDigits]
theorem po0 : portS hx1.name.data.toList = some 20000 := portS_iff.2 ⟨by decide, by decide, by rw [nameS, if_neg (by omega), it0]; rfl⟩
theorem po1 : portS hx2.name.data.toList = some 20001 := portS_iff.2 ⟨by decide, by decide, by rw [nameS, if_neg (by omega), it1]; rfl⟩
theorem po7 : portS sP7.data.toList = some 20007 := portS_iff.2 ⟨by decide, by decide, by rw [nameS, if_neg (by omega), it7]; rfl⟩
theorem na7 : strB (nameS 20007) = sP7 := by rw [nameS, if_neg (by omega), it7]; rfl
theorem na9 : strB (nameS 19999) = ⟨#[]⟩ := by rw [nameS, if_pos (by omega)]; rfl
theorem poF : portS sPF.data.toList = none := by
  have h : parseS [50, 48, 48, 54, 52] = some 20064 := parseS_iff.2 ⟨by decide, by decide, itF⟩
  unfold portS
  rw [if_pos (by decide), show trimPrefix sPF.data.toList tcp = [50, 48, 48, 54, 52] from by decide, h]
  rfl
theorem mark2 (so : Lz → Bool) (b1 b2 : Bool) (h1 : so hx1 = b1) (h2 : so hx2 = b2) : markS so [hx1, hx2] = (if b1 = true then 1 else 0) :: (if b2 = true then 1 else 0) :: List.replicate 62 0 := by
  show bump so (bump so zeros64 hx1) hx2 = _
  have e1 : bump so zeros64 hx1 = (if b1 = true then 1 else 0) :: List.replicate 63 0 := by
    unfold bump; rw [po0, h1]; cases b1 <;> rfl
  rw [e1]
  unfold bump; rw [po1, h2]; cases b1 <;> cases b2 <;> rfl
theorem nxA : nextP 3 sAnn 4 [hx1, hx2] = some 20002 := by
  unfold nextP
  rw [if_neg (by omega), mark2 _ true true (by simp [soNext, hx1]) (by simp [soNext, hx2, ByteArray.toList_eq])]
  rfl
theorem nxB : nextP 3 sAnn 6 [hx1, hx2] = some 20000 := by
  unfold nextP
  rw [if_neg (by omega), mark2 _ false true (by simp [soNext, hx1]) (by simp [soNext, hx2, ByteArray.toList_eq])]
  rfl
theorem nxC : nextP 3 sBob 7 [hx1, hx2] = some 20001 := by
  unfold nextP
  rw [if_neg (by omega), mark2 _ true false (by simp [soNext, hx1, ByteArray.toList_eq]) (by simp [soNext, hx2])]
  rfl
theorem nxD : nextP 0 sAnn 4 [hx1, hx2] = none := by unfold nextP; rw [if_pos (by omega)]
theorem hdA : heldP sAnn 4 [hx1, hx2] = [20000] := by
  unfold heldP
  rw [mark2 _ true false (by simp [soHeld, hx1]) (by simp [soHeld, hx2])]
  rfl
theorem hdB : heldP sBob 4 [hx1, hx2] = [] := by
  unfold heldP
  rw [mark2 _ false false (by simp [soHeld, hx1, ByteArray.toList_eq]) (by simp [soHeld, hx2])]
  rfl
abbrev headO : Obj := .cells #[.string sP0, .string sAnn, .int .i64 0, .int .i64 0, .int .i64 5, .bool true, .string sP1, .string sBob, .int .i64 0, .int .i64 0, .int .i64 9, .bool false] 34
theorem head_reads (w : World) : Reads (w.alloc headO) 6 encL (.slice (some ⟨w.heap.size, 0, none⟩) 2 2) [hx1, hx2] := by
  refine ⟨_, _, rfl, fun i x hx => ?_⟩
  have hlt : w.heap.size < (w.alloc headO).heap.size := by rw [size_alloc']; exact Nat.lt_succ_self _
  rcases i with _ | _ | i
  · simp only [List.getElem?_cons_zero, Option.some.injEq] at hx
    subst hx
    refine ⟨w.heap.size, 0, rfl, hlt, fun j u hu => ?_⟩
    rw [World.cell?_alloc_new]
    rcases j with _ | _ | _ | _ | _ | _ | j <;> simp [encL, hx1] at hu ⊢ <;> exact hu
  · simp only [Nat.zero_add, List.getElem?_cons_succ, List.getElem?_cons_zero, Option.some.injEq] at hx
    subst hx
    refine ⟨w.heap.size, 0, rfl, hlt, fun j u hu => ?_⟩
    rw [World.cell?_alloc_new]
    rcases j with _ | _ | _ | _ | _ | _ | j <;> simp [encL, hx2] at hu ⊢ <;> exact hu
  · simp at hx
set_option maxHeartbeats 4000000 in
set_option maxRecDepth 100000 in
theorem head_c {w : World} (ht : Tab10 w) : Calls Tryd.prog 8 #[] w (Ret (.bool true) fun w' => Quiet w w') := by
  have u0 := (Upd.refl none' w).alloc headO
  have hR := head_reads w
  have hn : ∀ x ∈ [hx1, hx2], x.name.size ≤ maxLen := fun x hx => by
    simp only [List.mem_cons, List.not_mem_nil, or_false] at hx
    rcases hx with rfl | rfl
    · decide
    · decide
  have CN := fun (w' : World) (hq : Quiet (w.alloc headO) w') (grace : Int) (tenant : ByteArray) (now : Int) => pnext_c (tab_upd (tab_upd ht u0) hq) (.slice (some ⟨w.heap.size, 0, none⟩) 2 2) [hx1, hx2] (hR.upd hq fun _ _ h => h) (by decide) hn grace tenant now
  have CA := Keep.mk (fun (w' : World) (hq : Quiet (w.alloc headO) w') => by have := CN w' hq 3 sAnn 4; unfold PNextEnds at this; rw [nxA] at this; exact this)
  have CB := Keep.mk (fun (w' : World) (hq : Quiet (w.alloc headO) w') => by have := CN w' hq 3 sAnn 6; unfold PNextEnds at this; rw [nxB] at this; exact this)
  have CC := Keep.mk (fun (w' : World) (hq : Quiet (w.alloc headO) w') => by have := CN w' hq 3 sBob 7; unfold PNextEnds at this; rw [nxC] at this; exact this)
  have CD := Keep.mk (fun (w' : World) (hq : Quiet (w.alloc headO) w') => by have := CN w' hq 0 sAnn 4; unfold PNextEnds at this; rw [nxD] at this; exact this)
  have C7 := Keep.mk (fun (w' : World) (hq : Quiet (w.alloc headO) w') => by have := port_c (tab_upd (tab_upd ht u0) hq) sP7 (by decide); unfold PortEnds at this; rw [po7] at this; exact this)
  have CF := Keep.mk (fun (w' : World) (hq : Quiet (w.alloc headO) w') => by have := port_c (tab_upd (tab_upd ht u0) hq) sPF (by decide); unfold PortEnds at this; rw [poF] at this; exact this)
  have N7 := Keep.mk (fun (w' : World) (hq : Quiet (w.alloc headO) w') => by have := name_c (tab_upd (tab_upd ht u0) hq) 20007; rw [na7] at this; exact this)
  have N9 := Keep.mk (fun (w' : World) (hq : Quiet (w.alloc headO) w') => by have := name_c (tab_upd (tab_upd ht u0) hq) 19999; rw [na9] at this; exact this)
  have HA := Keep.mk (fun (w' : World) (hq : Quiet (w.alloc headO) w') => by have := pheld_c (tab_upd (tab_upd ht u0) hq) (.slice (some ⟨w.heap.size, 0, none⟩) 2 2) [hx1, hx2] (hR.upd hq fun _ _ h => h) (by decide) hn sAnn 4; unfold PHeldEnds at this; rw [hdA] at this; exact this)
  have HB := Keep.mk (fun (w' : World) (hq : Quiet (w.alloc headO) w') => by have := pheld_c (tab_upd (tab_upd ht u0) hq) (.slice (some ⟨w.heap.size, 0, none⟩) 2 2) [hx1, hx2] (hR.upd hq fun _ _ h => h) (by decide) hn sBob 4; unfold PHeldEnds at this; rw [hdB] at this; exact this)
  clear CN hn hR
  go_enter Tryd.func8, Tryd.ntmps8
  go_wp2_with fail
  have U0 := Upd.refl none' (w.alloc headO)
  refine (CA.out _ U0).mono ?_
  rintro e w1 ⟨rfl, q1⟩
  simp only [Option.getD, Option.isSome]
  go_wp2_with fail
  refine (CB.out _ q1).mono ?_
  rintro e w2 ⟨rfl, q2⟩
  have Q2 := q1.trans q2
  simp only [Option.getD, Option.isSome]
  go_wp2_with fail
  refine (CC.out _ Q2).mono ?_
  rintro e w3 ⟨rfl, q3⟩
  have Q3 := Q2.trans q3
  simp only [Option.getD, Option.isSome]
  go_wp2_with fail
  refine (CD.out _ Q3).mono ?_
  rintro e w4 ⟨rfl, q4⟩
  have Q4 := Q3.trans q4
  simp only [Option.getD, Option.isSome]
  go_wp2_with fail
  refine (C7.out _ Q4).mono ?_
  rintro e w5 ⟨rfl, q5⟩
  have Q5 := Q4.trans q5
  simp only [Option.getD, Option.isSome]
  go_wp2_with fail
  refine (CF.out _ Q5).mono ?_
  rintro e w6 ⟨rfl, q6⟩
  have Q6 := Q5.trans q6
  simp only [Option.getD, Option.isSome]
  go_wp2_with fail
  refine (N7.out _ Q6).mono ?_
  rintro e w7 ⟨rfl, q7⟩
  have Q7 := Q6.trans q7
  have ee : ((⟨#[116, 99, 112, 45, 50, 48, 48, 48, 55]⟩ : ByteArray).toList == (⟨#[116, 99, 112, 45, 50, 48, 48, 48, 55]⟩ : ByteArray).toList) = true := by simp
  go_wp2_with fail
  refine (N9.out _ Q7).mono ?_
  rintro e w8 ⟨rfl, q8⟩
  have Q8 := Q7.trans q8
  have ee0 : ((⟨#[]⟩ : ByteArray).toList == (⟨#[]⟩ : ByteArray).toList) = true := by simp
  go_wp2_with fail
  refine (HA.out _ Q8).mono ?_
  rintro e w9 ⟨v9, rfl, F9, h9, u9⟩
  have Q9 := Q8.trans u9.quiet
  have R9 := row_readsI h9
  obtain ⟨a9, c9, rfl⟩ := R9.slice
  have S9 := Keep.mk (same8_c (w := w9.alloc (.cells #[.int .i64 20000] 3)) (R9.quiet ((Upd.refl none' w9).alloc _)) (ints_lit w9 [20000]) (by decide) (by decide))
  have Q9' := Q9.alloc (.cells #[.int .i64 20000] 3)
  clear h9 R9 u9
  go_wp2_with fail
  refine S9.out.mono ?_
  rintro e w10 ⟨rfl, n10, rfl⟩
  have Q10 := Q9'.drewN n10
  go_wp2_with fail
  refine (HB.out _ Q10).mono ?_
  rintro e w11 ⟨v11, rfl, F11, h11, u11⟩
  have Q11 := Q10.trans u11.quiet
  obtain ⟨a11, c11, rfl⟩ := (row_readsI h11).slice
  clear h11 u11
  go_wp2_with fail
  go_ret
  exact ⟨rfl, (u0.trans Q11).quiet⟩

end Go.Proofs.YtpjfakmalhenjaaDoor
