/- ConnHalf: its walk. -/
import Derived.Test.YtimkbpcdbbdjlaaConnP
import Derived.Test.YtimkbpcdbbdjlaaSubL
namespace Go.Sub
/-- 'string(s)' wherever the bytes are -/
theorem text_drewN {P : Program} {src e dst : TypeId} (hs : P.underlying src = some (.slice e)) (he : P.underlying e = some (.int .u8)) (hd : P.underlying dst = some .string) {w : World} {v : Value} {L : List UInt8} (hv : Bytes w v L) :
    ∀ n, (convert src dst v).run P (w.drewN n) = .ok (.string (strB L)) (w.drewN n) := fun n => run_text hs he hd (hv.quiet ((Upd.refl none' w).drewN n))
end Go.Sub
namespace Go.Proofs.Ytimkbpcdbbdjlaa
open Go.RowKit Go.Sub Go.ChangeMaps
abbrev one (c : Con) : CT := [(1, c)]
theorem one_feed (c : Con) (b : List UInt8) : feedS (one c) 1 b = if c.ended = true then (one c, 0) else (one { c with inn := c.inn ++ b.take (min b.length (512 - c.inn.length)) }, min b.length (512 - c.inn.length)) := by
  simp [feedS, mget, mset]
theorem one_half (c : Con) : halfS (one c) 1 = (one { c with ended := true }, !c.ended) := by simp [halfS, mget, mset]
theorem one_rest (c : Con) (n : Int) : restS (one c) 1 n = (one { c with inn := c.inn.drop (min n.toNat c.inn.length) }, c.inn.take (min n.toNat c.inn.length)) := by simp [restS, mget, mset]
theorem one_say (c : Con) (b : List UInt8) : sayS (one c) 1 b = if b.length ≤ 1024 - c.out.length then (one { c with out := c.out ++ b }, true) else (one c, false) := by simp [sayS, mget, mset]
theorem one_budget (c : Con) (n : Int) : budgetS (one c) 1 n = if n < 0 ∨ 1073741824 < n then (one c, false) else (one { c with credit := min (c.credit + n) 1073741824 }, true) := by simp [budgetS, mget, mset]
theorem one_flush (c : Con) : flushS (one c) 1 = (one { c with out := c.out.drop (min c.credit.toNat c.out.length), credit := c.credit - (min c.credit.toNat c.out.length : Nat) }, c.out.take (min c.credit.toNat c.out.length)) := by simp [flushS, mget, mset]
theorem one_of {α : Type} (c : Con) (z : α) (f : Con → α) : ofC (one c) 1 z f = f c := by simp [ofC, mget]
theorem one_inv {c : Con} (h : ConOk c) : TInv 1 (one c) := ⟨fun x hx => by simp at hx; subst hx; exact h, by simp, by simp, by omega, by simp⟩
theorem open_one (addr : Int) : openS 0 [] addr = (1, one ⟨addr, [], [], 0, false⟩, 1, 0) := by simp [openS]
namespace connHalf
set_option maxHeartbeats 16000000 in
set_option maxRecDepth 100000 in
theorem walk {W : World} (vb : Value) (s : List UInt8) (hs : Bytes W vb s) (_hsl : s.length ≤ maxLen) (vm : Value) (m : List UInt8) (hm : Bytes W vm m) (_hml : m.length ≤ maxLen) (vt : Value) (t : List UInt8) (ht : Bytes W vt t) (_htl : t.length ≤ maxLen)
    (cr : Int) (hcr : (Lit.int .u16 cr).wf = true) :
    Calls Try.prog 7 #[vb, vm, vt, .int .u16 cr] W (Ret (.bool true) fun W' => Quiet W W') := by
  have hc16 : 0 ≤ cr ∧ cr ≤ 65535 := by simpa [Lit.wf, IntKind.min, IntKind.max, IntKind.signed, IntKind.bits] using hcr
  obtain ⟨c0, c1⟩ := hc16
  clear hcr
  obtain ⟨ab, cb, rfl, hcb⟩ := hs.slice
  obtain ⟨am, cm, rfl, hcm⟩ := hm.slice
  obtain ⟨at', ct, rfl, hct⟩ := ht.slice
  unfold maxLen at _hsl _hml _htl
  have hs := Keep.mk hs
  have hm := Keep.mk hm
  have ht := Keep.mk ht
  go_enter Try.func7, Try.ntmps7
  go_wp2_with fail
  refine (head_c _).mono ?_
  rintro e w1 ⟨rfl, u1⟩
  go_wp2_with fail
  refine (connnew_c _).mono ?_
  rintro e w2 ⟨b, rfl, F2, t2, u2⟩
  have U2 := Upd.trans u1 u2
  clear u1 u2
  by_cases hbig : 3000 < s.length ∨ 3000 < m.length ∨ 3000 < t.length
  · by_cases h1 : 3000 < s.length
    · have e1 : decide ((3000 : Int) < (s.length : Int)) = true := by simp; omega
      clear h1 hbig
      go_wp2_with fail
      go_ret
      exact ⟨rfl, U2.quiet⟩
    · have e1 : decide ((3000 : Int) < (s.length : Int)) = false := by simp; omega
      by_cases h2 : 3000 < m.length
      · have e2 : decide ((3000 : Int) < (m.length : Int)) = true := by simp; omega
        clear h1 hbig h2
        go_wp2_with fail
        go_ret
        exact ⟨rfl, U2.quiet⟩
      · have e2 : decide ((3000 : Int) < (m.length : Int)) = false := by simp; omega
        have e3 : decide ((3000 : Int) < (t.length : Int)) = true := by simp; omega
        clear h1 hbig h2
        go_wp2_with fail
        go_ret
        exact ⟨rfl, U2.quiet⟩
  · have e1 : decide ((3000 : Int) < (s.length : Int)) = false := by simp; omega
    have e2 : decide ((3000 : Int) < (m.length : Int)) = false := by simp; omega
    have e3 : decide ((3000 : Int) < (t.length : Int)) = false := by simp; omega
    have hs3 : s.length ≤ 3000 := by omega
    have hm3 : m.length ≤ 3000 := by omega
    have ht3 : t.length ≤ 3000 := by omega
    clear hbig
    have S2 := Asrt.stars_one t2
    clear t2
    -- what the calls come to
    obtain ⟨n, hn⟩ : ∃ n : Nat, n = min s.length 512 := ⟨_, rfl⟩
    have q1 : feedS (one ⟨3, [], [], 0, false⟩) 1 s = (one ⟨3, s.take n, [], 0, false⟩, n) := by rw [one_feed]; simp [hn]
    have q2 : halfS (one ⟨3, s.take n, [], 0, false⟩) 1 = (one ⟨3, s.take n, [], 0, true⟩, true) := one_half _
    have q3 : halfS (one ⟨3, s.take n, [], 0, true⟩) 1 = (one ⟨3, s.take n, [], 0, true⟩, false) := one_half _
    have q4 : feedS (one ⟨3, s.take n, [], 0, true⟩) 1 m = (one ⟨3, s.take n, [], 0, true⟩, 0) := one_feed _ _
    have hln : (s.take n).length = n := by rw [List.length_take]; omega
    have q5 : restS (one ⟨3, s.take n, [], 0, true⟩) 1 3000 = (one ⟨3, [], [], 0, true⟩, s.take n) := by
      rw [one_rest]; simp only [hln]
      rw [show min (3000 : Int).toNat n = n from by omega, List.drop_of_length_le (by omega), List.take_of_length_le (by omega)]
    have ez : min (s.length : Int) 512 = (n : Int) := by omega
    have ezn : ((n : Int) != (n : Int)) = false := by simp
    have hno : ConOk ⟨3, s.take n, [], 0, true⟩ := ⟨by simp, by simp, by simp only; omega, by simp⟩
    have hnb : n ≤ s.length := by omega
    have Q := Keep.mk (And.intro q1 (And.intro q2 (And.intro q3 (And.intro q4 q5))))
    have HL := Keep.mk hln
    clear q1 q2 q3 q4 q5 hn hln
    go_wp2_with fail
    refine (on_head S2 (A' := tabT b 1 (one ⟨3, [], [], 0, false⟩)) fun Fi h _ => by have := open_c h rfl (by decide) (by decide) 3; rw [open_one] at this; exact this).mono ?_
    rintro e w3 ⟨rfl, F3, S3, u3⟩
    have U3 := U2.trans u3
    clear u3 S2 U2
    go_wp2_with fail
    obtain ⟨hv, hd⟩ := hs.out.old U3
    refine (on_head S3 (A' := tabT b 1 (one ⟨3, s.take n, [], 0, false⟩)) fun Fi h hsub => by have := feed_c h 1 hv (fun g hg hn hF => hd g hg hn (hsub _ hF)) (by omega); rw [Q.out.1] at this; exact this).mono ?_
    rintro e w4 ⟨rfl, F4, S4, u4⟩
    have U4 := U3.trans u4
    clear u4 S3 U3 hv hd
    go_wp2_with fail
    refine (on_head_quiet S4 fun Fi h => by have := ended_c h 1; rw [one_of] at this; exact this).mono ?_
    rintro e w5 ⟨rfl, S5, u5⟩
    have U5 := U4.trans u5
    clear u5 S4 U4
    go_wp2_with fail
    refine (on_head S5 (A' := tabT b 1 (one ⟨3, s.take n, [], 0, true⟩)) fun Fi h _ => by have := half_c h 1; rw [Q.out.2.1] at this; exact this).mono ?_
    rintro e w6 ⟨rfl, F6, S6, u6⟩
    have U6 := U5.trans u6
    clear u6 S5 U5
    go_wp2_with fail
    refine (on_head S6 (A' := tabT b 1 (one ⟨3, s.take n, [], 0, true⟩)) fun Fi h _ => by have := half_c h 1; rw [Q.out.2.2.1] at this; exact this).mono ?_
    rintro e w7 ⟨rfl, F7, S7, u7⟩
    have U7 := U6.trans u7
    clear u7 S6 U6
    go_wp2_with fail
    obtain ⟨hv, hd⟩ := hm.out.old U7
    refine (on_head S7 (A' := tabT b 1 (one ⟨3, s.take n, [], 0, true⟩)) fun Fi h hsub => by have := feed_c h 1 hv (fun g hg hn hF => hd g hg hn (hsub _ hF)) (by omega); rw [Q.out.2.2.2.1] at this; exact this).mono ?_
    rintro e w8 ⟨rfl, F8, S8, u8⟩
    have U8 := U7.trans u8
    clear u8 S7 U7 hv hd
    go_wp2_with fail
    refine (on_head_quiet S8 fun Fi h => by have := came_c h 1; rw [one_of] at this; simp only [HL.out] at this; exact this).mono ?_
    rintro e w9 ⟨rfl, S9, u9⟩
    have U9 := U8.trans u9
    clear u9 S8 U8
    go_wp2_with fail
    refine (on_head_new (T := fun v => v) (X := fun v => bytesT v (s.take n)) (A' := tabT b 1 (one ⟨3, [], [], 0, true⟩)) S9 fun Fi h _ => by have := rest_c h 1 3000; rw [Q.out.2.2.2.2] at this; exact this).mono ?_
    rintro e wA ⟨vA, rfl, FA, SA, uA⟩
    have UA := U9.trans uA
    obtain ⟨_, hq, _⟩ := Asrt.stars_get SA 1 rfl
    obtain ⟨aA, cA, rfl, _⟩ := hq.1.slice
    rw [HL.out] at SA
    clear uA S9 U9 hq
    obtain ⟨hv, hd⟩ := ht.out.old UA
    by_cases hfit : t.length ≤ 1024
    · have q6 : sayS (one ⟨3, [], [], 0, true⟩) 1 t = (one ⟨3, [], t, 0, true⟩, true) := by rw [one_say]; simp [hfit]
      have ef : decide ((t.length : Int) ≤ 1024) = true := by simp; omega
      have q7 : budgetS (one ⟨3, [], t, 0, true⟩) 1 cr = (one ⟨3, [], t, cr, true⟩, true) := by
        rw [one_budget, if_neg (by omega)]
        simp; omega
      obtain ⟨k, hk⟩ : ∃ k : Nat, k = min cr.toNat t.length := ⟨_, rfl⟩
      have q8 : flushS (one ⟨3, [], t, cr, true⟩) 1 = (one ⟨3, [], t.drop k, cr - (k : Nat), true⟩, t.take k) := by rw [one_flush, hk]
      have o6 : AllOk (one ⟨3, [], t, 0, true⟩) := (one_inv ⟨by simp, by simp, by simp, by simpa using hfit⟩).ok
      have o7 : AllOk (one ⟨3, [], t, cr, true⟩) := (one_inv ⟨by simpa using c0, by simp only; omega, by simp, by simpa using hfit⟩).ok
      have ek : min (t.length : Int) cr = (k : Int) := by omega
      have hkt : k ≤ t.length := by omega
      have hkl : (t.take k).length = k := by rw [List.length_take]; omega
      have Q2 := Keep.mk (And.intro q6 (And.intro q7 q8))
      have HK := Keep.mk hkl
      clear q6 q7 q8 hk hfit hkl
      go_wp2_with fail
      refine (on_head SA (A' := tabT b 1 (one ⟨3, [], t, 0, true⟩)) fun Fi h hsub => by have := say_c h 1 hv (fun g hg hn hF => hd g hg hn (hsub _ hF)) (by omega); rw [Q2.out.1] at this; exact this).mono ?_
      rintro e wB ⟨rfl, FB, SB, uB⟩
      have UB := UA.trans uB
      clear uB SA UA hv hd
      go_wp2_with fail
      refine (on_head SB (A' := tabT b 1 (one ⟨3, [], t, cr, true⟩)) fun Fi h _ => by have := budget_c h o6 1 cr; rw [Q2.out.2.1] at this; exact this).mono ?_
      rintro e wC ⟨rfl, FC, SC, uC⟩
      have UC := UB.trans uC
      clear uC SB UB
      go_wp2_with fail
      refine (on_head_new (T := fun v => v) (X := fun v => bytesT v (t.take k)) (A' := tabT b 1 (one ⟨3, [], t.drop k, cr - (k : Nat), true⟩)) SC fun Fi h _ => by have := flush_c h o7 1; rw [Q2.out.2.2] at this; exact this).mono ?_
      rintro e wD ⟨vD, rfl, FD, SD, uD⟩
      have UD := UC.trans uD
      obtain ⟨_, hq, _⟩ := Asrt.stars_get SD 1 rfl
      obtain ⟨aD, cD, rfl, _⟩ := hq.1.slice
      have tD := text_drewN (dst := 9) Try.underlying22 Try.underlying5 Try.underlying9 hq.1
      obtain ⟨_, hq2, _⟩ := Asrt.stars_get SD 2 rfl
      have tA := text_drewN (dst := 9) Try.underlying22 Try.underlying5 Try.underlying9 hq2.1
      have bs := (hs.out.old UD).1.take hnb
      have bt := (ht.out.old UD).1.take hkt
      have tS := text_drewN (dst := 9) Try.underlying22 Try.underlying5 Try.underlying9 bs
      have tT := text_drewN (dst := 9) Try.underlying22 Try.underlying5 Try.underlying9 bt
      have cS := run_cut_to (P := Try.prog) (t := 22) (e := 5) Try.underlying22 (by kernel_rfl) ab s.length cb n (by omega)
      have cT := run_cut_to (P := Try.prog) (t := 22) (e := 5) Try.underlying22 (by kernel_rfl) at' t.length ct k (by omega)
      have CE := Keep.mk (fun q : Nat => by have := ended_c (Asrt.drewN (Asrt.tab_of SD).choose_spec q) 1; rw [one_of] at this; exact this)
      rw [HK.out] at tD
      generalize strB (s.take n) = sn at *
      generalize strB (t.take k) = tk at *
      clear hq hq2 bs bt SC UC uD SD
      go_wp2_with fail
      go_quiet ((go_at_call 31; exact Calls.quiet_of (CE.out _)))
      go_wp2_with fail
      go_quiet (fail)
      go_wp2_with fail
      go_ret
      first | exact ⟨rfl, (UD.drewN _).quiet⟩ | exact ⟨rfl, ((UD.drewN _).drewN _).quiet⟩
    · have q6 : sayS (one ⟨3, [], [], 0, true⟩) 1 t = (one ⟨3, [], [], 0, true⟩, false) := by rw [one_say]; simp [hfit]
      have ef : decide ((t.length : Int) ≤ 1024) = false := by simp; omega
      have q7 : budgetS (one ⟨3, [], [], 0, true⟩) 1 cr = (one ⟨3, [], [], cr, true⟩, true) := by
        rw [one_budget, if_neg (by omega)]
        simp; omega
      have q8 : flushS (one ⟨3, [], [], cr, true⟩) 1 = (one ⟨3, [], [], cr, true⟩, []) := by rw [one_flush]; simp
      have o6 : AllOk (one ⟨3, [], [], 0, true⟩) := (one_inv ⟨by simp, by simp, by simp, by simp⟩).ok
      have o7 : AllOk (one ⟨3, [], [], cr, true⟩) := (one_inv ⟨by simpa using c0, by simp only; omega, by simp, by simp⟩).ok
      have Q2 := Keep.mk (And.intro q6 (And.intro q7 q8))
      clear q6 q7 q8 hfit
      go_wp2_with fail
      refine (on_head SA (A' := tabT b 1 (one ⟨3, [], [], 0, true⟩)) fun Fi h hsub => by have := say_c h 1 hv (fun g hg hn hF => hd g hg hn (hsub _ hF)) (by omega); rw [Q2.out.1] at this; exact this).mono ?_
      rintro e wB ⟨rfl, FB, SB, uB⟩
      have UB := UA.trans uB
      clear uB SA UA hv hd
      go_wp2_with fail
      refine (on_head SB (A' := tabT b 1 (one ⟨3, [], [], cr, true⟩)) fun Fi h _ => by have := budget_c h o6 1 cr; rw [Q2.out.2.1] at this; exact this).mono ?_
      rintro e wC ⟨rfl, FC, SC, uC⟩
      have UC := UB.trans uC
      clear uC SB UB
      go_wp2_with fail
      refine (on_head_new (T := fun v => v) (X := fun v => bytesT v []) (A' := tabT b 1 (one ⟨3, [], [], cr, true⟩)) SC fun Fi h _ => by have := flush_c h o7 1; rw [Q2.out.2.2] at this; exact this).mono ?_
      rintro e wD ⟨vD, rfl, FD, SD, uD⟩
      have UD := UC.trans uD
      obtain ⟨_, hq, _⟩ := Asrt.stars_get SD 1 rfl
      obtain ⟨aD, cD, rfl, _⟩ := hq.1.slice
      simp only [List.length_nil] at SD
      obtain ⟨_, hq2, _⟩ := Asrt.stars_get SD 2 rfl
      have tA := text_drewN (dst := 9) Try.underlying22 Try.underlying5 Try.underlying9 hq2.1
      have bs := (hs.out.old UD).1.take hnb
      have tS := text_drewN (dst := 9) Try.underlying22 Try.underlying5 Try.underlying9 bs
      have cS := run_cut_to (P := Try.prog) (t := 22) (e := 5) Try.underlying22 (by kernel_rfl) ab s.length cb n (by omega)
      have CE := Keep.mk (fun q : Nat => by have := ended_c (Asrt.drewN (Asrt.tab_of SD).choose_spec q) 1; rw [one_of] at this; exact this)
      generalize strB (s.take n) = sn at *
      clear hq hq2 bs SC UC uD SD
      go_wp2_with fail
      go_quiet ((go_at_call 31; exact Calls.quiet_of (CE.out _)))
      go_wp2_with fail
      go_ret
      first | exact ⟨rfl, (UD.drewN _).quiet⟩ | exact ⟨rfl, ((UD.drewN _).drewN _).quiet⟩
end connHalf
end Go.Proofs.Ytimkbpcdbbdjlaa
