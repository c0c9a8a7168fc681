/- ConnPlays: are both alike? What stays true. -/
import Derived.Test.YtimkbpcdbbdjlaaCrM
set_option linter.unusedVariables false
namespace Go.Proofs.Ytimkbpcdbbdjlaa.Cr
open Go.RowKit Go.Sub Go.ChangeMaps
def Rises (M : CT) : Prop := (M.map (·.1)).Pairwise (· < ·)
theorem rises_set {M : CT} (h : Rises M) {id : Int} {c : Con} (hc : mget M id = some c) (c' : Con) : Rises (mset M id c') := by unfold Rises; rw [mset_keys hc]; exact h
theorem rises_does {lt : Int} {M : CT} (hI : TInv lt M) (h : Rises M) (x : COp) : Rises (doesS lt M x).2 := by
  unfold doesS
  split
  · simp only
    unfold openS
    split
    · exact h
    · unfold Rises
      rw [List.map_append, List.pairwise_append]
      refine ⟨h, by simp, fun a ha b hb => ?_⟩
      simp only [List.map_cons, List.map_nil, List.mem_singleton] at hb
      subst hb
      obtain ⟨y, hy, rfl⟩ := List.mem_map.1 ha
      have := hI.rng y hy
      omega
  · simp only
    split
    · exact List.Pairwise.sublist ((mdel_sub M x.id).map _) h
    · split
      · unfold feedS; split
        · exact h
        · rename_i c hc; split
          · exact h
          · exact rises_set h hc _
      · split
        · unfold nextS; split
          · exact h
          · rename_i c hc; exact rises_set h hc _
        · split
          · unfold restS; split
            · exact h
            · rename_i c hc; exact rises_set h hc _
          · split
            · unfold sayS; split
              · exact h
              · rename_i c hc; split
                · exact rises_set h hc _
                · exact h
            · split
              · unfold budgetS; split
                · exact h
                · rename_i c hc; split
                  · exact h
                  · exact rises_set h hc _
              · split
                · unfold flushS; split
                  · exact h
                  · rename_i c hc; exact rises_set h hc _
                · unfold halfS; split
                  · exact h
                  · rename_i c hc; exact rises_set h hc _
theorem keys_same {M : CT} (h : Rises M) : keysOf (M.map (·.1)) = M.map (·.1) := by
  unfold keysOf
  exact List.mergeSort_of_pairwise (h.imp fun hab => by simp; omega)
theorem tinv_does {lt : Int} {M : CT} (h : TInv lt M) (x : COp) : TInv (doesS lt M x).1 (doesS lt M x).2 := by
  unfold doesS
  split
  · exact h.opens _
  · simp only
    split
    · exact h.del _
    · split
      · exact h.feed _ _
      · split
        · exact h.next _
        · split
          · exact h.rest _ _
          · split
            · exact h.say _ _
            · split
              · exact h.budget _ _
              · split
                · exact h.flush _
                · exact h.half _
theorem last_does (lt : Int) (M : CT) (x : COp) : lt ≤ (doesS lt M x).1 ∧ (doesS lt M x).1 ≤ lt + 1 := by
  unfold doesS
  split
  · exact openS_le lt M _
  · simp only; omega
set_option maxHeartbeats 4000000 in
set_option maxRecDepth 100000 in
theorem same_one {b b2 : Nat} {lt : Int} {M : CT} {l : List Asrt} {w : World} {F : Fp} (hS : (Asrt.stars (tabT b lt M :: crT b2 lt M :: l)).on w F) (hI : TInv lt M) (id : Int) :
    Calls Try.prog 37 #[.pointer (some ⟨b, 0, none⟩), .pointer (some ⟨b2, 0, none⟩), .int .i64 id] w (Ret (.bool true) fun w' => (Asrt.stars (tabT b lt M :: crT b2 lt M :: l)).on w' F ∧ Upd F F w w') := by
  have HI := Keep.mk hI
  have U0 := Upd.refl F w
  clear hI
  go_enter Try.func37, Try.ntmps37
  go_wp2_with fail
  refine (on_head_quiet hS fun Fi h => has_c h id).mono ?_
  rintro e w1 ⟨rfl, S1, u1⟩
  have U1 := U0.trans u1
  clear hS U0 u1
  go_wp2_with fail
  refine (on_snd_quiet S1 fun Fi h => rhas_c h (few6 HI.out) id).mono ?_
  rintro e w2 ⟨rfl, S2, u2⟩
  have U2 := U1.trans u2
  clear S1 U1 u2
  go_wp2_with fail
  refine (on_head_quiet S2 fun Fi h => addr_c h id).mono ?_
  rintro e w3 ⟨rfl, S3, u3⟩
  have U3 := U2.trans u3
  clear S2 U2 u3
  go_wp2_with fail
  refine (on_snd_quiet S3 fun Fi h => raddr_c h (few6 HI.out) id).mono ?_
  rintro e w4 ⟨rfl, S4, u4⟩
  have U4 := U3.trans u4
  clear S3 U3 u4
  go_wp2_with fail
  refine (on_head_quiet S4 fun Fi h => came_c h id).mono ?_
  rintro e w5 ⟨rfl, S5, u5⟩
  have U5 := U4.trans u5
  clear S4 U4 u5
  go_wp2_with fail
  refine (on_snd_quiet S5 fun Fi h => rcame_c h (few6 HI.out) id).mono ?_
  rintro e w6 ⟨rfl, S6, u6⟩
  have U6 := U5.trans u6
  clear S5 U5 u6
  go_wp2_with fail
  refine (on_head_quiet S6 fun Fi h => waits_c h id).mono ?_
  rintro e w7 ⟨rfl, S7, u7⟩
  have U7 := U6.trans u7
  clear S6 U6 u7
  go_wp2_with fail
  refine (on_snd_quiet S7 fun Fi h => rwaits_c h (few6 HI.out) id).mono ?_
  rintro e w8 ⟨rfl, S8, u8⟩
  have U8 := U7.trans u8
  clear S7 U7 u8
  go_wp2_with fail
  refine (on_head_quiet S8 fun Fi h => roomT_c h id).mono ?_
  rintro e w9 ⟨rfl, S9, u9⟩
  have U9 := U8.trans u9
  clear S8 U8 u9
  go_wp2_with fail
  refine (on_snd_quiet S9 fun Fi h => rroom_c h (few6 HI.out) id (fun c hc => (oks HI.out id c hc).lo)).mono ?_
  rintro e w10 ⟨rfl, S10, u10⟩
  have U10 := U9.trans u10
  clear S9 U9 u10
  go_wp2_with fail
  refine (on_head_quiet S10 fun Fi h => credit_c h id).mono ?_
  rintro e w11 ⟨rfl, S11, u11⟩
  have U11 := U10.trans u11
  clear S10 U10 u11
  go_wp2_with fail
  refine (on_snd_quiet S11 fun Fi h => rcredit_c h (few6 HI.out) id).mono ?_
  rintro e w12 ⟨rfl, S12, u12⟩
  have U12 := U11.trans u12
  clear S11 U11 u12
  go_wp2_with fail
  refine (on_head_quiet S12 fun Fi h => ended_c h id).mono ?_
  rintro e w13 ⟨rfl, S13, u13⟩
  have U13 := U12.trans u13
  clear S12 U12 u13
  go_wp2_with fail
  refine (on_snd_quiet S13 fun Fi h => rended_c h (few6 HI.out) id).mono ?_
  rintro e w14 ⟨rfl, S14, u14⟩
  have U14 := U13.trans u14
  clear S13 U13 u14
  have HE := Keep.mk (And.intro S14 U14)
  clear S14 U14
  go_wp2_with fail
  go_ret
  exact ⟨rfl, HE.out⟩
theorem both_c {b b2 : Nat} {lt : Int} {M : CT} {W w : World} {F : Fp} (hS : (Asrt.stars [tabT b lt M, crT b2 lt M]).on w F) (hU : Upd none' F W w) (hI : TInv lt M) (l1 : lt ≤ 1000000) {what id n : Int} {v : Value} {s : List UInt8} (hR : Bytes W v s) (hlen : s.length ≤ 1000000) :
    Calls Try.prog 36 #[.pointer (some ⟨b, 0, none⟩), .pointer (some ⟨b2, 0, none⟩), .agg #[.int .i64 what, .int .i64 id, .int .i64 n, v]] w (BothEnds b b2 (doesS lt M ⟨what, id, n, v, s⟩) F w) := by
  by_cases h0 : what = 0
  · exact both_open hS hU hI l1 hR hlen h0
  by_cases h1 : what = 1
  · exact both_close hS hU hI l1 hR hlen h1
  by_cases h2 : what = 2
  · exact both_feed2 hS hU hI l1 hR hlen h2
  by_cases h3 : what = 3
  · exact both_feed3 hS hU hI l1 hR hlen h3
  by_cases h4 : what = 4
  · exact both_next hS hU hI l1 hR hlen h4
  by_cases h5 : what = 5
  · exact both_rest hS hU hI l1 hR hlen h5
  by_cases h6 : what = 6
  · exact both_say6 hS hU hI l1 hR hlen h6
  by_cases h7 : what = 7
  · exact both_say7 hS hU hI l1 hR hlen h7
  by_cases h8 : what = 8
  · exact both_budget hS hU hI l1 hR hlen h8
  by_cases h9 : what = 9
  · exact both_flush hS hU hI l1 hR hlen h9
  exact both_half hS hU hI l1 hR hlen ⟨h0, h1, h2, h3, h4, h5, h6, h7, h8, h9⟩
end Go.Proofs.Ytimkbpcdbbdjlaa.Cr
