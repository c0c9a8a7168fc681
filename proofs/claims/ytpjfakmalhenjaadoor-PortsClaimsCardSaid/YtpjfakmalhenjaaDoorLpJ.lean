/- The book of leases: own. -/
import Derived.Test.YtpjfakmalhenjaaDoorLpI
set_option linter.unusedVariables false
namespace Go.Proofs.YtpjfakmalhenjaaDoor
open Go.RowKit Go.Sub Go.ChangeMaps
/-- what 'own' says: the error -/
def ownErr (g : Int) (M : LT) (tenant nm : ByteArray) (epoch now : Int) : Int := if clockB now = false then 1 else match mget M nm with
  | none => 3
  | some x => if statS g x now ≠ 2 then 3 else if (x.tenant.toList == tenant.toList) = false then 131 else if x.epoch ≠ epoch then 132 else 0
set_option maxHeartbeats 4000000 in
set_option maxRecDepth 100000 in
theorem own_bad {b : Nat} {g m e : Int} {M : LT} {w : World} {F : Fp} (hM : (bookT b g m e M).on w F) (g0 : 0 ≤ g) (g1 : g ≤ 1073741824) (ht : TilsOk M) (tenant nm : ByteArray) (epoch now : Int) (v : Value) {er : Int} (he : ownErr g M tenant nm epoch now = er) (hne : er ≠ 0) :
    Calls Tryd.prog 37 #[.pointer (some ⟨b, 0, none⟩), .string tenant, .string nm, .int .i64 epoch, .int .i64 now, v] w (Ret (.int .i64 er) fun w' => ∃ n, w' = w.drewN n) := by
  have CK := Keep.mk (fun w' : World => clock_c (w := w') now)
  unfold ownErr at he
  obtain ⟨mb, k0, k1, k2, k3, hb, hmb, hf, hFb, hFm, ⟨hn, hl⟩ | ⟨cb, x, Fi, hs, hl, hC, hsub, _⟩⟩ := book_open hM nm
  · have C := Keep.mk (at_none k3 hl now)
    rw [hn] at he
    clear hl k0 k1 k2 k3
    cases hck : clockB now with
    | false =>
      rw [hck] at CK he
      obtain rfl : er = 1 := by simpa using he.symm
      go_enter Tryd.func37, Tryd.ntmps37
      go_wp2_with fail
      refine C.out.mono ?_
      rintro e1 w1 ⟨rfl, rfl⟩
      go_wp2_with fail
      refine (CK.out _).mono ?_
      rintro e1 w1 ⟨rfl, rfl⟩
      go_wp2_with fail
      go_ret
      exact ⟨rfl, 0, rfl⟩
    | true =>
      rw [hck] at CK he
      obtain rfl : er = 3 := by simpa using he.symm
      go_enter Tryd.func37, Tryd.ntmps37
      go_wp2_with fail
      refine C.out.mono ?_
      rintro e1 w1 ⟨rfl, rfl⟩
      go_wp2_with fail
      refine (CK.out _).mono ?_
      rintro e1 w1 ⟨rfl, rfl⟩
      go_wp2_with fail
      go_ret
      exact ⟨rfl, 0, rfl⟩
  · have htx := ht _ (mget_mem hs)
    obtain ⟨hcb, hcf, hcl⟩ := blk_facts hC.1
    have C := Keep.mk (at_some k0 k3 hl (hcb 4) (hcb 5) g0 g1 htx now)
    rw [hs] at he
    have q1 := hcb 1
    have q3 := hcb 3
    obtain ⟨x0, xt, x2, xe, x4, x5⟩ := x
    simp only at q1 q3 he
    clear hl k0 k1 k2 k3 hC hcb hcf
    generalize statS g ⟨x0, xt, x2, xe, x4, x5⟩ now = st at *
    cases hck : clockB now with
    | false =>
      rw [hck] at CK he
      obtain rfl : er = 1 := by simpa using he.symm
      clear he
      go_enter Tryd.func37, Tryd.ntmps37
      go_wp2_with fail
      refine C.out.mono ?_
      rintro e1 w1 ⟨rfl, n, rfl⟩
      go_wp2_with fail
      refine (CK.out _).mono ?_
      rintro e1 w1 ⟨rfl, rfl⟩
      go_wp2_with fail
      go_ret
      exact ⟨rfl, n, rfl⟩
    | true =>
      rw [hck, if_neg (by simp)] at he
      rw [hck] at CK
      by_cases hst : st = 2
      · rw [if_neg (by simpa using hst)] at he
        subst hst
        cases htn : (xt.toList == tenant.toList) with
        | false =>
          rw [if_pos htn] at he
          obtain rfl : er = 131 := he.symm
          clear he
          go_enter Tryd.func37, Tryd.ntmps37
          go_wp2_with fail
          refine C.out.mono ?_
          rintro e1 w1 ⟨rfl, n, rfl⟩
          go_wp2_with fail
          refine (CK.out _).mono ?_
          rintro e1 w1 ⟨rfl, rfl⟩
          go_wp2_with fail
          go_ret
          exact ⟨rfl, n, rfl⟩
        | true =>
          rw [if_neg (by simp [htn])] at he
          by_cases hep : xe = epoch
          · rw [if_neg (by simpa using hep)] at he
            exact absurd he.symm hne
          · rw [if_pos hep] at he
            obtain rfl : er = 132 := he.symm
            have ee : (xe != epoch) = true := by simp [hep]
            clear he hep
            go_enter Tryd.func37, Tryd.ntmps37
            go_wp2_with fail
            refine C.out.mono ?_
            rintro e1 w1 ⟨rfl, n, rfl⟩
            go_wp2_with fail
            refine (CK.out _).mono ?_
            rintro e1 w1 ⟨rfl, rfl⟩
            go_wp2_with fail
            go_ret
            exact ⟨rfl, n, rfl⟩
      · rw [if_pos hst] at he
        obtain rfl : er = 3 := he.symm
        have es : (st != 2) = true := by simp [hst]
        clear he hst
        go_enter Tryd.func37, Tryd.ntmps37
        go_wp2_with fail
        refine C.out.mono ?_
        rintro e1 w1 ⟨rfl, n, rfl⟩
        go_wp2_with fail
        refine (CK.out _).mono ?_
        rintro e1 w1 ⟨rfl, rfl⟩
        go_wp2_with fail
        go_ret
        exact ⟨rfl, n, rfl⟩
set_option maxHeartbeats 4000000 in
set_option maxRecDepth 100000 in
theorem own_ok {b : Nat} {g m e : Int} {M : LT} {w : World} {F : Fp} (hM : (bookT b g m e M).on w F) (g0 : 0 ≤ g) (g1 : g ≤ 1073741824) (ht : TilsOk M) (tenant nm : ByteArray) (epoch now : Int) {fd : Nat} {cd : Array Value} (entd : Enters fd) (he : ownErr g M tenant nm epoch now = 0) (Q : World → Prop)
    (CD : ∀ (n cb : Nat) (x : Lz), (bookT b g m e M).on (w.drewN n) F → LAt b g m e M (w.drewN n) F nm cb x → mget M nm = some x → clockB now = true → Calls Tryd.prog fd (#[.pointer (some ⟨cb, 0, none⟩)] ++ cd) (w.drewN n) (Ret (.tuple #[]) Q)) :
    Calls Tryd.prog 37 #[.pointer (some ⟨b, 0, none⟩), .string tenant, .string nm, .int .i64 epoch, .int .i64 now, .func (.func fd) #[] cd] w (Ret (.int .i64 0) Q) := by
  have CK := Keep.mk (fun w' : World => clock_c (w := w') now)
  unfold ownErr at he
  cases hck : clockB now with
  | false => rw [hck] at he; simp at he
  | true =>
    rw [hck, if_neg (by simp)] at he
    rw [hck] at CK
    obtain ⟨mb, k0, k1, k2, k3, hb, hmb, hf, hFb, hFm, ⟨hn, hl⟩ | ⟨cb, x, Fi, hs, hl, hC, hsub, hgo⟩⟩ := book_open hM nm
    · rw [hn] at he; simp at he
    · rw [hs] at he
      simp only at he
      have hst : statS g x now = 2 := Classical.byContradiction fun h => by rw [if_pos h] at he; simp at he
      rw [if_neg (by simpa using hst)] at he
      have htn : (x.tenant.toList == tenant.toList) = true := by
        cases h : (x.tenant.toList == tenant.toList) with
        | true => rfl
        | false => rw [if_pos h] at he; simp at he
      rw [if_neg (by simp [htn])] at he
      have hep : x.epoch = epoch := Classical.byContradiction fun h => by rw [if_pos h] at he; simp at he
      have htx := ht _ (mget_mem hs)
      obtain ⟨hcb, hcf, hcl⟩ := blk_facts hC.1
      have C := Keep.mk (at_some k0 k3 hl (hcb 4) (hcb 5) g0 g1 htx now)
      rw [hst] at C
      have q1 := hcb 1
      have q3 := hcb 3
      have CX := Keep.mk (fun n => CD n cb x (Asrt.drewN hM n) (lat_of (Asrt.drewN hM n) (show (w.drewN n).cell? _ = _ from k3) (fun W hW c => hl W hW c) hs) hs hck)
      have ent1 := entd (#[.pointer (some ⟨cb, 0, none⟩)] ++ cd)
      obtain ⟨x0, xt, x2, xe, x4, x5⟩ := x
      simp only at q1 q3 htn hep
      subst hep
      clear hl k0 k1 k2 k3 hC hcb hcf he CD hgo hst
      go_enter Tryd.func37, Tryd.ntmps37
      go_wp2_with fail
      refine C.out.mono ?_
      rintro e1 w1 ⟨rfl, n, rfl⟩
      go_wp2_with fail
      refine (CK.out _).mono ?_
      rintro e1 w1 ⟨rfl, rfl⟩
      have CX := CX.out n
      go_wp2_with fail
      refine CX.mono ?_
      rintro e1 w2 ⟨rfl, hQ⟩
      go_wp2_with fail
      go_ret
      exact ⟨rfl, hQ⟩
end Go.Proofs.YtpjfakmalhenjaaDoor
