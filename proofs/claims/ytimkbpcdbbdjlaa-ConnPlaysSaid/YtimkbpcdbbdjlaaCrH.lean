/- The document's connections: Next, Open. -/
import Derived.Test.YtimkbpcdbbdjlaaCrG
set_option linter.unusedVariables false
namespace Go.Proofs.Ytimkbpcdbbdjlaa.Cr
open Go.RowKit Go.Sub Go.ChangeMaps
theorem first_zero (b : List UInt8) (h : (firstS b).2.1 = 0) : (firstS b).1 = [] := by
  unfold firstS at h ⊢
  split
  · rfl
  · split
    · rfl
    · split
      · rfl
      · split
        · rfl
        · split
          · rfl
          · exfalso
            simp_all
theorem first_err (b : List UInt8) (h : (firstS b).2.2 ≠ 0) : (firstS b).2.1 = 0 := by
  unfold firstS at h ⊢
  split
  · rfl
  · split
    · rfl
    · split
      · rfl
      · split
        · rfl
        · split
          · rfl
          · exfalso
            simp_all
theorem first_e (b : List UInt8) : 0 ≤ (firstS b).2.2 := by
  unfold firstS
  split
  · simp
  · split
    · simp
    · split
      · simp
      · split
        · simp
        · split
          · simp
          · simp
theorem star_drop {X A : Asrt} {w : World} {F : Fp} (h : (Asrt.star X A).on w F) : ∃ F', A.on w F' ∧ ∀ k, F' k → F k := by
  obtain ⟨Fa, Fb, ha, hb, hd, rfl⟩ := h
  exact ⟨Fb, hb, fun k hk => .inr hk⟩
def RNEnds (b : Nat) (last : Int) (M' : List (Int × Con)) (s : List UInt8) (is : Bool) (er : Int) (F : Fp) (w : World) (e : Ending) (w' : World) : Prop :=
  ∃ v, Ret (.tuple #[v, .bool is, .int .i64 er]) (fun w' => ∃ F', (Asrt.star (row 5 1 encB v s) (crT b last M')).on w' F' ∧ Upd F F' w w') e w'
theorem nothing_beside {b : Nat} {last : Int} {M : List (Int × Con)} {w w' : World} {F : Fp} (h : (crT b last M).on w F) (q : Quiet w w') : ∃ F', (Asrt.star (row 5 1 encB (.slice none 0 0) []) (crT b last M)).on w' F' ∧ Upd F F' w w' :=
  ⟨F, none_beside ((crT b last M).frame h q (fun _ _ h => h)), (Upd.refl F w).thenQ q⟩
set_option maxHeartbeats 2000000 in
theorem rnext_c {b : Nat} {last : Int} {M : List (Int × Con)} {w : World} {F : Fp} (hM : (crT b last M).on w F) (hl : M.length ≤ 1000000) (id : Int) (hok : ConOks M id) (hsame : ∀ c, mget M id = some c → mset M id c = M) :
    Calls Try.prog 69 #[.pointer (some ⟨b, 0, none⟩), .int .i64 id] w (RNEnds b last (nextS M id).1 (nextS M id).2.1 (nextS M id).2.2.1 (nextS M id).2.2.2 F w) := by
  have HM := Keep.mk hM
  obtain ⟨v0, L, k0, k1, hb, hf, rfl, hr, h⟩ := cr_open hM id
  have hlL : L.length ≤ 1000000 := by simpa using hl
  rcases h with ⟨h1, h2⟩ | ⟨i, x, R, hi, hx, hid, h1, hbef, hO, hclose⟩
  · have C := Keep.mk (rfind_no k0 hr hlL id h2)
    have E := Keep.mk (show nextS (L.map RE.val) id = ((L.map RE.val), [], false, 0) by unfold nextS; rw [h1])
    have KM := Keep.mk (nothing_beside HM.out (Upd.refl none' w))
    rw [E.out]
    clear hr h2 h1 hM E
    go_enter Try.func69, Try.ntmps69
    go_wp2_with fail
    refine C.out.mono ?_
    rintro e w1 ⟨rfl, rfl⟩
    go_wp2_with fail
    go_ret3
    exact ⟨_, rfl, KM.out⟩
  · have C := Keep.mk (rfind_at k0 hr hlL id hi (by rw [hx]; exact hid) hbef)
    have hcok := hok x.c h1
    obtain ⟨⟨ai, ci, ki, hbi⟩, _⟩ := rings_cells hO
    obtain ⟨g, ca, rfl, hcells, hg⟩ := open_cells hO hi
    have q2 := (hcells 2 _ rfl).1
    have hneg : decide ((i : Int) < 0) = false := by simp
    have hi0 : (0 : Int) ≤ (i : Int) := by simp
    have hiL : (i : Int) < (L.length : Int) := by omega
    have HCL := Keep.mk hclose
    have HO := Keep.mk hO
    have H1 := Keep.mk h1
    have HOK := Keep.mk hcok
    have HS := Keep.mk (hsame x.c h1)
    obtain ⟨n, hn⟩ : ∃ n, n = (firstS x.c.inn).2.1 := ⟨_, rfl⟩
    obtain ⟨s, hs⟩ : ∃ s, s = (firstS x.c.inn).1 := ⟨_, rfl⟩
    obtain ⟨er, her⟩ : ∃ er, er = (firstS x.c.inn).2.2 := ⟨_, rfl⟩
    have hle := firstS_le x.c.inn
    have he0 := first_e x.c.inn
    have hz1 : n = 0 → s = [] := fun h => by rw [hs]; exact first_zero _ (hn ▸ h)
    have hz2 : er ≠ 0 → n = 0 := fun h => by rw [hn]; exact first_err _ (her ▸ h)
    have E := Keep.mk (show nextS (L.map RE.val) id = (mset (L.map RE.val) id { x.c with inn := x.c.inn.drop n }, s, decide (0 < n), er) by unfold nextS; rw [H1.out, hn, hs, her])
    have D := rfirst_c hbi (by have := HOK.out.li; omega)
    unfold FirstR at D
    rw [← hn, ← hs, ← her] at D
    rw [← hn] at hle
    rw [← her] at he0
    have D := Keep.mk D
    rw [E.out]
    have hli := HOK.out.li
    clear hr hM hbef hid hx hcells hclose hO hcok h1 hn hs her E hbi HS
    by_cases h0 : n = 0
    · obtain rfl := hz1 h0
      subst h0
      have KM := Keep.mk (fun (W : World) (q : Quiet w W) => nothing_beside HM.out q)
      have ES := Keep.mk (show mset (L.map RE.val) id { x.c with inn := x.c.inn.drop 0 } = L.map RE.val from hsame x.c H1.out)
      rw [ES.out]
      clear hz1 hz2 hle
      go_enter Try.func69, Try.ntmps69
      go_wp2_with fail
      refine C.out.mono ?_
      rintro e w1 ⟨rfl, rfl⟩
      go_wp2_with fail
      refine D.out.mono ?_
      rintro e w2 ⟨v, rfl, F2, h2, u2⟩
      have Q2 := Keep.mk u2.quiet
      clear h2 u2
      cases her : (er != 0) with
      | true =>
        go_wp2_with fail
        go_ret3
        exact ⟨_, rfl, KM.out _ Q2.out⟩
      | false =>
        go_wp2_with fail
        go_ret3
        exact ⟨_, rfl, KM.out _ Q2.out⟩
    · have her : er = 0 := Classical.byContradiction fun h => h0 (hz2 h)
      subst her
      have h0' : ((n : Int) == 0) = false := by simp; exact h0
      have hpos : decide (0 < n) = true := by simp; omega
      have D2 := Keep.mk (fun (W : World) (Fi : Fp) (h : (rringT x.ri 512 x.c.inn).on W Fi) => rtake_c h (by omega) (n : Int) (n := n) (by simp; omega))
      rw [hpos]
      clear hz1 hz2 h0 hpos
      go_enter Try.func69, Try.ntmps69
      go_wp2_with fail
      refine C.out.mono ?_
      rintro e w1 ⟨rfl, rfl⟩
      go_wp2_with fail
      refine D.out.mono ?_
      rintro e w2 ⟨v, rfl, F2, h2, u2⟩
      obtain ⟨F3, S3, U3⟩ := Asrt.stars_new (Asrt.stars_one HO.out) h2 u2
      obtain ⟨Fo, hO3, _, hgo3⟩ := Asrt.stars_upd _ 1 _ rfl S3
      obtain ⟨kc, _, _⟩ := box_cell (i := 0) hO3 rfl
      have k0' := kc 0
      simp only [List.getElem?_toArray, List.getElem?_cons_zero] at k0'
      obtain ⟨g', ca', e', hc', _⟩ := open_cells hO3 hi
      simp only [Value.slice.injEq, Option.some.injEq, Addr.mk.injEq, and_true] at e'
      obtain ⟨rfl, _, rfl⟩ := e'
      have q2' := (hc' 2 _ rfl).1
      obtain ⟨Fi, hin, _, hgo⟩ := open_in hO3
      have D3 := Keep.mk (D2.out w2 Fi hin)
      have HG := Keep.mk hgo
      have HG3 := Keep.mk hgo3
      have HU := Keep.mk U3
      obtain ⟨a2, c2, rfl, _⟩ := row_form h2
      clear S3 U3 hO3 hgo3 kc hc' hin hgo h2 u2 D2
      go_wp2_with fail
      refine D3.out.mono ?_
      rintro e w3 ⟨v3, rfl, F4, h4, u4⟩
      obtain ⟨F5, h5, u5⟩ := HG.out w3 F4 _ _ (two_star h4) u4
      obtain ⟨F6, h6, s6⟩ := star_drop h5
      obtain ⟨F7, h7, u7⟩ := HG3.out w3 F6 _ h6 (u5.re fun k hk => u5.fp k (s6 k hk))
      have HE := Keep.mk (And.intro (two_star h7) (HU.out.trans u7))
      clear h4 u4 h5 u5 h6 s6 h7 u7
      go_wp2_with fail
      go_ret3
      exact ⟨_, rfl, F7, Asrt.star_imp (fun G hG => HCL.out _ _ _ hG) HE.out.1, HE.out.2⟩
end Go.Proofs.Ytimkbpcdbbdjlaa.Cr
