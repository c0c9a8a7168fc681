/- ConnNone: its walk. -/
import Derived.Test.YtimkbpcdbbdjlaaConnO
namespace Go.Proofs.Ytimkbpcdbbdjlaa
open Go.RowKit Go.Sub Go.ChangeMaps
/-- a table of one's own, in a world -/
structure Tab (W : World) (b : Nat) (last : Int) (M : CT) (w : World) (F : Fp) : Prop where
  mem : (tabT b last M).on w F
  upd : Upd none' F W w
  inv : TInv last M
namespace connNone
set_option maxHeartbeats 8000000 in
set_option maxRecDepth 100000 in
theorem walk {W : World} (v : Value) (L : List COp) (hL : ReadsO W v L) (hmax : L.length ≤ maxLen) (id : Int) (_hid : (Lit.int .i64 id).wf = true) (vb : Value) (s : List UInt8) (hs : Bytes W vb s) (hsl : s.length ≤ maxLen) (n : Int) (_hn : (Lit.int .i64 n).wf = true) :
    Calls Try.prog 10 #[v, .int .i64 id, vb, .int .i64 n] W (Ret (.bool true) fun W' => Quiet W W') := by
  obtain ⟨ab, cb, rfl, hcb⟩ := hs.slice
  unfold maxLen at hsl
  go_enter Try.func10, Try.ntmps10
  go_wp2_with fail
  refine (head_c _).mono ?_
  rintro e w1 ⟨rfl, u1⟩
  go_wp2_with fail
  refine (connnew_c _).mono ?_
  rintro e w2 ⟨b, rfl, F2, t2, u2⟩
  have U2 := Upd.trans u1 u2
  have hL2 : ReadsO w2 v L := ⟨hL.1.upd U2 fun _ _ h => h, fun o ho => (hL.2 o ho).upd U2 fun _ _ _ h => h⟩
  go_wp2_with fail
  refine (great_c hL2 hmax).mono ?_
  rintro e w3 ⟨r, rfl, rfl, hr⟩
  cases r with
  | true =>
    clear hr
    go_wp2_with fail
    go_ret
    exact ⟨rfl, U2.quiet⟩
  | false =>
    obtain ⟨hn, hb⟩ := hr rfl
    clear hr
    have hlen : L.length ≤ 400 := hn
    by_cases hbig : 3000 < s.length
    · have e1 : decide ((3000 : Int) < (s.length : Int)) = true := by simp; omega
      clear hbig hL2 hL hb hn
      go_wp2_with fail
      go_ret
      exact ⟨rfl, U2.quiet⟩
    · have e1 : decide ((3000 : Int) < (s.length : Int)) = false := by simp; omega
      have hsb : s.length ≤ 3000 := by omega
      clear hL2 hbig hn
      obtain ⟨⟨a, cap, rfl, ha⟩, hOb⟩ := hL
      have HB := Keep.mk hb
      have HO := Keep.mk hOb
      clear hb hOb
      go_wp2_with fail
      go_loopw [11] (fun i wr => ∃ (k : Nat) (last : Int) (M : CT) (F : Fp), k ≤ L.length ∧ i = .int .i64 (k : Nat) ∧ last ≤ k ∧ Tab W b last M wr F) (fun i _ => L.length - (intOf i).toNat)
      case atStart => exact ⟨0, 0, [], F2, by omega, rfl, by omega, t2, U2, tinv_nil⟩
      case round =>
        obtain ⟨k, last, M, F, hk, rfl, hlast, hA⟩ := hrel
        clear t2 U2 u2 u1
        by_cases hlt : k < L.length
        · obtain ⟨g, off, rfl, hg, hc⟩ := ha k L[k] (List.getElem?_eq_getElem hlt)
          have hsz := HB.out L[k] (List.getElem_mem hlt)
          have hob := HO.out L[k] (List.getElem_mem hlt)
          generalize hx : L[k] = x at *
          have k0 : wr.cell? ⟨g, off + k * 4, none⟩ = some (.int .i64 x.what) := by rw [hA.upd.cell hg fun h => h]; exact hc 0 _ rfl
          have k1 : wr.cell? ⟨g, off + k * 4 + 1, none⟩ = some (.int .i64 x.id) := by rw [hA.upd.cell hg fun h => h]; exact hc 1 _ rfl
          have k2 : wr.cell? ⟨g, off + k * 4 + 2, none⟩ = some (.int .i64 x.n) := by rw [hA.upd.cell hg fun h => h]; exact hc 2 _ rfl
          have k3 : wr.cell? ⟨g, off + k * 4 + 3, none⟩ = some x.v := by rw [hA.upd.cell hg fun h => h]; exact hc 3 _ rfl
          have hI := hA.inv.does x
          have hle := doesS_le last M x
          have CD := Keep.mk (fun (w : World) (F : Fp) (h : (tabT b last M).on w F) (hs : Sees w F x) => does_c h hA.inv.ok hA.inv.none hA.inv.l0 (by omega) hs)
          have SE := Keep.mk (sees_old (F := F) hob hA.upd hsz)
          have HX := Keep.mk hx
          clear hx ha hc hsz hob
          go_wp2_with fail
          refine (CD.out _ _ hA.mem SE.out).mono ?_
          rintro e w4 ⟨rfl, F4, m4, u4⟩
          go_wp2_with fail
          go_roundw
          case rel => exact ⟨k + 1, _, _, F4, by omega, by go_num, by omega, m4, hA.upd.trans u4, hI⟩
          case measure => simp [intOf]; omega
        · have HN := Keep.mk (fun (w : World) (F : Fp) (h : (tabT b last M).on w F) => has_c h id)
          cases hm : mget M id with
          | some c =>
            rw [show ofC M id false (fun _ => true) = true from by simp [ofC, hm]] at HN
            clear hm
            go_wp2_with fail
            refine (HN.out _ _ hA.mem).mono ?_
            rintro e w4 ⟨rfl, n4, rfl⟩
            go_wp2_with fail
            go_ret
            exact ⟨rfl, hA.upd.quiet.drewN n4⟩
          | none =>
            obtain ⟨z1, z2, z3, z4, z5, z6, z7, z8, z9⟩ := doesS_none hm
            rw [z1] at HN
            have S0 := Asrt.stars_one hA.mem
            have U0 := hA.upd
            have hnd := hA.inv.nd
            have hwf := hA.inv.wf (by omega)
            have hfew := hA.inv.few
            have hok := hA.inv.ok
            have hoff : ofC M id 0 Con.credit = 0 ∧ ofC M id 0 Con.addr = 0 ∧ ofC M id false Con.ended = false ∧ ofC M id 0 (fun c => ((c.inn.length : Nat) : Int)) = 0 ∧ ofC M id 0 (fun c => ((c.out.length : Nat) : Int)) = 0 ∧ ofC M id 0 (fun c => ((1024 - c.out.length : Nat) : Int)) = 0 := by simp [ofC, hm]
            have HM := Keep.mk hm
            have hkl : (keysOf (M.map (·.1))).length ≤ 1000000 := by unfold keysOf; rw [List.length_mergeSort, List.length_map]; omega
            have CL := Keep.mk (fun (w : World) (F : Fp) (h : (tabT b last M).on w F) => all_c h hnd hwf (by omega))
            generalize keysOf (M.map (·.1)) = K at *
            clear hA hm ha HO HB
            go_wp2_with fail
            refine (on_head_quiet S0 fun Fi h => HN.out _ _ h).mono ?_
            rintro e wx1 ⟨rfl, S1, u⟩
            have U1 := U0.trans u
            clear u S0 U0
            go_wp2_with fail
            refine (on_head_row S1 fun Fi h => CL.out _ _ h).mono ?_
            rintro e wx2 ⟨va1, rfl, F2, S2, u⟩
            have U2 := U1.trans u
            obtain ⟨_, hq, _⟩ := Asrt.stars_get S2 1 rfl
            have hq := row_readsI hq
            obtain ⟨aa1, ca1, rfl⟩ := hq.slice
            clear u hq S1 U1
            go_wp2_with fail
            refine (on_head_new (T := fun v => .tuple #[v, .bool false, .int .i64 0]) (X := fun v => bytesT v []) S2 fun Fi h hs => by have := next_c h hok id; unfold NextEnds at this; rw [z4] at this; exact this).mono ?_
            rintro e wx3 ⟨va2, rfl, F3, S3, u⟩
            have U3 := U2.trans u
            obtain ⟨_, hq, _⟩ := Asrt.stars_get S3 1 rfl
            obtain ⟨aa2, ca2, rfl, _⟩ := hq.1.slice
            simp only [List.length_nil] at S3
            clear u hq S2 U2
            go_wp2_with fail
            refine (on_head S3 fun Fi h hsub => by have := close_c h id; rw [z1, z2] at this; exact this).mono ?_
            rintro e wx4 ⟨rfl, F4, S4, u⟩
            have U4 := U3.trans u
            clear u S3 U3
            go_wp2_with fail
            obtain ⟨hv4, hd4⟩ := hs.old U4
            refine (on_head S4 fun Fi h hsub => by have := feed_c h id hv4 (fun g hg hn hF => hd4 g hg hn (hsub _ hF)) (by omega); rw [z3] at this; exact this).mono ?_
            rintro e wx5 ⟨rfl, F5, S5, u⟩
            have U5 := U4.trans u
            clear u S4 U4 hv4 hd4
            go_wp2_with fail
            refine (on_head_new (T := fun v => v) (X := fun v => bytesT v []) S5 fun Fi h hs => by have := rest_c h id n; rw [z5] at this; exact this).mono ?_
            rintro e wx6 ⟨va5, rfl, F6, S6, u⟩
            have U6 := U5.trans u
            obtain ⟨_, hq, _⟩ := Asrt.stars_get S6 1 rfl
            obtain ⟨aa5, ca5, rfl, _⟩ := hq.1.slice
            simp only [List.length_nil] at S6
            clear u hq S5 U5
            go_wp2_with fail
            refine (on_head_quiet S6 fun Fi h => by have := came_c h id; rw [hoff.2.2.2.1] at this; exact this).mono ?_
            rintro e wx7 ⟨rfl, S7, u⟩
            have U7 := U6.trans u
            clear u S6 U6
            go_wp2_with fail
            obtain ⟨hv7, hd7⟩ := hs.old U7
            refine (on_head S7 fun Fi h hsub => by have := say_c h id hv7 (fun g hg hn hF => hd7 g hg hn (hsub _ hF)) (by omega); rw [z6] at this; exact this).mono ?_
            rintro e wx8 ⟨rfl, F8, S8, u⟩
            have U8 := U7.trans u
            clear u S7 U7 hv7 hd7
            go_wp2_with fail
            refine (on_head S8 fun Fi h hsub => by have := budget_c h hok id 1; rw [z7] at this; exact this).mono ?_
            rintro e wx9 ⟨rfl, F9, S9, u⟩
            have U9 := U8.trans u
            clear u S8 U8
            go_wp2_with fail
            refine (on_head_new (T := fun v => v) (X := fun v => bytesT v []) S9 fun Fi h hs => by have := flush_c h hok id; rw [z8] at this; exact this).mono ?_
            rintro e wx10 ⟨va9, rfl, F10, S10, u⟩
            have U10 := U9.trans u
            obtain ⟨_, hq, _⟩ := Asrt.stars_get S10 1 rfl
            obtain ⟨aa9, ca9, rfl, _⟩ := hq.1.slice
            simp only [List.length_nil] at S10
            clear u hq S9 U9
            go_wp2_with fail
            refine (on_head_quiet S10 fun Fi h => by have := waits_c h id; rw [hoff.2.2.2.2.1] at this; exact this).mono ?_
            rintro e wx11 ⟨rfl, S11, u⟩
            have U11 := U10.trans u
            clear u S10 U10
            go_wp2_with fail
            refine (on_head_quiet S11 fun Fi h => by have := roomT_c h id; rw [hoff.2.2.2.2.2] at this; exact this).mono ?_
            rintro e wx12 ⟨rfl, S12, u⟩
            have U12 := U11.trans u
            clear u S11 U11
            go_wp2_with fail
            refine (on_head_quiet S12 fun Fi h => by have := credit_c h id; rw [hoff.1] at this; exact this).mono ?_
            rintro e wx13 ⟨rfl, S13, u⟩
            have U13 := U12.trans u
            clear u S12 U12
            go_wp2_with fail
            refine (on_head S13 fun Fi h hsub => by have := half_c h id; rw [z9] at this; exact this).mono ?_
            rintro e wx14 ⟨rfl, F14, S14, u⟩
            have U14 := U13.trans u
            clear u S13 U13
            go_wp2_with fail
            refine (on_head_quiet S14 fun Fi h => by have := ended_c h id; rw [hoff.2.2.1] at this; exact this).mono ?_
            rintro e wx15 ⟨rfl, S15, u⟩
            have U15 := U14.trans u
            clear u S14 U14
            go_wp2_with fail
            refine (on_head_quiet S15 fun Fi h => by have := addr_c h id; rw [hoff.2.1] at this; exact this).mono ?_
            rintro e wx16 ⟨rfl, S16, u⟩
            have U16 := U15.trans u
            clear u S15 U15
            go_wp2_with fail
            refine (on_head_quiet S16 fun Fi h => HN.out _ _ h).mono ?_
            rintro e wx17 ⟨rfl, S17, u⟩
            have U17 := U16.trans u
            clear u S16 U16
            go_wp2_with fail
            refine (on_head_row S17 fun Fi h => CL.out _ _ h).mono ?_
            rintro e wx18 ⟨va17, rfl, F18, S18, u⟩
            have U18 := U17.trans u
            obtain ⟨_, hq, _⟩ := Asrt.stars_get S18 1 rfl
            have hq := row_readsI hq
            obtain ⟨aa17, ca17, rfl⟩ := hq.slice
            clear u hq S17 U17
            obtain ⟨_, r1, _⟩ := Asrt.stars_get S18 1 rfl
            obtain ⟨_, r2, _⟩ := Asrt.stars_get S18 5 rfl
            have CS := same8_c (row_readsI r1) (row_readsI r2) hkl hkl
            rw [sameI_refl] at CS
            clear r1 r2
            go_wp2_with fail
            refine CS.mono ?_
            rintro e wz ⟨rfl, nz, rfl⟩
            go_wp2_with fail
            go_ret
            exact ⟨rfl, U18.quiet.drewN nz⟩
end connNone
end Go.Proofs.Ytimkbpcdbbdjlaa
