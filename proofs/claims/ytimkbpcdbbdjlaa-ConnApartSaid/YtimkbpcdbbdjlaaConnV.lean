/- ConnApart: its walk. -/
import Derived.Test.YtimkbpcdbbdjlaaConnV0
namespace Go.Proofs.Ytimkbpcdbbdjlaa
open Go.RowKit Go.Sub Go.ChangeMaps
namespace connApart
/-- the state of ConnApart's loop -/
structure St (W : World) (bt bu : Nat) (i0 lt : Int) (Mt Mu : CT) (c : Con) (k : Nat) (w : World) (F : Fp) : Prop where
  mem : (Asrt.stars [tabT bt lt Mt, tabT bu i0 Mu]).on w F
  upd : Upd none' F W w
  apa : Apa i0 lt Mt Mu c
  l : lt ≤ 100 + k
theorem by_rest {α β γ δ : Type} {A : α → β → γ → δ → Prop} {G : α → β → γ → Prop} {goal : Prop} (reg : (∀ a b c d, A a b c d → G a b c) → goal) (rest : ∀ a b c d, A a b c d → G a b c) : goal := reg rest
set_option maxHeartbeats 16000000 in
set_option maxRecDepth 100000 in
theorem walk {W : World} (v : Value) (L : List COp) (hL : ReadsO W v L) (hmax : L.length ≤ maxLen) (others : Int) (ho : (Lit.int .u8 others).wf = true) :
    Calls Try.prog 8 #[v, .int .u8 others] W (Ret (.bool true) fun W' => Quiet W W') := by
  have ho2 : 0 ≤ others ∧ others ≤ 255 := by simpa [Lit.wf, IntKind.min, IntKind.max, IntKind.signed, IntKind.bits] using ho
  obtain ⟨om, rfl⟩ : ∃ n : Nat, others = (n : Int) := ⟨others.toNat, by omega⟩
  obtain ⟨q, hq⟩ : ∃ q : Nat, q = om % 20 := ⟨_, rfl⟩
  have hq20 : q ≤ 20 := by omega
  have er : Int.tmod (om : Int) 20 = (q : Int) := by rw [hq]; rfl
  have er2 : ((om : Int) % 20) = (q : Int) := by omega
  have hom : om ≤ 255 := by omega
  clear ho ho2 hq
  go_enter Try.func8, Try.ntmps8
  go_wp2_with fail
  refine (head_c _).mono ?_
  rintro e w1 ⟨rfl, u1⟩
  go_wp2_with fail
  refine (connnew_c _).mono ?_
  rintro e w2 ⟨bt, rfl, F2, t2, u2⟩
  have U2 := Upd.trans u1 u2
  go_wp2_with fail
  refine (connnew_c _).mono ?_
  rintro e w3 ⟨bu, rfl, F3, t3, u3⟩
  obtain ⟨F4, S3', u4⟩ := Asrt.stars_new (Asrt.stars_one t2) t3 u3
  have S3 := swap2 S3'
  have U3 := U2.trans u4
  have hL2 : ReadsO w3 v L := ⟨hL.1.upd U3 fun _ _ h => h, fun o ho => (hL.2 o ho).upd U3 fun _ _ _ h => h⟩
  clear u1 u2 u3 u4 t2 t3 U2 S3'
  go_wp2_with fail
  refine (great_c hL2 hmax).mono ?_
  rintro e w4 ⟨r, rfl, rfl, hr⟩
  cases r with
  | true =>
    clear hr
    go_wp2_with fail
    go_ret
    exact ⟨rfl, U3.quiet⟩
  | false =>
    obtain ⟨hn, hb⟩ := hr rfl
    clear hr
    have hlen : L.length ≤ 400 := hn
    clear hL2 hn
    obtain ⟨⟨a, cap, rfl, ha⟩, hOb⟩ := hL
    have HB := Keep.mk hb
    have HO := Keep.mk hOb
    have HA := Keep.mk ha
    clear hb hOb ha
    go_wp2_with fail
    go_loopw [8] (fun i wr => ∃ (k : Nat) (M : CT) (F : Fp), k ≤ q ∧ i = .int .i64 (k : Nat) ∧ Pre k M ∧ (Asrt.stars [tabT bt k M, tabT bu k M]).on wr F ∧ Upd none' F W wr) (fun i _ => q - (intOf i).toNat)
    case atStart => exact ⟨0, [], F4, by omega, rfl, pre_nil, S3, U3⟩
    case round =>
      obtain ⟨k, M, F, hk, rfl, hP, S, U⟩ := hrel
      clear S3 U3
      by_cases hlt : k < q
      · obtain ⟨M', e1, hP', hg⟩ := hP.opens (by omega) 1
        have CT := Keep.mk (fun (b : Nat) (w : World) (F : Fp) (h : (tabT b k M).on w F) => by have := open_c h hP.inv.none hP.inv.l0 (by omega) 1; rw [e1] at this; exact this)
        have HP' := Keep.mk hP'
        clear hP hP' e1 hg
        go_wp2_with fail
        refine (on_head S fun Fi h _ => CT.out _ _ _ h).mono ?_
        rintro e wa ⟨rfl, Fa, Sa, ua⟩
        have Ua := U.trans ua
        clear S U ua
        go_wp2_with fail
        refine (on_snd Sa fun Fi h _ => CT.out _ _ _ h).mono ?_
        rintro e wb ⟨rfl, Fb, Sb, ub⟩
        have Ub := Ua.trans ub
        clear Sa Ua ub
        go_wp2_with fail
        go_roundw
        case rel => exact ⟨k + 1, M', Fb, by omega, by go_num, HP'.out, Sb, Ub⟩
        case measure => simp [intOf]; omega
      · have ek : k = q := by omega
        subst ek
        obtain ⟨M', e1, hP', hg⟩ := hP.opens (by omega) 7
        have hA0 : Apa ((k + 1 : Nat) : Int) ((k + 1 : Nat) : Int) M' M' ⟨7, [], [], 0, false⟩ := ⟨hP'.inv, hP'.inv, hg, hg, rfl⟩
        obtain ⟨i0, hi0⟩ : ∃ i0 : Int, i0 = ((k + 1 : Nat) : Int) := ⟨_, rfl⟩
        rw [← hi0] at e1 hA0
        have CT := Keep.mk (fun (b : Nat) (w : World) (F : Fp) (h : (tabT b k M).on w F) => by have := open_c h hP.inv.none hP.inv.l0 (by omega) 7; rw [e1] at this; exact this)
        have HP' := Keep.mk hA0
        have hi1 : i0 ≤ 21 := by omega
        have hi2 : 1 ≤ i0 := by omega
        clear hP hP' e1 hg hA0 hi0
        go_wp2_with fail
        refine (on_head S fun Fi h _ => CT.out _ _ _ h).mono ?_
        rintro e wa ⟨rfl, Fa, Sa, ua⟩
        have Ua := U.trans ua
        clear S U ua
        go_wp2_with fail
        refine (on_snd Sa fun Fi h _ => CT.out _ _ _ h).mono ?_
        rintro e wb ⟨rfl, Fb, Sb, ub⟩
        have Ub := Ua.trans ub
        clear Sa Ua ub CT
        clear hlt hk er er2 hom
        go_wp2_with fail
        go_loopw [13] (fun i wr => ∃ (k : Nat) (lt : Int) (Mt Mu : CT) (c : Con) (F : Fp), k ≤ L.length ∧ i = .int .i64 (k : Nat) ∧ St W bt bu i0 lt Mt Mu c k wr F) (fun i _ => L.length - (intOf i).toNat)
        case atStart => exact ⟨0, i0, M', M', _, Fb, by omega, rfl, Sb, Ub, HP'.out, by omega⟩
        case round =>
          obtain ⟨k, lt, Mt, Mu, c, F, hk, rfl, hA⟩ := hrel
          clear Sb Ub HP'
          have hll := hA.l
          by_cases hlt : k < L.length
          · obtain ⟨g, off, rfl, hg, hc⟩ := HA.out k L[k] (List.getElem?_eq_getElem hlt)
            have hsz := HB.out L[k] (List.getElem_mem hlt)
            have hob := HO.out L[k] (List.getElem_mem hlt)
            generalize hx : L[k] = x at *
            clear hx
            have k0 : wr.cell? ⟨g, off + k * 4, none⟩ = some (.int .i64 x.what) := by rw [hA.upd.cell hg fun h => h]; exact hc 0 _ rfl
            have k1 : wr.cell? ⟨g, off + k * 4 + 1, none⟩ = some (.int .i64 x.id) := by rw [hA.upd.cell hg fun h => h]; exact hc 1 _ rfl
            have k2 : wr.cell? ⟨g, off + k * 4 + 2, none⟩ = some (.int .i64 x.n) := by rw [hA.upd.cell hg fun h => h]; exact hc 2 _ rfl
            have k3 : wr.cell? ⟨g, off + k * 4 + 3, none⟩ = some x.v := by rw [hA.upd.cell hg fun h => h]; exact hc 3 _ rfl
            obtain ⟨x0, x1, x2, x3, x4⟩ := x
            obtain ⟨av, cv, hv3, hcv⟩ := hob.slice
            simp only at hv3 hcv k0 k1 k2 k3 hsz hob
            subst hv3
            obtain ⟨F4, S4, u4⟩ := Asrt.stars_box2 hA.mem (.cells #[.int .i64 x0, .int .i64 x1, .int .i64 x2, .slice av x4.length cv] 49)
            have U4 := hA.upd.trans u4
            have N4 := Keep.mk hA.apa
            have hob := Keep.mk hob
            have hsz := Keep.mk hsz
            obtain ⟨kc, kf, kl⟩ := box_cell (i := 2) S4 rfl
            clear hc u4 hA kc kf
            by_cases h0 : x0 = 0
            · subst h0
              have CO := Keep.mk (fun (w : World) (F : Fp) (h : (tabT bt lt Mt).on w F) => open_c h N4.out.it.none N4.out.it.l0 (by omega) 2)
              have N6 := Keep.mk (N4.out.opens 2)
              have hle := (openS_le lt Mt 2).2
              generalize openS lt Mt 2 = R at *
              obtain ⟨lt', Mt', r1, r2⟩ := R
              simp only at CO N6 hle
              go_wp2_with fail
              refine (on_head S4 fun Fi h _ => CO.out _ _ h).mono ?_
              rintro e w5 ⟨rfl, F5, S5, u5⟩
              have U5 := U4.trans u5
              obtain ⟨Fz, Sz, sz⟩ := Asrt.stars_two S5
              go_wp2_with fail
              go_roundw
              case rel => exact ⟨k + 1, lt', Mt', Mu, c, Fz, by omega, by go_num, Sz, U5.re fun k hk => U5.fp k (sz k hk), N6.out, by omega⟩
              case measure => simp [intOf]; omega
            · have e0 : (x0 == 0) = false := by simp [h0]
              by_cases hid : x1 = i0
              · have eid : (x1 == i0) = true := by simp [hid]
                have HID := Keep.mk hid
                clear hid
                by_cases h1 : x0 = 1
                · subst h1
                  obtain ⟨Fz, Sz, sz⟩ := Asrt.stars_two S4
                  go_wp2_with fail
                  go_roundw
                  case rel => exact ⟨k + 1, lt, Mt, Mu, c, Fz, by omega, by go_num, Sz, U4.re fun k hk => U4.fp k (sz k hk), N4.out, by omega⟩
                  case measure => simp [intOf]; omega
                · have e1 : (x0 == 1) = false := by simp [h1]
                  by_cases h9 : x0 = 9
                  · subst h9
                    obtain ⟨Nt, Nu, x, c', f1, f2, A'⟩ := N4.out.flush
                    have N6 := Keep.mk A'
                    have CFt := Keep.mk (fun (w : World) (F : Fp) (h : (tabT bt lt Mt).on w F) => by have := flush_c h N4.out.it.ok i0; rw [f1] at this; exact this)
                    have CFu := Keep.mk (fun (w : World) (F : Fp) (h : (tabT bu i0 Mu).on w F) => by have := flush_c h N4.out.iu.ok i0; rw [f2] at this; exact this)
                    clear f1 f2 A' N4 h0 h1
                    go_wp2_with fail
                    apply by_rest (A := fun (v5 v6 : Value) (w6 : World) (F6 : Fp) => (Asrt.stars [tabT bt lt Nt, tabT bu i0 Nu, bytesT v6 x, bytesT v5 x, .blk wr.heap.size (.cells #[.int .i64 9, .int .i64 x1, .int .i64 x2, .slice av x4.length cv] 49)]).on w6 F6 ∧ Upd none' F6 W w6)
                    case reg =>
                      intro REST
                      go_region_with (first
                          | (go_at_call_of 28 (Value.pointer (some ⟨bt, 0, none⟩)); refine (on_head_new (T := fun v => v) (X := fun v => bytesT v x) (Asrt.drew S4) fun Fi h _ => CFt.out _ _ h).mono ?_; rintro e w5 ⟨v5, rfl, F5, S5, u5⟩; have b5 := (Asrt.stars_get S5 1 rfl).choose_spec.1.1; have tx5 := conv_text b5)
                          | (go_at_call_of 28 (Value.pointer (some ⟨bu, 0, none⟩)); refine (on_snd_new (T := fun v => v) (X := fun v => bytesT v x) (Asrt.stars_perm (List.Perm.cons _ (List.Perm.swap ..)) S5) fun Fi h _ => CFu.out _ _ h).mono ?_; rintro e w6 ⟨v6, rfl, F6, S6, u6⟩; have b6 := (Asrt.stars_get S6 2 rfl).choose_spec.1.1; have tx6 := conv_text b6; have c6 := (Asrt.stars_get S6 3 rfl).choose_spec.1.1; have tx7 := conv_text c6))
                      all_goals exact REST v5 v6 w6 F6 ⟨S6, ((U4.drew).trans u5).trans u6⟩
                    case rest =>
                      rintro v5 v6 w6 F6 ⟨S6, U6⟩
                      go_wp2_with fail
                      have N := Keep.mk N6.out
                      go_wp2_with fail
                      refine (t_came (N.out.gt) S6).mono ?_
                      rintro e wa ⟨rfl, Sa, ua⟩
                      have Ua := U6.trans ua
                      clear S6 U6 ua
                      go_wp2_with fail
                      refine (u_came (N.out.gu) Sa).mono ?_
                      rintro e wb ⟨rfl, Sb, ub⟩
                      have Ub := Ua.trans ub
                      clear Sa Ua ub
                      go_wp2_with fail
                      refine (t_waits (N.out.gt) Sb).mono ?_
                      rintro e wa ⟨rfl, Sa, ua⟩
                      have Ua := Ub.trans ua
                      clear Sb Ub ua
                      go_wp2_with fail
                      refine (u_waits (N.out.gu) Sa).mono ?_
                      rintro e wb ⟨rfl, Sb, ub⟩
                      have Ub := Ua.trans ub
                      clear Sa Ua ub
                      go_wp2_with fail
                      refine (t_credit (N.out.gt) Sb).mono ?_
                      rintro e wa ⟨rfl, Sa, ua⟩
                      have Ua := Ub.trans ua
                      clear Sb Ub ua
                      go_wp2_with fail
                      refine (u_credit (N.out.gu) Sa).mono ?_
                      rintro e wb ⟨rfl, Sb, ub⟩
                      have Ub := Ua.trans ub
                      clear Sa Ua ub
                      go_wp2_with fail
                      refine (t_ended (N.out.gt) Sb).mono ?_
                      rintro e wa ⟨rfl, Sa, ua⟩
                      have Ua := Ub.trans ua
                      clear Sb Ub ua
                      go_wp2_with fail
                      refine (u_ended (N.out.gu) Sa).mono ?_
                      rintro e wb ⟨rfl, Sb, ub⟩
                      have Ub := Ua.trans ub
                      clear Sa Ua ub
                      obtain ⟨Fz, Sz, sz⟩ := Asrt.stars_two Sb
                      go_wp2_with fail
                      go_roundw
                      case rel => exact ⟨k + 1, lt, Nt, Nu, c', Fz, by omega, by go_num, Sz, Ub.re fun k hk => Ub.fp k (sz k hk), N.out, by omega⟩
                      case measure => simp [intOf]; omega
                  · have e9 : (x0 == 9) = false := by simp [h9]
                    by_cases h5 : x0 = 5
                    · subst h5
                      obtain ⟨Nt, Nu, x, c', f1, f2, A'⟩ := N4.out.rest x2
                      have N6 := Keep.mk A'
                      have CFt := Keep.mk (fun (w : World) (F : Fp) (h : (tabT bt lt Mt).on w F) => by have := rest_c h i0 x2; rw [f1] at this; exact this)
                      have CFu := Keep.mk (fun (w : World) (F : Fp) (h : (tabT bu i0 Mu).on w F) => by have := rest_c h i0 x2; rw [f2] at this; exact this)
                      clear f1 f2 A' N4 h0 h1 h9
                      obtain ⟨kc, kf, kl⟩ := box_cell (i := 2) S4 rfl
                      have s4 : (wr.alloc (.cells #[.int .i64 5, .int .i64 x1, .int .i64 x2, .slice av x4.length cv] 49)).drew.cell? ⟨wr.heap.size, 2, none⟩ = some (.int .i64 x2) := kc 2
                      clear kc kf
                      go_wp2_with fail
                      apply by_rest (A := fun (v5 v6 : Value) (w6 : World) (F6 : Fp) => (Asrt.stars [tabT bt lt Nt, tabT bu i0 Nu, bytesT v6 x, bytesT v5 x, .blk wr.heap.size (.cells #[.int .i64 5, .int .i64 x1, .int .i64 x2, .slice av x4.length cv] 49)]).on w6 F6 ∧ Upd none' F6 W w6)
                      case reg =>
                        intro REST
                        go_region_with (first
                            | (go_at_call_of 34 (Value.pointer (some ⟨bt, 0, none⟩)); refine (on_head_new (T := fun v => v) (X := fun v => bytesT v x) (Asrt.drew S4) fun Fi h _ => CFt.out _ _ h).mono ?_; rintro e w5 ⟨v5, rfl, F5, S5, u5⟩; have b5 := (Asrt.stars_get S5 1 rfl).choose_spec.1.1; have tx5 := conv_text b5; have s5 : w5.cell? ⟨wr.heap.size, 2, none⟩ = some (.int .i64 x2) := (box_cell (i := 3) S5 rfl).1 2)
                            | (go_at_call_of 34 (Value.pointer (some ⟨bu, 0, none⟩)); refine (on_snd_new (T := fun v => v) (X := fun v => bytesT v x) (Asrt.stars_perm (List.Perm.cons _ (List.Perm.swap ..)) S5) fun Fi h _ => CFu.out _ _ h).mono ?_; rintro e w6 ⟨v6, rfl, F6, S6, u6⟩; have b6 := (Asrt.stars_get S6 2 rfl).choose_spec.1.1; have tx6 := conv_text b6; have c6 := (Asrt.stars_get S6 3 rfl).choose_spec.1.1; have tx7 := conv_text c6; have s6 : w6.cell? ⟨wr.heap.size, 2, none⟩ = some (.int .i64 x2) := (box_cell (i := 4) S6 rfl).1 2))
                        all_goals exact REST v5 v6 w6 F6 ⟨S6, ((U4.drew).trans u5).trans u6⟩
                      case rest =>
                        rintro v5 v6 w6 F6 ⟨S6, U6⟩
                        go_wp2_with fail
                        have N := Keep.mk N6.out
                        go_wp2_with fail
                        refine (t_came (N.out.gt) S6).mono ?_
                        rintro e wa ⟨rfl, Sa, ua⟩
                        have Ua := U6.trans ua
                        clear S6 U6 ua
                        go_wp2_with fail
                        refine (u_came (N.out.gu) Sa).mono ?_
                        rintro e wb ⟨rfl, Sb, ub⟩
                        have Ub := Ua.trans ub
                        clear Sa Ua ub
                        go_wp2_with fail
                        refine (t_waits (N.out.gt) Sb).mono ?_
                        rintro e wa ⟨rfl, Sa, ua⟩
                        have Ua := Ub.trans ua
                        clear Sb Ub ua
                        go_wp2_with fail
                        refine (u_waits (N.out.gu) Sa).mono ?_
                        rintro e wb ⟨rfl, Sb, ub⟩
                        have Ub := Ua.trans ub
                        clear Sa Ua ub
                        go_wp2_with fail
                        refine (t_credit (N.out.gt) Sb).mono ?_
                        rintro e wa ⟨rfl, Sa, ua⟩
                        have Ua := Ub.trans ua
                        clear Sb Ub ua
                        go_wp2_with fail
                        refine (u_credit (N.out.gu) Sa).mono ?_
                        rintro e wb ⟨rfl, Sb, ub⟩
                        have Ub := Ua.trans ub
                        clear Sa Ua ub
                        go_wp2_with fail
                        refine (t_ended (N.out.gt) Sb).mono ?_
                        rintro e wa ⟨rfl, Sa, ua⟩
                        have Ua := Ub.trans ua
                        clear Sb Ub ua
                        go_wp2_with fail
                        refine (u_ended (N.out.gu) Sa).mono ?_
                        rintro e wb ⟨rfl, Sb, ub⟩
                        have Ub := Ua.trans ub
                        clear Sa Ua ub
                        obtain ⟨Fz, Sz, sz⟩ := Asrt.stars_two Sb
                        go_wp2_with fail
                        go_roundw
                        case rel => exact ⟨k + 1, lt, Nt, Nu, c', Fz, by omega, by go_num, Sz, Ub.re fun k hk => Ub.fp k (sz k hk), N.out, by omega⟩
                        case measure => simp [intOf]; omega
                    · have e5 : (x0 == 5) = false := by simp [h5]
                      have hD := N4.out.self (o := ⟨x0, x1, x2, .slice av x4.length cv, x4⟩) h0 h1 HID.out
                      have eLt := doesS_last (last := lt) (M := Mt) (o := ⟨x0, x1, x2, .slice av x4.length cv, x4⟩) h0
                      have eLu := doesS_last (last := i0) (M := Mu) (o := ⟨x0, x1, x2, .slice av x4.length cv, x4⟩) h0
                      have SE := fun (w : World) (F : Fp) (U : Upd none' F W w) => sees_old (o := ⟨x0, x1, x2, .slice av x4.length cv, x4⟩) hob.out U hsz.out
                      have CDt := Keep.mk (fun (w : World) (F : Fp) (h : (tabT bt lt Mt).on w F) (hs : Sees w F ⟨x0, x1, x2, .slice av x4.length cv, x4⟩) => does_c h N4.out.it.ok N4.out.it.none N4.out.it.l0 (by omega) hs)
                      have CDu := Keep.mk (fun (w : World) (F : Fp) (h : (tabT bu i0 Mu).on w F) (hs : Sees w F ⟨x0, x1, x2, .slice av x4.length cv, x4⟩) => does_c h N4.out.iu.ok N4.out.iu.none N4.out.iu.l0 (by omega) hs)
                      rw [eLt] at CDt
                      rw [eLu] at CDu
                      generalize (doesS lt Mt ⟨x0, x1, x2, .slice av x4.length cv, x4⟩).2 = Nt at *
                      generalize (doesS i0 Mu ⟨x0, x1, x2, .slice av x4.length cv, x4⟩).2 = Nu at *
                      obtain ⟨c', A'⟩ := hD
                      have N6 := Keep.mk A'
                      have SE := Keep.mk SE
                      clear eLt eLu h0 h1 h9 h5 A' N4
                      go_wp2_with fail
                      refine (on_head S4 fun Fi h hs => CDt.out _ _ h ⟨(SE.out _ _ U4).rd, fun g hg hn hF => (SE.out _ _ U4).apart g hg hn (hs _ hF), (SE.out _ _ U4).len⟩).mono ?_
                      rintro e w5 ⟨rfl, F5, S5, u5⟩
                      have U5 := U4.trans u5
                      obtain ⟨kc, kf, kl⟩ := box_cell (i := 2) S5 rfl
                      have kn1 : w5.cell? ⟨wr.heap.size, 1, none⟩ = some (.int .i64 x1) := kc 1
                      have kn0 : w5.cell? ⟨wr.heap.size, 0, none⟩ = some (.int .i64 x0) := kc 0
                      have kn2 : w5.cell? ⟨wr.heap.size, 2, none⟩ = some (.int .i64 x2) := kc 2
                      have kn3 : w5.cell? ⟨wr.heap.size, 3, none⟩ = some (.slice av x4.length cv) := kc 3
                      clear kc kf S4 U4 u5
                      go_wp2_with fail
                      refine (on_snd S5 fun Fi h hs => CDu.out _ _ h ⟨(SE.out _ _ U5).rd, fun g hg hn hF => (SE.out _ _ U5).apart g hg hn (hs _ hF), (SE.out _ _ U5).len⟩).mono ?_
                      rintro e w6 ⟨rfl, F6, S6, u6⟩
                      have U6 := U5.trans u6
                      clear S5 U5 u6 kn0 kn1 kn2 kn3
                      have N := Keep.mk N6.out
                      go_wp2_with fail
                      refine (t_came (N.out.gt) S6).mono ?_
                      rintro e wa ⟨rfl, Sa, ua⟩
                      have Ua := U6.trans ua
                      clear S6 U6 ua
                      go_wp2_with fail
                      refine (u_came (N.out.gu) Sa).mono ?_
                      rintro e wb ⟨rfl, Sb, ub⟩
                      have Ub := Ua.trans ub
                      clear Sa Ua ub
                      go_wp2_with fail
                      refine (t_waits (N.out.gt) Sb).mono ?_
                      rintro e wa ⟨rfl, Sa, ua⟩
                      have Ua := Ub.trans ua
                      clear Sb Ub ua
                      go_wp2_with fail
                      refine (u_waits (N.out.gu) Sa).mono ?_
                      rintro e wb ⟨rfl, Sb, ub⟩
                      have Ub := Ua.trans ub
                      clear Sa Ua ub
                      go_wp2_with fail
                      refine (t_credit (N.out.gt) Sb).mono ?_
                      rintro e wa ⟨rfl, Sa, ua⟩
                      have Ua := Ub.trans ua
                      clear Sb Ub ua
                      go_wp2_with fail
                      refine (u_credit (N.out.gu) Sa).mono ?_
                      rintro e wb ⟨rfl, Sb, ub⟩
                      have Ub := Ua.trans ub
                      clear Sa Ua ub
                      go_wp2_with fail
                      refine (t_ended (N.out.gt) Sb).mono ?_
                      rintro e wa ⟨rfl, Sa, ua⟩
                      have Ua := Ub.trans ua
                      clear Sb Ub ua
                      go_wp2_with fail
                      refine (u_ended (N.out.gu) Sa).mono ?_
                      rintro e wb ⟨rfl, Sb, ub⟩
                      have Ub := Ua.trans ub
                      clear Sa Ua ub
                      obtain ⟨Fz, Sz, sz⟩ := Asrt.stars_two Sb
                      go_wp2_with fail
                      go_roundw
                      case rel => exact ⟨k + 1, lt, Nt, Nu, c', Fz, by omega, by go_num, Sz, Ub.re fun k hk => Ub.fp k (sz k hk), N.out, by omega⟩
                      case measure => simp [intOf]; omega
              · have eid : (x1 == i0) = false := by simp [hid]
                have hD := N4.out.other (o := ⟨x0, x1, x2, .slice av x4.length cv, x4⟩) h0 hid
                have eLt := doesS_last (last := lt) (M := Mt) (o := ⟨x0, x1, x2, .slice av x4.length cv, x4⟩) h0
                have SE := fun (w : World) (F : Fp) (U : Upd none' F W w) => sees_old (o := ⟨x0, x1, x2, .slice av x4.length cv, x4⟩) hob.out U hsz.out
                have CDt := Keep.mk (fun (w : World) (F : Fp) (h : (tabT bt lt Mt).on w F) (hs : Sees w F ⟨x0, x1, x2, .slice av x4.length cv, x4⟩) => does_c h N4.out.it.ok N4.out.it.none N4.out.it.l0 (by omega) hs)
                rw [eLt] at CDt
                generalize (doesS lt Mt ⟨x0, x1, x2, .slice av x4.length cv, x4⟩).2 = Nt at *
                have N6 := Keep.mk hD
                have SE := Keep.mk SE
                clear eLt h0 hD hid N4
                go_wp2_with fail
                refine (on_head S4 fun Fi h hs => CDt.out _ _ h ⟨(SE.out _ _ U4).rd, fun g hg hn hF => (SE.out _ _ U4).apart g hg hn (hs _ hF), (SE.out _ _ U4).len⟩).mono ?_
                rintro e w5 ⟨rfl, F5, S5, u5⟩
                have U5 := U4.trans u5
                obtain ⟨kc, kf, kl⟩ := box_cell (i := 2) S5 rfl
                have kn1 : w5.cell? ⟨wr.heap.size, 1, none⟩ = some (.int .i64 x1) := kc 1
                clear kc kf S4 U4 u5
                have N := Keep.mk N6.out
                go_wp2_with fail
                refine (t_came (N.out.gt) S5).mono ?_
                rintro e wa ⟨rfl, Sa, ua⟩
                have Ua := U5.trans ua
                clear S5 U5 ua
                go_wp2_with fail
                refine (u_came (N.out.gu) Sa).mono ?_
                rintro e wb ⟨rfl, Sb, ub⟩
                have Ub := Ua.trans ub
                clear Sa Ua ub
                go_wp2_with fail
                refine (t_waits (N.out.gt) Sb).mono ?_
                rintro e wa ⟨rfl, Sa, ua⟩
                have Ua := Ub.trans ua
                clear Sb Ub ua
                go_wp2_with fail
                refine (u_waits (N.out.gu) Sa).mono ?_
                rintro e wb ⟨rfl, Sb, ub⟩
                have Ub := Ua.trans ub
                clear Sa Ua ub
                go_wp2_with fail
                refine (t_credit (N.out.gt) Sb).mono ?_
                rintro e wa ⟨rfl, Sa, ua⟩
                have Ua := Ub.trans ua
                clear Sb Ub ua
                go_wp2_with fail
                refine (u_credit (N.out.gu) Sa).mono ?_
                rintro e wb ⟨rfl, Sb, ub⟩
                have Ub := Ua.trans ub
                clear Sa Ua ub
                go_wp2_with fail
                refine (t_ended (N.out.gt) Sb).mono ?_
                rintro e wa ⟨rfl, Sa, ua⟩
                have Ua := Ub.trans ua
                clear Sb Ub ua
                go_wp2_with fail
                refine (u_ended (N.out.gu) Sa).mono ?_
                rintro e wb ⟨rfl, Sb, ub⟩
                have Ub := Ua.trans ub
                clear Sa Ua ub
                obtain ⟨Fz, Sz, sz⟩ := Asrt.stars_two Sb
                go_wp2_with fail
                go_roundw
                case rel => exact ⟨k + 1, lt, Nt, Mu, c, Fz, by omega, by go_num, Sz, Ub.re fun k hk => Ub.fp k (sz k hk), N.out, by omega⟩
                case measure => simp [intOf]; omega
          · have N := Keep.mk hA.apa
            have S4 := hA.mem
            have U4 := hA.upd
            clear hA
            go_wp2_with fail
            refine (t_has (N.out.gt) S4).mono ?_
            rintro e wa ⟨rfl, Sa, ua⟩
            have Ua := U4.trans ua
            clear S4 U4 ua
            go_wp2_with fail
            refine (t_addr (N.out.gt) Sa).mono ?_
            rintro e wb ⟨rfl, Sb, ub⟩
            have Ub := Ua.trans ub
            rw [N.out.addr]
            clear Sa Ua ub
            go_wp2_with fail
            go_ret
            exact ⟨rfl, Ub.quiet⟩
end connApart
end Go.Proofs.Ytimkbpcdbbdjlaa
