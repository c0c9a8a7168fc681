/- ConnCredit: its walk. -/
import Derived.Test.YtimkbpcdbbdjlaaConnR
import Derived.Laws.Concat
import Derived.Laws.Strings3
namespace Go.Proofs.Ytimkbpcdbbdjlaa
open Go.RowKit Go.Sub Go.ChangeMaps
namespace connCredit
/-- what is said, sent, let go; and what the connection has -/
structure Cre (A B : ByteArray) (T : Int) (k : Nat) (c : Con) : Prop where
  text : A.data.toList = B.data.toList ++ c.out
  cr : c.credit = T - B.size
  ok : ConOk c
  t0 : T ≤ 100000 * k
  len : A.size ≤ 40000 * k
theorem Cre.sizes {A B : ByteArray} {T : Int} {k : Nat} {c : Con} (h : Cre A B T k c) : A.size = B.size + c.out.length := by
  have := congrArg List.length h.text
  simpa using this
theorem Cre.cut {A B : ByteArray} {T : Int} {k : Nat} {c : Con} (h : Cre A B T k c) {P : Program} {t : TypeId} (ht : P.underlying t = some .string) (w : World) :
    (Instr.slice t (.string A) none (some (.int .i64 B.size)) none).run P w = .ok (.string B) w := by
  have hs := h.sizes
  rw [run_slice_string_to_if _ _ _ _ _ ht, if_pos ⟨by omega, by omega⟩]
  congr 2
  apply ByteArray.ext
  apply Array.toList_inj.1
  rw [Lib.extract_data]
  simp only [List.drop_zero, Nat.sub_zero, Int.toNat_natCast, h.text]
  rw [List.take_append_of_le_length (by simp), List.take_of_length_le (by simp)]
theorem cre_nil : Cre ⟨#[]⟩ ⟨#[]⟩ 0 0 ⟨0, [], [], 0, false⟩ := ⟨rfl, rfl, ⟨by simp, by simp, by simp, by simp⟩, by simp, by simp [ByteArray.size]⟩
theorem Cre.up {A B : ByteArray} {T : Int} {k : Nat} {c : Con} (h : Cre A B T k c) : Cre A B T (k + 1) c := ⟨h.text, h.cr, h.ok, by have := h.t0; omega, by have := h.len; omega⟩
theorem Cre.say {A B : ByteArray} {T : Int} {k : Nat} {c : Con} (h : Cre A B T k c) {b : List UInt8} (hb : b.length ≤ 1024 - c.out.length) (hb2 : b.length ≤ 40000) : Cre (A ++ strB b) B T (k + 1) { c with out := c.out ++ b } := by
  refine ⟨?_, h.cr, ⟨h.ok.k0, h.ok.k1, h.ok.li, ?_⟩, by have := h.t0; omega, ?_⟩
  · rw [ByteArray.data_append, Array.toList_append, h.text, strB_toList, List.append_assoc]
  · have := h.ok.lo; simp only [List.length_append]; omega
  · have := h.len; rw [ByteArray.size_append, strB_size]; omega
theorem Cre.budget {A B : ByteArray} {T : Int} {k : Nat} {c : Con} (h : Cre A B T k c) {n : Int} (h0 : 0 ≤ n) (h1 : n < 100000) (hk : k ≤ 400) :
    budgetS (one c) 1 n = (one { c with credit := c.credit + n }, true) ∧ Cre A B (T + n) (k + 1) { c with credit := c.credit + n } := by
  have e : min (c.credit + n) 1073741824 = c.credit + n := by have := h.cr; have := h.t0; omega
  refine ⟨by rw [one_budget, if_neg (by omega), e], h.text, ?_, ⟨?_, ?_, h.ok.li, h.ok.lo⟩, by have := h.t0; omega, by have := h.len; omega⟩
  · have := h.cr; simp only; omega
  · have := h.ok.k0; simp only; omega
  · simp only; omega
theorem Cre.flush {A B : ByteArray} {T : Int} {k : Nat} {c : Con} (h : Cre A B T k c) : ∃ x c', flushS (one c) 1 = (one c', x) ∧ Cre A (B ++ strB x) T (k + 1) c' ∧ x.length ≤ 1024 := by
  refine ⟨_, _, one_flush c, ?_, by have := h.ok.lo; simp; omega⟩
  have k0 := h.ok.k0
  have k1 := h.ok.k1
  have kl := h.ok.lo
  refine ⟨?_, ?_, ⟨by simp only; omega, by simp only; omega, h.ok.li, by simp; omega⟩, by have := h.t0; omega, by have := h.len; omega⟩
  · rw [ByteArray.data_append, Array.toList_append, h.text, strB_toList, List.append_assoc, List.take_append_drop]
  · have := h.cr
    rw [ByteArray.size_append, strB_size, List.length_take]
    simp only; omega
theorem Cre.facts {A B : ByteArray} {T : Int} {k : Nat} {c : Con} (h : Cre A B T k c) (hk : k ≤ 401) :
    decide ((A.size : Int) < (B.size : Int)) = false ∧ decide (A.size < B.size) = false ∧ decide (T < (B.size : Int)) = false ∧ (((c.out.length : Nat) : Int) != (A.size : Int) - (B.size : Int)) = false ∧
    (c.credit != T - (B.size : Int)) = false ∧ decide ((1024 : Int) < (c.out.length : Int)) = false ∧ decide (1024 < c.out.length) = false ∧ (A.size : Int) ≤ 20000000 ∧ (B.size : Int) ≤ 20000000 ∧ T ≤ 50000000 ∧ (B.size : Int) ≤ T ∧ 0 ≤ c.credit := by
  have h1 := h.sizes
  have h2 := h.cr
  have h3 := h.ok.k0
  have h4 := h.ok.lo
  have h5 := h.t0
  have h6 := h.len
  refine ⟨?_, ?_, ?_, ?_, ?_, ?_, ?_, ?_, ?_, ?_, ?_, ?_⟩
  · simp; omega
  · simp; omega
  · simp; omega
  · simp; omega
  · simp; omega
  · simp; omega
  · simp; omega
  · omega
  · omega
  · omega
  · omega
  · omega
theorem add_run (A : ByteArray) (b : List UInt8) (hA : A.size ≤ 20000000) (hb : b.length ≤ 40000) (w : World) : (Op.stringOp .add A (strB b)).run Try.prog w = .ok (.string (A ++ strB b)) w :=
  run_string_add_sum (P := Try.prog) w A (strB b) (by rw [strB_size]; omega)
/-- the state of ConnCredit's loop -/
structure St (W : World) (b : Nat) (A B : ByteArray) (T : Int) (k : Nat) (c : Con) (w : World) (F : Fp) : Prop where
  mem : (Asrt.stars [tabT b 1 (one c)]).on w F
  upd : Upd none' F W w
  cre : Cre A B T k c
set_option maxHeartbeats 16000000 in
set_option maxRecDepth 100000 in
theorem walk {W : World} (v : Value) (L : List COp) (hL : ReadsO W v L) (hmax : L.length ≤ maxLen) :
    Calls Try.prog 6 #[v] W (Ret (.bool true) fun W' => Quiet W W') := by
  go_enter Try.func6, Try.ntmps6
  go_wp2_with fail
  refine (head_c _).mono ?_
  rintro e w1 ⟨rfl, u1⟩
  go_wp2_with fail
  refine (connnew_c _).mono ?_
  rintro e w2 ⟨b, rfl, F2, t2, u2⟩
  have U2 := Upd.trans u1 u2
  have hL2 : ReadsO w2 v L := ⟨hL.1.upd U2 fun _ _ h => h, fun o ho => (hL.2 o ho).upd U2 fun _ _ _ h => h⟩
  go_wp2_with fail
  refine (great_c hL2 hmax).mono ?_
  rintro e w3 ⟨r, rfl, rfl, hr⟩
  cases r with
  | true =>
    clear hr
    go_wp2_with fail
    go_ret
    exact ⟨rfl, U2.quiet⟩
  | false =>
    obtain ⟨hn, hb⟩ := hr rfl
    clear hr
    have hlen : L.length ≤ 400 := hn
    clear hL2 hn
    obtain ⟨⟨a, cap, rfl, ha⟩, hOb⟩ := hL
    have HB := Keep.mk hb
    have HO := Keep.mk hOb
    have HA := Keep.mk ha
    have S2 := Asrt.stars_one t2
    clear hb hOb ha t2 u1 u2
    go_wp2_with fail
    refine (on_head S2 (A' := tabT b 1 (one ⟨0, [], [], 0, false⟩)) fun Fi h _ => by have := open_c h rfl (by decide) (by decide) 0; rw [open_one] at this; exact this).mono ?_
    rintro e w3 ⟨rfl, F3, S3, u3⟩
    have U3 := U2.trans u3
    clear u3 S2 U2
    go_wp2_with fail
    go_loopw [7, 8, 9, 10] (fun sa sb la i wr => ∃ (k : Nat) (A B : ByteArray) (T : Int) (c : Con) (F : Fp), k ≤ L.length ∧ i = .int .i64 (k : Nat) ∧ sa = .string A ∧ sb = .string B ∧ la = .int .i64 T ∧ St W b A B T k c wr F) (fun _ _ _ i _ => L.length - (intOf i).toNat)
    case atStart => exact ⟨0, _, _, 0, _, F3, by omega, rfl, rfl, rfl, rfl, S3, U3, cre_nil⟩
    case round =>
      obtain ⟨k, A, B, T, c, F, hk, rfl, rfl, rfl, rfl, hA⟩ := hrel
      clear S3 U3
      by_cases hlt : k < L.length
      · obtain ⟨g, off, rfl, hg, hc⟩ := HA.out k L[k] (List.getElem?_eq_getElem hlt)
        have hsz := HB.out L[k] (List.getElem_mem hlt)
        have hob := HO.out L[k] (List.getElem_mem hlt)
        generalize hx : L[k] = x at *
        clear hx
        have k0 : wr.cell? ⟨g, off + k * 4, none⟩ = some (.int .i64 x.what) := by rw [hA.upd.cell hg fun h => h]; exact hc 0 _ rfl
        have k1 : wr.cell? ⟨g, off + k * 4 + 1, none⟩ = some (.int .i64 x.id) := by rw [hA.upd.cell hg fun h => h]; exact hc 1 _ rfl
        have k2 : wr.cell? ⟨g, off + k * 4 + 2, none⟩ = some (.int .i64 x.n) := by rw [hA.upd.cell hg fun h => h]; exact hc 2 _ rfl
        have k3 : wr.cell? ⟨g, off + k * 4 + 3, none⟩ = some x.v := by rw [hA.upd.cell hg fun h => h]; exact hc 3 _ rfl
        obtain ⟨x0, x1, x2, x3, x4⟩ := x
        obtain ⟨av, cv, hv3, hcv⟩ := hob.slice
        simp only at hv3 hcv k0 k1 k2 k3 hsz hob
        subst hv3
        obtain ⟨F4, S4, u4⟩ := Asrt.stars_box1 hA.mem (.cells #[.int .i64 x0, .int .i64 x1, .int .i64 x2, .slice av x4.length cv] 49)
        have U4 := hA.upd.trans u4
        have N4 := Keep.mk hA.cre
        have hob := Keep.mk hob
        clear hc u4
        by_cases h67 : x0 = 6 ∨ x0 = 7
        · have e67 : ∀ y : Bool, ((x0 == 6) = true ∨ (x0 == 6) = false ∧ (x0 == 7) = true) := fun _ => by
            rcases h67 with h | h
            · left; simp [h]
            · right; simp [h]
          obtain ⟨_, hov, hod⟩ : True ∧ Bytes (wr.alloc (.cells #[.int .i64 x0, .int .i64 x1, .int .i64 x2, .slice av x4.length cv] 49)) (.slice av x4.length cv) x4 ∧ ∀ g, (Value.slice av x4.length cv).ownBlock = some g → x4 ≠ [] → ¬ F4 g := ⟨trivial, hob.out.old U4⟩
          have CR0 := Keep.mk (fun (w : World) (F : Fp) (h : (tabT b 1 (one c)).on w F) => by have := roomT_c h 1; rw [one_of] at this; exact this)
          obtain ⟨kc, kf, kl⟩ := box_cell (i := 1) S4 rfl
          clear kc kf
          by_cases hfit : x4.length ≤ 1024 - c.out.length
          · have hfit2 : decide ((x4.length : Int) ≤ ((1024 - c.out.length : Nat) : Int)) = true := by simp; omega
            have hfit3 : decide (x4.length ≤ 1024 - c.out.length) = true := by simp; omega
            have CS := Keep.mk (fun (w : World) (F : Fp) (h : (tabT b 1 (one c)).on w F) (hv : Bytes w (.slice av x4.length cv) x4) (hd : ∀ g, (Value.slice av x4.length cv).ownBlock = some g → x4 ≠ [] → ¬ F g) => by have := say_c h 1 hv hd (by omega); rw [one_say, if_pos hfit] at this; exact this)
            have N6 := Keep.mk (N4.out.say hfit hsz)
            have ad := add_run A x4 (by have := N4.out.len; omega) hsz
            generalize A ++ strB x4 = A' at *
            generalize hc2 : ({ c with out := c.out ++ x4 } : Con) = c' at *
            generalize hr : 1024 - c.out.length = room at *
            clear hc2
            clear hfit hr e67
            rcases h67 with h6 | h7
            · subst h6
              go_wp2_with fail
              refine (on_head_quiet S4 fun Fi h => CR0.out _ _ h).mono ?_
              rintro e w5 ⟨rfl, S5, u5⟩
              have U5 := U4.trans u5
              obtain ⟨kc, kf, kl⟩ := box_cell (i := 1) S5 rfl
              have kn : w5.cell? ⟨wr.heap.size, 3, none⟩ = some (.slice av x4.length cv) := kc 3
              obtain ⟨hv5, hd5⟩ := hob.out.old U5
              clear kc kf u5 U4 S4
              go_wp2_with fail
              refine (on_head S5 fun Fi h hs => CS.out _ _ h hv5 fun g hg hn hF => hd5 g hg hn (hs _ hF)).mono ?_
              rintro e w6 ⟨rfl, F6, S6, u6⟩
              have U6 := U5.trans u6
              obtain ⟨kc, kf, kl⟩ := box_cell (i := 1) S6 rfl
              have kn : w6.cell? ⟨wr.heap.size, 3, none⟩ = some (.slice av x4.length cv) := kc 3
              have tx := conv_text (hob.out.old U6).1
              clear kc kf u6 U5 S5 hv5 hd5
              have N := Keep.mk N6.out
              have cut := N.out.cut Try.underlying9
              obtain ⟨f1, f1n, f2, f3, f4, f5, f5n, sz1, sz2, hTc, hTl, hk0⟩ := N.out.facts (by omega)
              have CW := Keep.mk (fun (w : World) (F : Fp) (h : (tabT b 1 (one c')).on w F) => by have := waits_c h 1; rw [one_of] at this; exact this)
              have CR := Keep.mk (fun (w : World) (F : Fp) (h : (tabT b 1 (one c')).on w F) => by have := credit_c h 1; rw [one_of] at this; exact this)
              generalize hcc : c'.credit = cc at *
              generalize hco : c'.out.length = co at *
              clear hcc hco hov hod
              go_wp2_with fail
              refine (on_head_quiet S6 fun Fi h => CW.out _ _ h).mono ?_
              rintro e wp ⟨rfl, Sp, up⟩
              have Up := U6.trans up
              go_wp2_with fail
              refine (on_head_quiet Sp fun Fi h => CR.out _ _ h).mono ?_
              rintro e wq ⟨rfl, Sq, uq⟩
              have Uq := Up.trans uq
              go_wp2_with fail
              refine (on_head_quiet Sq fun Fi h => CW.out _ _ h).mono ?_
              rintro e ws ⟨rfl, Ss, us⟩
              have Us := Uq.trans us
              obtain ⟨Fz, Sz, sz⟩ := Asrt.stars_fst Ss
              go_wp2_with fail
              go_roundw
              case rel => exact ⟨k + 1, A', B, T, c', Fz, by omega, by go_num, rfl, rfl, rfl, Sz, Us.re fun k hk => Us.fp k (sz k hk), N.out⟩
              case measure => simp [intOf]; omega
            · subst h7
              go_wp2_with fail
              refine (on_head_quiet S4 fun Fi h => CR0.out _ _ h).mono ?_
              rintro e w5 ⟨rfl, S5, u5⟩
              have U5 := U4.trans u5
              obtain ⟨kc, kf, kl⟩ := box_cell (i := 1) S5 rfl
              have kn : w5.cell? ⟨wr.heap.size, 3, none⟩ = some (.slice av x4.length cv) := kc 3
              obtain ⟨hv5, hd5⟩ := hob.out.old U5
              clear kc kf u5 U4 S4
              go_wp2_with fail
              refine (on_head S5 fun Fi h hs => CS.out _ _ h hv5 fun g hg hn hF => hd5 g hg hn (hs _ hF)).mono ?_
              rintro e w6 ⟨rfl, F6, S6, u6⟩
              have U6 := U5.trans u6
              obtain ⟨kc, kf, kl⟩ := box_cell (i := 1) S6 rfl
              have kn : w6.cell? ⟨wr.heap.size, 3, none⟩ = some (.slice av x4.length cv) := kc 3
              have tx := conv_text (hob.out.old U6).1
              clear kc kf u6 U5 S5 hv5 hd5
              have N := Keep.mk N6.out
              have cut := N.out.cut Try.underlying9
              obtain ⟨f1, f1n, f2, f3, f4, f5, f5n, sz1, sz2, hTc, hTl, hk0⟩ := N.out.facts (by omega)
              have CW := Keep.mk (fun (w : World) (F : Fp) (h : (tabT b 1 (one c')).on w F) => by have := waits_c h 1; rw [one_of] at this; exact this)
              have CR := Keep.mk (fun (w : World) (F : Fp) (h : (tabT b 1 (one c')).on w F) => by have := credit_c h 1; rw [one_of] at this; exact this)
              generalize hcc : c'.credit = cc at *
              generalize hco : c'.out.length = co at *
              clear hcc hco hov hod
              go_wp2_with fail
              refine (on_head_quiet S6 fun Fi h => CW.out _ _ h).mono ?_
              rintro e wp ⟨rfl, Sp, up⟩
              have Up := U6.trans up
              go_wp2_with fail
              refine (on_head_quiet Sp fun Fi h => CR.out _ _ h).mono ?_
              rintro e wq ⟨rfl, Sq, uq⟩
              have Uq := Up.trans uq
              go_wp2_with fail
              refine (on_head_quiet Sq fun Fi h => CW.out _ _ h).mono ?_
              rintro e ws ⟨rfl, Ss, us⟩
              have Us := Uq.trans us
              obtain ⟨Fz, Sz, sz⟩ := Asrt.stars_fst Ss
              go_wp2_with fail
              go_roundw
              case rel => exact ⟨k + 1, A', B, T, c', Fz, by omega, by go_num, rfl, rfl, rfl, Sz, Us.re fun k hk => Us.fp k (sz k hk), N.out⟩
              case measure => simp [intOf]; omega
          · have hfit2 : decide ((x4.length : Int) ≤ ((1024 - c.out.length : Nat) : Int)) = false := by simp; omega
            have hfit3 : decide (x4.length ≤ 1024 - c.out.length) = false := by simp; omega
            have CS := Keep.mk (fun (w : World) (F : Fp) (h : (tabT b 1 (one c)).on w F) (hv : Bytes w (.slice av x4.length cv) x4) (hd : ∀ g, (Value.slice av x4.length cv).ownBlock = some g → x4 ≠ [] → ¬ F g) => by have := say_c h 1 hv hd (by omega); rw [one_say, if_neg hfit] at this; exact this)
            generalize hr : 1024 - c.out.length = room at *
            clear hfit hr e67
            rcases h67 with h6 | h7
            · subst h6
              go_wp2_with fail
              refine (on_head_quiet S4 fun Fi h => CR0.out _ _ h).mono ?_
              rintro e w5 ⟨rfl, S5, u5⟩
              have U5 := U4.trans u5
              obtain ⟨kc, kf, kl⟩ := box_cell (i := 1) S5 rfl
              have kn : w5.cell? ⟨wr.heap.size, 3, none⟩ = some (.slice av x4.length cv) := kc 3
              obtain ⟨hv5, hd5⟩ := hob.out.old U5
              clear kc kf u5 U4 S4
              go_wp2_with fail
              refine (on_head S5 fun Fi h hs => CS.out _ _ h hv5 fun g hg hn hF => hd5 g hg hn (hs _ hF)).mono ?_
              rintro e w6 ⟨rfl, F6, S6, u6⟩
              have U6 := U5.trans u6
              obtain ⟨kc, kf, kl⟩ := box_cell (i := 1) S6 rfl
              have kn : w6.cell? ⟨wr.heap.size, 3, none⟩ = some (.slice av x4.length cv) := kc 3
              have tx := conv_text (hob.out.old U6).1
              clear kc kf u6 U5 S5 hv5 hd5
              have N := Keep.mk N4.out.up
              have cut := N.out.cut Try.underlying9
              obtain ⟨f1, f1n, f2, f3, f4, f5, f5n, sz1, sz2, hTc, hTl, hk0⟩ := N.out.facts (by omega)
              have CW := Keep.mk (fun (w : World) (F : Fp) (h : (tabT b 1 (one c)).on w F) => by have := waits_c h 1; rw [one_of] at this; exact this)
              have CR := Keep.mk (fun (w : World) (F : Fp) (h : (tabT b 1 (one c)).on w F) => by have := credit_c h 1; rw [one_of] at this; exact this)
              generalize hcc : c.credit = cc at *
              generalize hco : c.out.length = co at *
              clear hcc hco hov hod
              go_wp2_with fail
              refine (on_head_quiet S6 fun Fi h => CW.out _ _ h).mono ?_
              rintro e wp ⟨rfl, Sp, up⟩
              have Up := U6.trans up
              go_wp2_with fail
              refine (on_head_quiet Sp fun Fi h => CR.out _ _ h).mono ?_
              rintro e wq ⟨rfl, Sq, uq⟩
              have Uq := Up.trans uq
              go_wp2_with fail
              refine (on_head_quiet Sq fun Fi h => CW.out _ _ h).mono ?_
              rintro e ws ⟨rfl, Ss, us⟩
              have Us := Uq.trans us
              obtain ⟨Fz, Sz, sz⟩ := Asrt.stars_fst Ss
              go_wp2_with fail
              go_roundw
              case rel => exact ⟨k + 1, A, B, T, c, Fz, by omega, by go_num, rfl, rfl, rfl, Sz, Us.re fun k hk => Us.fp k (sz k hk), N.out⟩
              case measure => simp [intOf]; omega
            · subst h7
              go_wp2_with fail
              refine (on_head_quiet S4 fun Fi h => CR0.out _ _ h).mono ?_
              rintro e w5 ⟨rfl, S5, u5⟩
              have U5 := U4.trans u5
              obtain ⟨kc, kf, kl⟩ := box_cell (i := 1) S5 rfl
              have kn : w5.cell? ⟨wr.heap.size, 3, none⟩ = some (.slice av x4.length cv) := kc 3
              obtain ⟨hv5, hd5⟩ := hob.out.old U5
              clear kc kf u5 U4 S4
              go_wp2_with fail
              refine (on_head S5 fun Fi h hs => CS.out _ _ h hv5 fun g hg hn hF => hd5 g hg hn (hs _ hF)).mono ?_
              rintro e w6 ⟨rfl, F6, S6, u6⟩
              have U6 := U5.trans u6
              obtain ⟨kc, kf, kl⟩ := box_cell (i := 1) S6 rfl
              have kn : w6.cell? ⟨wr.heap.size, 3, none⟩ = some (.slice av x4.length cv) := kc 3
              have tx := conv_text (hob.out.old U6).1
              clear kc kf u6 U5 S5 hv5 hd5
              have N := Keep.mk N4.out.up
              have cut := N.out.cut Try.underlying9
              obtain ⟨f1, f1n, f2, f3, f4, f5, f5n, sz1, sz2, hTc, hTl, hk0⟩ := N.out.facts (by omega)
              have CW := Keep.mk (fun (w : World) (F : Fp) (h : (tabT b 1 (one c)).on w F) => by have := waits_c h 1; rw [one_of] at this; exact this)
              have CR := Keep.mk (fun (w : World) (F : Fp) (h : (tabT b 1 (one c)).on w F) => by have := credit_c h 1; rw [one_of] at this; exact this)
              generalize hcc : c.credit = cc at *
              generalize hco : c.out.length = co at *
              clear hcc hco hov hod
              go_wp2_with fail
              refine (on_head_quiet S6 fun Fi h => CW.out _ _ h).mono ?_
              rintro e wp ⟨rfl, Sp, up⟩
              have Up := U6.trans up
              go_wp2_with fail
              refine (on_head_quiet Sp fun Fi h => CR.out _ _ h).mono ?_
              rintro e wq ⟨rfl, Sq, uq⟩
              have Uq := Up.trans uq
              go_wp2_with fail
              refine (on_head_quiet Sq fun Fi h => CW.out _ _ h).mono ?_
              rintro e ws ⟨rfl, Ss, us⟩
              have Us := Uq.trans us
              obtain ⟨Fz, Sz, sz⟩ := Asrt.stars_fst Ss
              go_wp2_with fail
              go_roundw
              case rel => exact ⟨k + 1, A, B, T, c, Fz, by omega, by go_num, rfl, rfl, rfl, Sz, Us.re fun k hk => Us.fp k (sz k hk), N.out⟩
              case measure => simp [intOf]; omega
        · have n6 : x0 ≠ 6 := fun h => h67 (.inl h)
          have n7 : x0 ≠ 7 := fun h => h67 (.inr h)
          have e6 : (x0 == 6) = false := by simp [n6]
          have e7 : (x0 == 7) = false := by simp [n7]
          clear h67 n6 n7
          by_cases h8 : x0 = 8
          · subst h8
            obtain ⟨kc, kf, kl⟩ := box_cell (i := 1) S4 rfl
            clear kc kf
            by_cases hin : 0 ≤ x2 ∧ x2 < 100000
            · obtain ⟨q, N6⟩ := N4.out.budget hin.1 hin.2 (by omega)
              have CB := Keep.mk (fun (w : World) (F : Fp) (h : (tabT b 1 (one c)).on w F) => by have := budget_c h (one_inv N4.out.ok).ok 1 x2; rw [q] at this; exact this)
              have N6 := Keep.mk N6
              have d1 : decide (0 ≤ x2) = true := by simp; omega
              have d2 : decide (x2 < 100000) = true := by simp; omega
              have hT0 := N4.out.t0
              have hT1 := N4.out.cr
              have hT2 := N4.out.ok.k0
              have hT3 : 0 ≤ T := by omega
              obtain ⟨i1, i2⟩ := hin
              generalize hc2 : ({ c with credit := c.credit + x2 } : Con) = c' at *
              clear q hc2 hT1 hT2
              go_wp2_with fail
              refine (on_head S4 fun Fi h _ => CB.out _ _ h).mono ?_
              rintro e w6 ⟨rfl, F6, S6, u6⟩
              have U6 := U4.trans u6
              obtain ⟨kc, kf, kl⟩ := box_cell (i := 1) S6 rfl
              have kn : w6.cell? ⟨wr.heap.size, 2, none⟩ = some (.int .i64 x2) := kc 2
              clear kc kf u6 U4 S4
              have N := Keep.mk N6.out
              have cut := N.out.cut Try.underlying9
              obtain ⟨f1, f1n, f2, f3, f4, f5, f5n, sz1, sz2, hTc, hTl, hk0⟩ := N.out.facts (by omega)
              have CW := Keep.mk (fun (w : World) (F : Fp) (h : (tabT b 1 (one c')).on w F) => by have := waits_c h 1; rw [one_of] at this; exact this)
              have CR := Keep.mk (fun (w : World) (F : Fp) (h : (tabT b 1 (one c')).on w F) => by have := credit_c h 1; rw [one_of] at this; exact this)
              generalize hcc : c'.credit = cc at *
              generalize hco : c'.out.length = co at *
              clear hcc hco 
              go_wp2_with fail
              refine (on_head_quiet S6 fun Fi h => CW.out _ _ h).mono ?_
              rintro e wp ⟨rfl, Sp, up⟩
              have Up := U6.trans up
              go_wp2_with fail
              refine (on_head_quiet Sp fun Fi h => CR.out _ _ h).mono ?_
              rintro e wq ⟨rfl, Sq, uq⟩
              have Uq := Up.trans uq
              go_wp2_with fail
              refine (on_head_quiet Sq fun Fi h => CW.out _ _ h).mono ?_
              rintro e ws ⟨rfl, Ss, us⟩
              have Us := Uq.trans us
              obtain ⟨Fz, Sz, sz⟩ := Asrt.stars_fst Ss
              go_wp2_with fail
              go_roundw
              case rel => exact ⟨k + 1, A, B, (T + x2), c', Fz, by omega, by go_num, rfl, rfl, rfl, Sz, Us.re fun k hk => Us.fp k (sz k hk), N.out⟩
              case measure => simp [intOf]; omega
            · by_cases hneg : x2 < 0
              · have d1 : decide (0 ≤ x2) = false := by simp; omega
                clear hin hneg
                have N := Keep.mk N4.out.up
                have cut := N.out.cut Try.underlying9
                obtain ⟨f1, f1n, f2, f3, f4, f5, f5n, sz1, sz2, hTc, hTl, hk0⟩ := N.out.facts (by omega)
                have CW := Keep.mk (fun (w : World) (F : Fp) (h : (tabT b 1 (one c)).on w F) => by have := waits_c h 1; rw [one_of] at this; exact this)
                have CR := Keep.mk (fun (w : World) (F : Fp) (h : (tabT b 1 (one c)).on w F) => by have := credit_c h 1; rw [one_of] at this; exact this)
                generalize hcc : c.credit = cc at *
                generalize hco : c.out.length = co at *
                clear hcc hco 
                go_wp2_with fail
                refine (on_head_quiet S4 fun Fi h => CW.out _ _ h).mono ?_
                rintro e wp ⟨rfl, Sp, up⟩
                have Up := U4.trans up
                go_wp2_with fail
                refine (on_head_quiet Sp fun Fi h => CR.out _ _ h).mono ?_
                rintro e wq ⟨rfl, Sq, uq⟩
                have Uq := Up.trans uq
                go_wp2_with fail
                refine (on_head_quiet Sq fun Fi h => CW.out _ _ h).mono ?_
                rintro e ws ⟨rfl, Ss, us⟩
                have Us := Uq.trans us
                obtain ⟨Fz, Sz, sz⟩ := Asrt.stars_fst Ss
                go_wp2_with fail
                go_roundw
                case rel => exact ⟨k + 1, A, B, T, c, Fz, by omega, by go_num, rfl, rfl, rfl, Sz, Us.re fun k hk => Us.fp k (sz k hk), N.out⟩
                case measure => simp [intOf]; omega
              · have d1 : decide (0 ≤ x2) = true := by simp; omega
                have d2 : decide (x2 < 100000) = false := by simp; omega
                clear hin hneg
                have N := Keep.mk N4.out.up
                have cut := N.out.cut Try.underlying9
                obtain ⟨f1, f1n, f2, f3, f4, f5, f5n, sz1, sz2, hTc, hTl, hk0⟩ := N.out.facts (by omega)
                have CW := Keep.mk (fun (w : World) (F : Fp) (h : (tabT b 1 (one c)).on w F) => by have := waits_c h 1; rw [one_of] at this; exact this)
                have CR := Keep.mk (fun (w : World) (F : Fp) (h : (tabT b 1 (one c)).on w F) => by have := credit_c h 1; rw [one_of] at this; exact this)
                generalize hcc : c.credit = cc at *
                generalize hco : c.out.length = co at *
                clear hcc hco 
                go_wp2_with fail
                refine (on_head_quiet S4 fun Fi h => CW.out _ _ h).mono ?_
                rintro e wp ⟨rfl, Sp, up⟩
                have Up := U4.trans up
                go_wp2_with fail
                refine (on_head_quiet Sp fun Fi h => CR.out _ _ h).mono ?_
                rintro e wq ⟨rfl, Sq, uq⟩
                have Uq := Up.trans uq
                go_wp2_with fail
                refine (on_head_quiet Sq fun Fi h => CW.out _ _ h).mono ?_
                rintro e ws ⟨rfl, Ss, us⟩
                have Us := Uq.trans us
                obtain ⟨Fz, Sz, sz⟩ := Asrt.stars_fst Ss
                go_wp2_with fail
                go_roundw
                case rel => exact ⟨k + 1, A, B, T, c, Fz, by omega, by go_num, rfl, rfl, rfl, Sz, Us.re fun k hk => Us.fp k (sz k hk), N.out⟩
                case measure => simp [intOf]; omega
          · have e8 : (x0 == 8) = false := by simp [h8]
            by_cases h9 : x0 = 9
            · subst h9
              obtain ⟨y, c', q, N6, hyl⟩ := N4.out.flush
              have CF := Keep.mk (fun (w : World) (F : Fp) (h : (tabT b 1 (one c)).on w F) => by have := flush_c h (one_inv N4.out.ok).ok 1; rw [q] at this; exact this)
              have N6 := Keep.mk N6
              have ad := add_run B y (by have := N4.out.sizes; have := N4.out.len; omega) (by omega)
              generalize hB : B ++ strB y = B' at *
              clear q hB h8
              go_wp2_with fail
              refine (on_head_new (T := fun v => v) (X := fun v => bytesT v y) S4 fun Fi h _ => CF.out _ _ h).mono ?_
              rintro e w6 ⟨v6, rfl, F6, S6, u6⟩
              have U6 := U4.trans u6
              obtain ⟨_, hq, _⟩ := Asrt.stars_get S6 1 rfl
              have tx := conv_text hq.1
              clear u6 U4 S4 hq
              have N := Keep.mk N6.out
              have cut := N.out.cut Try.underlying9
              obtain ⟨f1, f1n, f2, f3, f4, f5, f5n, sz1, sz2, hTc, hTl, hk0⟩ := N.out.facts (by omega)
              have CW := Keep.mk (fun (w : World) (F : Fp) (h : (tabT b 1 (one c')).on w F) => by have := waits_c h 1; rw [one_of] at this; exact this)
              have CR := Keep.mk (fun (w : World) (F : Fp) (h : (tabT b 1 (one c')).on w F) => by have := credit_c h 1; rw [one_of] at this; exact this)
              generalize hcc : c'.credit = cc at *
              generalize hco : c'.out.length = co at *
              clear hcc hco 
              go_wp2_with fail
              refine (on_head_quiet S6 fun Fi h => CW.out _ _ h).mono ?_
              rintro e wp ⟨rfl, Sp, up⟩
              have Up := U6.trans up
              go_wp2_with fail
              refine (on_head_quiet Sp fun Fi h => CR.out _ _ h).mono ?_
              rintro e wq ⟨rfl, Sq, uq⟩
              have Uq := Up.trans uq
              go_wp2_with fail
              refine (on_head_quiet Sq fun Fi h => CW.out _ _ h).mono ?_
              rintro e ws ⟨rfl, Ss, us⟩
              have Us := Uq.trans us
              obtain ⟨Fz, Sz, sz⟩ := Asrt.stars_fst Ss
              go_wp2_with fail
              go_roundw
              case rel => exact ⟨k + 1, A, B', T, c', Fz, by omega, by go_num, rfl, rfl, rfl, Sz, Us.re fun k hk => Us.fp k (sz k hk), N.out⟩
              case measure => simp [intOf]; omega
            · have e9 : (x0 == 9) = false := by simp [h9]
              clear h8 h9
              have N := Keep.mk N4.out.up
              have cut := N.out.cut Try.underlying9
              obtain ⟨f1, f1n, f2, f3, f4, f5, f5n, sz1, sz2, hTc, hTl, hk0⟩ := N.out.facts (by omega)
              have CW := Keep.mk (fun (w : World) (F : Fp) (h : (tabT b 1 (one c)).on w F) => by have := waits_c h 1; rw [one_of] at this; exact this)
              have CR := Keep.mk (fun (w : World) (F : Fp) (h : (tabT b 1 (one c)).on w F) => by have := credit_c h 1; rw [one_of] at this; exact this)
              generalize hcc : c.credit = cc at *
              generalize hco : c.out.length = co at *
              clear hcc hco 
              go_wp2_with fail
              refine (on_head_quiet S4 fun Fi h => CW.out _ _ h).mono ?_
              rintro e wp ⟨rfl, Sp, up⟩
              have Up := U4.trans up
              go_wp2_with fail
              refine (on_head_quiet Sp fun Fi h => CR.out _ _ h).mono ?_
              rintro e wq ⟨rfl, Sq, uq⟩
              have Uq := Up.trans uq
              go_wp2_with fail
              refine (on_head_quiet Sq fun Fi h => CW.out _ _ h).mono ?_
              rintro e ws ⟨rfl, Ss, us⟩
              have Us := Uq.trans us
              obtain ⟨Fz, Sz, sz⟩ := Asrt.stars_fst Ss
              go_wp2_with fail
              go_roundw
              case rel => exact ⟨k + 1, A, B, T, c, Fz, by omega, by go_num, rfl, rfl, rfl, Sz, Us.re fun k hk => Us.fp k (sz k hk), N.out⟩
              case measure => simp [intOf]; omega
      · have US := hA.upd
        clear hA
        go_wp2_with fail
        go_ret
        exact ⟨rfl, US.quiet⟩
end connCredit
end Go.Proofs.Ytimkbpcdbbdjlaa
