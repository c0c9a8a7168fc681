/- ConnFrames: its walk. -/
import Derived.Test.YtimkbpcdbbdjlaaConnW1
import Derived.Test.YtimkbpcdbbdjlaaConnR
namespace Go.Sub
section
variable {P : Program} {w : World} {ops : Array Oper} {rest : List Oper} {o : Oper} {a : Act} {Q : Exit → Act → World → Prop}
/-- 'append(xs, ys...)' of bytes that are read, onto a row of one's own -/
theorem at_append_any (bytes : Nat) (hgd : o.guard = none) (s x : Operand) (t : TypeId)
    (ho : o.op = .call { callee := .builtin .append, args := #[s, x], argTypes := #[t, t] })
    (e : TypeId) (i : TypeInfo) (z : Value) (ht : P.underlying t = some (.slice e)) (hi : P.info? e = some i) (hz : i.zero = some z)
    (hsize : i.size = 1) (hby : i.bytes = bytes) (hzs : z.cells.size = 1)
    (v : Value) (L M : List UInt8) (F : Fp) (hs : a.eval s = v) (hrow : (row e 1 encB v L).on w F)
    (vx : Value) (hx : a.eval x = vx) (hb : Bytes w vx M)
    (h63 : L.length + M.length ≤ maxLen) (hbytes : (L.length + M.length) * bytes ≤ 140737488355328)
    (h : ∀ v' w' F', (row e 1 encB v' (L ++ M)).on w' F' → Upd F F' w w' → wpList P ops Q rest (a.put o.dst v') w') : wpList P ops Q (o :: rest) a w := by
  by_cases h0 : 0 < M.length
  · exact at_append_bytes bytes hgd s x t ho e i z ht hi hz hsize hby hzs v L M F hs hrow vx hx hb h0 h63 hbytes h
  · obtain rfl : M = [] := List.eq_nil_of_length_eq_zero (by omega)
    obtain ⟨av, cv, rfl, hcv⟩ := (row_bytes hrow).slice
    obtain ⟨ax, cx, rfl, _⟩ := hb.slice
    have := h (.slice av L.length cv) w F (by rw [List.append_nil]; exact hrow) (Upd.refl F w)
    exact at_append_zero hgd s x ho ht hi av ax L.length cv cx hcv hs hx this
end
end Go.Sub
namespace Go.Proofs.Ytimkbpcdbbdjlaa
open Go.RowKit Go.Sub Go.ChangeMaps
namespace connFrames
abbrev cn (r : List UInt8) : Con := ⟨0, r, [], 0, false⟩
theorem cn_ok {r : List UInt8} (h : r.length ≤ 512) : AllOk (one (cn r)) := (one_inv ⟨by simp, by simp, h, by simp⟩).ok
theorem cn_feed (r p : List UInt8) (n : Nat) (hp : p.length = n) : feedS (one (cn r)) 1 p = (one (cn (r ++ p.take (min n (512 - r.length)))), min n (512 - r.length)) := by subst hp; simp [one_feed]
theorem cn_next (r : List UInt8) : nextS (one (cn r)) 1 = (one (cn (r.drop (firstS r).2.1)), (firstS r).1, decide (0 < (firstS r).2.1), (firstS r).2.2) := by simp [nextS, mget, mset]
theorem infoB2 : (Try.prog.info? 5).map (fun i => (i.zero, i.size, i.bytes)) = some (some (.int .u8 0), 1, 1) := by kernel_rfl
/-- the state of the loops -/
structure St (W : World) (b : Nat) (A : List UInt8) (va : Value) (P : List VB) (vg : Value) (r : List UInt8) (bad : Int) (w : World) (F : Fp) : Prop where
  mem : (Asrt.stars (tabT b 1 (one (cn r)) :: row 5 1 encB va A :: framesL vg P)).on w F
  upd : Upd none' F W w
  cut : Cut A (P.map (·.2)) r bad
  few : r.length ≤ 512
def lenOf : Value → Nat
  | .slice _ n _ => n
  | _ => 0
set_option maxHeartbeats 16000000 in
set_option maxRecDepth 100000 in
theorem walk {W : World} (vb : Value) (s : List UInt8) (hs : Bytes W vb s) (hsl : s.length ≤ maxLen) (vc : Value) (cs : List UInt8) (hcs : Bytes W vc cs) (hcl : cs.length ≤ maxLen) :
    Calls Try.prog 3 #[vb, vc] W (Ret (.bool true) fun W' => Quiet W W') := by
  obtain ⟨av, cv, rfl, hcv⟩ := hs.slice
  obtain ⟨ac, cc, rfl, hcc⟩ := hcs.slice
  unfold maxLen at hsl hcl
  have HS := Keep.mk hs
  have HC := Keep.mk hcs
  clear hs hcs
  go_enter Try.func3, Try.ntmps3
  go_wp2_with fail
  refine (head_c _).mono ?_
  rintro e w1 ⟨rfl, u1⟩
  go_wp2_with fail
  refine (connnew_c _).mono ?_
  rintro e w2 ⟨b, rfl, F2, t2, u2⟩
  have U2 := Upd.trans u1 u2
  by_cases hbig : 9000 < s.length
  · have e1 : decide ((9000 : Int) < (s.length : Int)) = true := by simp; omega
    clear hbig
    go_wp2_with fail
    go_ret
    exact ⟨rfl, U2.quiet⟩
  by_cases hbig2 : 300 < cs.length
  · have e1 : decide ((9000 : Int) < (s.length : Int)) = false := by simp; omega
    have e2 : decide ((300 : Int) < (cs.length : Int)) = true := by simp; omega
    clear hbig hbig2
    go_wp2_with fail
    go_ret
    exact ⟨rfl, U2.quiet⟩
  have e1 : decide ((9000 : Int) < (s.length : Int)) = false := by simp; omega
  have e2 : decide ((300 : Int) < (cs.length : Int)) = false := by simp; omega
  have hs9 : s.length ≤ 9000 := by omega
  have hc3 : cs.length ≤ 300 := by omega
  clear hbig hbig2 hsl hcl
  have S2 := Asrt.stars_one t2
  clear u1 u2 t2
  go_wp2_with fail
  refine (on_head S2 (A' := tabT b 1 (one (cn []))) fun Fi h _ => by have := open_c h rfl (by decide) (by decide) 0; rw [open_one] at this; exact this).mono ?_
  rintro e w3 ⟨rfl, F3, S3, u3⟩
  have U3 := U2.trans u3
  obtain ⟨F4, S4⟩ : ∃ F, (Asrt.stars (tabT b 1 (one (cn [])) :: row 5 1 encB (.slice none 0 0) [] :: framesL (.slice none 0 0) [])).on w3 F ∧ Upd none' F W w3 :=
    ⟨F3, Asrt.stars_perm ((List.Perm.swap ..).trans ((List.Perm.swap ..).cons _)) (Asrt.stars_emp (row_nil w3 22 1 encVB) (Asrt.stars_perm (List.Perm.swap ..) (Asrt.stars_emp (row_nil w3 5 1 encB) S3))), U3⟩
  obtain ⟨iB, hi, hz0, hz1, hz2⟩ := info_parts infoB2
  have hIB := Keep.mk (And.intro hi (And.intro hz0 (And.intro hz1 hz2)))
  clear hi hz0 hz1 hz2
  obtain ⟨iF, hi, hz0, hz1, hz2⟩ := info_parts infoF
  have hIF := Keep.mk (And.intro hi (And.intro hz0 (And.intro hz1 hz2)))
  clear hi hz0 hz1 hz2 S2 U2 u3 S3 U3 e1 e2
  go_wp2_with fail
  go_loopw [9, 10, 11, 12, 13] (fun vg va vt vd i wr => ∃ (k at' : Nat) (P : List VB) (r : List UInt8) (bad : Int) (F : Fp) (ag : Option Addr) (cg : Nat) (aa : Option Addr) (ca : Nat), k ≤ cs.length + 1 ∧ at' ≤ s.length ∧ i = .int .i64 (k : Nat) ∧ vt = .int .i64 (at' : Nat) ∧ vd = .int .i64 bad ∧ vg = .slice ag P.length cg ∧ va = .slice aa at' ca ∧
    (k = 0 ∨ ((firstS r).2.1 = 0 ∧ (firstS r).2.2 = bad)) ∧ St W b (s.take at') (.slice aa at' ca) P (.slice ag P.length cg) r bad wr F) (fun _ _ _ _ i _ => cs.length + 1 - (intOf i).toNat)
  case atStart => exact ⟨0, 0, [], [], 0, F4, none, 0, none, 0, by omega, by omega, rfl, rfl, rfl, rfl, rfl, .inl rfl, S4.1, S4.2, cut_nil, by simp⟩
  case round =>
    obtain ⟨k, at', P, r, bad, F, ag, cg, aa, ca, hk, hat, rfl, rfl, rfl, rfl, rfl, hst, hA⟩ := hrel
    clear S4
    obtain ⟨wo, rfl⟩ : ∃ wo : World, wo = wr := ⟨_, rfl⟩
    have hla : (s.take at').length = at' := by simp; omega
    by_cases hle : k ≤ cs.length
    · obtain ⟨n0, hn0⟩ : ∃ n0 : Nat, n0 = s.length - at' := ⟨_, rfl⟩
      have en0 : (s.length : Int) - (at' : Int) = (n0 : Int) := by omega
      have hA := Keep.mk hA
      clear hst
      by_cases hlt : k < cs.length
      · obtain ⟨gc, oc, rfl, hgc, hcc0⟩ := HC.out.at' k hlt
        generalize cs[k] = c at *
        have kc : wo.cell? ⟨gc, oc + k, none⟩ = some (bv c) := (hA.out.upd.cell hgc fun h => h).trans hcc0
        have hc256 := c.toNat_lt
        obtain ⟨n, hn⟩ : ∃ n : Nat, n = min c.toNat n0 := ⟨_, rfl⟩
        have en : min (c.toNat : Int) (n0 : Int) = (n : Int) := by omega
        have hmn : at' + n ≤ s.length := by omega
        clear hn0 hn
        obtain ⟨piece, hpi⟩ : ∃ p, p = (s.drop at').take n := ⟨_, rfl⟩
        have hpl : piece.length = n := by rw [hpi]; simp; omega
        have CUT := run_cut_mid (P := Try.prog) Try.underlying22 sizeB av s.length cv at' (at' + n) (by omega) (by omega)
        simp only [Int.natCast_add, Nat.add_sub_cancel_left] at CUT
        have hB : Bytes W (.slice (cutAt av cv at') n (cv - at')) piece := by rw [hpi]; exact (HS.out.drop (by omega)).take (by simp; omega)
        obtain ⟨hv, hd⟩ := hB.old hA.out.upd
        obtain ⟨m, hm⟩ : ∃ m : Nat, m = min n (512 - r.length) := ⟨_, rfl⟩
        have CF := Keep.mk (fun (w : World) (F : Fp) (h : (tabT b 1 (one (cn r))).on w F) (hv : Bytes w (.slice (cutAt av cv at') n (cv - at')) piece) (hd : ∀ g, (Value.slice (cutAt av cv at') n (cv - at')).ownBlock = some g → piece ≠ [] → ¬ F g) => by have := feed_c h 1 hv hd (by omega); rw [cn_feed r piece n hpl, ← hm] at this; exact this)
        have em1 : decide ((n : Int) < (m : Int)) = false := by simp; omega
        have em2 : decide ((m : Int) < 0) = false := by simp
        have hmn2 : m ≤ n := by omega
        have CUT2 := run_cut_mid (P := Try.prog) Try.underlying22 sizeB av s.length cv at' (at' + m) (by omega) (by omega)
        simp only [Int.natCast_add, Nat.add_sub_cancel_left] at CUT2
        have hB2 : Bytes W (.slice (cutAt av cv at') m (cv - at')) ((s.drop at').take m) := (HS.out.drop (by omega)).take (by simp; omega)
        have hpt : piece.take m = (s.drop at').take m := by rw [hpi, List.take_take]; congr 1; omega
        have hr' : (r ++ piece.take m).length ≤ 512 := by have := hA.out.few; simp; omega
        have hA2 : s.take at' ++ (s.drop at').take m = s.take (at' + m) := by rw [List.take_add]
        have hC' : Cut (s.take (at' + m)) (P.map (·.2)) (r ++ piece.take m) bad := by rw [hpt, ← hA2]; exact hA.out.cut.feed _
        have hml : ((s.drop at').take m).length = m := by simp; omega
        have HM := Keep.mk hm
        have HC' := Keep.mk hC'
        have hB2 := Keep.mk hB2
        have S5 := hA.out.mem
        have U5 := hA.out.upd
        have hA2 := Keep.mk hA2
        generalize r ++ piece.take m = r' at *
        generalize hM : (s.drop at').take m = M at *
        clear hpi hpl hB hm hpt hC' hM HM hcc0
        go_wp2_with fail
        refine (on_head S5 fun Fi h hs => CF.out _ _ h hv fun g hg hn hF => hd g hg hn (hs _ hF)).mono ?_
        rintro e w6 ⟨rfl, F6, S6, u6⟩
        have U6 := U5.trans u6
        have hv6 := (hB2.out.old U6).1
        clear S5 U5 hv hd CF
        obtain ⟨Fo, hrow, _, hgo⟩ := Asrt.stars_upd _ 1 _ rfl S6
        obtain ⟨hi, hz0, hz1, hz2⟩ := hIB.out
        go_wp2_with (at_builtin; refine at_append_any 1 rfl (.tmp 83) (.tmp 89) 22 rfl 5 iB _ Try.underlying22 hi hz0 hz1 hz2 rfl (.slice aa at' ca) (s.take at') M Fo rfl hrow (.slice (cutAt av cv at') m (cv - at')) rfl hv6 ?h63 ?hby ?next)
        case h63 => unfold maxLen; omega
        case hby => omega
        case next =>
          intro v' w7 F7 hr7 u7
          obtain ⟨F8, S8, u8⟩ := hgo w7 F7 _ hr7 u7
          have U8 := U6.trans u8
          try rw [hA2.out] at hr7
          simp only [List.set_cons_succ, List.set_cons_zero] at S8
          try rw [hA2.out] at S8
          have hla2 : (s.take (at' + m)).length = at' + m := by simp; omega
          obtain ⟨aa', ca', hva, _⟩ := (row_bytes hr7).slice
          rw [hla2] at hva
          subst hva
          obtain ⟨at2, hat2⟩ : ∃ q : Nat, q = at' + m := ⟨_, rfl⟩
          have ea2 : (at' : Int) + (m : Int) = (at2 : Int) := by omega
          have hat3 : at2 ≤ s.length := by omega
          have hS8 : St W b (s.take at2) (.slice aa' at2 ca') P (.slice ag P.length cg) r' bad w7 F8 := by subst hat2; exact ⟨S8, U8, HC'.out, hr'⟩
          rw [← hat2] at hla2 hr7
          rw [← hat2]
          simp only [ea2]
          clear S6 U6 u6 hv6 hrow hgo hi hz0 hz1 hz2 hr7 u7 S8 u8 U8 HC' hr' CUT CUT2 hB2 hA2 hat2
          have hla3 : at2 ≤ 9000 := by omega
          go_wp2_with fail
          go_loopw [9, 12] (fun vg vd wq => ∃ (P : List VB) (r : List UInt8) (bad : Int) (F : Fp) (ag : Option Addr) (cg : Nat), vg = .slice ag P.length cg ∧ vd = .int .i64 bad ∧ St W b (s.take at2) (.slice aa' at2 ca') P (.slice ag P.length cg) r bad wq F) (fun vg _ _ => at2 + 1 - lenOf vg)
          case atStart => exact ⟨P, r', bad, F8, ag, cg, rfl, rfl, hS8⟩
          case round =>
            obtain ⟨P, r, bad, F, ag, cg, rfl, rfl, hQ⟩ := hrel
            clear hS8 hA
            have CN := Keep.mk (fun (w : World) (F : Fp) (h : (tabT b 1 (one (cn r))).on w F) => by have := next_c h (cn_ok hQ.few) 1; unfold NextEnds at this; rw [cn_next] at this; exact this)
            have hsz := hQ.cut.pre.size
            rw [hla2, List.length_map] at hsz
            have Sq := hQ.mem
            have Uq := hQ.upd
            have HQ := Keep.mk hQ
            clear hQ
            by_cases hn : (firstS r).2.1 = 0
            · have hst2 : St W b (s.take at2) (.slice aa' at2 ca') P (.slice ag P.length cg) r (firstS r).2.2 wr F := ⟨HQ.out.mem, HQ.out.upd, HQ.out.cut.stop hn, HQ.out.few⟩
              have hbad := HQ.out.cut.fine
              have HN := Keep.mk hn
              have HT := Keep.mk (And.intro hst2.cut hst2.few)
              rw [hn] at CN
              simp only [List.drop_zero, Nat.lt_irrefl, decide_false] at CN
              generalize hE : (firstS r).2.2 = e2 at *
              have HE := Keep.mk hE
              clear hst2 hn hE HQ
              by_cases hb0 : bad = 0
              · subst hb0
                clear hbad
                go_wp2_with fail
                refine (on_head_new (T := fun v => .tuple #[v, .bool false, .int .i64 e2]) (X := fun v => bytesT v (firstS r).1) Sq fun Fi h _ => CN.out _ _ h).mono ?_
                rintro e w9 ⟨v9, rfl, F9, S9, u9⟩
                have U9 := Uq.trans u9
                obtain ⟨F10, S10, s10⟩ := Asrt.stars_drop (swap2 S9)
                have hS10 : St W b (s.take at2) (.slice aa' at2 ca') P (.slice ag P.length cg) r e2 w9 F10 := ⟨S10, U9.re fun k hk => U9.fp k (s10 k hk), HT.out.1, HT.out.2⟩
                clear Sq Uq S9 u9 U9 S10 s10 CN
                go_wp2_with fail
                go_roundw
                case rel => exact ⟨k + 1, at2, P, r, e2, F10, ag, cg, aa', ca', by omega, hat3, by go_num, rfl, rfl, rfl, rfl, .inr ⟨HN.out, HE.out⟩, hS10⟩
                case measure => simp [intOf]; omega
              · obtain ⟨_, hb2⟩ := hbad hb0
                have eb : (bad != 0) = true := by simp [hb0]
                subst hb2
                have ee : (e2 != e2) = false := by simp
                clear hbad hb0
                go_wp2_with fail
                refine (on_head_new (T := fun v => .tuple #[v, .bool false, .int .i64 e2]) (X := fun v => bytesT v (firstS r).1) Sq fun Fi h _ => CN.out _ _ h).mono ?_
                rintro e w9 ⟨v9, rfl, F9, S9, u9⟩
                have U9 := Uq.trans u9
                obtain ⟨F10, S10, s10⟩ := Asrt.stars_drop (swap2 S9)
                have hS10 : St W b (s.take at2) (.slice aa' at2 ca') P (.slice ag P.length cg) r e2 w9 F10 := ⟨S10, U9.re fun k hk => U9.fp k (s10 k hk), HT.out.1, HT.out.2⟩
                clear Sq Uq S9 u9 U9 S10 s10 CN
                go_wp2_with fail
                go_roundw
                case rel => exact ⟨k + 1, at2, P, r, e2, F10, ag, cg, aa', ca', by omega, hat3, by go_num, rfl, rfl, rfl, rfl, .inr ⟨HN.out, HE.out⟩, hS10⟩
                case measure => simp [intOf]; omega
            · have hb0 : bad = 0 := Classical.byContradiction fun hb => hn (HQ.out.cut.bad hb).1
              subst hb0
              have he := first_err r hn
              have hC2 := HQ.out.cut.next hn
              have hfew : (r.drop (firstS r).2.1).length ≤ 512 := by have := HQ.out.few; simp; omega
              have hPl : P.length + 1 ≤ at2 := by have := hC2.pre.size; rw [hla2] at this; simp at this; omega
              rw [he] at hC2 CN
              rw [show decide (0 < (firstS r).2.1) = true from by simp; omega] at CN
              generalize r.drop (firstS r).2.1 = r2 at *
              generalize (firstS r).1 = x at *
              have HC2 := Keep.mk (And.intro hC2 hfew)
              clear hn he hC2 hfew HQ
              go_wp2_with fail
              refine (on_head_new (T := fun v => .tuple #[v, .bool true, .int .i64 0]) (X := fun v => bytesT v x) Sq fun Fi h _ => CN.out _ _ h).mono ?_
              rintro e w9 ⟨v9, rfl, F9, S9, u9⟩
              have U9 := Uq.trans u9
              obtain ⟨_, hq, _⟩ := Asrt.stars_get S9 1 rfl
              obtain ⟨a9, c9, rfl, _⟩ := hq.1.slice
              have S9 := Asrt.stars_perm (perm_a _ _ _ _ _) S9
              obtain ⟨Fo, hrow, _, hgo⟩ := Asrt.stars_upd _ 0 _ rfl S9
              obtain ⟨hi, hz0, hz1, hz2⟩ := hIF.out
              clear Sq Uq u9 hq CN
              go_wp2_with (at_builtin; refine at_append_row encVB 1 24 rfl (.tmp 114) (.tmp 116) 30 rfl 22 iF _ Try.underlying30 hi hz0 hz1 hz2 rfl (by decide) (.slice ag P.length cg) P (.slice a9 x.length c9, x) Fo rfl (Asrt.alloc hrow _) ⟨w9.heap.size, 0, none⟩ 1 rfl rfl (cells_new w9 (encVB (.slice a9 x.length c9, x)) _) ?hone ?h63 ?hby ?next)
              case hone => intro u hu; simp only [List.mem_singleton] at hu; subst hu; rfl
              case h63 => unfold maxLen; omega
              case hby => omega
              case next =>
                intro v' w10 F10 hr10 u10
                obtain ⟨F11, S11, u11⟩ := hgo w10 F10 _ hr10 (((Upd.refl Fo w9).alloc _).trans u10)
                have U11 := U9.trans u11
                obtain ⟨ag', cg', rfl⟩ := frames_slice hr10
                simp only [List.set_cons_succ, List.set_cons_zero] at S11
                have S12 := frames_back (p := (Value.slice a9 x.length c9, x)) S11
                have hS12 : St W b (s.take at2) (.slice aa' at2 ca') (P ++ [(Value.slice a9 x.length c9, x)]) (.slice ag' (P ++ [(Value.slice a9 x.length c9, x)]).length cg') r2 0 w10 F11 := ⟨S12, U11, by rw [List.map_append]; exact HC2.out.1, HC2.out.2⟩
                have hPl2 : (P ++ [(Value.slice a9 x.length c9, x)]).length = P.length + 1 := by simp
                clear S9 U9 hr10 u10 u11 hi hz0 hz1 hz2 hgo hrow S11 S12 U11
                generalize P ++ [(Value.slice a9 x.length c9, x)] = P' at *
                go_wp2_with fail
                go_roundw
                case rel => exact ⟨P', r2, 0, F11, ag', cg', rfl, rfl, hS12⟩
                case measure => simp [lenOf]; omega
      · have hkk : k = cs.length := by omega
        obtain ⟨n, hn⟩ : ∃ n : Nat, n = n0 := ⟨_, rfl⟩
        subst hn
        have hmn : at' + n ≤ s.length := by omega
        clear hn0 
        obtain ⟨piece, hpi⟩ : ∃ p, p = (s.drop at').take n := ⟨_, rfl⟩
        have hpl : piece.length = n := by rw [hpi]; simp; omega
        have CUT := run_cut_mid (P := Try.prog) Try.underlying22 sizeB av s.length cv at' (at' + n) (by omega) (by omega)
        simp only [Int.natCast_add, Nat.add_sub_cancel_left] at CUT
        have hB : Bytes W (.slice (cutAt av cv at') n (cv - at')) piece := by rw [hpi]; exact (HS.out.drop (by omega)).take (by simp; omega)
        obtain ⟨hv, hd⟩ := hB.old hA.out.upd
        obtain ⟨m, hm⟩ : ∃ m : Nat, m = min n (512 - r.length) := ⟨_, rfl⟩
        have CF := Keep.mk (fun (w : World) (F : Fp) (h : (tabT b 1 (one (cn r))).on w F) (hv : Bytes w (.slice (cutAt av cv at') n (cv - at')) piece) (hd : ∀ g, (Value.slice (cutAt av cv at') n (cv - at')).ownBlock = some g → piece ≠ [] → ¬ F g) => by have := feed_c h 1 hv hd (by omega); rw [cn_feed r piece n hpl, ← hm] at this; exact this)
        have em1 : decide ((n : Int) < (m : Int)) = false := by simp; omega
        have em2 : decide ((m : Int) < 0) = false := by simp
        have hmn2 : m ≤ n := by omega
        have CUT2 := run_cut_mid (P := Try.prog) Try.underlying22 sizeB av s.length cv at' (at' + m) (by omega) (by omega)
        simp only [Int.natCast_add, Nat.add_sub_cancel_left] at CUT2
        have hB2 : Bytes W (.slice (cutAt av cv at') m (cv - at')) ((s.drop at').take m) := (HS.out.drop (by omega)).take (by simp; omega)
        have hpt : piece.take m = (s.drop at').take m := by rw [hpi, List.take_take]; congr 1; omega
        have hr' : (r ++ piece.take m).length ≤ 512 := by have := hA.out.few; simp; omega
        have hA2 : s.take at' ++ (s.drop at').take m = s.take (at' + m) := by rw [List.take_add]
        have hC' : Cut (s.take (at' + m)) (P.map (·.2)) (r ++ piece.take m) bad := by rw [hpt, ← hA2]; exact hA.out.cut.feed _
        have hml : ((s.drop at').take m).length = m := by simp; omega
        have HM := Keep.mk hm
        have HC' := Keep.mk hC'
        have hB2 := Keep.mk hB2
        have S5 := hA.out.mem
        have U5 := hA.out.upd
        have hA2 := Keep.mk hA2
        generalize r ++ piece.take m = r' at *
        generalize hM : (s.drop at').take m = M at *
        clear hpi hpl hB hm hpt hC' hM HM 
        go_wp2_with fail
        refine (on_head S5 fun Fi h hs => CF.out _ _ h hv fun g hg hn hF => hd g hg hn (hs _ hF)).mono ?_
        rintro e w6 ⟨rfl, F6, S6, u6⟩
        have U6 := U5.trans u6
        have hv6 := (hB2.out.old U6).1
        clear S5 U5 hv hd CF
        obtain ⟨Fo, hrow, _, hgo⟩ := Asrt.stars_upd _ 1 _ rfl S6
        obtain ⟨hi, hz0, hz1, hz2⟩ := hIB.out
        go_wp2_with (at_builtin; refine at_append_any 1 rfl (.tmp 83) (.tmp 89) 22 rfl 5 iB _ Try.underlying22 hi hz0 hz1 hz2 rfl (.slice aa at' ca) (s.take at') M Fo rfl hrow (.slice (cutAt av cv at') m (cv - at')) rfl hv6 ?h63 ?hby ?next)
        case h63 => unfold maxLen; omega
        case hby => omega
        case next =>
          intro v' w7 F7 hr7 u7
          obtain ⟨F8, S8, u8⟩ := hgo w7 F7 _ hr7 u7
          have U8 := U6.trans u8
          try rw [hA2.out] at hr7
          simp only [List.set_cons_succ, List.set_cons_zero] at S8
          try rw [hA2.out] at S8
          have hla2 : (s.take (at' + m)).length = at' + m := by simp; omega
          obtain ⟨aa', ca', hva, _⟩ := (row_bytes hr7).slice
          rw [hla2] at hva
          subst hva
          obtain ⟨at2, hat2⟩ : ∃ q : Nat, q = at' + m := ⟨_, rfl⟩
          have ea2 : (at' : Int) + (m : Int) = (at2 : Int) := by omega
          have hat3 : at2 ≤ s.length := by omega
          have hS8 : St W b (s.take at2) (.slice aa' at2 ca') P (.slice ag P.length cg) r' bad w7 F8 := by subst hat2; exact ⟨S8, U8, HC'.out, hr'⟩
          rw [← hat2] at hla2 hr7
          rw [← hat2]
          simp only [ea2]
          clear S6 U6 u6 hv6 hrow hgo hi hz0 hz1 hz2 hr7 u7 S8 u8 U8 HC' hr' CUT CUT2 hB2 hA2 hat2
          have hla3 : at2 ≤ 9000 := by omega
          go_wp2_with fail
          go_loopw [9, 12] (fun vg vd wq => ∃ (P : List VB) (r : List UInt8) (bad : Int) (F : Fp) (ag : Option Addr) (cg : Nat), vg = .slice ag P.length cg ∧ vd = .int .i64 bad ∧ St W b (s.take at2) (.slice aa' at2 ca') P (.slice ag P.length cg) r bad wq F) (fun vg _ _ => at2 + 1 - lenOf vg)
          case atStart => exact ⟨P, r', bad, F8, ag, cg, rfl, rfl, hS8⟩
          case round =>
            obtain ⟨P, r, bad, F, ag, cg, rfl, rfl, hQ⟩ := hrel
            clear hS8 hA
            have CN := Keep.mk (fun (w : World) (F : Fp) (h : (tabT b 1 (one (cn r))).on w F) => by have := next_c h (cn_ok hQ.few) 1; unfold NextEnds at this; rw [cn_next] at this; exact this)
            have hsz := hQ.cut.pre.size
            rw [hla2, List.length_map] at hsz
            have Sq := hQ.mem
            have Uq := hQ.upd
            have HQ := Keep.mk hQ
            clear hQ
            by_cases hn : (firstS r).2.1 = 0
            · have hst2 : St W b (s.take at2) (.slice aa' at2 ca') P (.slice ag P.length cg) r (firstS r).2.2 wr F := ⟨HQ.out.mem, HQ.out.upd, HQ.out.cut.stop hn, HQ.out.few⟩
              have hbad := HQ.out.cut.fine
              have HN := Keep.mk hn
              have HT := Keep.mk (And.intro hst2.cut hst2.few)
              rw [hn] at CN
              simp only [List.drop_zero, Nat.lt_irrefl, decide_false] at CN
              generalize hE : (firstS r).2.2 = e2 at *
              have HE := Keep.mk hE
              clear hst2 hn hE HQ
              by_cases hb0 : bad = 0
              · subst hb0
                clear hbad
                go_wp2_with fail
                refine (on_head_new (T := fun v => .tuple #[v, .bool false, .int .i64 e2]) (X := fun v => bytesT v (firstS r).1) Sq fun Fi h _ => CN.out _ _ h).mono ?_
                rintro e w9 ⟨v9, rfl, F9, S9, u9⟩
                have U9 := Uq.trans u9
                obtain ⟨F10, S10, s10⟩ := Asrt.stars_drop (swap2 S9)
                have hS10 : St W b (s.take at2) (.slice aa' at2 ca') P (.slice ag P.length cg) r e2 w9 F10 := ⟨S10, U9.re fun k hk => U9.fp k (s10 k hk), HT.out.1, HT.out.2⟩
                clear Sq Uq S9 u9 U9 S10 s10 CN
                go_wp2_with fail
                go_roundw
                case rel => exact ⟨k + 1, at2, P, r, e2, F10, ag, cg, aa', ca', by omega, hat3, by go_num, rfl, rfl, rfl, rfl, .inr ⟨HN.out, HE.out⟩, hS10⟩
                case measure => simp [intOf]; omega
              · obtain ⟨_, hb2⟩ := hbad hb0
                have eb : (bad != 0) = true := by simp [hb0]
                subst hb2
                have ee : (e2 != e2) = false := by simp
                clear hbad hb0
                go_wp2_with fail
                refine (on_head_new (T := fun v => .tuple #[v, .bool false, .int .i64 e2]) (X := fun v => bytesT v (firstS r).1) Sq fun Fi h _ => CN.out _ _ h).mono ?_
                rintro e w9 ⟨v9, rfl, F9, S9, u9⟩
                have U9 := Uq.trans u9
                obtain ⟨F10, S10, s10⟩ := Asrt.stars_drop (swap2 S9)
                have hS10 : St W b (s.take at2) (.slice aa' at2 ca') P (.slice ag P.length cg) r e2 w9 F10 := ⟨S10, U9.re fun k hk => U9.fp k (s10 k hk), HT.out.1, HT.out.2⟩
                clear Sq Uq S9 u9 U9 S10 s10 CN
                go_wp2_with fail
                go_roundw
                case rel => exact ⟨k + 1, at2, P, r, e2, F10, ag, cg, aa', ca', by omega, hat3, by go_num, rfl, rfl, rfl, rfl, .inr ⟨HN.out, HE.out⟩, hS10⟩
                case measure => simp [intOf]; omega
            · have hb0 : bad = 0 := Classical.byContradiction fun hb => hn (HQ.out.cut.bad hb).1
              subst hb0
              have he := first_err r hn
              have hC2 := HQ.out.cut.next hn
              have hfew : (r.drop (firstS r).2.1).length ≤ 512 := by have := HQ.out.few; simp; omega
              have hPl : P.length + 1 ≤ at2 := by have := hC2.pre.size; rw [hla2] at this; simp at this; omega
              rw [he] at hC2 CN
              rw [show decide (0 < (firstS r).2.1) = true from by simp; omega] at CN
              generalize r.drop (firstS r).2.1 = r2 at *
              generalize (firstS r).1 = x at *
              have HC2 := Keep.mk (And.intro hC2 hfew)
              clear hn he hC2 hfew HQ
              go_wp2_with fail
              refine (on_head_new (T := fun v => .tuple #[v, .bool true, .int .i64 0]) (X := fun v => bytesT v x) Sq fun Fi h _ => CN.out _ _ h).mono ?_
              rintro e w9 ⟨v9, rfl, F9, S9, u9⟩
              have U9 := Uq.trans u9
              obtain ⟨_, hq, _⟩ := Asrt.stars_get S9 1 rfl
              obtain ⟨a9, c9, rfl, _⟩ := hq.1.slice
              have S9 := Asrt.stars_perm (perm_a _ _ _ _ _) S9
              obtain ⟨Fo, hrow, _, hgo⟩ := Asrt.stars_upd _ 0 _ rfl S9
              obtain ⟨hi, hz0, hz1, hz2⟩ := hIF.out
              clear Sq Uq u9 hq CN
              go_wp2_with (at_builtin; refine at_append_row encVB 1 24 rfl (.tmp 114) (.tmp 116) 30 rfl 22 iF _ Try.underlying30 hi hz0 hz1 hz2 rfl (by decide) (.slice ag P.length cg) P (.slice a9 x.length c9, x) Fo rfl (Asrt.alloc hrow _) ⟨w9.heap.size, 0, none⟩ 1 rfl rfl (cells_new w9 (encVB (.slice a9 x.length c9, x)) _) ?hone ?h63 ?hby ?next)
              case hone => intro u hu; simp only [List.mem_singleton] at hu; subst hu; rfl
              case h63 => unfold maxLen; omega
              case hby => omega
              case next =>
                intro v' w10 F10 hr10 u10
                obtain ⟨F11, S11, u11⟩ := hgo w10 F10 _ hr10 (((Upd.refl Fo w9).alloc _).trans u10)
                have U11 := U9.trans u11
                obtain ⟨ag', cg', rfl⟩ := frames_slice hr10
                simp only [List.set_cons_succ, List.set_cons_zero] at S11
                have S12 := frames_back (p := (Value.slice a9 x.length c9, x)) S11
                have hS12 : St W b (s.take at2) (.slice aa' at2 ca') (P ++ [(Value.slice a9 x.length c9, x)]) (.slice ag' (P ++ [(Value.slice a9 x.length c9, x)]).length cg') r2 0 w10 F11 := ⟨S12, U11, by rw [List.map_append]; exact HC2.out.1, HC2.out.2⟩
                have hPl2 : (P ++ [(Value.slice a9 x.length c9, x)]).length = P.length + 1 := by simp
                clear S9 U9 hr10 u10 u11 hi hz0 hz1 hz2 hgo hrow S11 S12 U11
                generalize P ++ [(Value.slice a9 x.length c9, x)] = P' at *
                go_wp2_with fail
                go_roundw
                case rel => exact ⟨P', r2, 0, F11, ag', cg', rfl, rfl, hS12⟩
                case measure => simp [lenOf]; omega
    · have hkk : k = cs.length + 1 := by omega
      obtain ⟨hn, he⟩ := hst.resolve_left (by omega)
      have hS := hA.mem
      have U := hA.upd
      have hcut := hA.cut
      obtain ⟨_, hrow, _⟩ := Asrt.stars_get hS 1 rfl
      have CC := Keep.mk (cut6_c (row_bytes hrow) (by omega))
      have HH := Keep.mk (And.intro hn (And.intro he hcut.pre))
      clear hst hA hn he hcut hrow
      go_wp2_with fail
      refine CC.out.mono ?_
      rintro e w9 ⟨vo, a9, P2, r2, hp2, hs2, rfl, F9, S9, u9⟩
      obtain ⟨hn, he, hp⟩ := HH.out
      obtain ⟨eP, er⟩ := hp.same hp2 hn hs2
      subst er
      obtain ⟨F10, S10, u10⟩ := Asrt.stars_new (A := Asrt.stars (framesL vo P2)) hS S9 u9
      have U10 := U.trans u10
      obtain ⟨F11, S11, _⟩ := Asrt.stars_drop S10
      obtain ⟨F12, S12, _⟩ := Asrt.stars_drop S11
      obtain ⟨F13, S13, _⟩ := Asrt.stars_drop S12
      have R1 := frames_reads (l := []) (by rw [List.append_nil]; exact S13)
      have R2 := frames_reads (l := []) (by rw [List.append_nil]; exact S9)
      obtain ⟨⟨ao, co, rfl, _⟩, _⟩ := id R2
      have hsz := hp.size
      rw [hla, List.length_map] at hsz
      have CS := Keep.mk (same6_c R1 R2 eP (by omega))
      have HE := Keep.mk he
      rw [he]
      clear S10 S11 S12 S13 R1 R2 S9 u9 u10 hp hp2 hs2 eP hn he CC HH
      go_wp2_with fail
      refine CS.out.mono ?_
      rintro e w10 ⟨rfl, n, rfl⟩
      go_wp2_with fail
      go_ret
      exact ⟨rfl, (U10.drewN n).quiet⟩
end connFrames
end Go.Proofs.Ytimkbpcdbbdjlaa
