/- The ring of bytes: what its calls do. -/
import Derived.Test.YtimkbpcdbbdjlaaRows
import Derived.Test.YtimkbpcdbbdjlaaSubH
import Derived.Test.YtimkbpcdbbdjlaaSubJ
import Derived.Handy
import Derived.Lib.MinMax
namespace Go.Proofs.Ytimkbpcdbbdjlaa
open Go.RowKit Go.Sub Go.ChangeMaps
def ringT (r N : Nat) (B : List UInt8) : Asrt := .ex fun q : Nat × Nat × List UInt8 => .fact (RingOk N q.2.2 q.2.1 B ∧ N ≤ 65536)
  (.stars [.blk r (.cells #[.slice (some ⟨q.1, 0, none⟩) N N, .int .i64 (q.2.1 : Nat), .int .i64 (B.length : Nat)] 97 (0, 0)), .blk q.1 (.cells (q.2.2.map bv).toArray 5 (0, 0))])
theorem infoB : (Try.prog.info? 5).map (fun i => (i.zero, i.size, i.bytes)) = some (some (.int .u8 0), 1, 1) := by kernel_rfl
theorem sizeB : (Try.prog.info? 5).map (·.size) = some 1 := by kernel_rfl
set_option maxHeartbeats 400000 in
theorem many_c {r N : Nat} {B : List UInt8} {w : World} {F : Fp} (hR : (ringT r N B).on w F) :
    Calls Try.prog 60 #[.pointer (some ⟨r, 0, none⟩)] w (Ret (.int .i64 (B.length : Nat)) fun w' => w = w') := by
  obtain ⟨⟨row, at', R⟩, hok, hS⟩ := hR
  obtain ⟨hc, hfz, hl⟩ := Asrt.blk_of hS 0 rfl
  go_enter Try.func60, Try.ntmps60
  go_wp2_with fail
  go_returns
  exact ⟨rfl, rfl⟩
set_option maxHeartbeats 400000 in
theorem room_c {r N : Nat} {B : List UInt8} {w : World} {F : Fp} (hR : (ringT r N B).on w F) :
    Calls Try.prog 54 #[.pointer (some ⟨r, 0, none⟩)] w (Ret (.int .i64 ((N - B.length : Nat))) fun w' => ∃ n, w' = w.drewN n) := by
  obtain ⟨⟨row, at', R⟩, ⟨hok, hN⟩, hS⟩ := hR
  obtain ⟨hc, hfz, hl⟩ := Asrt.blk_of hS 0 rfl
  have hf := hok.fit
  have e : IntKind.i64.wrap ((N : Int) - (B.length : Int)) = ((N - B.length : Nat) : Int) := by rw [IntKind.wrap_i64]; omega
  generalize N - B.length = d at *
  clear hok
  go_enter Try.func54, Try.ntmps54
  go_wp2_with fail
  go_quiet (fail)
  go_wp2_with fail
  go_returns
  exact ⟨rfl, _, rfl⟩
set_option maxHeartbeats 1000000 in
/-- two pieces of the row -/
theorem parts_c {r N row : Nat} {w : World} (h0 : 0 < N) (hN : N ≤ 65536) (hc : w.cell? ⟨r, 0, none⟩ = some (.slice (some ⟨row, 0, none⟩) N N)) (hl : r < w.heap.size) (p n : Nat) (hp : p < 2 * N) (hn : n ≤ N) :
    Calls Try.prog 82 #[.pointer (some ⟨r, 0, none⟩), .int .i64 p, .int .i64 n] w
      (Ret (.tuple #[.slice (some ⟨row, wrapi N p, none⟩) (min n (N - wrapi N p)) (N - wrapi N p), .slice (some ⟨row, 0, none⟩) (n - min n (N - wrapi N p)) N]) fun w' => ∃ n, w' = w.drewN n) := by
  have hq : wrapi N p < N := by unfold wrapi; split <;> omega
  have e1 : ((p : Int) % (N : Int)) = ((wrapi N p : Nat) : Int) := by
    unfold wrapi
    split
    · rw [Int.emod_eq_of_lt (by omega) (by omega)]
    · rw [show (p : Int) = ((p - N : Nat) : Int) + (N : Int) from by omega, Int.add_emod_right, Int.emod_eq_of_lt (by omega) (by omega)]
  have e0 : ((N : Int) == 0) = false := by simp; omega
  generalize wrapi N p = q at *
  have e2 : IntKind.i64.wrap ((N : Int) - (q : Int)) = ((N - q : Nat) : Int) := by rw [IntKind.wrap_i64]; omega
  have e3 : min (n : Int) ((N - q : Nat) : Int) = ((min n (N - q) : Nat) : Int) := by omega
  have hf : min n (N - q) ≤ n ∧ min n (N - q) ≤ N - q := ⟨Nat.min_le_left .., Nat.min_le_right ..⟩
  generalize min n (N - q) = f at *
  have e4 : IntKind.i64.wrap ((q : Int) + (f : Int)) = ((q + f : Nat) : Int) := by rw [IntKind.wrap_i64]; omega
  have e5 : IntKind.i64.wrap ((n : Int) - (f : Int)) = ((n - f : Nat) : Int) := by rw [IntKind.wrap_i64]; omega
  obtain ⟨h1, h2⟩ := hf
  go_enter Try.func82, Try.ntmps82
  go_wp2_with fail
  rw [e1]
  have hb : q + f ≤ N := by omega
  have hb2 : n - f ≤ N := by omega
  clear e1
  go_quiet (fail)
  go_wp2_with fail
  go_ret2
  refine ⟨?_, _, rfl⟩
  show Ending.returned (.tuple #[.slice (some ⟨row, q, none⟩) (q + f - q) (N - q), _]) = _
  rw [Nat.add_sub_cancel_left]
  rfl
set_option maxHeartbeats 2000000 in
set_option maxRecDepth 100000 in
/-- Add. -/
theorem add_c {r N : Nat} {B : List UInt8} {w : World} {F : Fp} (hR : (ringT r N B).on w F) {v : Value} {b : List UInt8} (hb : Bytes w v b) (hd : ∀ g, v.ownBlock = some g → b ≠ [] → ¬ F g) (hl : b.length ≤ 1000000) :
    Calls Try.prog 42 #[.pointer (some ⟨r, 0, none⟩), v] w (Ret (.int .i64 ((min b.length (N - B.length) : Nat))) fun w' => ∃ F', (ringT r N (B ++ b.take (min b.length (N - B.length)))).on w' F' ∧ Upd F F' w w') := by
  have hR0 := hR
  obtain ⟨⟨row, at', R⟩, ⟨hok, hN⟩, hS⟩ := hR
  obtain ⟨hc, hfz, hlr⟩ := Asrt.blk_of hS 0 rfl
  simp only at hok hc hfz hlr hS
  have hfit := hok.fit
  have hat := hok.at'
  have hc0 := hc 0
  have hc1 := hc 1
  have hc2 := hc 2
  simp only [List.getElem?_toArray, List.getElem?_cons_zero, List.getElem?_cons_succ] at hc0 hc1 hc2
  obtain ⟨av, cv, rfl, hcap⟩ := hb.slice
  obtain ⟨n, hn⟩ : ∃ n, n = min b.length (N - B.length) := ⟨_, rfl⟩
  obtain ⟨p, hp⟩ : ∃ p, p = wrapi N (at' + B.length) := ⟨_, rfl⟩
  obtain ⟨f, hf⟩ : ∃ f, f = min n (N - p) := ⟨_, rfl⟩
  obtain ⟨hadd, fit1, fit2⟩ := ring_add hok b hn hp hf
  have RC := fun m => room_c (Asrt.drewN hR0 m)
  have PC := fun m => parts_c (r := r) (row := row) (w := w.drewN m) (N := N) (by omega) hN hc0 hlr (at' + B.length) n (by omega) (by omega)
  rw [← hp, ← hf] at PC
  rw [← hn]
  have e1 : IntKind.i64.wrap ((at' : Int) + (B.length : Int)) = ((at' + B.length : Nat) : Int) := by rw [IntKind.wrap_i64]; omega
  have e2 : min (b.length : Int) ((N - B.length : Nat) : Int) = (n : Int) := by omega
  have hfn : f ≤ n := by omega
  have hnb : n ≤ b.length := by omega
  have e3 : IntKind.i64.wrap ((f : Int) + ((n - f : Nat) : Int)) = (n : Int) := by rw [IntKind.wrap_i64]; omega
  have e4 : IntKind.i64.wrap ((B.length : Int) + (n : Int)) = ((B.length + n : Nat) : Int) := by rw [IntKind.wrap_i64]; omega
  obtain ⟨x1, hx1⟩ : ∃ x1, x1 = (b.take f).map bv := ⟨_, rfl⟩
  obtain ⟨x2, hx2⟩ : ∃ x2, x2 = ((b.drop f).take (n - f)).map bv := ⟨_, rfl⟩
  have l1 : x1.length = f := by rw [hx1]; simp; omega
  have l2 : x2.length = n - f := by rw [hx2]; simp; omega
  have CUT := run_cut (P := Try.prog) Try.underlying22 sizeB av b.length cv f (by omega)
  have hbd := hb.drop (k := f) (by omega)
  obtain ⟨Frow, hrow, hsub, hgo⟩ := Asrt.stars_upd _ 1 _ rfl hS
  have HX1 := Keep.mk hx1
  have HX2 := Keep.mk hx2
  have HP := Keep.mk hp
  have HF := Keep.mk hf
  have HN := Keep.mk hn
  have HADD := Keep.mk hadd
  have HL1 := Keep.mk l1
  have HL2 := Keep.mk l2
  have HB := Keep.mk hb
  have HBD := Keep.mk hbd
  have FIT := Keep.mk (And.intro fit1 fit2)
  clear hx1 hx2 hp hf hn hadd l1 l2 hc fit1 fit2 hb hbd
  go_enter Try.func42, Try.ntmps42
  go_wp2_with fail
  go_quiet (first | (go_at_call 54; exact Calls.quiet_of (RC _)) | (go_at_call 82; exact Calls.quiet_of (PC _)))
  go_wp2_with (refine at_copy rfl (.tmp 27) (.tmp 28) 22 22 rfl 5 Try.underlying22 sizeB _ _ _ _ _ _ rfl rfl row p (R.map bv) 5 Frow (Asrt.drewN hrow _) x1 ?hn ?hpos ?hfit ?hone ?next)
  case hn => rw [HL1.out]; exact (Nat.min_eq_right (by omega)).symm
  case hpos =>
    intro h0
    rw [HL1.out] at h0
    obtain ⟨ad, ha, hcs⟩ := HB.out.src f (by omega) h0
    rw [← HX1.out] at hcs
    first | exact ⟨rfl, ad, ha, hcs⟩ | exact ⟨ad, ha, hcs⟩
  case hfit => rw [HX1.out]; simpa using FIT.out.1
  case hone => rw [HX1.out]; exact bv_one _
  case next =>
    intro w2 hrow2 u2
    rw [HL1.out]
    obtain ⟨F2, S2, v2⟩ := hgo _ _ _ hrow2 (((Upd.refl Frow w).drewN _).trans u2)
    have hb2 := HB.out.upd (((Upd.refl Frow w).drewN _).trans u2) fun g hg hne h => hd g hg hne (hsub g h)
    have hbd := hb2.drop (k := f) (by omega)
    rw [HX1.out, splice_map] at S2
    obtain ⟨Frow2, hrow2', hsub2, hgo2⟩ := Asrt.stars_upd _ 1 _ rfl S2
    have HBD := Keep.mk hbd
    clear hb2 hbd hrow2 u2
    go_wp2_with (refine at_copy rfl (.tmp 31) (.tmp 34) 22 22 rfl 5 Try.underlying22 sizeB _ _ _ _ _ _ rfl rfl row 0 ((splice R p (b.take f)).map bv) 5 Frow2 hrow2' x2 ?hn2 ?hpos2 ?hfit2 ?hone2 ?next2)
    case hn2 => rw [HL2.out]; exact (Nat.min_eq_right (by omega)).symm
    case hpos2 =>
      intro h0
      rw [HL2.out] at h0
      obtain ⟨ad, ha, hcs⟩ := HBD.out.src (n - f) (by rw [List.length_drop]; omega) h0
      rw [← HX2.out] at hcs
      first | exact ⟨rfl, ad, ha, hcs⟩ | exact ⟨ad, ha, hcs⟩
    case hfit2 => rw [HX2.out]; have := FIT.out; simp only [List.length_map]; rw [length_splice _ _ _ this.1]; exact this.2
    case hone2 => rw [HX2.out]; exact bv_one _
    case next2 =>
      intro w3 hrow3 u3
      rw [HL2.out]
      obtain ⟨F3, S3, v3⟩ := hgo2 _ _ _ hrow3 u3
      rw [HX2.out, splice_map] at S3
      obtain ⟨kc, kf, kl⟩ := Asrt.blk_of S3 0 rfl
      have kc2 := kc 2
      simp only [List.getElem?_toArray, List.getElem?_cons_zero, List.getElem?_cons_succ] at kc2
      have kf2 := kf 2
      obtain ⟨Fr, hr, _, hgo3⟩ := Asrt.stars_upd _ 0 _ rfl S3
      clear kc kf S2 hrow2'
      go_wp2_with fail
      go_returns
      obtain ⟨F4, S4, v4⟩ := hgo3 (w3.setCell ⟨r, 2, none⟩ (.int .i64 ((B.length + n : Nat) : Int))) Fr (.blk r (.cells #[.slice (some ⟨row, 0, none⟩) N N, .int .i64 at', .int .i64 ((B.length + n : Nat) : Int)] 97 (0, 0))) ⟨obj_setCell_at hr.1 _ _, hr.2⟩ ((Upd.refl Fr w3).setCell (a := ⟨r, 2, none⟩) (.inl (by rw [hr.2])) _)
      refine ⟨rfl, F4, ⟨(row, at', _), ⟨HADD.out, hN⟩, ?_⟩, (v2.trans v3).trans v4⟩
      have hlen : (B ++ b.take n).length = B.length + n := by simp; omega
      rw [hlen]
      exact S4
end Go.Proofs.Ytimkbpcdbbdjlaa
