/- The document's bytes that wait: a ring in memory; New, Add, Take. -/
import Derived.Test.YtimkbpcdbbdjlaaConnI
import Derived.Test.YtimkbpcdbbdjlaaSubV
import Derived.Test.YtimkbpcdbbdjlaaSubN
import Derived.Deep.RegionHeld3
import Derived.Deep.RegionLaw
import Derived.Deep.DrawnRows
set_option linter.unusedVariables false
namespace Go.Proofs.Ytimkbpcdbbdjlaa.Cr
open Go.RowKit Go.Sub Go.ChangeMaps
attribute [local go_sem ↓] Go.wp_at_zero Go.wp_at_succ
def rringT (r N : Nat) (B : List UInt8) : Asrt := .ex fun v : Value => .stars [.blk r (.cells #[v, .int .i64 (N : Int)] 104 (0, 0)), row 5 1 encB v B]
theorem infoB : (Try.prog.info? 5).map (fun i => (i.zero, i.size, i.bytes)) = some (some (.int .u8 0), 1, 1) := by kernel_rfl
theorem oneB (x : UInt8) : ∀ u ∈ encB x, u.oneCell' = true := by
  intro u hu
  simp only [List.mem_singleton] at hu
  subst hu
  rfl
theorem bytes_reads {w : World} {v : Value} {L : List UInt8} (h : Bytes w v L) : Reads w 1 encB v L := by
  obtain ⟨a, cap, rfl, _, hr⟩ := h
  refine ⟨a, cap, rfl, fun i x hx => ?_⟩
  obtain ⟨g, off, e, hg, hc⟩ := hr i x hx
  refine ⟨g, off, e, hg, fun j u hj => ?_⟩
  cases j with
  | zero => simp only [List.getElem?_cons_zero, Option.some.injEq] at hj; subst hj; simpa using hc
  | succ j => simp at hj
theorem take_reads {w : World} {a : Option Addr} {n cap k : Nat} {L : List UInt8} (h : Bytes w (.slice a n cap) L) (hk : k ≤ L.length) : Reads w 1 encB (.slice a k cap) (L.take k) := bytes_reads (h.take hk)
theorem drop_reads {w : World} {a : Option Addr} {n cap k : Nat} {L : List UInt8} (h : Bytes w (.slice a n cap) L) (hk : k ≤ L.length) : Reads w 1 encB (.slice (cutAt a cap k) (L.length - k) (cap - k)) (L.drop k) := bytes_reads (h.drop hk)
def RNew (N : Nat) (w : World) (e : Ending) (w' : World) : Prop := ∃ r, Ret (.pointer (some ⟨r, 0, none⟩)) (fun w' => ∃ F', (rringT r N []).on w' F' ∧ Upd none' F' w w') e w'
theorem rnew_c (w : World) (N : Nat) (hN : N ≤ 65536) : Calls Try.prog 88 #[.int .i64 (N : Int)] w (RNew N w) := by
  have e1 : min (N : Int) 65536 = (N : Int) := by omega
  go_enter Try.func88, Try.ntmps88
  go_wp2_with fail
  go_ret
  obtain ⟨F', h', u'⟩ := Asrt.stars_new (l := [row 5 1 encB (.slice none 0 0) []]) (w := w) (A := .blk w.heap.size (.cells #[.slice none 0 0, .int .i64 (N : Int)] 104 (0, 0))) (w' := w.alloc (.cells #[.slice none 0 0, .int .i64 (N : Int)] 104)) (Fn := fun k => k = w.heap.size) (Asrt.stars_one (row_nil w 5 1 encB)) ⟨obj_alloc_at rfl, rfl⟩ (((Upd.refl none' w).alloc _).re fun k hk => .inr (by rw [hk]; exact Nat.le_refl _))
  exact ⟨_, rfl, F', ⟨_, h'⟩, u'⟩
theorem ring_put {r N : Nat} {v0 v2 : Value} {B X : List UInt8} {w w2 : World} {F F2 : Fp} (hS : (Asrt.stars [.blk r (.cells #[v0, .int .i64 (N : Int)] 104 (0, 0)), row 5 1 encB v0 B]).on w F) (hq : (row 5 1 encB v2 X).on w2 F2) (hu : Upd none' F2 w w2) :
    ∃ F', (rringT r N X).on (w2.setCell ⟨r, 0, none⟩ v2) F' ∧ Upd F F' w (w2.setCell ⟨r, 0, none⟩ v2) := by
  obtain ⟨F1, h1, u1⟩ := Asrt.stars_new hS hq hu
  obtain ⟨Fb, hb, hsub, hgo⟩ := Asrt.stars_upd _ 1 _ rfl h1
  obtain ⟨hob, rfl⟩ := hb
  obtain ⟨F2, h2, u2⟩ := hgo (w2.setCell ⟨r, 0, none⟩ v2) (fun k => k = r) (.blk r (.cells #[v2, .int .i64 (N : Int)] 104 (0, 0))) ⟨obj_setCell_at hob 0 v2, rfl⟩ ((Upd.refl (fun k => k = r) w2).setCell (a := ⟨r, 0, none⟩) (.inl rfl) _)
  have h3 := Asrt.stars_perm (l' := [row 5 1 encB v0 B, .blk r (.cells #[v2, .int .i64 (N : Int)] 104 (0, 0)), row 5 1 encB v2 X]) ((List.Perm.swap _ _ _).trans (List.Perm.trans (List.Perm.cons _ (List.Perm.swap _ _ _)) ((List.Perm.swap _ _ _).trans (List.Perm.cons _ (List.Perm.refl _))))) h2
  obtain ⟨F3, h4, hs⟩ := Asrt.stars_drop h3
  exact ⟨F3, ⟨v2, h4⟩, (u1.trans u2).re fun k hk => (u1.trans u2).fp k (hs k hk)⟩
set_option maxHeartbeats 1000000 in
theorem radd_c {r N : Nat} {B : List UInt8} {w : World} {F : Fp} (hR : (rringT r N B).on w F) (hB : B.length ≤ N) (hN : N ≤ 65536) {v : Value} {b : List UInt8} (hb : Bytes w v b) (hl : b.length ≤ 1000000) :
    Calls Try.prog 90 #[.pointer (some ⟨r, 0, none⟩), v] w (Ret (.int .i64 ((min b.length (N - B.length) : Nat) : Int)) fun w' => ∃ F', (rringT r N (B ++ b.take (min b.length (N - B.length)))).on w' F' ∧ Upd F F' w w') := by
  obtain ⟨v0, hS⟩ := hR
  obtain ⟨kc, kf, hr⟩ := box_cell (i := 0) hS rfl
  obtain ⟨_, hrow, _⟩ := Asrt.stars_get hS 1 rfl
  have hrb := row_bytes hrow
  obtain ⟨a0, c0, rfl, _⟩ := hrb.slice
  obtain ⟨av, cv, rfl, hcv⟩ := hb.slice
  have k0 := kc 0
  have k1 := kc 1
  have kf0 := kf 0
  simp only [List.getElem?_toArray, List.getElem?_cons_zero, List.getElem?_cons_succ] at k0 k1
  obtain ⟨n, hn⟩ : ∃ n, n = min b.length (N - B.length) := ⟨_, rfl⟩
  rw [← hn]
  have en : min (b.length : Int) ((N : Int) - (B.length : Int)) = (n : Int) := by omega
  have n0 : (0 : Int) ≤ (n : Int) := by omega
  have n1 : n ≤ cv := by omega
  have n2 : n ≤ b.length := by omega
  have HT := Keep.mk hn
  have HS := Keep.mk hS
  have HB := Keep.mk hb
  have HR := Keep.mk hrb
  clear hn hS hb hrb hrow kc kf
  go_enter Try.func90, Try.ntmps90
  go_wp2_with fail
  go_quiet (fail)
  go_wp2_with fail
  obtain ⟨i, hi, hz⟩ := Option.map_eq_some_iff.1 infoB
  simp only [Prod.mk.injEq] at hz
  obtain ⟨hz0, hz1, hz2⟩ := hz
  have HW := Keep.mk (fun (w' : World) (q : Quiet w w') => show w'.cell? ⟨r, 0, none⟩ = some (.slice a0 B.length c0) from (q.cell (a := ⟨r, 0, none⟩) hr (fun h => h)).trans k0)
  have hq0 : Quiet w (w.drewN nq) := (Upd.refl none' w).drewN _
  have HQ := Keep.mk hq0
  have HZ := Keep.mk (And.intro hi (And.intro hz0 (And.intro hz1 hz2)))
  clear hi hz0 hz1 hz2 hq0
  generalize hW : w.drewN nq = W at *
  have Q0 := HQ.out.drew
  have Q0a := Q0.alloc (.cells #[] 5)
  have kA := HW.out _ HQ.out
  have kB := HW.out _ (HQ.out.alloc (.cells #[] 5))
  have fA : W.frozen? ⟨r, 0, none⟩ = false := (HQ.out.frozen (a := ⟨r, 0, none⟩) hr (fun h => h)).trans kf0
  go_region_law
    (first
      | (refine step_append_reads (o := ⟨some 25, _, _, _, _, _⟩) (enc := encB) (k := 1) 1 rfl (.tmp 20) (.tmp 24) 22 rfl 5 i (.int .u8 0) Try.underlying22 HZ.out.1 HZ.out.2.1 HZ.out.2.2.1 HZ.out.2.2.2 rfl (by decide) (.slice (some ⟨W.heap.size, 0, none⟩) 0 0) (.slice a0 B.length c0) [] B _ (by rfl) (row_empty _ _ _ _) (by rfl) (bytes_reads (HR.out.quiet Q0a)) (fun _ => rfl) oneB (by simp [maxLen]; omega) (by simp; omega) ?_; intro v1 w1 F1 hr1 hu1; have Q1 := own_quiet Q0a (fun k hk => by rw [hk]; exact Q0.size) hu1; have kC := HW.out _ Q1.1)
      | (refine step_append_reads (o := ⟨some 29, _, _, _, _, _⟩) (enc := encB) (k := 1) 1 rfl (.tmp 25) (.tmp 28) 22 rfl 5 i (.int .u8 0) Try.underlying22 HZ.out.1 HZ.out.2.1 HZ.out.2.2.1 HZ.out.2.2.2 rfl (by decide) v1 (.slice av n cv) ([] ++ B) (b.take n) _ (by rfl) hr1 (by rfl) (take_reads (HB.out.quiet Q1.1) n2) (fun _ => rfl) oneB (by simp [maxLen]; omega) (by simp; omega) ?_; intro v2 w2 F2 hr2 hu2; obtain ⟨a2, c2, rfl, _⟩ := row_form hr2; have Q2 := own_quiet Q1.1 Q1.2 hu2; have kD := HW.out _ Q2.1; have fD : w2.frozen? ⟨r, 0, none⟩ = false := (Q2.1.frozen (a := ⟨r, 0, none⟩) hr (fun h => h)).trans kf0))
  all_goals
    have el : ([] ++ B ++ b.take n).length = B.length + n := by simp; omega
    rw [el] at hr2
    have HE := Keep.mk (ring_put HS.out hr2 (own_upd Q2.1 Q2.2))
    clear hr2 hu2 hr1 hu1 el
    go_wp2_with fail
    go_ret
    exact ⟨rfl, HE.out⟩
end Go.Proofs.Ytimkbpcdbbdjlaa.Cr
