/- The document's meter: what its calls do. -/
import Derived.Test.YtglfkkaldeblhaaMeterJ
import Derived.Test.YtglfkkaldeblhaaMeterI
import Derived.Deep.RegionLaw
import Derived.Deep.DeepCutAuto
namespace Go.Proofs.Ytglfkkaldeblhaa
open Go.ChangeShapes Go.WideShapes Go.ChangeAt Go.RowKit Go.Sub Go.ChangeMaps
def refT (b : Nat) (L : List Cnt) : Asrt := .ex fun v : Value => .stars [.blk b (.cells #[v] 42 (0, 0)), row 36 4 encC v L]
set_option maxHeartbeats 400000 in
theorem rnew_c (w : World) : Calls Try.prog 10 #[] w fun e w' => ∃ b, Ret (.pointer (some ⟨b, 0, none⟩)) (fun w' => ∃ F, (refT b []).on w' F ∧ Upd none' F w w') e w' := by
  go_enter Try.func10, Try.ntmps10
  go_wp2_with fail
  go_ret
  obtain ⟨F', h', u'⟩ := Asrt.stars_new (l := [row 36 4 encC (.slice none 0 0) []]) (w := w) (A := .blk w.heap.size (.cells #[.slice none 0 0] 42 (0, 0))) (w' := w.alloc (.cells #[.slice none 0 0] 42)) (Fn := fun k => k = w.heap.size) (Asrt.stars_one (row_nil w 36 4 encC)) ⟨obj_alloc_at rfl, rfl⟩ (((Upd.refl none' w).alloc _).re fun k hk => .inr (by rw [hk]; exact Nat.le_refl _))
  exact ⟨_, rfl, F', ⟨_, h'⟩, u'⟩
def more (a n : Int) : Int := cap a n
set_option maxHeartbeats 400000 in
theorem more_c (a n : Int) (w : World) (ha : 0 ≤ a) (ha' : a ≤ most) (hn : 0 ≤ n) : Calls Try.prog 25 #[.int .i64 a, .int .i64 n] w (Ret (.int .i64 (cap a n)) fun w' => w = w') := by
  unfold most at ha'
  have e6 : IntKind.i64.wrap (1099511627776 - a) = 1099511627776 - a := by rw [IntKind.wrap_i64]; omega
  by_cases h : 1099511627776 - a < n
  · have ec : cap a n = 1099511627776 := by simp only [cap, most]; omega
    rw [ec]
    have h1 : decide (1099511627776 - a < n) = true := by simpa using h
    clear ec
    go_enter Try.func25, Try.ntmps25
    go_wp2_with fail
    go_returns
    exact ⟨rfl, rfl⟩
  · have ec : cap a n = a + n := by simp only [cap, most]; omega
    have e7 : IntKind.i64.wrap (a + n) = a + n := by rw [IntKind.wrap_i64]; omega
    rw [ec]
    have h1 : decide (1099511627776 - a < n) = false := by simpa using h
    clear ec
    go_enter Try.func25, Try.ntmps25
    go_wp2_with fail
    go_returns
    exact ⟨rfl, rfl⟩
theorem lbeq (x y : ByteArray) : (x.toList == y.toList) = decide (x = y) := by
  rw [Bool.eq_iff_iff, decide_eq_true_eq, beq_iff_eq]
  exact ⟨fun h => WideShapes.bytes_inj (by rwa [ByteArray.toList_eq, ByteArray.toList_eq] at h), fun h => by rw [h]⟩
theorem str_eq {x y : ByteArray} : x.toList = y.toList ↔ x = y := ⟨fun h => WideShapes.bytes_inj (by rwa [ByteArray.toList_eq, ByteArray.toList_eq] at h), fun h => by rw [h]⟩
/-- the cells of a row that lies in a world -/
theorem row_at {v : Value} {L : List Cnt} {w : World} {F : Fp} (h : (row 36 4 encC v L).on w F) : ReadsC w v L := (row_reads (enc := encC) (fun _ => rfl) h).1
set_option maxRecDepth 100000 in
set_option maxHeartbeats 1000000 in
theorem rof_c {b : Nat} {L : List Cnt} {w : World} {F : Fp} (hM : (refT b L).on w F) (hl : L.length ≤ 1000000) (t : ByteArray) :
    Calls Try.prog 17 #[.pointer (some ⟨b, 0, none⟩), .string t] w (Ret (aggC (cof L t)) fun w' => Quiet w w') := by
  obtain ⟨v, hS⟩ := hM
  obtain ⟨_, ⟨hb, _⟩, _⟩ := Asrt.stars_get hS 0 rfl
  obtain ⟨hc, hf, hlt⟩ := blk_facts hb
  obtain ⟨_, hr, _⟩ := Asrt.stars_get hS 1 rfl
  have hR := row_at hr
  obtain ⟨a, ca, rfl⟩ := hR.slice
  have HR := Keep.mk hR.at.2
  clear hb hR hr hS
  go_enter Try.func17, Try.ntmps17
  go_wp2_with fail
  go_loop [5] (fun i => ∃ k : Nat, k ≤ L.length ∧ i = .int .i64 k ∧ (L.find? fun c => c.t = t) = (L.drop k).find? fun c => c.t = t) (fun i => L.length - (intOf i).toNat)
  case atStart => exact ⟨0, by omega, rfl, by simp⟩
  case round =>
    obtain ⟨k, hk, rfl, hs⟩ := hrel
    by_cases hk' : k < L.length
    · obtain ⟨g, off, rfl, hg, c0, c1, c2, c3⟩ := HR.out k hk'
      rw [List.drop_eq_getElem_cons hk', List.find?_cons] at hs
      have hg1 : g < w.heap.size + 1 := by omega
      generalize L[k] = x at *
      by_cases e : x.t = t
      · have e1 : (x.t.toList == t.toList) = true := by rw [lbeq, decide_eq_true e]
        have ec : cof L t = x := by rw [cof, hs]; simp [e]
        have EC := Keep.mk ec
        clear hs e ec
        go_wp2_with fail
        go_returns
        exact ⟨by rw [EC.out], (Upd.refl _ _).alloc _⟩
      · have e1 : (x.t.toList == t.toList) = false := by rw [lbeq, decide_eq_false e]
        rw [decide_eq_false e] at hs
        have HS := Keep.mk hs
        clear hs e
        go_wp2_with fail
        exact ⟨⟨k + 1, by omega, by go_num, HS.out⟩, by simp [intOf]; omega⟩
    · have ec : cof L t = ⟨t, 0, 0, 0⟩ := by rw [cof, hs, List.drop_eq_nil_of_le (by omega)]; rfl
      have EC := Keep.mk ec
      clear hs ec
      go_wp2_with fail
      go_returns
      exact ⟨by rw [EC.out], (Upd.refl _ _).alloc _⟩
end Go.Proofs.Ytglfkkaldeblhaa
