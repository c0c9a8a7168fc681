/- The book of leases: maps.DeleteFunc, on the book. -/
import Derived.Test.YtefnfhhdcginmaaDoorLeaseM
import Derived.Test.YtefnfhhdcginmaaDoorSubO
set_option linter.unusedVariables false
namespace Go.Proofs.YtefnfhhdcginmaaDoor
open Go.RowKit Go.Sub Go.ChangeMaps
section
variable {κ V : Type} [DecidableEq κ]
theorem mdel_filter {M : List (κ × V)} (hnd : (M.map (·.1)).Nodup) (q : κ × V → Bool) (x : κ) : mdel (M.filter q) x = M.filter fun p => q p && !decide (p.1 = x) := by
  induction M with
  | nil => rfl
  | cons p M ih =>
    rw [List.map_cons, List.nodup_cons] at hnd
    have ih := ih hnd.2
    rw [List.filter_cons, List.filter_cons]
    by_cases hq : q p = true
    · rw [if_pos hq, hq]
      obtain ⟨k, u⟩ := p
      by_cases e : k = x
      · subst e
        simp only [mdel, if_true, decide_true, Bool.not_true, Bool.and_false, Bool.false_eq_true, if_false]
        refine List.filter_congr fun y hy => ?_
        have : ¬ y.1 = k := fun h => hnd.1 (List.mem_map.2 ⟨y, hy, h⟩)
        simp [this]
      · simp only [mdel, e, decide_false, Bool.not_false, Bool.and_true, if_true, if_false, ih]
    · simp [hq, ih]
theorem mget_filter {M : List (κ × V)} (hnd : (M.map (·.1)).Nodup) (q : κ × V → Bool) {x : κ} {v : V} (h : mget M x = some v) (hq : q (x, v) = true) : mget (M.filter q) x = some v := by
  induction M with
  | nil => cases h
  | cons p M ih =>
    rw [List.map_cons, List.nodup_cons] at hnd
    obtain ⟨k, u⟩ := p
    rw [List.filter_cons]
    by_cases e : k = x
    · subst e
      simp only [mget, if_pos, Option.some.injEq] at h
      subst h
      rw [if_pos hq]
      simp [mget]
    · simp only [mget, if_neg e] at h
      split
      · simp only [mget, if_neg e]; exact ih hnd.2 h
      · exact ih hnd.2 h
end
theorem mget_of_pair {κ V : Type} [DecidableEq κ] {M : List (κ × V)} {k : κ} {u : V} (hnd : (M.map (·.1)).Nodup) (hp : (k, u) ∈ M) : mget M k = some u := by
  induction M with
  | nil => cases hp
  | cons p M ih =>
    rw [List.map_cons, List.nodup_cons] at hnd
    obtain ⟨k', u'⟩ := p
    rcases List.mem_cons.1 hp with h | h
    · cases h; simp [mget]
    · have hne : k' ≠ k := fun e => hnd.1 (by subst e; exact List.mem_map.2 ⟨_, h, rfl⟩)
      simp only [mget, if_neg hne]; exact ih hnd.2 h
abbrev bookS (b : Nat) (g m e : Int) (mb : Nat) (L : List LE) : Asrt := .stars (.blk b (bookO g m e mb) :: .map encS evP mb (L.map LE.key) :: L.map LE.asrt)
theorem books_del {b mb : Nat} {g m e : Int} {L : List LE} {w : World} {F : Fp} (hS : (bookS b g m e mb L).on w F) {o it : Obj} {left : List (ByteArray × Option Nat)} (ho : MapObj encS evP o (L.map LE.key)) (hm : w.obj mb = some o) (hI : IterObj encS evP o mb it left) (nm : ByteArray) (hx : nm ∉ left.map (·.1)) :
    ∃ o' : Obj, (∀ W : World, W.obj mb = some o → ∀ ty, (Builtin.delete_ #[58, 9] ty #[.map (some mb), .string nm]).run Tryd.prog W = .ok (.tuple #[]) (setBlock W mb o')) ∧
      IterObj encS evP o' mb it left ∧ ∃ L', MapObj encS evP o' (L'.map LE.key) ∧ L'.map LE.val = mdel (L.map LE.val) nm ∧ ∃ F', ∀ n, (bookS b g m e mb L').on (setBlock (w.drewN n) mb o') F' ∧ Upd F F' w (setBlock (w.drewN n) mb o') := by
  obtain ⟨Fm, ⟨o0, ho0, hm0, hFm⟩, _, hgo⟩ := Asrt.stars_upd _ 1 _ rfl hS
  obtain ⟨o', ho', hI', hd⟩ := run_delete_iter keyS Tryd.underlying58 ho mb nm hI hx
  have hlm := lt_of_heap hm
  refine ⟨o', fun W hW ty => hd W hW ty, hI', ?_⟩
  obtain ⟨F2, h2, u2⟩ := hgo (setBlock w mb o') Fm (.map encS evP mb (mdel (L.map LE.key) nm)) ⟨o', ho', obj_setBlock_at hlm, hFm⟩ ((Upd.refl Fm w).setBlock (.inl (by rw [hFm])) o')
  rcases lent_open L nm with ⟨h1, h2', h3⟩ | ⟨i, x, h1, _, _, _, _, h6, h7, _⟩
  · have e1 := mdel_none h1
    have e2 := mdel_none h2'
    rw [e1] at h2 ho'
    exact ⟨L, ho', e2.symm, F2, fun n => ⟨Asrt.drewN h2 n, u2.drewN n⟩⟩
  · rw [h6] at h2 ho'
    obtain ⟨F3, h3, hs3⟩ := stars_erase _ (i + 2) h2
    refine ⟨L.eraseIdx i, ho', h7.symm, F3, fun n => ⟨?_, (u2.re fun k hk => u2.fp k (hs3 k hk)).drewN n⟩⟩
    have e : ((Asrt.blk b (bookO g m e mb) :: Asrt.map encS evP mb (L.map LE.key) :: L.map LE.asrt).set 1 (Asrt.map encS evP mb ((L.eraseIdx i).map LE.key))).eraseIdx (i + 2) =
        Asrt.blk b (bookO g m e mb) :: Asrt.map encS evP mb ((L.eraseIdx i).map LE.key) :: (L.eraseIdx i).map LE.asrt := by
      simp [erase_map]
    rw [e] at h3
    exact Asrt.drewN h3 n
/-- what stays while the names in q are still to come -/
def stays (gone : Lz → Bool) (q : List ByteArray) (p : ByteArray × Lz) : Bool := q.any (fun k => decide (k = p.1)) || !gone p.2
theorem stays_iff (gone : Lz → Bool) (q : List ByteArray) (p : ByteArray × Lz) : stays gone q p = true ↔ p.1 ∈ q ∨ gone p.2 = false := by
  unfold stays
  rw [Bool.or_eq_true, List.any_eq_true]
  constructor
  · rintro (⟨k, h1, h2⟩ | h)
    · rw [decide_eq_true_eq] at h2; exact .inl (h2 ▸ h1)
    · exact .inr (by simpa using h)
  · rintro (h | h)
    · exact .inl ⟨_, h, by simp⟩
    · exact .inr (by simpa using h)
theorem stays_congr {gone : Lz → Bool} {q q' : List ByteArray} {p : ByteArray × Lz} (h : (p.1 ∈ q ∨ gone p.2 = false) ↔ (p.1 ∈ q' ∨ gone p.2 = false)) : stays gone q p = stays gone q' p := by
  rw [Bool.eq_iff_iff, stays_iff, stays_iff]; exact h
def DelEnds (b : Nat) (g m e : Int) (M : LT) (F : Fp) (w : World) : Ending → World → Prop := Ret (.tuple #[]) fun w' => ∃ F', (bookT b g m e M).on w' F' ∧ Upd F F' w w'
set_option maxHeartbeats 4000000 in
set_option maxRecDepth 100000 in
theorem delfunc_c {b mb : Nat} {g m e : Int} {M : LT} {w : World} {F : Fp} (hM : (bookT b g m e M).on w F) (h3 : w.cell? ⟨b, 3, none⟩ = some (.map (some mb))) (hnd : (M.map (·.1)).Nodup) {fd : Nat} {cd : Array Value} (entd : Enters fd) (gone : Lz → Bool)
    (CD : ∀ (M' : LT) (w' : World) (F' : Fp) (nm : ByteArray) (x : Lz) (v : Value), (bookT b g m e M').on w' F' → mget M' nm = some x → mget M nm = some x → (∃ Fk, Upd F Fk w w') → Calls Tryd.prog fd (#[.string nm, v] ++ cd) w' (Ret (.bool (gone x)) fun w'' => ∃ n, w'' = w'.drewN n)) :
    Calls Tryd.prog 54 #[.map (some mb), .func (.func fd) #[] cd] w (DelEnds b g m e (M.filter fun p => !gone p.2) F w) := by
  have hsz : ∀ k, F k → k < w.heap.size := fun k hk => (bookT b g m e M).lt hM k hk
  obtain ⟨⟨mb', L0⟩, hLM, hS⟩ := hM
  obtain ⟨hc, _, hlt⟩ := Asrt.blk_of hS 0 rfl
  obtain rfl : mb' = mb := by have := (hc 3).symm.trans h3; simpa using this
  obtain ⟨_, ⟨o0, ho0, hm0, _⟩, _⟩ := Asrt.stars_get hS 1 rfl
  obtain ⟨it0, hI0, hrg⟩ := run_range_of (P := Tryd.prog) Tryd.underlying58 ho0 mb'
  have hkeys : (L0.map LE.key).map (·.1) = M.map (·.1) := by rw [← hLM]; simp [Function.comp_def]
  have hlm := lt_of_heap hm0
  have START : Keep (∃ (left : List (ByteArray × Option Nat)) (L : List LE) (o it : Obj) (F' : Fp), (L0.map LE.key).length = left.length ∧ IterObj encS evP o mb' it left ∧ MapObj encS evP o (L.map LE.key) ∧ (w.alloc it0).obj w.heap.size = some it ∧ (w.alloc it0).obj mb' = some o ∧ (bookS b g m e mb' L).on (w.alloc it0) F' ∧ ¬ F' w.heap.size ∧ Upd F F' w (w.alloc it0) ∧ (left.map (·.1)).Nodup ∧ (∀ k ∈ left.map (·.1), k ∈ M.map (·.1)) ∧ L.map LE.val = M.filter (stays gone (left.map (·.1)))) := by
    refine Keep.mk ⟨L0.map LE.key, L0, o0, it0, F, rfl, hI0, ho0, obj_alloc_at rfl, (obj_alloc_lt hlm).trans hm0, Asrt.alloc hS it0, fun h => absurd (hsz _ h) (by omega), (Upd.refl F w).alloc it0, by rw [hkeys]; exact hnd, fun k hk => by rw [← hkeys]; exact hk, ?_⟩
    rw [hLM]
    refine (List.filter_eq_self.2 fun p hp => ?_).symm
    have : p.1 ∈ (L0.map LE.key).map (·.1) := by rw [hkeys]; exact List.mem_map_of_mem hp
    exact (stays_iff _ _ _).2 (.inl this)
  have HND := Keep.mk hnd
  have CDk := Keep.mk CD
  generalize (L0.map LE.key).length = n0 at *
  clear hS hc ho0 hLM hkeys hI0 CD hnd hsz
  go_enter Tryd.func54, Tryd.ntmps54
  go_wp2_with fail
  go_loopg [4] n0 (fun k _ wr => ∃ (left : List (ByteArray × Option Nat)) (L : List LE) (o it : Obj) (F' : Fp), k = left.length ∧ IterObj encS evP o mb' it left ∧ MapObj encS evP o (L.map LE.key) ∧ wr.obj w.heap.size = some it ∧ wr.obj mb' = some o ∧ (bookS b g m e mb' L).on wr F' ∧ ¬ F' w.heap.size ∧ Upd F F' w wr ∧ (left.map (·.1)).Nodup ∧ (∀ k ∈ left.map (·.1), k ∈ M.map (·.1)) ∧ L.map LE.val = M.filter (stays gone (left.map (·.1))))
  case atStart => exact START.out
  case round =>
    obtain ⟨left, L, o, it, F', rfl, hI, ho, hr, hm, hSt, hFr, hU, hl1, hl2, hLv⟩ := hrel
    clear START hm0 hrg
    rcases run_next_of (P := Tryd.prog) hI wr hr hm 0 with ⟨rfl, hn⟩ | ⟨l1, p, l2, n, it', rfl, hn, hI', he⟩
    · have HE := Keep.mk (show ∃ F', (bookT b g m e (M.filter fun p => !gone p.2)).on wr F' ∧ Upd F F' w wr from ⟨F', ⟨(mb', L), by
        rw [hLv]
        refine List.filter_congr fun p _ => ?_
        simp [stays], hSt⟩, hU⟩)
      clear hI ho hr hm hSt hU hl1 hl2 hLv
      go_wp2_with fail
      go_returns
      exact ⟨rfl, HE.out⟩
    · obtain ⟨nm, pc⟩ := p
      simp only at hn he
      have hnm : nm ∈ M.map (·.1) := hl2 nm (by simp)
      obtain ⟨x, hx⟩ := mget_of_mem hnm
      have hxL : mget (L.map LE.val) nm = some x := by rw [hLv]; exact mget_filter HND.out _ hx ((stays_iff _ _ _).2 (.inl (by simp)))
      have hnl : nm ∉ (l1 ++ l2).map (·.1) := by
        rw [List.map_append, List.map_cons, List.nodup_append, List.nodup_cons] at hl1
        rw [List.map_append, List.mem_append]
        rintro (h | h)
        · exact hl1.2.2 nm h nm (by simp) rfl
        · exact hl1.2.1.1 h
      have hl1' : ((l1 ++ l2).map (·.1)).Nodup := by
        rw [List.map_append, List.map_cons] at hl1
        rw [List.map_append]
        exact hl1.sublist (List.Sublist.append_left (List.sublist_cons_self ..) _)
      have hl2' : ∀ k ∈ (l1 ++ l2).map (·.1), k ∈ M.map (·.1) := fun k hk => hl2 k (by
        rw [List.map_append, List.mem_append] at hk
        rw [List.map_append, List.map_cons, List.mem_append, List.mem_cons]
        exact hk.elim .inl fun h => .inr (.inr h))
      -- the iterator has gone on
      have hrl := lt_of_heap hr
      have nr : mb' ≠ w.heap.size := by omega
      have S1 : (bookS b g m e mb' L).on ((setBlock wr w.heap.size it').drewN n) F' := Asrt.drewN (Asrt.setBlock hSt hFr it') n
      have U1 : Upd F F' w ((setBlock wr w.heap.size it').drewN n) := (hU.setBlock (.inr (Nat.le_refl _)) it').drewN n
      have r1 : ((setBlock wr w.heap.size it').drewN n).obj w.heap.size = some it' := obj_setBlock_at hrl
      have m1 : ((setBlock wr w.heap.size it').drewN n).obj mb' = some o := (obj_setBlock_ne nr).trans hm
      have C := Keep.mk (CDk.out (L.map LE.val) _ F' nm x (evP pc) ⟨(mb', L), rfl, S1⟩ hxL hx ⟨_, U1⟩)
      have ent1 := entd (#[.string nm, evP pc] ++ cd)
      have hfl := fun q => mdel_filter HND.out q nm
      have HL := Keep.mk hLv
      have HI' := Keep.mk hI'
      have HX := Keep.mk hx
      have HO := Keep.mk ho
      have HS := Keep.mk (fun j : Nat => And.intro (Asrt.drewN (Asrt.setBlock hSt hFr it') j) ((hU.setBlock (.inr (Nat.le_refl _)) it').drewN j))
      have HN1 := Keep.mk (And.intro hnl (And.intro hl1' hl2'))
      cases hg : gone x with
      | false =>
        rw [hg] at C
        have HV : Keep (L.map LE.val = M.filter (stays gone ((l1 ++ l2).map (·.1)))) := Keep.mk (by
          rw [HL.out]
          refine List.filter_congr fun p hp => ?_
          by_cases e : p.1 = nm
          · have h1 : mget M p.1 = some p.2 := mget_of_pair HND.out hp
            rw [e, HX.out] at h1
            have h2 : gone p.2 = false := by rw [← Option.some.inj h1]; exact hg
            exact stays_congr (by simp [h2])
          · refine stays_congr ?_
            simp only [List.map_append, List.map_cons, List.mem_append, List.mem_cons, e, false_or])
        clear hI ho hSt hU hl1 hl2 hLv hnm hxL hnl hl1' hl2' hI' hx hfl
        go_wp2_with fail
        refine C.out.mono ?_
        rintro e1 w5 ⟨rfl, n5, rfl⟩
        go_wp2_with fail
        go_roundg (l1 ++ l2).length
        case measure => simp
        case rel => exact ⟨l1 ++ l2, L, o, it', F', rfl, HI'.out, HO.out, r1, m1, (HS.out _).1, hFr, (HS.out _).2, HN1.out.2.1, HN1.out.2.2, HV.out⟩
      | true =>
        rw [hg] at C
        obtain ⟨o', hdel, hI2, L', ho2, hL2, F2, hS2⟩ := books_del (Asrt.setBlock hSt hFr it') ho (show (setBlock wr w.heap.size it').obj mb' = some o from m1) hI' nm hnl
        have HV : Keep (L'.map LE.val = M.filter (stays gone ((l1 ++ l2).map (·.1)))) := Keep.mk (by
          rw [hL2, HL.out, hfl]
          refine List.filter_congr fun p hp => ?_
          rw [Bool.eq_iff_iff, Bool.and_eq_true, stays_iff, stays_iff]
          simp only [Bool.not_eq_true', decide_eq_false_iff_not]
          by_cases e : p.1 = nm
          · have h1 : mget M p.1 = some p.2 := mget_of_pair HND.out hp
            rw [e, HX.out] at h1
            have h2 : gone p.2 = true := by rw [← Option.some.inj h1]; exact hg
            simp only [e, not_true, and_false, false_iff, h2, Bool.true_eq_false, or_false]
            exact hnl
          · simp only [e, not_false_eq_true, and_true, List.map_append, List.map_cons, List.mem_append, List.mem_cons, false_or])
        have HI2 := Keep.mk hI2
        have hF2 : ¬ F2 w.heap.size := fun h => by
          rcases (hS2 0).2.fp _ h with h | h
          · exact hFr h
          · have e : (setBlock wr w.heap.size it').heap.size = wr.heap.size := by simp [setBlock]
            omega
        have U0 := hU.setBlock (.inr (Nat.le_refl _)) it'
        have HS2 := Keep.mk (fun j : Nat => And.intro (hS2 j).1 (U0.trans (hS2 j).2))
        have HO2 := Keep.mk ho2
        clear hI ho hSt hU hl1 hl2 hLv hnm hxL hnl hl1' hl2' hI' hx hfl hI2 ho2 hL2 hS2 U0
        go_wp2_with fail
        refine C.out.mono ?_
        rintro e1 w5 ⟨rfl, n5, rfl⟩
        go_wp2_with (at_delete; refine at_delete_run rfl _ _ _ _ rfl _ _ _ _ rfl rfl (hdel _ ?_ _) ?_; go_simp)
        go_roundg (l1 ++ l2).length
        case measure => simp
        case rel => exact ⟨l1 ++ l2, L', o', it', F2, rfl, HI2.out, HO2.out, (obj_setBlock_ne nr.symm).trans r1, obj_setBlock_at (lt_of_heap m1), (HS2.out _).1, hF2, (HS2.out _).2, HN1.out.2.1, HN1.out.2.2, HV.out⟩
end Go.Proofs.YtefnfhhdcginmaaDoor
