/- The document's connections: All. -/
import Derived.Test.YtimkbpcdbbdjlaaCrJ
set_option linter.unusedVariables false
namespace Go.Proofs.Ytimkbpcdbbdjlaa.Cr
open Go.RowKit Go.Sub Go.ChangeMaps
theorem infoI : (Try.prog.info? 3).map (fun i => (i.zero, i.size, i.bytes)) = some (some (.int .i64 0), 1, 8) := by kernel_rfl
abbrev encIL1 (x : Int) : List Value := [.int .i64 x]
def RAll (M : List (Int × Con)) (w : World) (e : Ending) (w' : World) : Prop := ∃ v, Ret v (fun w' => ∃ F', (row 3 1 encIL1 v (M.map (·.1))).on w' F' ∧ Upd none' F' w w') e w'
set_option maxRecDepth 100000 in
set_option maxHeartbeats 2000000 in
theorem rall_c {b : Nat} {last : Int} {M : List (Int × Con)} {w : World} {F : Fp} (hM : (crT b last M).on w F) (hl : M.length ≤ 1000) :
    Calls Try.prog 38 #[.pointer (some ⟨b, 0, none⟩)] w (RAll M w) := by
  obtain ⟨⟨v, L⟩, rfl, hS⟩ := hM
  dsimp only at *
  have hlL : L.length ≤ 1000 := by simpa using hl
  obtain ⟨kc, kf, hb⟩ := box_cell (i := 0) hS rfl
  obtain ⟨_, hr, _⟩ := Asrt.stars_get hS 1 rfl
  have hrd := (row_reads (enc := encR) (fun _ => rfl) hr).1
  have k0 := kc 0
  simp only [List.getElem?_toArray, List.getElem?_cons_zero] at k0
  obtain ⟨a, ca, rfl, hR⟩ := reads_re hrd
  have HR := Keep.mk hR
  obtain ⟨q, hq, hz⟩ := Option.map_eq_some_iff.1 infoI
  simp only [Prod.mk.injEq] at hz
  have HZ := Keep.mk (And.intro hq hz)
  have k0' := Keep.mk (And.intro hb k0)
  have em : (L.map RE.val).map (·.1) = L.map RE.id := by simp [RE.val]
  unfold RAll
  rw [em]
  have HL := Keep.mk hlL
  clear hS kc kf hr hrd hR hq hz em hb hl hlL
  go_enter Try.func38, Try.ntmps38
  go_wp2_with fail
  go_loopw [3, 4] (fun o i w' => ∃ (k : Nat) (ao : Option Addr) (co : Nat) (Fo : Fp), k ≤ L.length ∧ i = .int .i64 k ∧ o = .slice ao k co ∧ (row 3 1 encIL1 (.slice ao k co) ((L.map RE.id).take k)).on w' Fo ∧ Upd none' Fo w w') (fun _ i _ => L.length - (intOf i).toNat)
  case atStart => exact ⟨0, none, 0, none', by omega, rfl, rfl, row_nil _ _ _ _, Upd.refl _ _⟩
  case round =>
    obtain ⟨k, ao, co, Fo, hk, rfl, rfl, hro, huo⟩ := hrel
    have kk := (huo.cell (a := ⟨b, 0, none⟩) k0'.out.1 (fun h => h)).trans k0
    by_cases hk' : k < L.length
    · obtain ⟨g, off, rfl, hg, hx⟩ := HR.out k hk'
      have hx' := (huo.cell (a := ⟨g, off + k * 6, none⟩) hg (fun h => h)).trans hx
      have ek : (L.map RE.id).take (k + 1) = (L.map RE.id).take k ++ [L[k].id] := by rw [List.take_succ_eq_append_getElem (by simpa using hk')]; simp
      have EK := Keep.mk ek
      have lk : ((L.map RE.id).take k).length = k := by simp; omega
      have LK := Keep.mk lk
      have HO := Keep.mk (And.intro hro huo)
      clear hro huo ek lk hx
      generalize L[k].id = y at *
      go_wp2_with (at_builtin; refine at_append_reads (enc := encIL1) (k := 1) 8 rfl (.tmp 14) (.tmp 23) 41 rfl 3 q _ Try.underlying41 HZ.out.1 HZ.out.2.1 HZ.out.2.2.1 HZ.out.2.2.2 rfl (by decide) (.slice ao k co) (.slice (some ⟨wr.heap.size, 0, none⟩) 1 1) ((L.map RE.id).take k) [y] _ rfl (Asrt.alloc HO.out.1 _) rfl (reads_one (k := 1) (enc := encIL1) wr 3 y rfl) (fun _ => rfl) (fun y u hu => by simp only [List.mem_singleton] at hu; subst hu; rfl) (by have := LK.out; have := HL.out; simp [maxLen]; omega) (by have := LK.out; have := HL.out; simp; omega) ?_)
      intro v' w' F' hr' hu'
      obtain ⟨av, cv, rfl, _⟩ := row_form hr'
      have el : ((L.map RE.id).take k ++ [y]).length = k + 1 := by have := LK.out; simp at this ⊢; omega
      rw [el] at hr' ⊢
      rw [← EK.out] at hr'
      have HK := Keep.mk hk'
      have hkb : (k : Int) + 1 ≤ 1000 := by have := HL.out; omega
      have HR2 := Keep.mk (And.intro hr' ((HO.out.2.alloc _).trans hu'))
      clear hr' hu' el
      go_wp2_with fail
      go_roundw
      case rel => exact ⟨k + 1, av, cv, F', HK.out, by go_num, rfl, HR2.out.1, HR2.out.2⟩
      case measure => have := HK.out; simp [intOf]; omega
    · obtain rfl : k = L.length := by omega
      rw [List.take_of_length_le (by simp)] at hro
      have HO := Keep.mk (And.intro hro huo)
      clear hro huo
      go_wp2_with fail
      go_ret
      exact ⟨_, rfl, Fo, HO.out.1, HO.out.2⟩
end Go.Proofs.Ytimkbpcdbbdjlaa.Cr
