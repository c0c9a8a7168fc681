/- The table of connections: Open. -/
import Derived.Test.YtimkbpcdbbdjlaaConnH
namespace Go.Proofs.Ytimkbpcdbbdjlaa
open Go.RowKit Go.Sub Go.ChangeMaps
/-- Open, on what the table has -/
def openS (last : Int) (M : List (Int × Con)) (addr : Int) : Int × List (Int × Con) × Int × Int :=
  if M.length = 64 then (last, M, 0, 2) else (last + 1, M ++ [(last + 1, ⟨addr, [], [], 0, false⟩)], last + 1, 0)
theorem mset_none {κ V : Type} [DecidableEq κ] : ∀ {M : List (κ × V)} {x : κ} (v : V), mget M x = none → mset M x v = M ++ [(x, v)]
  | [], _, _, _ => rfl
  | (k, u) :: M, x, v, h => by
    by_cases e : k = x
    · simp [mget, e] at h
    · simp only [mget, if_neg e] at h
      simp [mset, e, mset_none v h]
theorem star_assoc' {A B C : Asrt} {w : World} {F : Fp} (h : (Asrt.star A (Asrt.star B C)).on w F) : (Asrt.star (Asrt.star A B) C).on w F := by
  obtain ⟨F1, F2, h1, ⟨F3, F4, h3, h4, hd', rfl⟩, hd, rfl⟩ := h
  refine ⟨fun k => F1 k ∨ F3 k, F4, ⟨F1, F3, h1, h3, fun k a b => hd k a (.inl b), rfl⟩, h4, fun k a b => a.elim (fun c => hd k c (.inr b)) (fun c => hd' k c b), ?_⟩
  funext k
  exact propext or_assoc.symm
theorem star_emp' {C R : Asrt} {w : World} {F : Fp} (h : (Asrt.star C R).on w F) : (Asrt.star (Asrt.star C Asrt.emp) R).on w F := by
  obtain ⟨F1, F2, h1, h2, hd, rfl⟩ := h
  exact ⟨F1, F2, Asrt.stars_one h1, h2, hd, rfl⟩
theorem con_new {cb ri ro : Nat} {addr : Int} {w : World} {F1 F2 : Fp} (h1 : (ringT ri 512 []).on w F1) (h2 : (ringT ro 1024 []).on w F2) (hd : ∀ k, F1 k → F2 k → False) (hcb : cb = w.heap.size) :
    (conT cb ri ro ⟨addr, [], [], 0, false⟩).on (w.alloc (conB ri ro ⟨addr, [], [], 0, false⟩)) (fun k => k = cb ∨ F1 k ∨ F2 k) := by
  subst hcb
  refine ⟨fun k => k = w.heap.size, fun k => F1 k ∨ F2 k, ⟨obj_alloc_at rfl, rfl⟩, ⟨F1, F2, Asrt.alloc h1 _, Asrt.stars_one (Asrt.alloc h2 _), hd, rfl⟩, fun k e h => ?_, rfl⟩
  subst e
  exact h.elim (Asrt.not_new h1 (Nat.le_refl _)) (Asrt.not_new h2 (Nat.le_refl _))
set_option maxHeartbeats 4000000 in
set_option maxRecDepth 100000 in
theorem open_c {b : Nat} {last : Int} {M : List (Int × Con)} {w : World} {F : Fp} (hM : (tabT b last M).on w F) (hnone : mget M (last + 1) = none) (l0 : 0 ≤ last) (l1 : last ≤ 1000000000) (addr : Int) :
    Calls Try.prog 13 #[.pointer (some ⟨b, 0, none⟩), .int .u32 addr] w (Ret (.tuple #[.int .i64 (openS last M addr).2.2.1, .int .i64 (openS last M addr).2.2.2]) fun w' => ∃ F', (tabT b (openS last M addr).1 (openS last M addr).2.1).on w' F' ∧ Upd F F' w w') := by
  have hM0 := hM
  obtain ⟨⟨mb, L⟩, hLM, hS⟩ := hM
  simp only at hLM hS
  obtain ⟨hc, hf, hlt⟩ := Asrt.blk_of hS 0 rfl
  have hc0 : w.cell? ⟨b, 0, none⟩ = some (.map (some mb)) := hc 0
  have hc1 : w.cell? ⟨b, 1, none⟩ = some (.int .i64 last) := hc 1
  obtain ⟨_, ⟨o, ho, hm, _⟩, _⟩ := Asrt.stars_get hS 1 rfl
  have hlen := run_len_of Try.underlying64 ho mb
  have hML : (L.map CE.key).length = M.length := by rw [← hLM]; simp
  rw [hML] at hlen
  have hlm := lt_of_heap hm
  by_cases h64 : M.length = 64
  · have e1 : ((M.length : Int) == 64) = true := by simp; omega
    have FIN := Keep.mk (show openS last M addr = (last, M, 0, 2) from by simp [openS, h64])
    clear h64 hML hc hLM hS ho
    go_enter Try.func13, Try.ntmps13
    go_wp2_with fail
    go_ret2
    rw [FIN.out]
    exact ⟨rfl, F, hM0, Upd.refl _ _⟩
  · have e1 : ((M.length : Int) == 64) = false := by simp; omega
    have FIN := Keep.mk (show openS last M addr = (last + 1, M ++ [(last + 1, ⟨addr, [], [], 0, false⟩)], last + 1, 0) from by simp [openS, h64])
    have e2 : IntKind.i64.wrap (last + 1) = last + 1 := by rw [IntKind.wrap_i64]; omega
    have hbm : b ≠ mb := by
      obtain ⟨F1, F2, hb1, ⟨F3, F4, ⟨o2, _, hm2⟩, _, _, rfl⟩, hd2, _⟩ := hS
      intro e
      exact hd2 b (by rw [hb1.2]) (.inl (by rw [hm2.2]; exact e))
    -- the last number is one more
    obtain ⟨Fb, hbk, _, hgo1⟩ := Asrt.stars_upd _ 0 _ rfl hS
    obtain ⟨B1, v1⟩ := blk_set hbk 1 (.int .i64 (last + 1))
    obtain ⟨F1, S1, u1⟩ := hgo1 _ _ (.blk b (.cells #[.map (some mb), .int .i64 (last + 1)] 66 (0, 0))) B1 v1
    have hfz := hf 1
    have hm1 : (w.setCell ⟨b, 1, none⟩ (.int .i64 (last + 1))).obj mb = some o := (obj_setCell_ne (fun e => hbm e.symm)).trans hm
    have HU := fun k : Nat => run_update_of keyI Try.underlying64 ho mb (last + 1) (some k)
    have hkn : mget (L.map CE.key) (last + 1) = none := by
      rcases ent_open L (last + 1) with ⟨h, _⟩ | ⟨i, x, _, _, _, h, _⟩
      · exact h
      · rw [← hLM] at hnone
        rw [h] at hnone
        cases hnone
    obtain ⟨O, hO⟩ : ∃ O : Nat → Obj, ∀ k, MapObj encI evP (O k) (mset (L.map CE.key) (last + 1) (some k)) ∧ ∀ W : World, W.obj mb = some o → (Instr.mapUpdate 64 (.map (some mb)) (.int .i64 (last + 1)) (.pointer (some ⟨k, 0, none⟩))).run Try.prog W = .ok () (setBlock W mb (O k)) := ⟨fun k => (HU k).choose, fun k => (HU k).choose_spec⟩
    have hup := fun k => (hO k).2
    have hob := fun k => (hO k).1
    simp only [mset_none _ hkn] at hob
    have R1 := fun w => ringnew_c w 512 (by omega) (by omega)
    have R2 := fun w => ringnew_c w 1024 (by omega) (by omega)
    obtain ⟨k0, kf, kl⟩ := Asrt.blk_of S1 0 rfl
    have s0 : (w.setCell ⟨b, 1, none⟩ (.int .i64 (last + 1))).drew.cell? ⟨b, 0, none⟩ = some (.map (some mb)) ∧ (w.setCell ⟨b, 1, none⟩ (.int .i64 (last + 1))).drew.cell? ⟨b, 1, none⟩ = some (.int .i64 (last + 1)) := ⟨k0 0, k0 1⟩
    have HOB := Keep.mk hob
    have HL := Keep.mk hLM
    clear h64 hML hc hLM hS ho hO HU hgo1 B1 v1 hob hkn hnone k0 kf
    go_enter Try.func13, Try.ntmps13
    go_wp2_with fail
    generalize w.setCell ⟨b, 1, none⟩ (.int .i64 (last + 1)) = wx at *
    have hbx : b < wx.drew.heap.size := kl
    have hmx : mb < wx.drew.heap.size := lt_of_heap (w := wx) hm1
    have hmd : wx.drew.obj mb = some o := hm1
    go_region_held3 (fun w' => w'.cell? ⟨b, 0, none⟩ = some (.map (some mb)) ∧ w'.cell? ⟨b, 1, none⟩ = some (.int .i64 (last + 1))) (first | exact s0 | exact s1 | exact s2 | exact s4 _ _ | go_keep)
      (first
        | (go_at_call_of 39 (Value.int IntKind.i64 512); refine (R1 _).mono ?_; rintro e w2 ⟨ri, rfl, Fi, hi, ui⟩; have s1 : w2.cell? ⟨b, 0, none⟩ = some (.map (some mb)) ∧ w2.cell? ⟨b, 1, none⟩ = some (.int .i64 (last + 1)) := ⟨(ui.cell hbx (fun h => h)).trans s0.1, (ui.cell hbx (fun h => h)).trans s0.2⟩; have hb2 := Nat.lt_of_lt_of_le hbx ui.size; have hmb2 : w2.obj mb = some o := (ui.same mb hmx (fun h => h)).trans hmd; have hm2 := lt_of_heap hmb2)
        | (go_at_call_of 39 (Value.int IntKind.i64 1024); refine (R2 _).mono ?_; rintro e w3 ⟨ro, rfl, Fo, hro, uo⟩; have s2 : w3.cell? ⟨b, 0, none⟩ = some (.map (some mb)) ∧ w3.cell? ⟨b, 1, none⟩ = some (.int .i64 (last + 1)) := ⟨(uo.cell hb2 (fun h => h)).trans s1.1, (uo.cell hb2 (fun h => h)).trans s1.2⟩; have hb3 := Nat.lt_of_lt_of_le hb2 uo.size; have hmb3 : w3.obj mb = some o := (uo.same mb hm2 (fun h => h)).trans hmb2; have hm3 := lt_of_heap hmb3; have s4 : ∀ (ob o' : Obj), (setBlock (w3.alloc ob) mb o').cell? ⟨b, 0, none⟩ = some (.map (some mb)) ∧ (setBlock (w3.alloc ob) mb o').cell? ⟨b, 1, none⟩ = some (.int .i64 (last + 1)) := fun ob o' => ⟨(cell?_setBlock_ne (a := ⟨b, 0, none⟩) hbm).trans ((((Upd.refl none' w3).alloc ob).cell hb3 (fun h => h)).trans s2.1), (cell?_setBlock_ne (a := ⟨b, 1, none⟩) hbm).trans ((((Upd.refl none' w3).alloc ob).cell hb3 (fun h => h)).trans s2.2)⟩))
    go_wp2_with fail
    go_ret2
    rw [FIN.out]
    -- the world in the end
    obtain ⟨F2, S2, u2⟩ := Asrt.stars_new (Asrt.drew S1) hi ui
    obtain ⟨F3, S3, u3⟩ := Asrt.stars_new S2 hro uo
    obtain ⟨F4, S4, u4⟩ := new_blk S3 (conB ri ro ⟨addr, [], [], 0, false⟩)
    obtain ⟨Fm, ⟨om, hom, hbmm, hFm⟩, _, hgo5⟩ := Asrt.stars_upd _ 4 _ rfl S4
    obtain ⟨F5, S5, u5⟩ := hgo5 (setBlock (w3.alloc (conB ri ro ⟨addr, [], [], 0, false⟩)) mb (O w3.heap.size)) Fm (.map encI evP mb (L.map CE.key ++ [(last + 1, some w3.heap.size)])) ⟨_, HOB.out _, obj_setBlock_at (lt_of_heap hbmm), hFm⟩ ((Upd.refl Fm _).setBlock (.inl (by rw [hFm])) _)
    have S6 := Asrt.star_imp (fun G hG => Asrt.star_swap hG) S5
    have S7 := star_assoc' (Asrt.star_imp (fun G hG => star_assoc' (Asrt.star_imp (fun G' hG' => star_emp' hG') hG)) S6)
    have S8 : (Asrt.stars (conT w3.heap.size ri ro ⟨addr, [], [], 0, false⟩ :: .blk b (.cells #[.map (some mb), .int .i64 (last + 1)] 66 (0, 0)) :: .map encI evP mb (L.map CE.key ++ [(last + 1, some w3.heap.size)]) :: L.map CE.asrt)).on _ F5 := S7
    have S9 := Asrt.stars_perm (List.perm_append_comm (l₁ := [_]) (l₂ := _)) S8
    refine ⟨rfl, F5, ⟨(mb, L ++ [⟨last + 1, w3.heap.size, ri, ro, ⟨addr, [], [], 0, false⟩⟩]), ?_, ?_⟩, (((u1.drew.trans u2).trans u3).trans u4).trans u5⟩
    · rw [List.map_append, HL.out]; rfl
    · rw [List.map_append, List.map_append]
      exact S9
end Go.Proofs.Ytimkbpcdbbdjlaa
