/- The meter: All. -/
import Derived.Test.YtglfkkaldeblhaaMeterB
import Derived.Deep.RegionLaw
import Derived.Deep.DeepCutAuto
namespace Go.Proofs.Ytglfkkaldeblhaa
open Go.RowKit Go.Sub Go.ChangeMaps
theorem keysOf_perm (l : List ByteArray) : (keysOf l).Perm l := by
  have h := ((List.mergeSort_perm (l.map fun x => x.data.toList) (fun x y => decide (x ≤ y))).map fun x : List UInt8 => (⟨x.toArray⟩ : ByteArray))
  have e : ((l.map fun x => x.data.toList).map fun x : List UInt8 => (⟨x.toArray⟩ : ByteArray)) = l := by
    rw [List.map_map]
    exact (List.map_congr_left (g := id) fun x _ => rfl).trans (List.map_id l)
  rw [e] at h
  exact h
def allOf (M : List Cnt) : List Cnt := (keysOf (M.map (·.t))).map (cof M)
set_option maxHeartbeats 2000000 in
theorem all_c {b : Nat} {M : List Cnt} {w : World} {F : Fp} (hM : (meterT b M).on w F) (hnd : (M.map (·.t)).Nodup) (hs : ∀ c ∈ M, c.t.size ≤ maxLen) (hl : M.length ≤ 1000000) :
    Calls Try.prog 19 #[.pointer (some ⟨b, 0, none⟩)] w fun e w' => ∃ v, Ret v (fun w' => ∃ F', (row 36 4 encC v (allOf M)).on w' F' ∧ Upd none' F' w w') e w' := by
  have hM0 := hM
  obtain ⟨i3, hi, hz0, hz1, hz2⟩ := info_parts infoC
  obtain ⟨⟨mb, L⟩, hLM, hS⟩ := hM
  obtain ⟨_, ⟨hb, _⟩, _⟩ := Asrt.stars_get hS 0 rfl
  obtain ⟨hc, hf, hlt⟩ := blk_facts hb
  obtain ⟨_, ⟨o, ho, hm, _⟩, _⟩ := Asrt.stars_get hS 1 rfl
  have hkeys : (L.map cent).map (·.1) = M.map (·.t) := by rw [← hLM]; simp [Function.comp_def]
  have SC := sorted_c ho (by rw [hkeys]; exact hnd) (fun p hp => by
    obtain ⟨x, hx, rfl⟩ := List.mem_map.1 hp
    exact hs x.2 (by rw [← hLM]; exact List.mem_map_of_mem hx)) (by rw [← hLM] at hl; simpa using hl) hm
  rw [hkeys] at SC
  have hKM : ∀ t ∈ keysOf (M.map (·.t)), ∃ c ∈ M, c.t = t := fun t ht => by
    have := (keysOf_perm _).mem_iff.1 ht
    simpa using this
  have hKl : (keysOf (M.map (·.t))).length ≤ 1000000 := by rw [(keysOf_perm _).length_eq]; simpa using hl
  have hall : allOf M = (keysOf (M.map (·.t))).map (cof M) := rfl
  generalize keysOf (M.map (·.t)) = K at *
  have HA := Keep.mk hall
  clear hall hb hkeys hm ho hLM hS
  go_enter Try.func19, Try.ntmps19
  go_wp2_with fail
  refine (keys_c mb w).mono ?_
  rintro e w1 ⟨rfl, rfl⟩
  go_wp2_with fail
  refine SC.mono ?_
  rintro e w2 ⟨vk, rfl, Fk, hrk, uk⟩
  obtain ⟨ak, ck, rfl, _⟩ := (row_reads (enc := encB) (fun _ => rfl) hrk).1
  clear SC
  go_wp2_with fail
  go_loopw [3, 13] (fun v i wr => ∃ k F', k ≤ K.length ∧ i = .int .i64 (k : Nat) ∧ (Asrt.stars [row 36 4 encC v ((K.take k).map (cof M)), row 9 1 encB (.slice ak K.length ck) K]).on wr F' ∧ Upd none' F' w wr) (fun _ i _ => K.length - (intOf i).toNat)
  case atStart => exact ⟨0, Fk, by omega, rfl, Asrt.stars_emp (row_nil w2 36 4 encC) (Asrt.stars_one hrk), uk⟩
  case round =>
    obtain ⟨k, F', hk, rfl, hSt, hU⟩ := hrel
    by_cases hlt : k < K.length
    · obtain ⟨_, hrk, _⟩ := Asrt.stars_get hSt 1 rfl
      obtain ⟨a', c', heq, hka⟩ := (row_reads (enc := encB) (fun _ => rfl) hrk).1
      obtain ⟨g, off, rfl, hg, hcell⟩ := hka k K[k] (List.getElem?_eq_getElem hlt)
      cases heq
      have hk0 : wr.cell? ⟨g, off + k, none⟩ = some (.string K[k]) := by simpa using hcell 0 _ rfl
      obtain ⟨cc, hcc, hct⟩ := hKM K[k] (List.getElem_mem hlt)
      have htake : (K.take (k + 1)).map (cof M) = (K.take k).map (cof M) ++ [cof M K[k]] := by rw [List.take_succ_eq_append_getElem hlt, List.map_append]; rfl
      generalize K[k] = t at *
      clear hcell hka hrk
      have hM' := (meterT b M).frame hM0 hU fun _ _ h => h
      obtain ⟨⟨mb', L'⟩, hLM', hS'⟩ := hM'
      obtain ⟨_, ⟨hb', _⟩, _⟩ := Asrt.stars_get hS' 0 rfl
      obtain ⟨hc', hf', hlt'⟩ := blk_facts hb'
      obtain ⟨_, ⟨o', ho', hm', _⟩, _⟩ := Asrt.stars_get hS' 1 rfl
      have hlm' := lt_of_heap hm'
      have hl := run_lookup_of keyS Try.underlying45 zPtr ho' mb' t
      rw [mget_cent] at hl
      have hfind : ∃ x, L'.find? (fun x => x.2.t = t) = some x := by
        rw [← Option.isSome_iff_exists, List.find?_isSome]
        rw [← hLM'] at hcc
        obtain ⟨x, hx, rfl⟩ := List.mem_map.1 hcc
        exact ⟨x, hx, by simpa using hct⟩
      obtain ⟨x, hq⟩ := hfind
      have hcof : cof M t = x.2 := by rw [cof, ← hLM', find_val, hq]; rfl
      obtain ⟨et, i, hi', _⟩ := find_idx hq
      obtain ⟨_, ⟨hx, _⟩, _⟩ := Asrt.stars_get hS' (i + 2) (A := cblk x) (by simp [hi'])
      obtain ⟨hxc, hxf, hxl⟩ := blk_facts hx
      rw [hq] at hl
      obtain ⟨p, c⟩ := x
      simp only [Option.map_some, evP] at hl
      rw [hcof] at htake
      simp only [List.map_take] at htake
      clear hq hx hb' ho' hS' hcc hct hcof hi' et
      obtain ⟨Fo, hrow, _, hgo⟩ := Asrt.stars_upd _ 0 _ rfl hSt
      obtain ⟨wo, hwo⟩ : ∃ wo, wo = wr := ⟨_, rfl⟩
      go_wp2_with (at_builtin; refine at_append_row encC 4 40 rfl (.tmp 17) (.tmp 26) 39 rfl 36 i3 _ Try.underlying39 hi hz0 hz1 hz2 rfl (by decide) u3 _ c Fo rfl (Asrt.alloc hrow _) ⟨wr.heap.size, 0, none⟩ 1 rfl rfl (cells_new wr (encC c) _) ?hone ?h63 ?hby ?next)
      case hone => exact ⟨rfl, rfl, rfl, rfl⟩
      case h63 => unfold maxLen; first | omega | (simp; omega)
      case hby => first | omega | (simp; omega)
      case next =>
        intro v' w4 F4 hr4 hu4
        obtain ⟨F5, h5, u5⟩ := hgo w4 F4 _ hr4 (((Upd.refl Fo wr).alloc _).trans hu4)
        go_wp2_with fail
        go_roundw
        case rel =>
          refine ⟨k + 1, F5, by omega, by go_num, ?_, hU.trans u5⟩
          rw [List.map_take, htake]
          exact h5
        case measure => simp [intOf]; omega
    · go_wp2_with fail
      go_returns
      have hkk : k = K.length := by omega
      subst hkk
      rw [List.take_length, ← HA.out] at hSt
      obtain ⟨Fo, hrow, hsub⟩ := Asrt.stars_get hSt 0 rfl
      exact ⟨_, rfl, Fo, hrow, hU.re fun k hk => hU.fp k (hsub k hk)⟩
end Go.Proofs.Ytglfkkaldeblhaa
