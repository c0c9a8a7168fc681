/- The book of leases: some; All. -/
import Derived.Test.YtpjfakmalhenjaaDoorLpF
import Derived.Test.YtpjfakmalhenjaaDoorLpS
import Derived.Deep.RegionLaw
set_option linter.unusedVariables false
namespace Go.Proofs.YtpjfakmalhenjaaDoor
open Go.RowKit Go.Sub Go.ChangeMaps
section
variable {κ V : Type} [DecidableEq κ]
theorem mget_mset (m : List (κ × V)) (x y : κ) (v : V) : mget (mset m x v) y = if x = y then some v else mget m y := by
  induction m with
  | nil => simp [mset, mget]
  | cons p m ih =>
    obtain ⟨k, u⟩ := p
    by_cases e : k = x
    · subst e; simp only [mset, if_pos, mget]; split <;> rfl
    · simp only [mset, if_neg e, mget, ih]
      by_cases e2 : k = y
      · subst e2; simp [show ¬ x = k from fun h => e h.symm]
      · simp [e2]
theorem mset_keys {m : List (κ × V)} {x : κ} {v : V} (h : mget m x = some v) (v' : V) : (mset m x v').map (·.1) = m.map (·.1) := by
  induction m with
  | nil => cases h
  | cons p m ih =>
    obtain ⟨k, u⟩ := p
    by_cases e : k = x
    · simp [mset, e]
    · simp only [mget, if_neg e] at h; simp [mset, e, ih h]
end
/-- one lease visited -/
def stepL (so : Lz → Bool) (dof : Lz → Lz) (M : LT) (nm : ByteArray) : LT := match mget M nm with
  | none => M
  | some x => if so x = true then mset M nm (dof x) else M
def foldL (so : Lz → Bool) (dof : Lz → Lz) (ns : List ByteArray) (M : LT) : LT := ns.foldl (stepL so dof) M
def outL (so : Lz → Bool) (M : LT) (ns : List ByteArray) : List Lz := ns.filterMap fun nm => (mget M nm).filter so
theorem stepL_get (so : Lz → Bool) (dof : Lz → Lz) (M : LT) {nm k : ByteArray} (h : nm ≠ k) : mget (stepL so dof M nm) k = mget M k := by
  unfold stepL
  split
  · rfl
  · split
    · rw [mget_mset, if_neg h]
    · rfl
theorem foldL_get (so : Lz → Bool) (dof : Lz → Lz) {k : ByteArray} : ∀ (ns : List ByteArray) (M : LT), k ∉ ns → mget (foldL so dof ns M) k = mget M k
  | [], M, _ => rfl
  | n :: ns, M, h => by
    rw [List.mem_cons, not_or] at h
    show mget (foldL so dof ns (stepL so dof M n)) k = _
    rw [foldL_get so dof ns _ h.2, stepL_get so dof M (fun e => h.1 e.symm)]
theorem foldL_snoc (so : Lz → Bool) (dof : Lz → Lz) (ns : List ByteArray) (nm : ByteArray) (M : LT) : foldL so dof (ns ++ [nm]) M = stepL so dof (foldL so dof ns M) nm := by simp [foldL]
theorem keysOf_perm (l : List ByteArray) : (keysOf l).Perm l := by
  have h := ((List.mergeSort_perm (l.map fun x => x.data.toList) (fun x y => decide (x ≤ y))).map fun x : List UInt8 => (⟨x.toArray⟩ : ByteArray))
  have e : ((l.map fun x => x.data.toList).map fun x : List UInt8 => (⟨x.toArray⟩ : ByteArray)) = l := by
    rw [List.map_map]
    exact (List.map_congr_left (g := id) fun x _ => rfl).trans (List.map_id l)
  rw [e] at h
  exact h
theorem mget_of_mem {M : LT} {t : ByteArray} (h : t ∈ M.map (·.1)) : ∃ x, mget M t = some x := by
  induction M with
  | nil => simp at h
  | cons p M ih =>
    obtain ⟨k, u⟩ := p
    by_cases e : k = t
    · exact ⟨u, by simp [mget, e]⟩
    · simp only [mget, if_neg e]
      rw [List.map_cons, List.mem_cons] at h
      exact ih (h.resolve_left fun h => e h.symm)
def Enters (f : Nat) : Prop := ∀ (args : Array Value) (w : World), (callFunc f args).run Tryd.prog w = .ok (.enter f args) w
/-- a lease lies at cb -/
def LAt (b : Nat) (g m e : Int) (M : LT) (w : World) (F : Fp) (nm : ByteArray) (cb : Nat) (x : Lz) : Prop :=
  ∃ Fi, (Asrt.blk cb (blkL x)).on w Fi ∧ (∀ k, Fi k → F k) ∧ ∀ (w' : World) (Fi' : Fp) (x' : Lz), (Asrt.blk cb (blkL x')).on w' Fi' → Upd Fi Fi' w w' → ∃ F', (bookT b g m e (mset M nm x')).on w' F' ∧ Upd F F' w w'
theorem finds_inj {mb : Nat} {w w' : World} {nm : ByteArray} {c c' : Nat} (h : Finds mb w nm (some c)) (h' : Finds mb w' nm (some c')) (he : w'.obj mb = w.obj mb) : c = c' := by
  have h1 := h w rfl false
  have h2 := h' w he.symm false
  rw [h1] at h2
  simpa using h2
theorem lat_of {b mb : Nat} {g m e : Int} {M : LT} {w : World} {F : Fp} {nm : ByteArray} {cb : Nat} {x : Lz} (hM : (bookT b g m e M).on w F) (h3 : w.cell? ⟨b, 3, none⟩ = some (.map (some mb))) (hf : Finds mb w nm (some cb)) (hx : mget M nm = some x) : LAt b g m e M w F nm cb x := by
  obtain ⟨mb', _, _, _, k3, _, _, _, _, _, ⟨hn, _⟩ | ⟨cb', x', Fi, hs, hl, hC, hsub, hgo⟩⟩ := book_open hM nm
  · rw [hx] at hn; cases hn
  · obtain rfl : mb' = mb := by have := k3.symm.trans h3; simpa using this
    obtain rfl := finds_inj hf hl rfl
    rw [hx] at hs
    cases hs
    exact ⟨Fi, hC, hsub, hgo⟩
/-- how 'some' ends -/
def SomeEnds (b : Nat) (g m e : Int) (M : LT) (so : Lz → Bool) (dof : Lz → Lz) (F : Fp) (w : World) (en : Ending) (w' : World) : Prop :=
  ∃ v, Ret v (fun w' => ∃ F', (Asrt.stars [bookT b g m e (foldL so dof (keysOf (M.map (·.1))) M), row 34 6 encL v (outL so M (keysOf (M.map (·.1))))]).on w' F' ∧ Upd F F' w w') en w'
set_option maxHeartbeats 8000000 in
set_option maxRecDepth 100000 in
theorem some_c {b : Nat} {g m e : Int} {M : LT} {w : World} {F : Fp} (hM : (bookT b g m e M).on w F) (hnd : (M.map (·.1)).Nodup) (hsz : ∀ p ∈ M, p.1.size ≤ maxLen) (hlen : M.length ≤ 1000) {fs fd : Nat} {cs cd : Array Value} (ents : Enters fs) (entd : Enters fd) (so : Lz → Bool) (dof : Lz → Lz)
    (CS : ∀ (M' : LT) (w' : World) (F' : Fp) (nm : ByteArray) (cb : Nat) (x : Lz), (bookT b g m e M').on w' F' → LAt b g m e M' w' F' nm cb x → (∃ Fk, Upd F Fk w w') → Calls Tryd.prog fs (#[.pointer (some ⟨cb, 0, none⟩)] ++ cs) w' (Ret (.bool (so x)) fun w'' => ∃ n, w'' = w'.drewN n))
    (CD : ∀ (M' : LT) (w' : World) (F' : Fp) (nm : ByteArray) (cb : Nat) (x : Lz), (bookT b g m e M').on w' F' → LAt b g m e M' w' F' nm cb x → (∃ Fk, Upd F Fk w w') → mget M nm = some x → so x = true → Calls Tryd.prog fd (#[.pointer (some ⟨cb, 0, none⟩)] ++ cd) w' (Ret (.tuple #[]) fun w'' => ∃ F'', (bookT b g m e (mset M' nm (dof x))).on w'' F'' ∧ Upd F' F'' w' w'')) :
    Calls Tryd.prog 34 #[.pointer (some ⟨b, 0, none⟩), .func (.func fs) #[] cs, .func (.func fd) #[] cd] w (SomeEnds b g m e M so dof F w) := by
  obtain ⟨i3, hi, hz0, hz1, hz2⟩ := info_parts infoL
  have hI := Keep.mk (And.intro hi (And.intro hz0 (And.intro hz1 hz2)))
  have hM0 := hM
  obtain ⟨⟨mb, L⟩, hLM, hS⟩ := hM
  obtain ⟨hc, _, hlt⟩ := Asrt.blk_of hS 0 rfl
  obtain ⟨_, ⟨o, ho, hm, _⟩, _⟩ := Asrt.stars_get hS 1 rfl
  have h3 : w.cell? ⟨b, 3, none⟩ = some (.map (some mb)) := hc 3
  have hkeys : (L.map LE.key).map (·.1) = M.map (·.1) := by rw [← hLM]; simp [Function.comp_def]
  have SC := sorted_c ho (by rw [hkeys]; exact hnd) (fun p hp => by
    obtain ⟨x, hx, rfl⟩ := List.mem_map.1 hp
    exact hsz x.val (by rw [← hLM]; exact List.mem_map_of_mem hx)) (by rw [← hLM] at hlen; simp at hlen ⊢; omega) hm
  rw [hkeys] at SC
  have hKM : ∀ t ∈ keysOf (M.map (·.1)), ∃ x, mget M t = some x := fun t ht => mget_of_mem ((keysOf_perm _).mem_iff.1 ht)
  have hKl : (keysOf (M.map (·.1))).length ≤ 1000 := by rw [(keysOf_perm _).length_eq]; simpa using hlen
  have hKn : (keysOf (M.map (·.1))).Nodup := (keysOf_perm _).nodup_iff.2 hnd
  unfold SomeEnds
  generalize keysOf (M.map (·.1)) = K at *
  replace SC := Keep.mk SC
  replace hKM := Keep.mk hKM
  replace hKn := Keep.mk hKn
  have hM1 := Keep.mk hM0
  have CSk := Keep.mk CS
  have CDk := Keep.mk CD
  clear hkeys hm ho hLM hS hi hz0 hz1 hz2 hc hM0 CS CD
  go_enter Tryd.func34, Tryd.ntmps34
  go_wp2_with fail
  refine (keys_c mb w).mono ?_
  rintro e1 w1 ⟨rfl, rfl⟩
  go_wp2_with fail
  refine SC.out.mono ?_
  rintro e1 w2 ⟨vk, rfl, Fk, hrk, uk⟩
  obtain ⟨ak, ck, rfl, _⟩ := (row_reads (enc := encN) (fun _ => rfl) hrk).1
  obtain ⟨F2, S2, u2⟩ := Asrt.stars_new (Asrt.stars_one hM1.out) hrk uk
  have S2 := swap2 S2
  obtain ⟨F3, S3, U3⟩ : ∃ F3, (Asrt.stars [bookT b g m e M, row 34 6 encL (.slice none 0 0) [], row 9 1 encN (.slice ak K.length ck) K]).on w2 F3 ∧ Upd F F3 w w2 :=
    ⟨F2, Asrt.stars_perm (List.Perm.swap ..) (Asrt.stars_emp (row_nil w2 34 6 encL) S2), u2⟩
  clear SC S2 u2 hrk uk
  go_wp2_with fail
  go_loopw [7, 18] (fun vo i wr => ∃ (k : Nat) (F' : Fp) (ao : Option Addr) (co : Nat), k ≤ K.length ∧ i = .int .i64 (k : Nat) ∧ vo = .slice ao (outL so M (K.take k)).length co ∧ (Asrt.stars [bookT b g m e (foldL so dof (K.take k) M), row 34 6 encL (.slice ao (outL so M (K.take k)).length co) (outL so M (K.take k)), row 9 1 encN (.slice ak K.length ck) K]).on wr F' ∧ Upd F F' w wr) (fun _ i _ => K.length - (intOf i).toNat)
  case atStart => exact ⟨0, F3, none, 0, by omega, rfl, rfl, S3, U3⟩
  case round =>
    obtain ⟨k, F', ao, co, hk, rfl, rfl, hSt, hU⟩ := hrel
    clear S3 U3
    by_cases hlt : k < K.length
    · obtain ⟨_, hrk, _⟩ := Asrt.stars_get hSt 2 rfl
      obtain ⟨a', c', heq, hka⟩ := (row_reads (enc := encN) (fun _ => rfl) hrk).1
      obtain ⟨gk, ok, rfl, hgk, hcell⟩ := hka k K[k] (List.getElem?_eq_getElem hlt)
      cases heq
      have hk0 : wr.cell? ⟨gk, ok + k, none⟩ = some (.string K[k]) := by simpa using hcell 0 _ rfl
      obtain ⟨x, hx⟩ := hKM.out K[k] (List.getElem_mem hlt)
      have hnot : K[k] ∉ K.take k := fun hmem => by
        obtain ⟨j, hj, e⟩ := List.mem_iff_getElem.1 hmem
        rw [List.length_take] at hj
        rw [List.getElem_take] at e
        have := (List.getElem_inj (h₀ := by omega) (h₁ := hlt) hKn.out).1 e
        omega
      have hx' := (foldL_get so dof (K.take k) M hnot).trans hx
      have hfs := foldL_snoc so dof (K.take k) K[k] M
      rw [← List.take_succ_eq_append_getElem hlt] at hfs
      have hos : outL so M (K.take (k + 1)) = outL so M (K.take k) ++ ([K[k]].filterMap fun nm => (mget M nm).filter so) := by
        rw [List.take_succ_eq_append_getElem hlt]; exact List.filterMap_append
      simp only [stepL, hx'] at hfs
      simp only [List.filterMap_cons, List.filterMap_nil, hx] at hos
      have hol : (outL so M (K.take k)).length ≤ K.length := Nat.le_trans (List.length_filterMap_le ..) (by simp; omega)
      generalize outL so M (K.take k) = q at *
      generalize hMk : foldL so dof (K.take k) M = Mk at *
      generalize K[k] = t at *
      clear hcell hka hrk hnot hMk
      have HFS := Keep.mk hfs
      have HOS := Keep.mk hos
      clear hfs hos
      -- the head part
      have hSt0 := hSt
      obtain ⟨F1, Fr, hB, hR, hd, rfl⟩ := hSt0
      obtain ⟨mb', _, _, _, k3, hbl, hmbl, _, hFb, hFm, ⟨hn, _⟩ | ⟨cb, x1, Fi, hs, hl, hC, hsub, hgo⟩⟩ := book_open hB t
      · rw [hx'] at hn; cases hn
      · rw [hx'] at hs
        cases hs
        have hlk := hl wr rfl false
        simp only [Option.map_some, Bool.false_eq_true, if_false] at hlk
        have CSx := Keep.mk (CSk.out Mk wr F1 t cb x hB ⟨Fi, hC, hsub, hgo⟩ ⟨_, hU⟩)
        obtain ⟨hcb, _, hcl⟩ := blk_facts hC.1
        have hl := Keep.mk hl
        have ent1 := ents (#[.pointer (some ⟨cb, 0, none⟩)] ++ cs)
        cases hso : so x with
        | false =>
          rw [hso] at CSx
          have HF2 : Keep (foldL so dof (K.take (k + 1)) M = Mk) := Keep.mk (by rw [HFS.out, hso]; rfl)
          have HO2 : Keep (outL so M (K.take (k + 1)) = q) := Keep.mk (by rw [HOS.out, show Option.filter so (some x) = none from by simp [Option.filter, hso]]; simp)
          clear hB hR hd hgo hC hcb
          go_wp2_with fail
          refine CSx.out.mono ?_
          rintro e1 w5 ⟨rfl, n, rfl⟩
          have S5 := Asrt.drewN hSt n
          have U5 := hU.drewN n
          go_wp2_with fail
          go_roundw
          case rel => exact ⟨k + 1, _, ao, co, by omega, by go_num, by rw [HO2.out], by rw [HF2.out, HO2.out]; exact S5, U5⟩
          case measure => simp [intOf]; omega
        | true =>
          rw [hso] at CSx
          have HF2 : Keep (foldL so dof (K.take (k + 1)) M = mset Mk t (dof x)) := Keep.mk (by rw [HFS.out, hso]; rfl)
          have HO2 : Keep (outL so M (K.take (k + 1)) = q ++ [x]) := Keep.mk (by rw [HOS.out, show Option.filter so (some x) = some x from by simp [Option.filter, hso]])
          have j0 := hcb 0
          have j1 := hcb 1
          have j2 := hcb 2
          have j3 := hcb 3
          have j4 := hcb 4
          have j5 := hcb 5
          clear hgo hC hcb hsub
          go_wp2_with fail
          refine CSx.out.mono ?_
          rintro e1 w5 ⟨rfl, n, rfl⟩
          have S5 := Asrt.drewN hSt n
          have U5 := hU.drewN n
          obtain ⟨Fo, hrow, _, hgo⟩ := Asrt.stars_upd _ 1 _ rfl S5
          have hFo : ∀ k, F1 k → ¬ Fo k := by
            obtain ⟨G1, G2, g1, g2, gd, ge⟩ := hR
            have e1 : Fo = fun b => (Value.slice ao q.length co).ownBlock = some b := hrow.2
            have e2 : G1 = fun b => (Value.slice ao q.length co).ownBlock = some b := g1.2
            intro k hF h
            exact hd k hF (by rw [ge]; exact .inl (by rw [e2, ← e1]; exact h))
          obtain ⟨hi, hz0, hz1, hz2⟩ := hI.out
          clear hR hd hB
          go_wp2_with (at_builtin; refine at_append_row encL 6 64 rfl (.tmp 31) (.tmp 35) 22 rfl 34 i3 _ Tryd.underlying22 hi hz0 hz1 hz2 rfl (by decide) (.slice ao q.length co) q x Fo rfl (Asrt.alloc hrow _) ⟨wr.heap.size, 0, none⟩ 1 rfl rfl (cells_new (wr.drewN n) (encL x) _) (hone_L x) ?h63 ?hby ?next)
          case h63 => unfold maxLen; omega
          case hby => omega
          case next =>
            intro v' w8 F8 hr8 u8
            have u8' := ((Upd.refl Fo (wr.drewN n)).alloc _).trans u8
            obtain ⟨F9, S9, u9⟩ := hgo w8 F8 _ hr8 u8'
            have U9 := U5.trans u9
            obtain ⟨ao', co', rfl, _⟩ := (row_reads (enc := encL) (fun _ => rfl) hr8).1
            simp only [List.set_cons_succ, List.set_cons_zero] at S9
            have hobj : w8.obj mb' = wr.obj mb' := u8'.same mb' hmbl (hFo _ hFm)
            have k3' : w8.cell? ⟨b, 3, none⟩ = some (.map (some mb')) := (u8'.cell (a := ⟨b, 3, none⟩) hbl (hFo _ hFb)).trans k3
            have C9 := Keep.mk (on_head S9 (A' := bookT b g m e (mset Mk t (dof x))) fun Fi h _ => CDk.out Mk w8 Fi t cb x h (lat_of h k3' (fun W hW c => hl.out W (hW.trans hobj) c) hx') ⟨_, U9⟩ hx hso)
            have ent2 := entd (#[.pointer (some ⟨cb, 0, none⟩)] ++ cd)
            clear S5 U5 hr8 u8 u9 u8' hi hz0 hz1 hz2 hgo hrow j0 j1 j2 j3 j4 j5
            go_wp2_with fail
            refine C9.out.mono ?_
            rintro e1 w10 ⟨rfl, F10, S10, u10⟩
            have U10 := U9.trans u10
            go_wp2_with fail
            go_roundw
            case rel => exact ⟨k + 1, F10, ao', co', by omega, by go_num, by rw [HO2.out, List.length_append]; rfl, by rw [HF2.out, HO2.out]; exact S10, U10⟩
            case measure => simp [intOf]; omega
    · obtain rfl : k = K.length := by omega
      rw [List.take_length] at hSt ⊢
      go_wp2_with fail
      go_ret
      obtain ⟨Fz, Sz, sz⟩ := Asrt.stars_two hSt
      exact ⟨_, rfl, Fz, Sz, hU.re fun k hk => hU.fp k (sz k hk)⟩
end Go.Proofs.YtpjfakmalhenjaaDoor
