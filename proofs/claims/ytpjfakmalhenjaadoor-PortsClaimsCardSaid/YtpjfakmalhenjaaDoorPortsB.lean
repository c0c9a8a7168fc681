/- Ports: marks. -/
import Derived.Test.YtpjfakmalhenjaaDoorPortsA
import Derived.Laws.Rows
import Derived.Laws.Tables
import Derived.Test.YtpjfakmalhenjaaDoorSubL
import Derived.Test.YtpjfakmalhenjaaDoorLzA
namespace Go.Proofs.YtpjfakmalhenjaaDoor
open Go.RowKit Go.Sub Go.Shelf Go.Sort
/-- one lease counted -/
def bump (so : Lz → Bool) (c : List Int) (x : Lz) : List Int := match portS x.name.data.toList with
  | some p => if so x = true then c.set (p - 20000).toNat (c.getD (p - 20000).toNat 0 + 1) else c
  | none => c
def zeros64 : List Int := List.replicate 64 0
def markS (so : Lz → Bool) (L : List Lz) : List Int := L.foldl (bump so) zeros64
theorem bump_len (so : Lz → Bool) (c : List Int) (x : Lz) : (bump so c x).length = c.length := by
  unfold bump; split
  · split <;> simp
  · rfl
theorem markS_snoc (so : Lz → Bool) (L : List Lz) (x : Lz) : markS so (L ++ [x]) = bump so (markS so L) x := by simp [markS]
theorem markS_len (so : Lz → Bool) (L : List Lz) : (markS so L).length = 64 := by
  unfold markS
  suffices ∀ (c : List Int), c.length = 64 → (L.foldl (bump so) c).length = 64 from this zeros64 (by simp [zeros64])
  induction L with
  | nil => exact fun c h => h
  | cons x L ih => exact fun c h => ih _ (by rw [bump_len]; exact h)
def isPort (so : Lz → Bool) (i : Nat) (x : Lz) : Bool := decide (portS x.name.data.toList = some (20000 + (i : Int))) && so x
theorem bump_get (so : Lz → Bool) {c : List Int} (hc : c.length = 64) (x : Lz) {i : Nat} (hi : i < 64) : (bump so c x).getD i 0 = c.getD i 0 + if isPort so i x = true then 1 else 0 := by
  unfold bump isPort
  split
  · rename_i p hp
    obtain ⟨p0, p1, _⟩ := portS_iff.1 hp
    by_cases hs : so x = true
    · rw [if_pos hs, hp]
      by_cases e : (p - 20000).toNat = i
      · have ep : p = 20000 + (i : Int) := by omega
        rw [e, ep]
        simp [List.getD, hc, hi, hs]
      · have ep : ¬ p = 20000 + (i : Int) := by omega
        simp only [List.getD, List.getElem?_set]
        rw [if_neg e]
        simp [ep]
    · rw [if_neg hs]; simp [hs]
  · rename_i hp
    rw [hp]; simp
/-- each count is how many leases are so -/
theorem foldl_bump (so : Lz → Bool) {i : Nat} (hi : i < 64) : ∀ (L : List Lz) (c : List Int), c.length = 64 → (L.foldl (bump so) c).getD i 0 = c.getD i 0 + ((L.filter (isPort so i)).length : Int)
  | [], c, _ => by simp
  | x :: L, c, hc => by
    rw [List.foldl_cons, foldl_bump so hi L _ (by rw [bump_len]; exact hc), bump_get so hc x hi, List.filter_cons]
    split <;> simp <;> omega
theorem markS_get (so : Lz → Bool) (L : List Lz) {i : Nat} (hi : i < 64) : (markS so L).getD i 0 = ((L.filter (isPort so i)).length : Int) := by
  unfold markS
  rw [foldl_bump so hi L zeros64 (by simp [zeros64])]
  have : zeros64.getD i 0 = 0 := by unfold zeros64; rw [List.getD, List.getElem?_replicate]; split <;> rfl
  rw [this]; omega
theorem markS_bd (so : Lz → Bool) (L : List Lz) {i : Nat} (hi : i < 64) : 0 ≤ (markS so L).getD i 0 ∧ (markS so L).getD i 0 ≤ L.length := by
  rw [markS_get so L hi]
  have := List.length_filter_le (isPort so i) L
  omega
theorem markS_zero (so : Lz → Bool) (L : List Lz) {i : Nat} (hi : i < 64) : (markS so L).getD i 0 = 0 ↔ ∀ x ∈ L, isPort so i x = false := by
  rw [markS_get so L hi]
  rw [show ((L.filter (isPort so i)).length : Int) = 0 ↔ (L.filter (isPort so i)).length = 0 from by omega, List.length_eq_zero_iff, List.filter_eq_nil_iff]
  simp
def EntersP (f : Nat) : Prop := ∀ (args : Array Value) (w : World), (callFunc f args).run Tryd.prog w = .ok (.enter f args) w
abbrev rowI (c : List Int) : Array Value := (c.map fun x => Value.int .i64 x).toArray
abbrev blkI (c : List Int) : Obj := .cells (rowI c) 48 (0, 0)
theorem blkI_set {w : World} {g : Nat} {c : List Int} (hg : w.obj g = some (blkI c)) (i : Nat) (x : Int) : (w.setCell ⟨g, i, none⟩ (.int .i64 x)).obj g = some (blkI (c.set i x)) := by
  rw [obj_setCell_at hg]
  congr 2
  apply Array.ext'
  simp [List.map_set]
theorem rowI_zeros : rowI zeros64 = #[.int .i64 0, .int .i64 0, .int .i64 0, .int .i64 0, .int .i64 0, .int .i64 0, .int .i64 0, .int .i64 0, .int .i64 0, .int .i64 0, .int .i64 0, .int .i64 0, .int .i64 0, .int .i64 0, .int .i64 0, .int .i64 0,
  .int .i64 0, .int .i64 0, .int .i64 0, .int .i64 0, .int .i64 0, .int .i64 0, .int .i64 0, .int .i64 0, .int .i64 0, .int .i64 0, .int .i64 0, .int .i64 0, .int .i64 0, .int .i64 0, .int .i64 0, .int .i64 0,
  .int .i64 0, .int .i64 0, .int .i64 0, .int .i64 0, .int .i64 0, .int .i64 0, .int .i64 0, .int .i64 0, .int .i64 0, .int .i64 0, .int .i64 0, .int .i64 0, .int .i64 0, .int .i64 0, .int .i64 0, .int .i64 0,
  .int .i64 0, .int .i64 0, .int .i64 0, .int .i64 0, .int .i64 0, .int .i64 0, .int .i64 0, .int .i64 0, .int .i64 0, .int .i64 0, .int .i64 0, .int .i64 0, .int .i64 0, .int .i64 0, .int .i64 0, .int .i64 0] := by kernel_rfl
set_option maxHeartbeats 2000000 in
set_option maxRecDepth 100000 in
theorem marks_c {w : World} (ht : Tab10 w) (v : Value) (L : List Lz) (hv : Reads w 6 encL v L) (hl : L.length ≤ 1000000) (hn : ∀ x ∈ L, x.name.size ≤ maxLen) {f : Nat} {caps : Array Value} (hent : EntersP f) (so : Lz → Bool)
    (C : ∀ x ∈ L, ∀ w', Quiet w w' → Calls Tryd.prog f (#[aggL x] ++ caps) w' (Ret (.bool (so x)) fun w'' => Quiet w' w'')) :
    Calls Tryd.prog 24 #[v, .func (.func f) #[] caps] w (Ret (.agg (rowI (markS so L))) fun w' => Quiet w w') := by
  obtain ⟨a, cap, rfl, ha⟩ := hv
  have HA := Keep.mk ha
  have HN := Keep.mk hn
  have CC := Keep.mk C
  have hz := rowI_zeros
  obtain ⟨F1, S1, u1⟩ := Asrt.stars_box (l := []) (w := w) (F := none') rfl (blkI zeros64)
  obtain ⟨F2, S2, u2⟩ := Asrt.stars_box S1 (blkI zeros64)
  have U2 := u1.trans u2
  have e1 : (w.alloc (blkI zeros64)).heap.size = w.heap.size + 1 := size_alloc' _ _
  rw [e1] at S2
  simp only [blkI, hz] at S2 U2
  clear ha hn C u1 u2 S1 e1
  go_enter Tryd.func24, Tryd.ntmps24
  go_wp2_with fail
  rw [← hz] at S2 U2 ⊢
  go_loopw [12] (fun i wr => ∃ (k : Nat) (F : Fp), k ≤ L.length ∧ i = .int .i64 (k : Nat) ∧ (Asrt.stars [.blk (w.heap.size + 1) (blkI (markS so (L.take k))), .blk w.heap.size (blkI zeros64)]).on wr F ∧ Upd none' F w wr) (fun i _ => L.length - (intOf i).toNat)
  case atStart => exact ⟨0, F2, by omega, rfl, S2, U2⟩
  case round =>
    obtain ⟨k, F, hk, rfl, S3, U3⟩ := hrel
    clear S2 U2
    by_cases hlt : k < L.length
    · obtain ⟨g, off, rfl, hg, hc⟩ := HA.out k L[k] (List.getElem?_eq_getElem hlt)
      have hnx := HN.out L[k] (List.getElem_mem hlt)
      have CX := Keep.mk (CC.out L[k] (List.getElem_mem hlt))
      have hsn : markS so (L.take (k + 1)) = bump so (markS so (L.take k)) L[k] := by rw [List.take_succ_eq_append_getElem hlt, markS_snoc]
      have hlen := markS_len so (L.take k)
      have hbd := fun i (hi : i < 64) => markS_bd so (L.take k) hi
      have htl : (L.take k).length ≤ 1000000 := by simp; omega
      generalize markS so (L.take k) = c at *
      have hcl : ∀ j u, (encL L[k])[j]? = some u → wr.cell? ⟨g, off + k * 6 + j, none⟩ = some u := fun j u hu => by rw [U3.cell hg fun h => h]; exact hc j u hu
      generalize L[k] = x at *
      have k0 : wr.cell? ⟨g, off + k * 6, none⟩ = some (.string x.name) := hcl 0 _ rfl
      have k1 : wr.cell? ⟨g, off + k * 6 + 1, none⟩ = some (.string x.tenant) := hcl 1 _ rfl
      have k2 : wr.cell? ⟨g, off + k * 6 + 2, none⟩ = some (.int .i64 x.conn) := hcl 2 _ rfl
      have k3 : wr.cell? ⟨g, off + k * 6 + 3, none⟩ = some (.int .i64 x.epoch) := hcl 3 _ rfl
      have k4 : wr.cell? ⟨g, off + k * 6 + 4, none⟩ = some (.int .i64 x.til) := hcl 4 _ rfl
      have k5 : wr.cell? ⟨g, off + k * 6 + 5, none⟩ = some (.bool x.held) := hcl 5 _ rfl
      obtain ⟨F4, S4, u4⟩ := Asrt.stars_box2 S3 (boxL x)
      have U4 := U3.trans u4
      have hq := U4.quiet
      have PC := Keep.mk (port_c (tab_upd ht U4) x.name hnx)
      unfold PortEnds at PC
      have HS := Keep.mk hsn
      have HBD := Keep.mk hbd
      have hent1 := hent (#[aggL x] ++ caps)
      clear hc hcl hsn S3 u4 hbd
      cases hp : portS x.name.data.toList with
      | none =>
        rw [hp] at PC
        simp only [Option.isSome, Option.getD] at PC
        have hb : bump so c x = c := by simp [bump, hp]
        clear hp
        go_wp2_with fail
        refine PC.out.mono ?_
        rintro e w5 ⟨rfl, q5⟩
        obtain ⟨S5, u5⟩ := Asrt.stars_same S4 q5
        have U5 := U4.trans u5
        obtain ⟨Fz, Sz, sz⟩ := Asrt.stars_two S5
        go_wp2_with fail
        go_roundw
        case rel => exact ⟨k + 1, Fz, by omega, by go_num, by rw [HS.out, hb]; exact Sz, U5.re fun k hk => U5.fp k (sz k hk)⟩
        case measure => simp [intOf]; omega
      | some p =>
        rw [hp] at PC
        simp only [Option.isSome, Option.getD] at PC
        obtain ⟨p0, p1, _⟩ := portS_iff.1 hp
        cases hs : so x with
        | false =>
          have hb : bump so c x = c := by simp [bump, hp, hs]
          rw [hs] at CX
          clear hp hs
          go_wp2_with fail
          refine PC.out.mono ?_
          rintro e w5 ⟨rfl, q5⟩
          obtain ⟨S5, u5⟩ := Asrt.stars_same S4 q5
          have U5 := U4.trans u5
          obtain ⟨kc, kf, kl⟩ := box_cell (i := 2) S5 rfl
          have j0 : w5.cell? ⟨wr.heap.size, 0, none⟩ = some (.string x.name) := kc 0
          have j1 : w5.cell? ⟨wr.heap.size, 1, none⟩ = some (.string x.tenant) := kc 1
          have j2 : w5.cell? ⟨wr.heap.size, 2, none⟩ = some (.int .i64 x.conn) := kc 2
          have j3 : w5.cell? ⟨wr.heap.size, 3, none⟩ = some (.int .i64 x.epoch) := kc 3
          have j4 : w5.cell? ⟨wr.heap.size, 4, none⟩ = some (.int .i64 x.til) := kc 4
          have j5 : w5.cell? ⟨wr.heap.size, 5, none⟩ = some (.bool x.held) := kc 5
          have C5 := Keep.mk (CX.out w5 U5.quiet)
          clear kc kf
          go_wp2_with fail
          refine C5.out.mono ?_
          rintro e w6 ⟨rfl, q6⟩
          obtain ⟨S6, u6⟩ := Asrt.stars_same S5 q6
          have U6 := U5.trans u6
          obtain ⟨Fz, Sz, sz⟩ := Asrt.stars_two S6
          go_wp2_with fail
          go_roundw
          case rel => exact ⟨k + 1, Fz, by omega, by go_num, by rw [HS.out, hb]; exact Sz, U6.re fun k hk => U6.fp k (sz k hk)⟩
          case measure => simp [intOf]; omega
        | true =>
          obtain ⟨i, hi⟩ : ∃ i : Nat, i = (p - 20000).toNat := ⟨_, rfl⟩
          have hi64 : i < 64 := by omega
          have hb : bump so c x = c.set i (c.getD i 0 + 1) := by simp [bump, hp, hs, hi]
          obtain ⟨b0, b1⟩ := HBD.out i hi64
          have b2 : c.getD i 0 ≤ 1000000 := by omega
          rw [hs] at CX
          obtain rfl : p = 20000 + (i : Int) := by omega
          have ei : (20000 + (i : Int) - 20000) = (i : Int) := by omega
          clear hp hs hi
          go_wp2_with fail
          refine PC.out.mono ?_
          rintro e w5 ⟨rfl, q5⟩
          obtain ⟨S5, u5⟩ := Asrt.stars_same S4 q5
          have U5 := U4.trans u5
          obtain ⟨kc, kf, kl⟩ := box_cell (i := 2) S5 rfl
          have j0 : w5.cell? ⟨wr.heap.size, 0, none⟩ = some (.string x.name) := kc 0
          have j1 : w5.cell? ⟨wr.heap.size, 1, none⟩ = some (.string x.tenant) := kc 1
          have j2 : w5.cell? ⟨wr.heap.size, 2, none⟩ = some (.int .i64 x.conn) := kc 2
          have j3 : w5.cell? ⟨wr.heap.size, 3, none⟩ = some (.int .i64 x.epoch) := kc 3
          have j4 : w5.cell? ⟨wr.heap.size, 4, none⟩ = some (.int .i64 x.til) := kc 4
          have j5 : w5.cell? ⟨wr.heap.size, 5, none⟩ = some (.bool x.held) := kc 5
          have C5 := Keep.mk (CX.out w5 U5.quiet)
          clear kc kf
          go_wp2_with fail
          refine C5.out.mono ?_
          rintro e w6 ⟨rfl, q6⟩
          obtain ⟨S6, u6⟩ := Asrt.stars_same S5 q6
          have U6 := U5.trans u6
          obtain ⟨kc, kf, kl⟩ := box_cell (i := 0) S6 rfl
          have kx : w6.cell? ⟨w.heap.size + 1, i, none⟩ = some (.int .i64 (c.getD i 0)) := by rw [kc]; simp [rowI, List.getD, hlen, hi64]
          have kf0 := kf i
          obtain ⟨Fb, hbk, _, hgo⟩ := Asrt.stars_upd _ 0 _ rfl S6
          have hset := blkI_set hbk.1 i (c.getD i 0 + 1)
          obtain ⟨F7, S7, u7⟩ := hgo (w6.setCell ⟨w.heap.size + 1, i, none⟩ (.int .i64 (c.getD i 0 + 1))) Fb (.blk (w.heap.size + 1) (blkI (c.set i (c.getD i 0 + 1)))) ⟨hset, hbk.2⟩ ((Upd.refl Fb w6).setCell (.inl (by rw [hbk.2])) _)
          have U7 := U6.trans u7
          have hb := Keep.mk hb
          clear kc kf hgo hset hbk
          generalize c.getD i 0 = y at *
          go_wp2_with fail
          obtain ⟨Fz, Sz, sz⟩ := Asrt.stars_two S7
          go_roundw
          case rel => exact ⟨k + 1, Fz, by omega, by go_num, by rw [HS.out, hb.out]; exact Sz, U7.re fun k hk => U7.fp k (sz k hk)⟩
          case measure => simp [intOf]; omega
    · obtain rfl : k = L.length := by omega
      have hlen := markS_len so L
      rw [List.take_length] at S3
      obtain ⟨_, ⟨h1, _⟩, _⟩ := Asrt.stars_get S3 0 rfl
      obtain ⟨Fb, hbk, _, hgo⟩ := Asrt.stars_upd _ 1 _ rfl S3
      have hsz : (rowI (markS so L)).size = 64 := by simp [rowI, hlen]
      have hone : (rowI (markS so L)).all (·.oneCell') = true := by
        rw [Array.all_eq_true_iff_forall_mem]
        intro x hx
        obtain ⟨y, _, rfl⟩ := List.mem_map.1 (by simpa [rowI] using hx)
        rfl
      have hsz0 : (rowI zeros64).size = 64 := by simp [rowI, zeros64]
      obtain ⟨hb2, ub⟩ := setRow_blk hbk (rowI (markS so L))
      obtain ⟨F7, S7, u7⟩ := hgo _ _ _ hb2 ub
      have hi64 : (Tryd.prog.info? 48).map (·.size) = some 64 := by kernel_rfl
      have U7 := U3.trans u7
      have h1 : wr.heap[w.heap.size + 1]? = some (.cells (rowI (markS so L)) 48 (0, 0)) := h1
      have h0 : wr.heap[w.heap.size]? = some (.cells (rowI zeros64) 48 (0, 0)) := hbk.1
      generalize hR : rowI (markS so L) = R at *
      have HR := Keep.mk hR
      clear hR
      generalize rowI zeros64 = Z at *
      clear hz hlen hgo S7 S3 hbk
      go_wp2_with (first | (refine wpList_load_row rfl 48 _ rfl (w.heap.size + 1) rfl 48 R (0, 0) _ h1 Tryd.underlying48 rfl (by rw [hsz]; exact hi64) ?_) | (refine wpList_store_row rfl 48 _ _ rfl w.heap.size R rfl rfl 48 Z h0 (by rw [hsz]; exact hi64) (by rw [hsz, hsz0]) hone ?_))
      have hb3 : (wr.setRow w.heap.size R).heap[w.heap.size]? = some (.cells R 48 (0, 0)) := hb2.1
      refine bodyPost_ret (v := .agg R) (results_cell_row rfl _ _ w.heap.size 48 R (0, 0) _ rfl hb3 Tryd.underlying48 rfl (by rw [hsz]; exact hi64)) rfl ?_
      exact ⟨by rw [HR.out], U7.quiet⟩
end Go.Proofs.YtpjfakmalhenjaaDoor
