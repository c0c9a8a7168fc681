/- Numbers as decimals: Decimal, Parse. -/
import Derived.Test.YtpjfakmalhenjaaDoorRows
import Derived.Test.YtpjfakmalhenjaaDoorShelf
import Derived.Test.YtpjfakmalhenjaaDoorSubK
import Derived.Lib.ConvBytes
import Derived.Handy
namespace Go.Sub
/-- '[]byte(s)' -/
theorem run_bytes {P : Program} {src dst e : TypeId} (hs : P.underlying src = some .string) (hd : P.underlying dst = some (.slice e)) (he : P.underlying e = some (.int .u8)) (w : World) (s : ByteArray) :
    ∃ cap w', (convert src dst (.string s)).run P w = .ok (.slice (some ⟨w.heap.size, 0, none⟩) s.size cap) w' ∧ Quiet w w' ∧ w.heap.size < w'.heap.size ∧ ∀ j (h : j < s.size), w'.cell? ⟨w.heap.size, j, none⟩ = some (bv s[j]) := by
  refine ⟨_, _, Go.Lib.run_convert_string_bytes w src dst e s hs hd he, ⟨rfl, rfl, rfl, ?_, fun k hk _ => ?_, fun _ h => h.elim⟩, ?_, fun j hj => ?_⟩
  · rw [Go.Lib.bytesWorld_size]; omega
  · exact Go.Lib.bytesWorld_at_old w e s k hk
  · rw [Go.Lib.bytesWorld_size]; omega
  · rw [Go.Lib.bytesWorld_cell w e s j hj]
    simp only [bv, List.getD]
    have h2 : j < s.data.toList.length := by simpa using hj
    rw [List.getElem?_eq_getElem h2]
    rfl
theorem quiet_grow (w : World) (k : Nat) (os : Array Obj) : Quiet w (Go.Sort.grow (w.drewN k) os) :=
  ⟨rfl, rfl, rfl, by simp [Go.Sort.grow], fun j hj _ => by simp [Go.Sort.grow, World.obj, Array.getElem?_append_left hj], fun _ h => h.elim⟩
theorem tab_upd {P : Program} {name : String} {k : IntKind} {zs : List Int} {w w' : World} {F' : Fp} (h : Go.Lib.TabIs P w name k zs) (hu : Upd none' F' w w') : Go.Lib.TabIs P w' name k zs := by
  unfold Go.Lib.TabIs World.var? at *
  cases hg : P.globalNamed name with
  | none => rw [hg] at h; cases h
  | some g =>
    rw [hg] at h
    simp only [Option.bind_some] at h ⊢
    have hlt : g < w.heap.size := by
      rcases Nat.lt_or_ge g w.heap.size with h1 | h1
      · exact h1
      · rw [Array.getElem?_eq_none h1] at h; cases h
    have : w'.heap[g]? = w.heap[g]? := hu.same g hlt fun h => h
    rw [this]
    exact h
end Go.Sub
namespace Go.Proofs.YtpjfakmalhenjaaDoor
open Go.RowKit Go.Sub Go.Shelf Go.Sort Go.Lib
/-- the table of powers lies there -/
def Tab10 (w : World) : Prop := Lib.TabIs Tryd.prog w "internal/strconv.uint64pow10" .u64 Lib.pow10Tab
/-- a number's decimals, as bytes -/
def decB (n : Int) : List UInt8 := if n < 0 ∨ 1099511627776 < n then [] else itoa n
theorem decB_in {n : Int} (h0 : 0 ≤ n) (h1 : n ≤ 1099511627776) : decB n = itoa n := if_neg (by omega)
set_option maxHeartbeats 400000 in
theorem decimal_c {w : World} (ht : Tab10 w) (n : Int) : Calls Tryd.prog 30 #[.int .i64 n] w (Ret (.string (strB (decB n))) fun w' => Quiet w w') := by
  by_cases h0 : n < 0
  · have e : strB (decB n) = ⟨#[]⟩ := by simp [decB, h0, strB]
    rw [e]
    go_enter Tryd.func30, Tryd.ntmps30
    go_wp2_with fail
    go_ret
    exact ⟨rfl, Upd.refl _ _⟩
  · by_cases h1 : 1099511627776 < n
    · have e : strB (decB n) = ⟨#[]⟩ := by simp [decB, h1, strB]
      rw [e]
      go_enter Tryd.func30, Tryd.ntmps30
      go_wp2_with fail
      go_ret
      exact ⟨rfl, Upd.refl _ _⟩
    · have e : strB (decB n) = ⟨(itoa n).toArray⟩ := by rw [decB_in (by omega) (by omega)]; rfl
      rw [e]
      have C := Keep.mk (Any.strconv_FormatInt_10 Tryd.laysM173 n (by omega) (by omega) w ht)
      go_enter Tryd.func30, Tryd.ntmps30
      go_wp2_with fail
      refine C.out.mono ?_
      rintro e w' ⟨rfl, k, os, rfl⟩
      go_wp2_with fail
      go_ret
      exact ⟨rfl, quiet_grow w k os⟩
/-- the value of digits, as far as Parse goes -/
def pstep (n : Int) (c : UInt8) : Option Int := if c < 48 ∨ 57 < c ∨ 1099511627776 < n then none else some (10 * n + ((c.toNat : Int) - 48))
def pval (l : List UInt8) : Option Int := l.foldlM pstep 0
def parseS (s : List UInt8) : Option Int := match pval s with
  | none => none
  | some n => if decB n = s then some n else none
theorem pval_snoc (l : List UInt8) (c : UInt8) : pval (l ++ [c]) = (pval l).bind fun n => pstep n c := by
  unfold pval
  rw [List.foldlM_append]
  cases List.foldlM pstep 0 l <;> simp
theorem pval_none {l : List UInt8} (h : pval l = none) (r : List UInt8) : pval (l ++ r) = none := by
  unfold pval at *
  rw [List.foldlM_append, h]; rfl
theorem pval_dec : ∀ (u : Nat), (u : Int) ≤ 10995116277769 → pval (decDigits u) = some (u : Int) := by
  intro u
  induction u using Nat.strongRecOn with
  | ind u ih =>
    intro hu
    rw [decDigits]
    by_cases h : u < 10
    · rw [dif_pos h]
      have h1 : (UInt8.ofNat (48 + u)).toNat = 48 + u := by rw [UInt8.toNat_ofNat']; omega
      have h2 : ¬ (UInt8.ofNat (48 + u) < 48 ∨ 57 < UInt8.ofNat (48 + u) ∨ (1099511627776 : Int) < 0) := by
        rw [UInt8.lt_iff_toNat_lt, UInt8.lt_iff_toNat_lt, h1]
        simp; omega
      simp only [pval, List.foldlM_cons, List.foldlM_nil, pstep, if_neg h2, h1, Option.bind_eq_bind, Option.bind_some, Option.pure_def, Option.some.injEq]
      omega
    · rw [dif_neg h, pval_snoc, ih (u / 10) (by omega) (by omega)]
      have h1 : (UInt8.ofNat (48 + u % 10)).toNat = 48 + u % 10 := by rw [UInt8.toNat_ofNat']; omega
      have h2 : ¬ (UInt8.ofNat (48 + u % 10) < 48 ∨ 57 < UInt8.ofNat (48 + u % 10) ∨ (1099511627776 : Int) < ((u / 10 : Nat) : Int)) := by
        rw [UInt8.lt_iff_toNat_lt, UInt8.lt_iff_toNat_lt, h1]
        simp; omega
      simp only [Option.bind_some, pstep, if_neg h2, h1, Option.some.injEq]
      omega
theorem parseS_iff {s : List UInt8} {n : Int} : parseS s = some n ↔ 0 ≤ n ∧ n ≤ 1099511627776 ∧ itoa n = s := by
  constructor
  · intro h
    unfold parseS at h
    cases hp : pval s with
    | none => rw [hp] at h; cases h
    | some m =>
      rw [hp] at h
      simp only at h
      by_cases e : decB m = s
      · rw [if_pos e, Option.some.injEq] at h
        subst h
        by_cases hr : m < 0 ∨ 1099511627776 < m
        · rw [decB, if_pos hr] at e
          subst e
          simp [pval] at hp
          omega
        · rw [decB, if_neg hr] at e
          exact ⟨by omega, by omega, e⟩
      · rw [if_neg e] at h; cases h
  · rintro ⟨h0, h1, rfl⟩
    obtain ⟨u, rfl⟩ := Int.eq_ofNat_of_zero_le h0
    have e : itoa (u : Int) = decDigits u := by unfold itoa; rw [if_neg (by omega)]; simp
    unfold parseS
    have hp := pval_dec u (by omega)
    have hd : decB (u : Int) = decDigits u := by rw [decB_in h0 h1, e]
    rw [e, hp]
    simp only [hd, if_true]
/-- how 'Parse' ends -/
def ParseEnds (s : List UInt8) (w : World) : Ending → World → Prop := Ret (.tuple #[.int .i64 ((parseS s).getD 0), .bool (parseS s).isSome]) fun w' => Quiet w w'
theorem tab_quiet {w w' : World} (h : Tab10 w) (hq : Quiet w w') : Tab10 w' := tab_upd h hq
set_option maxHeartbeats 1000000 in
set_option maxRecDepth 100000 in
theorem parse_c {w : World} (ht : Tab10 w) (s : ByteArray) (hs : s.size ≤ maxLen) : Calls Tryd.prog 28 #[.string s] w (ParseEnds s.data.toList w) := by
  unfold maxLen at hs
  obtain ⟨cap, w1, hc, hq, hlt, hb⟩ := run_bytes Tryd.underlying9 Tryd.underlying39 Tryd.underlying5 w s
  have ht1 := tab_quiet ht hq
  have HB := Keep.mk hb
  clear hb
  go_enter Tryd.func28, Tryd.ntmps28
  go_wp2_with fail
  go_loop [4, 10] (fun n i => ∃ (k : Nat) (m : Int), k ≤ s.size ∧ i = .int .i64 k ∧ n = .int .i64 m ∧ pval (s.data.toList.take k) = some m ∧ 0 ≤ m ∧ m ≤ 10995116277769) (fun _ i => s.size - (RowKit.intOf i).toNat)
  case atStart => exact ⟨0, 0, by omega, rfl, rfl, rfl, by omega, by omega⟩
  case round =>
    obtain ⟨k, m, hk, rfl, rfl, hp, hm0, hm1⟩ := hrel
    have HP := Keep.mk hp
    clear hp
    by_cases hlt2 : k < s.size
    · have hcell := HB.out k hlt2
      have hl : k < s.data.toList.length := by simpa using hlt2
      have hsp : s.data.toList.take (k + 1) = s.data.toList.take k ++ [s[k]] := by rw [List.take_succ_eq_append_getElem hl]; rfl
      have hal : s.data.toList = s.data.toList.take (k + 1) ++ s.data.toList.drop (k + 1) := (List.take_append_drop ..).symm
      have HS := Keep.mk hsp
      have HA := Keep.mk hal
      generalize s[k] = c at *
      have hc8 : c.toNat < 256 := c.toNat_lt
      clear hsp hal hl
      by_cases hbad : c < 48 ∨ 57 < c ∨ 1099511627776 < m
      · have hn : parseS s.data.toList = none := by
          have : pval (s.data.toList.take (k + 1)) = none := by rw [HS.out, pval_snoc, HP.out]; simp [pstep, hbad]
          unfold parseS
          rw [HA.out, pval_none this]
        have HN := Keep.mk hn
        rw [UInt8.lt_iff_toNat_lt, UInt8.lt_iff_toNat_lt] at hbad
        have hbad : c.toNat < 48 ∨ 57 < c.toNat ∨ 1099511627776 < m := hbad
        clear hn
        by_cases b1 : c.toNat < 48
        · go_wp2_with fail
          go_ret2
          exact ⟨by rw [HN.out]; rfl, hq⟩
        · by_cases b2 : 57 < c.toNat
          · go_wp2_with fail
            go_ret2
            exact ⟨by rw [HN.out]; rfl, hq⟩
          · have b3 : 1099511627776 < m := by omega
            go_wp2_with fail
            go_ret2
            exact ⟨by rw [HN.out]; rfl, hq⟩
      · have hp1 : pval (s.data.toList.take (k + 1)) = some (10 * m + ((c.toNat : Int) - 48)) := by rw [HS.out, pval_snoc, HP.out]; simp [pstep, hbad]
        have HP1 := Keep.mk hp1
        have hbad : ¬ (c.toNat < 48 ∨ 57 < c.toNat ∨ 1099511627776 < m) := by rwa [UInt8.lt_iff_toNat_lt, UInt8.lt_iff_toNat_lt] at hbad
        have b1 : ¬ c.toNat < 48 := by omega
        have b2 : ¬ 57 < c.toNat := by omega
        have b3 : ¬ 1099511627776 < m := by omega
        clear hp1 hbad
        go_wp2_with fail
        go_round
        case rel => exact ⟨k + 1, 10 * m + ((c.toNat : Int) - 48), by omega, by go_num, by go_num, HP1.out, by omega, by omega⟩
        case measure => simp [RowKit.intOf]; omega
    · have hps : pval s.data.toList = some m := by
        have := HP.out
        rwa [List.take_of_length_le (by simp; omega)] at this
      have DC := Keep.mk (decimal_c ht1 m)
      by_cases he : decB m = s.data.toList
      · have e1 : ((strB (decB m)).toList == s.toList) = true := by rw [he, strB_of]; simp
        have HN := Keep.mk (show parseS s.data.toList = some m from by rw [parseS, hps]; simp [he])
        clear hps he
        generalize strB (decB m) = d at *
        go_wp2_with fail
        refine DC.out.mono ?_
        rintro e w2 ⟨rfl, q2⟩
        go_wp2_with fail
        go_ret2
        exact ⟨by rw [HN.out]; rfl, hq.trans q2⟩
      · have e1 : ((strB (decB m)).toList == s.toList) = false := by rw [ByteArray.toList_eq, ByteArray.toList_eq, strB_toList]; simpa using he
        have HN := Keep.mk (show parseS s.data.toList = none from by rw [parseS, hps]; simp [he])
        clear hps he
        generalize strB (decB m) = d at *
        go_wp2_with fail
        refine DC.out.mono ?_
        rintro e w2 ⟨rfl, q2⟩
        go_wp2_with fail
        go_ret2
        exact ⟨by rw [HN.out]; rfl, hq.trans q2⟩
end Go.Proofs.YtpjfakmalhenjaaDoor
