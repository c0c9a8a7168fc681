/- Ports: Name, Port. -/
import Derived.Test.YtpjfakmalhenjaaDoorNumA
import Derived.Laws.Concat
import Derived.Lib.ItoaLen
namespace Go.Proofs.YtpjfakmalhenjaaDoor
open Go.RowKit Go.Sub Go.Shelf Go.Sort Go.Lib
abbrev tcp : List UInt8 := [116, 99, 112, 45]
/-- a port's name -/
def nameS (p : Int) : List UInt8 := if p < 20000 ∨ 20063 < p then [] else tcp ++ itoa p
/-- the port of a name -/
def portS (s : List UInt8) : Option Int := if hasPrefix s tcp = true then (match parseS (trimPrefix s tcp) with
  | some n => if n < 20000 ∨ 20063 < n then none else some n
  | none => none) else none
theorem portS_iff {s : List UInt8} {p : Int} : portS s = some p ↔ 20000 ≤ p ∧ p ≤ 20063 ∧ s = nameS p := by
  constructor
  · intro h
    unfold portS at h
    split at h
    · rename_i hp
      obtain ⟨t, rfl⟩ := List.isPrefixOf_iff_prefix.1 hp
      rw [show trimPrefix (tcp ++ t) tcp = t from by unfold trimPrefix; rw [if_pos hp]; rfl] at h
      cases hq : parseS t with
      | none => rw [hq] at h; cases h
      | some n =>
        rw [hq] at h
        simp only at h
        split at h
        · cases h
        · rename_i hr
          simp only [Option.some.injEq] at h
          subst h
          obtain ⟨_, _, rfl⟩ := parseS_iff.1 hq
          exact ⟨by omega, by omega, by rw [nameS, if_neg hr]⟩
    · cases h
  · rintro ⟨h0, h1, rfl⟩
    have hn : nameS p = tcp ++ itoa p := by rw [nameS, if_neg (by omega)]
    have hp : hasPrefix (tcp ++ itoa p) tcp = true := List.isPrefixOf_iff_prefix.2 (List.prefix_append ..)
    rw [hn]
    unfold portS
    rw [if_pos hp, show trimPrefix (tcp ++ itoa p) tcp = itoa p from by unfold trimPrefix; rw [if_pos hp]; rfl, parseS_iff.2 ⟨by omega, by omega, rfl⟩]
    simp only
    rw [if_neg (by omega)]
/-- how 'Port' ends -/
def PortEnds (s : List UInt8) (w : World) : Ending → World → Prop := Ret (.tuple #[.int .i64 ((portS s).getD 0), .bool (portS s).isSome]) fun w' => Quiet w w'
set_option maxHeartbeats 400000 in
theorem name_c {w : World} (ht : Tab10 w) (p : Int) : Calls Tryd.prog 17 #[.int .i64 p] w (Ret (.string (strB (nameS p))) fun w' => Quiet w w') := by
  by_cases h0 : p < 20000
  · have e : strB (nameS p) = ⟨#[]⟩ := by simp [nameS, h0, strB]
    rw [e]
    go_enter Tryd.func17, Tryd.ntmps17
    go_wp2_with fail
    go_ret
    exact ⟨rfl, Upd.refl _ _⟩
  · by_cases h1 : 20063 < p
    · have e : strB (nameS p) = ⟨#[]⟩ := by simp [nameS, h1, strB]
      rw [e]
      go_enter Tryd.func17, Tryd.ntmps17
      go_wp2_with fail
      go_ret
      exact ⟨rfl, Upd.refl _ _⟩
    · have hl : (itoa p).length ≤ 21 := itoa_length_le p (by omega) (by omega)
      have C := Keep.mk (decimal_c ht p)
      have ea : ∀ w : World, (Op.stringOp .add (⟨#[116, 99, 112, 45]⟩ : ByteArray) (strB (decB p))).run Tryd.prog w = .ok (.string (strB (nameS p))) w := by
        intro w
        rw [run_string_add_sum (P := Tryd.prog) w _ _ (by rw [strB_size, decB_in (by omega) (by omega)]; show 4 + _ ≤ _; omega)]
        congr 2
        apply ByteArray.ext
        apply Array.toList_inj.1
        rw [ByteArray.data_append, Array.toList_append, strB_toList, strB_toList, decB_in (by omega) (by omega), nameS, if_neg (by omega)]
      generalize strB (decB p) = d at *
      generalize strB (nameS p) = nm at *
      clear hl
      go_enter Tryd.func17, Tryd.ntmps17
      go_wp2_with fail
      refine C.out.mono ?_
      rintro e w' ⟨rfl, q⟩
      go_wp2_with fail
      go_ret
      exact ⟨rfl, q⟩
set_option maxHeartbeats 1000000 in
set_option maxRecDepth 100000 in
theorem port_c {w : World} (ht : Tab10 w) (s : ByteArray) (hs : s.size ≤ maxLen) : Calls Tryd.prog 12 #[.string s] w (PortEnds s.data.toList w) := by
  have htl : (trimPrefix s.data.toList tcp).length ≤ s.size := by
    unfold trimPrefix; split
    · simp
    · simp
  have CP := Keep.mk (Any.strings_CutPrefix Tryd.lays103 s ⟨#[116, 99, 112, 45]⟩ w)
  have PC := Keep.mk (parse_c ht ⟨(trimPrefix s.data.toList tcp).toArray⟩ (by simp only [ByteArray.size, List.size_toArray]; omega))
  rw [show (⟨(trimPrefix s.data.toList tcp).toArray⟩ : ByteArray).data.toList = trimPrefix s.data.toList tcp from by simp] at PC
  unfold ParseEnds at PC
  have hP : portS s.data.toList = if hasPrefix s.data.toList tcp = true then (match parseS (trimPrefix s.data.toList tcp) with | some n => if n < 20000 ∨ 20063 < n then none else some n | none => none) else none := rfl
  have CP : Keep (Calls Tryd.prog 27 #[.string s, .string ⟨#[116, 99, 112, 45]⟩] w fun e w' => e = .returned (.tuple #[.string ⟨(trimPrefix s.data.toList tcp).toArray⟩, .bool (hasPrefix s.data.toList tcp)]) ∧ w' = w) := CP
  generalize (⟨(trimPrefix s.data.toList tcp).toArray⟩ : ByteArray) = t at *
  generalize parseS (trimPrefix s.data.toList tcp) = q at *
  generalize hasPrefix s.data.toList tcp = hp at *
  clear htl
  have fin : ∀ r, portS s.data.toList = r → ∀ e w', Ret (.tuple #[.int .i64 (r.getD 0), .bool r.isSome]) (fun w' => Quiet w w') e w' → PortEnds s.data.toList w e w' := by
    rintro r rfl e w' h; exact h
  cases hp with
  | false =>
    rw [if_neg (by simp)] at hP
    refine Calls.mono ?_ (fin _ hP)
    clear fin hP
    cases q with
    | none =>
      simp only [Option.isSome, Option.getD] at PC ⊢
      go_enter Tryd.func12, Tryd.ntmps12
      go_wp2_with fail
      refine CP.out.mono ?_
      rintro e w1 ⟨rfl, rfl⟩
      go_wp2_with fail
      refine PC.out.mono ?_
      rintro e w2 ⟨rfl, q2⟩
      go_wp2_with fail
      go_ret2
      exact ⟨rfl, q2⟩
    | some n =>
      simp only [Option.isSome, Option.getD] at PC ⊢
      go_enter Tryd.func12, Tryd.ntmps12
      go_wp2_with fail
      refine CP.out.mono ?_
      rintro e w1 ⟨rfl, rfl⟩
      go_wp2_with fail
      refine PC.out.mono ?_
      rintro e w2 ⟨rfl, q2⟩
      go_wp2_with fail
      go_ret2
      exact ⟨rfl, q2⟩
  | true =>
    rw [if_pos rfl] at hP
    cases q with
    | none =>
      simp only at hP
      refine Calls.mono ?_ (fin _ hP)
      clear fin hP
      simp only [Option.isSome, Option.getD] at PC ⊢
      go_enter Tryd.func12, Tryd.ntmps12
      go_wp2_with fail
      refine CP.out.mono ?_
      rintro e w1 ⟨rfl, rfl⟩
      go_wp2_with fail
      refine PC.out.mono ?_
      rintro e w2 ⟨rfl, q2⟩
      go_wp2_with fail
      go_ret2
      exact ⟨rfl, q2⟩
    | some n =>
      simp only at hP
      by_cases h0 : n < 20000
      · rw [if_pos (.inl h0)] at hP
        refine Calls.mono ?_ (fin _ hP)
        clear fin hP
        simp only [Option.isSome, Option.getD] at PC ⊢
        go_enter Tryd.func12, Tryd.ntmps12
        go_wp2_with fail
        refine CP.out.mono ?_
        rintro e w1 ⟨rfl, rfl⟩
        go_wp2_with fail
        refine PC.out.mono ?_
        rintro e w2 ⟨rfl, q2⟩
        go_wp2_with fail
        go_ret2
        exact ⟨rfl, q2⟩
      · by_cases h1 : 20063 < n
        · rw [if_pos (.inr h1)] at hP
          refine Calls.mono ?_ (fin _ hP)
          clear fin hP
          simp only [Option.isSome, Option.getD] at PC ⊢
          go_enter Tryd.func12, Tryd.ntmps12
          go_wp2_with fail
          refine CP.out.mono ?_
          rintro e w1 ⟨rfl, rfl⟩
          go_wp2_with fail
          refine PC.out.mono ?_
          rintro e w2 ⟨rfl, q2⟩
          go_wp2_with fail
          go_ret2
          exact ⟨rfl, q2⟩
        · rw [if_neg (by omega)] at hP
          refine Calls.mono ?_ (fin _ hP)
          clear fin hP
          simp only [Option.isSome, Option.getD] at PC ⊢
          go_enter Tryd.func12, Tryd.ntmps12
          go_wp2_with fail
          refine CP.out.mono ?_
          rintro e w1 ⟨rfl, rfl⟩
          go_wp2_with fail
          refine PC.out.mono ?_
          rintro e w2 ⟨rfl, q2⟩
          go_wp2_with fail
          go_ret2
          exact ⟨rfl, q2⟩
end Go.Proofs.YtpjfakmalhenjaaDoor
