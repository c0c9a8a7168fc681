/- The meter: its map's keys, sorted (slices.Sorted(maps.Keys(m))). -/
import Derived.Test.YtpjfakmalhenjaaDoorLpD
import Derived.Test.YtpjfakmalhenjaaDoorShelf
namespace Go.Sub
open Go.RowKit Go.Shelf

open Go.WideElems (rd rg)
open Go.WideShapes
abbrev anyR : Value → Option (DataW Unit × List MemPlace) := fun _ => some (.nil, [])
theorem rg_string {P : Program} {k : TypeId} (hk : P.underlying k = some .string) {x : MapEntry} {s : ByteArray} (hx : x.key = .string s) (hs : s.size ≤ maxLen) :
    rd P k anyR x = some (.string s.data.toList, .nil) := by
  unfold rd
  rw [hx]
  simp [keyOf, hk, mapKey, hs]
theorem owns_of {P : Program} {k : TypeId} (hk : P.underlying k = some .string) {V : Type} {ev : V → Value} {o : Obj} {m : List (ByteArray × V)} (ho : MapObj (fun x : ByteArray => Value.string x) ev o m) (hnd : (m.map (·.1)).Nodup) (hs : ∀ p ∈ m, p.1.size ≤ maxLen) (hl : m.length ≤ maxLen)
    {w : World} {b : Nat} (hb : w.obj b = some o) : ∃ D : DataW Unit, w.ownsMap P k anyR b m.length D ∧ Maps.size D = m.length ∧ (strKeys D).Perm (m.map fun p => p.1.data.toList) := by
  obtain ⟨es, clk, rfl, hE, hB⟩ := ho
  have hlen : es.size = m.length := by simpa using hE.inv
  have hkeys : es.toList.map (·.key) = m.map fun p => Value.string p.1 := by
    have := congrArg (List.map Prod.fst) hE
    simpa [Function.comp_def] using this
  have hent : ∀ x ∈ es.toList, ∃ s : ByteArray, x.key = .string s ∧ s.size ≤ maxLen := by
    intro x hx
    have : x.key ∈ es.toList.map (·.key) := List.mem_map_of_mem hx
    rw [hkeys, List.mem_map] at this
    obtain ⟨p, hp, e⟩ := this
    exact ⟨p.1, e.symm, hs p hp⟩
  refine ⟨_, ⟨es, clk, hb, ⟨by omega, ⟨hB.2, ?_, ?_⟩, ?_⟩, Nat.le_of_eq hlen, rfl⟩, ?_, ?_⟩
  · exact hB.1.imp fun h => Nat.ne_of_lt h
  · rw [hkeys]
    refine (List.pairwise_map.1 hnd).map (R := fun a b => a.1 ≠ b.1) _ (fun a b h e => h (by injection e))
  · intro x hx
    obtain ⟨s, h1, h2⟩ := hent x hx
    exact ⟨_, rg_string hk h1 h2⟩
  · simp [Maps.size, length_sorted, hlen]
  · show ((List.foldr DataW.insert [] (es.toList.map (rg P k anyR))).map fun p => strOf p.1).Perm _
    refine ((sorted_perm _).map _).trans ?_
    rw [List.map_map]
    have e1 : es.toList.map ((fun p : Lit × DataW Unit => strOf p.1) ∘ rg P k anyR) = (es.toList.map (·.key)).map fun v => match v with | .string s => s.data.toList | _ => [] := by
      rw [List.map_map]
      refine List.map_congr_left fun x hx => ?_
      obtain ⟨s, h1, h2⟩ := hent x hx
      simp [rg, rg_string hk h1 h2, h1, strOf]
    rw [e1, hkeys, List.map_map]
    exact List.Perm.refl _
end Go.Sub

namespace Go.Proofs.YtpjfakmalhenjaaDoor
open Go.RowKit Go.Sub Go.Shelf Go.Maps Go.Sort
abbrev encN (x : ByteArray) : List Value := [.string x]
theorem upd_of_below {w w' : World} (h : Below w.heap.size w w') {F' : Fp} (hF : ∀ k, F' k → w.heap.size ≤ k) : Upd none' F' w w' :=
  ⟨h.os, h.tape, h.output, h.size, fun k hk _ => h.block k hk, fun k hk => .inr (hF k hk)⟩
theorem keys_c (mb : Nat) (w : World) : Calls Tryd.prog 53 #[.map (some mb)] w fun e w' => e = .returned (.func (.func 62) #[] #[.pointer (some ⟨w.heap.size, 0, none⟩)]) ∧ w' = w.alloc (.cells #[.map (some mb)] 59) :=
  callsIn_wide.1 (AnyZ.keys_in Tryd.keys53 Fence.wide 5 trivial rfl (some mb) w)
theorem sorts (m : Nat) : AnyZ.SortsIn Tryd.prog Tryd.sorted52_ren Fence.wide m :=
  ⟨fun blk off cap ss W hH hblk hsz => callsIn_wide.2 (AnyM.slices_Sort_string Tryd.sort61 blk off cap ss W hH hblk hsz),
   fun p cap W => callsIn_wide.2 (AnyM.slices_Sort_string_none Tryd.sort61 p cap W)⟩
/-- the keys of a map, rising -/
def keysOf (l : List ByteArray) : List ByteArray := ((l.map fun x => x.data.toList).mergeSort (fun x y => decide (x ≤ y))).map fun x => ⟨x.toArray⟩
set_option maxHeartbeats 1000000 in
theorem sorted_c {V : Type} {ev : V → Value} {o : Obj} {m : List (ByteArray × V)} (ho : MapObj encS ev o m) (hnd : (m.map (·.1)).Nodup) (hs : ∀ p ∈ m, p.1.size ≤ maxLen) (hl : m.length ≤ 1000000) {w : World} {b : Nat} (hb : w.obj b = some o) :
    Calls Tryd.prog 52 #[.func (.func 62) #[] #[.pointer (some ⟨w.heap.size, 0, none⟩)]] (w.alloc (.cells #[.map (some b)] 59)) fun e w' => ∃ v, Ret v (fun w' => ∃ F', (row 9 1 encN v (keysOf (m.map (·.1)))).on w' F' ∧ Upd none' F' w w') e w' := by
  have hm1 : m.length ≤ maxLen := by unfold maxLen; omega
  obtain ⟨D0, hown, hsz, hp⟩ := owns_of Tryd.underlying9 ho hnd hs hm1 hb
  have hbl := hown.lt
  have hseq : SeqGives Fence.wide 2 Tryd.prog 62 #[.pointer (some ⟨w.heap.size, 0, none⟩)] encStr (fun ss => ss.Perm (strKeys D0)) (Maps.size D0) (w.alloc (.cells #[.map (some b)] 59)) :=
    AnyZ.keys_gives (ρ := Tryd.keys53_ren) { Tryd.keys53 with } Fence.wide _ trivial rfl (by omega) w.heap.size b m.length D0 _ (by simp) (by simp) (by
      obtain ⟨es, clock, hb, Ft, hs, hD⟩ := hown
      exact ⟨es, clock, (Below.heap_alloc _ _ b hbl).trans hb, Ft, hs, hD⟩)
  refine (callsIn_wide.1 (AnyZ.sorted_in Tryd.sorted52 Fence.wide 5 trivial trivial trivial trivial rfl (by omega) (sorts _) (enters_of Tryd.func61 (by kernel_rfl) rfl) 62 #[.pointer (some ⟨w.heap.size, 0, none⟩)] trivial (enters_of Tryd.func62 (by kernel_rfl) rfl) _ _ (by omega) (by omega) _ hseq)).mono ?_
  rintro e w' ⟨v, ss, rfl, hS, hrow, _, hbw⟩
  have hsort : ss.mergeSort (fun x y => decide (x ≤ y)) = (m.map (·.1) |>.map fun x => x.data.toList).mergeSort (fun x y => decide (x ≤ y)) := by
    rw [List.map_map]
    exact mergeSort_of_perm (hS.trans hp)
  have hlen : (keysOf (m.map (·.1))).length = ss.length := by
    have := hS.length_eq
    have := hp.length_eq
    simp [keysOf, List.length_mergeSort] at *; omega
  have hfl : (keysOf (m.map (·.1))).flatMap encN = (ss.mergeSort (fun x y => decide (x ≤ y))).map encStr := by
    rw [hsort, keysOf]
    generalize List.mergeSort _ _ = X
    induction X with
    | nil => rfl
    | cons x X ih => rw [List.map_cons, List.flatMap_cons, ih]; rfl
  refine ⟨v, rfl, fun k => v.ownBlock = some k, ⟨?_, rfl⟩, ?_⟩
  · rw [hlen, hfl]
    exact ownsRow_base_a hrow (by simp)
  · refine ((Upd.refl none' w).alloc _).trans (upd_of_below hbw fun k hk => ?_)
    rcases hrow.2 with ⟨rfl, _⟩ | ⟨g, cap, cur, rfl, hg, _⟩
    · cases hk
    · cases hk; exact hg
end Go.Proofs.YtpjfakmalhenjaaDoor
