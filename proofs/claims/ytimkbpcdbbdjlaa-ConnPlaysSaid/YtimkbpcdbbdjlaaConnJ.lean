/- The table of connections: All (slices.Sorted(maps.Keys(m)) at int). -/
import Derived.Test.YtimkbpcdbbdjlaaConnI
import Derived.Test.YtimkbpcdbbdjlaaShelf
import Derived.Test.YtimkbpcdbbdjlaaSame8
namespace Go.Sub
open Go.RowKit Go.Shelf Go.Proofs Go.Maps
open Go.WideElems (rd rg)
open Go.WideShapes
abbrev anyR : Value → Option (DataW Unit × List MemPlace) := fun _ => some (.nil, [])
theorem rg_int {P : Program} {k : TypeId} (hk : P.underlying k = some (.int .i64)) {x : MapEntry} {s : Int} (hx : x.key = .int .i64 s) (hs : (Lit.int .i64 s).wf = true) :
    rd P k anyR x = some (.int .i64 s, .nil) := by
  unfold rd
  rw [hx]
  simp [keyOf, hk, mapKey, hs]
theorem owns_of_int {P : Program} {k : TypeId} (hk : P.underlying k = some (.int .i64)) {V : Type} {ev : V → Value} {o : Obj} {m : List (Int × V)} (ho : MapObj (fun x : Int => Value.int .i64 x) ev o m) (hnd : (m.map (·.1)).Nodup) (hs : ∀ p ∈ m, (Lit.int .i64 p.1).wf = true) (hl : m.length ≤ maxLen)
    {w : World} {b : Nat} (hb : w.obj b = some o) : ∃ D : DataW Unit, w.ownsMap P k anyR b m.length D ∧ Maps.size D = m.length ∧ (intKeys D).Perm (m.map (·.1)) := by
  obtain ⟨es, clk, rfl, hE, hB⟩ := ho
  have hlen : es.size = m.length := by simpa using hE.inv
  have hkeys : es.toList.map (·.key) = m.map fun p => Value.int .i64 p.1 := by
    have := congrArg (List.map Prod.fst) hE
    simpa [Function.comp_def] using this
  have hent : ∀ x ∈ es.toList, ∃ s : Int, x.key = .int .i64 s ∧ (Lit.int .i64 s).wf = true := by
    intro x hx
    have : x.key ∈ es.toList.map (·.key) := List.mem_map_of_mem hx
    rw [hkeys, List.mem_map] at this
    obtain ⟨p, hp, e⟩ := this
    exact ⟨p.1, e.symm, hs p hp⟩
  refine ⟨_, ⟨es, clk, hb, ⟨by omega, ⟨hB.2, ?_, ?_⟩, ?_⟩, Nat.le_of_eq hlen, rfl⟩, ?_, ?_⟩
  · exact hB.1.imp fun h => Nat.ne_of_lt h
  · rw [hkeys]
    refine (List.pairwise_map.1 hnd).map (R := fun a b => a.1 ≠ b.1) _ (fun a b h e => h (by injection e))
  · intro x hx
    obtain ⟨s, h1, h2⟩ := hent x hx
    exact ⟨_, rg_int hk h1 h2⟩
  · simp [Maps.size, length_sorted, hlen]
  · show ((List.foldr DataW.insert [] (es.toList.map (rg P k anyR))).map fun p => intOf p.1).Perm _
    refine ((sorted_perm _).map _).trans ?_
    rw [List.map_map]
    have e1 : es.toList.map ((fun p : Lit × DataW Unit => intOf p.1) ∘ rg P k anyR) = (es.toList.map (·.key)).map fun v => match v with | .int _ s => s | _ => 0 := by
      rw [List.map_map]
      refine List.map_congr_left fun x hx => ?_
      obtain ⟨s, h1, h2⟩ := hent x hx
      simp [rg, rg_int hk h1 h2, h1, intOf]
    rw [e1, hkeys, List.map_map]
    exact List.Perm.refl _
end Go.Sub
namespace Go.Proofs.Ytimkbpcdbbdjlaa
open Go.RowKit Go.Sub Go.Shelf Go.Maps Go.Sort

theorem upd_of_below {w w' : World} (h : Below w.heap.size w w') {F' : Fp} (hF : ∀ k, F' k → w.heap.size ≤ k) : Upd none' F' w w' :=
  ⟨h.os, h.tape, h.output, h.size, fun k hk _ => h.block k hk, fun k hk => .inr (hF k hk)⟩
theorem keys_c (mb : Nat) (w : World) : Calls Try.prog 50 #[.map (some mb)] w fun e w' => e = .returned (.func (.func 87) #[] #[.pointer (some ⟨w.heap.size, 0, none⟩)]) ∧ w' = w.alloc (.cells #[.map (some mb)] 64) :=
  callsIn_wide.1 (AnyZI.keys_in Try.keys50 Fence.wide 5 trivial rfl (some mb) w)
theorem sorts (m : Nat) : AnyZI.SortsIn Try.prog Try.sorted49_ren Fence.wide m :=
  ⟨fun blk off cap ss W hH hblk hsz => callsIn_wide.2 (AnyM.slices_Sort_int Try.sort86 blk off cap ss W hH hblk hsz),
   fun p cap W => callsIn_wide.2 (AnyM.slices_Sort_int_none Try.sort86 p cap W)⟩
def keysOf (l : List Int) : List Int := l.mergeSort (fun x y => decide (x ≤ y))
set_option maxHeartbeats 1000000 in
theorem sorted_c {V : Type} {ev : V → Value} {o : Obj} {m : List (Int × V)} (ho : MapObj encI ev o m) (hnd : (m.map (·.1)).Nodup) (hs : ∀ p ∈ m, (Lit.int .i64 p.1).wf = true) (hl : m.length ≤ 1000000) {w : World} {b : Nat} (hb : w.obj b = some o) :
    Calls Try.prog 49 #[.func (.func 87) #[] #[.pointer (some ⟨w.heap.size, 0, none⟩)]] (w.alloc (.cells #[.map (some b)] 64)) fun e w' => ∃ v, Ret v (fun w' => ∃ F', (row 3 1 encIL v (keysOf (m.map (·.1)))).on w' F' ∧ Upd none' F' w w') e w' := by
  have hm1 : m.length ≤ maxLen := by unfold maxLen; omega
  obtain ⟨D0, hown, hsz, hp⟩ := owns_of_int Try.underlying3 ho hnd hs hm1 hb
  have hbl := hown.lt
  have hseq : SeqGives Fence.wide 2 Try.prog 87 #[.pointer (some ⟨w.heap.size, 0, none⟩)] encZ (fun ss => ss.Perm (intKeys D0)) (Maps.size D0) (w.alloc (.cells #[.map (some b)] 64)) :=
    AnyZI.keys_gives (ρ := Try.keys50_ren) { Try.keys50 with } Fence.wide _ trivial rfl (by omega) w.heap.size b m.length D0 _ (by simp) (by simp) (by
      obtain ⟨es, clock, hb, Ft, hs, hD⟩ := hown
      exact ⟨es, clock, (Below.heap_alloc _ _ b hbl).trans hb, Ft, hs, hD⟩)
  refine (callsIn_wide.1 (AnyZI.sorted_in Try.sorted49 Fence.wide 5 trivial trivial trivial trivial rfl (by omega) (sorts _) (enters_of Try.func86 (by kernel_rfl) rfl) 87 #[.pointer (some ⟨w.heap.size, 0, none⟩)] trivial (enters_of Try.func87 (by kernel_rfl) rfl) _ _ (by omega) (by omega) _ hseq)).mono ?_
  rintro e w' ⟨v, ss, rfl, hS, hrow, _, hbw⟩
  have hsort : ss.mergeSort (fun x y => decide (x ≤ y)) = keysOf (m.map (·.1)) := mergeSort_of_perm_i (hS.trans hp)
  have hlen : (keysOf (m.map (·.1))).length = ss.length := by rw [← hsort, List.length_mergeSort]
  have hfl : (keysOf (m.map (·.1))).flatMap encIL = (ss.mergeSort (fun x y => decide (x ≤ y))).map encZ := by
    rw [hsort]
    generalize keysOf _ = X
    induction X with
    | nil => rfl
    | cons x X ih => rw [List.map_cons, List.flatMap_cons, ih]; rfl
  refine ⟨v, rfl, fun k => v.ownBlock = some k, ⟨?_, rfl⟩, ?_⟩
  · rw [hlen, hfl]
    exact ownsRow_base_a hrow (by simp)
  · refine ((Upd.refl none' w).alloc _).trans (upd_of_below hbw fun k hk => ?_)
    rcases hrow.2 with ⟨rfl, _⟩ | ⟨g, cap, cur, rfl, hg, _⟩
    · cases hk
    · cases hk; exact hg
end Go.Proofs.Ytimkbpcdbbdjlaa
