/- What holds at the head of a round in which operations are played on a table of pairs. -/
import Derived.Test.YtnjdhijngioljaaPairD
import Derived.Test.YtnjdhijngioljaaPairG
import Derived.StillTailTactics
namespace Go.Proofs.Ytnjdhijngioljaa.pairs
open Go.RowKit Go.Sub Go.ChangeMaps
theorem ends_part {T : Tab} (hI : Inv T) (id : Int) : (T.part id).ends.length ≤ T.ends.length := by
  cases hget : mget T.ends id with
  | none => simp [Tab.part, hget]
  | some p =>
    obtain ⟨o, s⟩ := p
    have hb := hI.back id o s hget
    have p1 := (mdel_perm hget).length_eq
    have p2 := (mdel_perm (show mget (mdel T.ends id) o = some (id, !s) by rw [mget_mdel hI.once hget, if_neg hb.2]; exact hb.1)).length_eq
    simp only [Tab.part, hget]
    simp only [List.length_cons] at p1 p2
    omega
theorem ends_join {T : Tab} (hI : Inv T) (v c : Int) : (T.join v c).1.ends.length ≤ T.ends.length + 2 := by
  by_cases h : (T.join v c).2 = 0
  · rw [join_ends hI h]; simp
  · rw [join_no h]; omega
/-- what holds at the head of a round of the first loop -/
structure At (W : World) (b : Nat) (k : Nat) (w : World) (T : Tab) (F : Fp) : Prop where
  mem : (pairT b T).on w F
  upd : Upd none' F W w
  inv : Inv T
  short : T.ends.length ≤ 2 * k
end Go.Proofs.Ytnjdhijngioljaa.pairs
