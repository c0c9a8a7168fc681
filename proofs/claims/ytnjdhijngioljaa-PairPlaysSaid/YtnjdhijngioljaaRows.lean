/-
  No cell of these rows narrows 'for every input' (looked for: loops, veiled, ifaces, maps, wideKeys, modest, calm, conditions, laid).
  DERIVED. THE GIVEN ROWS OF THIS SEAT. 6 by the template 'for every input the law returns true; each argument reads behind the call as it read before'; 0 by the template 'total and deterministic' (their statements: YtnjdhijngioljaaTotals.lean).
  GIVEN WITH THE SEED: the statements are not yours to turn. If you find one false, say at which input.
  Laid BY PROGRAM, IN A SANDBOX (cutbox-rows.mjs): the forced cells as the released guide's own fill.sh prints them over the translation c17897113f722db6… (all of the seat's roots in one cut). By AI agents, Wed Nov 11 2026. No macro, syntax, notation, axiom, sorry.
-/
import Derived.Test.YtnjdhijngioljaaChecked
import GoSem.Claim
import GoSem.ClaimJoined
import GoSem.ClaimMapViews
import Derived.JoinedTies
import Derived.KernelRfl
namespace Go.Proofs.Ytnjdhijngioljaa
/- THE CELL 'sum', in the pinned program and in every row, IS THE sha256 OF THE DUMP (.gsa) THAT YtnjdhijngioljaaProg.lean LOADS. Nothing in Lean hashes anything: it is a label: what it is worth is what the hold of that sum in a sandbox is worth. -/
noncomputable def Try.pinned : Pinned := { name := "ytnjdhijngioljaa", sum := "c17897113f722db6ca146992f7dbbc332a8a972f7fcc3ee770179133b10757b3", checked := Try.checked }
namespace Rows
def none {H : Type} : Left H := { results := [], args := [] }

/-- 'subwaylaw16.PairPlays': WHATEVER THE INPUT: true; the input reads as it did. -/
def pairPlaysSpec : ChangeSpec := { name := "pairPlays", fn := fun _ => fun
  | [d] => { results := [.lit (.bool true)], args := [d] }
  | _ => none }
def pairPlaysRow : OpenClaim := { program := "ytnjdhijngioljaa", sum := "c17897113f722db6ca146992f7dbbc332a8a972f7fcc3ee770179133b10757b3", func := "subway/subwaylaw16.PairPlays", spec := "pairPlays", unfollowed := true, recurses := true, apart := false }
def PairPlaysSaid : Prop := pairPlaysRow.holds Try.pinned (OpenSpec.ofChange pairPlaysSpec)

/-- ITS FALSE NEIGHBOUR: 'it returns false'. Refute it at one input. -/
def pairPlaysWrong : ChangeSpec := { name := "pairPlays", fn := fun _ => fun
  | [d] => { results := [.lit (.bool false)], args := [d] }
  | _ => none }
def PairPlaysWrongFalsely : Prop := pairPlaysRow.holds Try.pinned (OpenSpec.ofChange pairPlaysWrong)

/-- 'subwaylaw16.PairOne': WHATEVER THE INPUT: true; the input reads as it did. -/
def pairOneSpec : ChangeSpec := { name := "pairOne", fn := fun _ => fun
  | [d] => { results := [.lit (.bool true)], args := [d] }
  | _ => none }
def pairOneRow : OpenClaim := { program := "ytnjdhijngioljaa", sum := "c17897113f722db6ca146992f7dbbc332a8a972f7fcc3ee770179133b10757b3", func := "subway/subwaylaw16.PairOne", spec := "pairOne", unfollowed := true, recurses := true, apart := false }
def PairOneSaid : Prop := pairOneRow.holds Try.pinned (OpenSpec.ofChange pairOneSpec)

/-- ITS FALSE NEIGHBOUR: 'it returns false'. Refute it at one input. -/
def pairOneWrong : ChangeSpec := { name := "pairOne", fn := fun _ => fun
  | [d] => { results := [.lit (.bool false)], args := [d] }
  | _ => none }
def PairOneWrongFalsely : Prop := pairOneRow.holds Try.pinned (OpenSpec.ofChange pairOneWrong)

/-- 'subwaylaw16.PairOnce': WHATEVER THE INPUT: true; the input reads as it did. -/
def pairOnceSpec : ChangeSpec := { name := "pairOnce", fn := fun _ => fun
  | [d] => { results := [.lit (.bool true)], args := [d] }
  | _ => none }
def pairOnceRow : OpenClaim := { program := "ytnjdhijngioljaa", sum := "c17897113f722db6ca146992f7dbbc332a8a972f7fcc3ee770179133b10757b3", func := "subway/subwaylaw16.PairOnce", spec := "pairOnce", unfollowed := true, recurses := true, apart := false }
def PairOnceSaid : Prop := pairOnceRow.holds Try.pinned (OpenSpec.ofChange pairOnceSpec)

/-- ITS FALSE NEIGHBOUR: 'it returns false'. Refute it at one input. -/
def pairOnceWrong : ChangeSpec := { name := "pairOnce", fn := fun _ => fun
  | [d] => { results := [.lit (.bool false)], args := [d] }
  | _ => none }
def PairOnceWrongFalsely : Prop := pairOnceRow.holds Try.pinned (OpenSpec.ofChange pairOnceWrong)

/-- 'subwaylaw16.PairParts': WHATEVER THE INPUT: true; the input reads as it did. -/
def pairPartsSpec : ChangeSpec := { name := "pairParts", fn := fun _ => fun
  | [d1, d2] => { results := [.lit (.bool true)], args := [d1, d2] }
  | _ => none }
def pairPartsRow : OpenClaim := { program := "ytnjdhijngioljaa", sum := "c17897113f722db6ca146992f7dbbc332a8a972f7fcc3ee770179133b10757b3", func := "subway/subwaylaw16.PairParts", spec := "pairParts", unfollowed := true, recurses := true, apart := false }
def PairPartsSaid : Prop := pairPartsRow.holds Try.pinned (OpenSpec.ofChange pairPartsSpec)

/-- ITS FALSE NEIGHBOUR: 'it returns false'. Refute it at one input. -/
def pairPartsWrong : ChangeSpec := { name := "pairParts", fn := fun _ => fun
  | [d1, d2] => { results := [.lit (.bool false)], args := [d1, d2] }
  | _ => none }
def PairPartsWrongFalsely : Prop := pairPartsRow.holds Try.pinned (OpenSpec.ofChange pairPartsWrong)

/-- 'subwaylaw16.PairFresh': WHATEVER THE INPUT: true; the input reads as it did. -/
def pairFreshSpec : ChangeSpec := { name := "pairFresh", fn := fun _ => fun
  | [d1, d2, d3] => { results := [.lit (.bool true)], args := [d1, d2, d3] }
  | _ => none }
def pairFreshRow : OpenClaim := { program := "ytnjdhijngioljaa", sum := "c17897113f722db6ca146992f7dbbc332a8a972f7fcc3ee770179133b10757b3", func := "subway/subwaylaw16.PairFresh", spec := "pairFresh", unfollowed := true, recurses := true, apart := false }
def PairFreshSaid : Prop := pairFreshRow.holds Try.pinned (OpenSpec.ofChange pairFreshSpec)

/-- ITS FALSE NEIGHBOUR: 'it returns false'. Refute it at one input. -/
def pairFreshWrong : ChangeSpec := { name := "pairFresh", fn := fun _ => fun
  | [d1, d2, d3] => { results := [.lit (.bool false)], args := [d1, d2, d3] }
  | _ => none }
def PairFreshWrongFalsely : Prop := pairFreshRow.holds Try.pinned (OpenSpec.ofChange pairFreshWrong)

/-- 'subwaylaw16.PairWas': WHATEVER THE INPUT: true; the input reads as it did. -/
def pairWasSpec : ChangeSpec := { name := "pairWas", fn := fun _ => fun
  | [d] => { results := [.lit (.bool true)], args := [d] }
  | _ => none }
def pairWasRow : OpenClaim := { program := "ytnjdhijngioljaa", sum := "c17897113f722db6ca146992f7dbbc332a8a972f7fcc3ee770179133b10757b3", func := "subway/subwaylaw16.PairWas", spec := "pairWas", unfollowed := true, recurses := true, apart := false }
def PairWasSaid : Prop := pairWasRow.holds Try.pinned (OpenSpec.ofChange pairWasSpec)

/-- ITS FALSE NEIGHBOUR: 'it returns false'. Refute it at one input. -/
def pairWasWrong : ChangeSpec := { name := "pairWas", fn := fun _ => fun
  | [d] => { results := [.lit (.bool false)], args := [d] }
  | _ => none }
def PairWasWrongFalsely : Prop := pairWasRow.holds Try.pinned (OpenSpec.ofChange pairWasWrong)

/- THE SECOND FORM. 'bulk': how many values and letters a reading holds, each counted each time it is reached (what is shared counts as often as it is met; a slice's spare places count too). A statement '..UptoSaid' is the law's where the arguments, and the package variables that the reading takes, are together of bulk at most 1048576: NARROWER than '..Said'. Prove '..Said' where nothing that the law and all that it calls make is longer than what came in: it says more and counts as full. Else prove '..UptoSaid'. A law counts once. -/
mutual
def uptoBulk {H : Type} : DataW H → Nat
  | .lit (.string bytes) => bytes.length + 1
  | .lit _ => 1
  | .nil => 1
  | .ptr d => uptoBulk d + 1
  | .slice elems spare => uptoBulkAll elems + uptoBulkAll spare + 1
  | .agg parts => uptoBulkAll parts + 1
  | .iface _ d => uptoBulk d + 1
  | .map entries => uptoBulkEntries entries + 1
  | .held _ => 1
def uptoBulkAll {H : Type} : List (DataW H) → Nat
  | [] => 0
  | d :: r => uptoBulk d + uptoBulkAll r
def uptoBulkEntries {H : Type} : List (Lit × DataW H) → Nat
  | [] => 0
  | x :: r => uptoBulkEntry x + uptoBulkEntries r
def uptoBulkEntry {H : Type} : Lit × DataW H → Nat
  | (.string bytes, d) => bytes.length + uptoBulk d + 1
  | (_, d) => uptoBulk d + 1
 end
def uptoSmall : (H : Type) → List (DataW H) → Bool := fun _ ds => decide (uptoBulkAll ds ≤ 1048576)
def OpenSpec.upto (s : _root_.Go.ChangeSpec) : _root_.Go.OpenSpec := { _root_.Go.OpenSpec.ofChange s with cond := some uptoSmall }

/-- 'subwaylaw16.PairPlays', WHERE WHAT IT READS IS OF BULK AT MOST 1048576: true; the input reads as it did. -/
def pairPlaysUptoRow : OpenClaim := { program := "ytnjdhijngioljaa", sum := "c17897113f722db6ca146992f7dbbc332a8a972f7fcc3ee770179133b10757b3", func := "subway/subwaylaw16.PairPlays", spec := "pairPlays", unfollowed := true, recurses := true, apart := false, narrowed := true }
def PairPlaysUptoSaid : Prop := pairPlaysUptoRow.holds Try.pinned (OpenSpec.upto pairPlaysSpec)

/-- 'subwaylaw16.PairOne', WHERE WHAT IT READS IS OF BULK AT MOST 1048576: true; the input reads as it did. -/
def pairOneUptoRow : OpenClaim := { program := "ytnjdhijngioljaa", sum := "c17897113f722db6ca146992f7dbbc332a8a972f7fcc3ee770179133b10757b3", func := "subway/subwaylaw16.PairOne", spec := "pairOne", unfollowed := true, recurses := true, apart := false, narrowed := true }
def PairOneUptoSaid : Prop := pairOneUptoRow.holds Try.pinned (OpenSpec.upto pairOneSpec)

/-- 'subwaylaw16.PairOnce', WHERE WHAT IT READS IS OF BULK AT MOST 1048576: true; the input reads as it did. -/
def pairOnceUptoRow : OpenClaim := { program := "ytnjdhijngioljaa", sum := "c17897113f722db6ca146992f7dbbc332a8a972f7fcc3ee770179133b10757b3", func := "subway/subwaylaw16.PairOnce", spec := "pairOnce", unfollowed := true, recurses := true, apart := false, narrowed := true }
def PairOnceUptoSaid : Prop := pairOnceUptoRow.holds Try.pinned (OpenSpec.upto pairOnceSpec)

/-- 'subwaylaw16.PairParts', WHERE WHAT IT READS IS OF BULK AT MOST 1048576: true; the input reads as it did. -/
def pairPartsUptoRow : OpenClaim := { program := "ytnjdhijngioljaa", sum := "c17897113f722db6ca146992f7dbbc332a8a972f7fcc3ee770179133b10757b3", func := "subway/subwaylaw16.PairParts", spec := "pairParts", unfollowed := true, recurses := true, apart := false, narrowed := true }
def PairPartsUptoSaid : Prop := pairPartsUptoRow.holds Try.pinned (OpenSpec.upto pairPartsSpec)

/-- 'subwaylaw16.PairFresh', WHERE WHAT IT READS IS OF BULK AT MOST 1048576: true; the input reads as it did. -/
def pairFreshUptoRow : OpenClaim := { program := "ytnjdhijngioljaa", sum := "c17897113f722db6ca146992f7dbbc332a8a972f7fcc3ee770179133b10757b3", func := "subway/subwaylaw16.PairFresh", spec := "pairFresh", unfollowed := true, recurses := true, apart := false, narrowed := true }
def PairFreshUptoSaid : Prop := pairFreshUptoRow.holds Try.pinned (OpenSpec.upto pairFreshSpec)

/-- 'subwaylaw16.PairWas', WHERE WHAT IT READS IS OF BULK AT MOST 1048576: true; the input reads as it did. -/
def pairWasUptoRow : OpenClaim := { program := "ytnjdhijngioljaa", sum := "c17897113f722db6ca146992f7dbbc332a8a972f7fcc3ee770179133b10757b3", func := "subway/subwaylaw16.PairWas", spec := "pairWas", unfollowed := true, recurses := true, apart := false, narrowed := true }
def PairWasUptoSaid : Prop := pairWasUptoRow.holds Try.pinned (OpenSpec.upto pairWasSpec)

end Rows
end Go.Proofs.Ytnjdhijngioljaa
