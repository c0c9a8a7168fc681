/-
  No cell of these rows narrows 'for every input' (looked for: loops, veiled, ifaces, maps, wideKeys, modest, calm, conditions, laid).
  DERIVED. THE GIVEN ROWS OF THIS SEAT. 5 by the template 'for every input the law returns true; each argument reads behind the call as it read before'; 0 by the template 'total and deterministic' (their statements: YtglfkkaldeblhaaTotals.lean).
  GIVEN WITH THE SEED: the statements are not yours to turn. If you find one false, say at which input.
  Laid BY PROGRAM, IN A SANDBOX (cutbox-rows.mjs): the forced cells as the released guide's own fill.sh prints them over the translation bcdb4591c8ce3a06… (all of the seat's roots in one cut). By AI agents, Wed Nov 11 2026. No macro, syntax, notation, axiom, sorry.
-/
import Derived.Test.YtglfkkaldeblhaaChecked
import GoSem.Claim
import GoSem.ClaimJoined
import GoSem.ClaimMapViews
import Derived.JoinedTies
import Derived.KernelRfl
namespace Go.Proofs.Ytglfkkaldeblhaa
/- THE CELL 'sum', in the pinned program and in every row, IS THE sha256 OF THE DUMP (.gsa) THAT YtglfkkaldeblhaaProg.lean LOADS. Nothing in Lean hashes anything: it is a label: what it is worth is what the hold of that sum in a sandbox is worth. -/
noncomputable def Try.pinned : Pinned := { name := "ytglfkkaldeblhaa", sum := "bcdb4591c8ce3a06a86a2bf754e68eaea91957c91e90fe95cb6bc3d6c36b8d79", checked := Try.checked }
namespace Rows
def none {H : Type} : Left H := { results := [], args := [] }

/-- 'subwaylaw23.MeterPlays': WHATEVER THE INPUT: true; the input reads as it did. -/
def meterPlaysSpec : ChangeSpec := { name := "meterPlays", fn := fun _ => fun
  | [d] => { results := [.lit (.bool true)], args := [d] }
  | _ => none }
def meterPlaysRow : OpenClaim := { program := "ytglfkkaldeblhaa", sum := "bcdb4591c8ce3a06a86a2bf754e68eaea91957c91e90fe95cb6bc3d6c36b8d79", func := "subway/subwaylaw23.MeterPlays", spec := "meterPlays", unfollowed := true, recurses := true, apart := false }
def MeterPlaysSaid : Prop := meterPlaysRow.holds Try.pinned (OpenSpec.ofChange meterPlaysSpec)

/-- ITS FALSE NEIGHBOUR: 'it returns false'. Refute it at one input. -/
def meterPlaysWrong : ChangeSpec := { name := "meterPlays", fn := fun _ => fun
  | [d] => { results := [.lit (.bool false)], args := [d] }
  | _ => none }
def MeterPlaysWrongFalsely : Prop := meterPlaysRow.holds Try.pinned (OpenSpec.ofChange meterPlaysWrong)

/-- 'subwaylaw23.MeterSums': WHATEVER THE INPUT: true; the input reads as it did. -/
def meterSumsSpec : ChangeSpec := { name := "meterSums", fn := fun _ => fun
  | [d1, d2] => { results := [.lit (.bool true)], args := [d1, d2] }
  | _ => none }
def meterSumsRow : OpenClaim := { program := "ytglfkkaldeblhaa", sum := "bcdb4591c8ce3a06a86a2bf754e68eaea91957c91e90fe95cb6bc3d6c36b8d79", func := "subway/subwaylaw23.MeterSums", spec := "meterSums", unfollowed := true, recurses := true, apart := false }
def MeterSumsSaid : Prop := meterSumsRow.holds Try.pinned (OpenSpec.ofChange meterSumsSpec)

/-- ITS FALSE NEIGHBOUR: 'it returns false'. Refute it at one input. -/
def meterSumsWrong : ChangeSpec := { name := "meterSums", fn := fun _ => fun
  | [d1, d2] => { results := [.lit (.bool false)], args := [d1, d2] }
  | _ => none }
def MeterSumsWrongFalsely : Prop := meterSumsRow.holds Try.pinned (OpenSpec.ofChange meterSumsWrong)

/-- 'subwaylaw23.MeterNever': WHATEVER THE INPUT: true; the input reads as it did. -/
def meterNeverSpec : ChangeSpec := { name := "meterNever", fn := fun _ => fun
  | [d] => { results := [.lit (.bool true)], args := [d] }
  | _ => none }
def meterNeverRow : OpenClaim := { program := "ytglfkkaldeblhaa", sum := "bcdb4591c8ce3a06a86a2bf754e68eaea91957c91e90fe95cb6bc3d6c36b8d79", func := "subway/subwaylaw23.MeterNever", spec := "meterNever", unfollowed := true, recurses := true, apart := false }
def MeterNeverSaid : Prop := meterNeverRow.holds Try.pinned (OpenSpec.ofChange meterNeverSpec)

/-- ITS FALSE NEIGHBOUR: 'it returns false'. Refute it at one input. -/
def meterNeverWrong : ChangeSpec := { name := "meterNever", fn := fun _ => fun
  | [d] => { results := [.lit (.bool false)], args := [d] }
  | _ => none }
def MeterNeverWrongFalsely : Prop := meterNeverRow.holds Try.pinned (OpenSpec.ofChange meterNeverWrong)

/-- 'subwaylaw23.MeterApart': WHATEVER THE INPUT: true; the input reads as it did. -/
def meterApartSpec : ChangeSpec := { name := "meterApart", fn := fun _ => fun
  | [d1, d2] => { results := [.lit (.bool true)], args := [d1, d2] }
  | _ => none }
def meterApartRow : OpenClaim := { program := "ytglfkkaldeblhaa", sum := "bcdb4591c8ce3a06a86a2bf754e68eaea91957c91e90fe95cb6bc3d6c36b8d79", func := "subway/subwaylaw23.MeterApart", spec := "meterApart", unfollowed := true, recurses := true, apart := false }
def MeterApartSaid : Prop := meterApartRow.holds Try.pinned (OpenSpec.ofChange meterApartSpec)

/-- ITS FALSE NEIGHBOUR: 'it returns false'. Refute it at one input. -/
def meterApartWrong : ChangeSpec := { name := "meterApart", fn := fun _ => fun
  | [d1, d2] => { results := [.lit (.bool false)], args := [d1, d2] }
  | _ => none }
def MeterApartWrongFalsely : Prop := meterApartRow.holds Try.pinned (OpenSpec.ofChange meterApartWrong)

/-- 'subwaylaw23.MeterSum': WHATEVER THE INPUT: true; the input reads as it did. -/
def meterSumSpec : ChangeSpec := { name := "meterSum", fn := fun _ => fun
  | [d] => { results := [.lit (.bool true)], args := [d] }
  | _ => none }
def meterSumRow : OpenClaim := { program := "ytglfkkaldeblhaa", sum := "bcdb4591c8ce3a06a86a2bf754e68eaea91957c91e90fe95cb6bc3d6c36b8d79", func := "subway/subwaylaw23.MeterSum", spec := "meterSum", unfollowed := true, recurses := true, apart := false }
def MeterSumSaid : Prop := meterSumRow.holds Try.pinned (OpenSpec.ofChange meterSumSpec)

/-- ITS FALSE NEIGHBOUR: 'it returns false'. Refute it at one input. -/
def meterSumWrong : ChangeSpec := { name := "meterSum", fn := fun _ => fun
  | [d] => { results := [.lit (.bool false)], args := [d] }
  | _ => none }
def MeterSumWrongFalsely : Prop := meterSumRow.holds Try.pinned (OpenSpec.ofChange meterSumWrong)

/- THE SECOND FORM. 'bulk': how many values and letters a reading holds, each counted each time it is reached (what is shared counts as often as it is met; a slice's spare places count too). A statement '..UptoSaid' is the law's where the arguments, and the package variables that the reading takes, are together of bulk at most 1048576: NARROWER than '..Said'. Prove '..Said' where nothing that the law and all that it calls make is longer than what came in: it says more and counts as full. Else prove '..UptoSaid'. A law counts once. -/
mutual
def uptoBulk {H : Type} : DataW H → Nat
  | .lit (.string bytes) => bytes.length + 1
  | .lit _ => 1
  | .nil => 1
  | .ptr d => uptoBulk d + 1
  | .slice elems spare => uptoBulkAll elems + uptoBulkAll spare + 1
  | .agg parts => uptoBulkAll parts + 1
  | .iface _ d => uptoBulk d + 1
  | .map entries => uptoBulkEntries entries + 1
  | .held _ => 1
def uptoBulkAll {H : Type} : List (DataW H) → Nat
  | [] => 0
  | d :: r => uptoBulk d + uptoBulkAll r
def uptoBulkEntries {H : Type} : List (Lit × DataW H) → Nat
  | [] => 0
  | x :: r => uptoBulkEntry x + uptoBulkEntries r
def uptoBulkEntry {H : Type} : Lit × DataW H → Nat
  | (.string bytes, d) => bytes.length + uptoBulk d + 1
  | (_, d) => uptoBulk d + 1
 end
def uptoSmall : (H : Type) → List (DataW H) → Bool := fun _ ds => decide (uptoBulkAll ds ≤ 1048576)
def OpenSpec.upto (s : _root_.Go.ChangeSpec) : _root_.Go.OpenSpec := { _root_.Go.OpenSpec.ofChange s with cond := some uptoSmall }

/-- 'subwaylaw23.MeterPlays', WHERE WHAT IT READS IS OF BULK AT MOST 1048576: true; the input reads as it did. -/
def meterPlaysUptoRow : OpenClaim := { program := "ytglfkkaldeblhaa", sum := "bcdb4591c8ce3a06a86a2bf754e68eaea91957c91e90fe95cb6bc3d6c36b8d79", func := "subway/subwaylaw23.MeterPlays", spec := "meterPlays", unfollowed := true, recurses := true, apart := false, narrowed := true }
def MeterPlaysUptoSaid : Prop := meterPlaysUptoRow.holds Try.pinned (OpenSpec.upto meterPlaysSpec)

/-- 'subwaylaw23.MeterSums', WHERE WHAT IT READS IS OF BULK AT MOST 1048576: true; the input reads as it did. -/
def meterSumsUptoRow : OpenClaim := { program := "ytglfkkaldeblhaa", sum := "bcdb4591c8ce3a06a86a2bf754e68eaea91957c91e90fe95cb6bc3d6c36b8d79", func := "subway/subwaylaw23.MeterSums", spec := "meterSums", unfollowed := true, recurses := true, apart := false, narrowed := true }
def MeterSumsUptoSaid : Prop := meterSumsUptoRow.holds Try.pinned (OpenSpec.upto meterSumsSpec)

/-- 'subwaylaw23.MeterNever', WHERE WHAT IT READS IS OF BULK AT MOST 1048576: true; the input reads as it did. -/
def meterNeverUptoRow : OpenClaim := { program := "ytglfkkaldeblhaa", sum := "bcdb4591c8ce3a06a86a2bf754e68eaea91957c91e90fe95cb6bc3d6c36b8d79", func := "subway/subwaylaw23.MeterNever", spec := "meterNever", unfollowed := true, recurses := true, apart := false, narrowed := true }
def MeterNeverUptoSaid : Prop := meterNeverUptoRow.holds Try.pinned (OpenSpec.upto meterNeverSpec)

/-- 'subwaylaw23.MeterApart', WHERE WHAT IT READS IS OF BULK AT MOST 1048576: true; the input reads as it did. -/
def meterApartUptoRow : OpenClaim := { program := "ytglfkkaldeblhaa", sum := "bcdb4591c8ce3a06a86a2bf754e68eaea91957c91e90fe95cb6bc3d6c36b8d79", func := "subway/subwaylaw23.MeterApart", spec := "meterApart", unfollowed := true, recurses := true, apart := false, narrowed := true }
def MeterApartUptoSaid : Prop := meterApartUptoRow.holds Try.pinned (OpenSpec.upto meterApartSpec)

/-- 'subwaylaw23.MeterSum', WHERE WHAT IT READS IS OF BULK AT MOST 1048576: true; the input reads as it did. -/
def meterSumUptoRow : OpenClaim := { program := "ytglfkkaldeblhaa", sum := "bcdb4591c8ce3a06a86a2bf754e68eaea91957c91e90fe95cb6bc3d6c36b8d79", func := "subway/subwaylaw23.MeterSum", spec := "meterSum", unfollowed := true, recurses := true, apart := false, narrowed := true }
def MeterSumUptoSaid : Prop := meterSumUptoRow.holds Try.pinned (OpenSpec.upto meterSumSpec)

end Rows
end Go.Proofs.Ytglfkkaldeblhaa
