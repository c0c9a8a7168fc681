/-
  No cell of these rows narrows 'for every input' (looked for: loops, veiled, ifaces, maps, wideKeys, modest, calm, conditions, laid).
  DERIVED. THE GIVEN ROWS OF THIS SEAT. 8 by the template 'for every input the law returns true; each argument reads behind the call as it read before'; 0 by the template 'total and deterministic' (their statements: YtimkbpcdbbdjlaaTotals.lean).
  GIVEN WITH THE SEED: the statements are not yours to turn. If you find one false, say at which input.
  Laid BY PROGRAM, IN A SANDBOX (cutbox-rows.mjs): the forced cells as the released guide's own fill.sh prints them over the translation d641f9e786ade203… (all of the seat's roots in one cut). By AI agents, Wed Nov 11 2026. No macro, syntax, notation, axiom, sorry.
-/
import Derived.Test.YtimkbpcdbbdjlaaChecked
import GoSem.Claim
import GoSem.ClaimJoined
import GoSem.ClaimMapViews
import Derived.JoinedTies
import Derived.KernelRfl
namespace Go.Proofs.Ytimkbpcdbbdjlaa
/- THE CELL 'sum', in the pinned program and in every row, IS THE sha256 OF THE DUMP (.gsa) THAT YtimkbpcdbbdjlaaProg.lean LOADS. Nothing in Lean hashes anything: it is a label: what it is worth is what the hold of that sum in a sandbox is worth. -/
noncomputable def Try.pinned : Pinned := { name := "ytimkbpcdbbdjlaa", sum := "d641f9e786ade20337d68596fdb9f3e451fa72c302afa37508ba45320076146d", checked := Try.checked }
namespace Rows
def none {H : Type} : Left H := { results := [], args := [] }

/-- 'subwaylaw18.ConnFrames': WHATEVER THE INPUT: true; the input reads as it did. -/
def connFramesSpec : ChangeSpec := { name := "connFrames", fn := fun _ => fun
  | [d1, d2] => { results := [.lit (.bool true)], args := [d1, d2] }
  | _ => none }
def connFramesRow : OpenClaim := { program := "ytimkbpcdbbdjlaa", sum := "d641f9e786ade20337d68596fdb9f3e451fa72c302afa37508ba45320076146d", func := "subway/subwaylaw18.ConnFrames", spec := "connFrames", unfollowed := true, recurses := true, apart := false }
def ConnFramesSaid : Prop := connFramesRow.holds Try.pinned (OpenSpec.ofChange connFramesSpec)

/-- ITS FALSE NEIGHBOUR: 'it returns false'. Refute it at one input. -/
def connFramesWrong : ChangeSpec := { name := "connFrames", fn := fun _ => fun
  | [d1, d2] => { results := [.lit (.bool false)], args := [d1, d2] }
  | _ => none }
def ConnFramesWrongFalsely : Prop := connFramesRow.holds Try.pinned (OpenSpec.ofChange connFramesWrong)

/-- 'subwaylaw18.ConnAll': WHATEVER THE INPUT: true; the input reads as it did. -/
def connAllSpec : ChangeSpec := { name := "connAll", fn := fun _ => fun
  | [d1, d2] => { results := [.lit (.bool true)], args := [d1, d2] }
  | _ => none }
def connAllRow : OpenClaim := { program := "ytimkbpcdbbdjlaa", sum := "d641f9e786ade20337d68596fdb9f3e451fa72c302afa37508ba45320076146d", func := "subway/subwaylaw18.ConnAll", spec := "connAll", unfollowed := true, recurses := true, apart := false }
def ConnAllSaid : Prop := connAllRow.holds Try.pinned (OpenSpec.ofChange connAllSpec)

/-- ITS FALSE NEIGHBOUR: 'it returns false'. Refute it at one input. -/
def connAllWrong : ChangeSpec := { name := "connAll", fn := fun _ => fun
  | [d1, d2] => { results := [.lit (.bool false)], args := [d1, d2] }
  | _ => none }
def ConnAllWrongFalsely : Prop := connAllRow.holds Try.pinned (OpenSpec.ofChange connAllWrong)

/-- 'subwaylaw18.ConnNever': WHATEVER THE INPUT: true; the input reads as it did. -/
def connNeverSpec : ChangeSpec := { name := "connNever", fn := fun _ => fun
  | [d] => { results := [.lit (.bool true)], args := [d] }
  | _ => none }
def connNeverRow : OpenClaim := { program := "ytimkbpcdbbdjlaa", sum := "d641f9e786ade20337d68596fdb9f3e451fa72c302afa37508ba45320076146d", func := "subway/subwaylaw18.ConnNever", spec := "connNever", unfollowed := true, recurses := true, apart := false }
def ConnNeverSaid : Prop := connNeverRow.holds Try.pinned (OpenSpec.ofChange connNeverSpec)

/-- ITS FALSE NEIGHBOUR: 'it returns false'. Refute it at one input. -/
def connNeverWrong : ChangeSpec := { name := "connNever", fn := fun _ => fun
  | [d] => { results := [.lit (.bool false)], args := [d] }
  | _ => none }
def ConnNeverWrongFalsely : Prop := connNeverRow.holds Try.pinned (OpenSpec.ofChange connNeverWrong)

/-- 'subwaylaw18.ConnCredit': WHATEVER THE INPUT: true; the input reads as it did. -/
def connCreditSpec : ChangeSpec := { name := "connCredit", fn := fun _ => fun
  | [d] => { results := [.lit (.bool true)], args := [d] }
  | _ => none }
def connCreditRow : OpenClaim := { program := "ytimkbpcdbbdjlaa", sum := "d641f9e786ade20337d68596fdb9f3e451fa72c302afa37508ba45320076146d", func := "subway/subwaylaw18.ConnCredit", spec := "connCredit", unfollowed := true, recurses := true, apart := false }
def ConnCreditSaid : Prop := connCreditRow.holds Try.pinned (OpenSpec.ofChange connCreditSpec)

/-- ITS FALSE NEIGHBOUR: 'it returns false'. Refute it at one input. -/
def connCreditWrong : ChangeSpec := { name := "connCredit", fn := fun _ => fun
  | [d] => { results := [.lit (.bool false)], args := [d] }
  | _ => none }
def ConnCreditWrongFalsely : Prop := connCreditRow.holds Try.pinned (OpenSpec.ofChange connCreditWrong)

/-- 'subwaylaw18.ConnHalf': WHATEVER THE INPUT: true; the input reads as it did. -/
def connHalfSpec : ChangeSpec := { name := "connHalf", fn := fun _ => fun
  | [d1, d2, d3, d4] => { results := [.lit (.bool true)], args := [d1, d2, d3, d4] }
  | _ => none }
def connHalfRow : OpenClaim := { program := "ytimkbpcdbbdjlaa", sum := "d641f9e786ade20337d68596fdb9f3e451fa72c302afa37508ba45320076146d", func := "subway/subwaylaw18.ConnHalf", spec := "connHalf", unfollowed := true, recurses := true, apart := false }
def ConnHalfSaid : Prop := connHalfRow.holds Try.pinned (OpenSpec.ofChange connHalfSpec)

/-- ITS FALSE NEIGHBOUR: 'it returns false'. Refute it at one input. -/
def connHalfWrong : ChangeSpec := { name := "connHalf", fn := fun _ => fun
  | [d1, d2, d3, d4] => { results := [.lit (.bool false)], args := [d1, d2, d3, d4] }
  | _ => none }
def ConnHalfWrongFalsely : Prop := connHalfRow.holds Try.pinned (OpenSpec.ofChange connHalfWrong)

/-- 'subwaylaw18.ConnApart': WHATEVER THE INPUT: true; the input reads as it did. -/
def connApartSpec : ChangeSpec := { name := "connApart", fn := fun _ => fun
  | [d1, d2] => { results := [.lit (.bool true)], args := [d1, d2] }
  | _ => none }
def connApartRow : OpenClaim := { program := "ytimkbpcdbbdjlaa", sum := "d641f9e786ade20337d68596fdb9f3e451fa72c302afa37508ba45320076146d", func := "subway/subwaylaw18.ConnApart", spec := "connApart", unfollowed := true, recurses := true, apart := false }
def ConnApartSaid : Prop := connApartRow.holds Try.pinned (OpenSpec.ofChange connApartSpec)

/-- ITS FALSE NEIGHBOUR: 'it returns false'. Refute it at one input. -/
def connApartWrong : ChangeSpec := { name := "connApart", fn := fun _ => fun
  | [d1, d2] => { results := [.lit (.bool false)], args := [d1, d2] }
  | _ => none }
def ConnApartWrongFalsely : Prop := connApartRow.holds Try.pinned (OpenSpec.ofChange connApartWrong)

/-- 'subwaylaw18.ConnPlays': WHATEVER THE INPUT: true; the input reads as it did. -/
def connPlaysSpec : ChangeSpec := { name := "connPlays", fn := fun _ => fun
  | [d] => { results := [.lit (.bool true)], args := [d] }
  | _ => none }
def connPlaysRow : OpenClaim := { program := "ytimkbpcdbbdjlaa", sum := "d641f9e786ade20337d68596fdb9f3e451fa72c302afa37508ba45320076146d", func := "subway/subwaylaw18.ConnPlays", spec := "connPlays", unfollowed := true, recurses := true, apart := false }
def ConnPlaysSaid : Prop := connPlaysRow.holds Try.pinned (OpenSpec.ofChange connPlaysSpec)

/-- ITS FALSE NEIGHBOUR: 'it returns false'. Refute it at one input. -/
def connPlaysWrong : ChangeSpec := { name := "connPlays", fn := fun _ => fun
  | [d] => { results := [.lit (.bool false)], args := [d] }
  | _ => none }
def ConnPlaysWrongFalsely : Prop := connPlaysRow.holds Try.pinned (OpenSpec.ofChange connPlaysWrong)

/-- 'subwaylaw18.ConnNone': WHATEVER THE INPUT: true; the input reads as it did. -/
def connNoneSpec : ChangeSpec := { name := "connNone", fn := fun _ => fun
  | [d1, d2, d3, d4] => { results := [.lit (.bool true)], args := [d1, d2, d3, d4] }
  | _ => none }
def connNoneRow : OpenClaim := { program := "ytimkbpcdbbdjlaa", sum := "d641f9e786ade20337d68596fdb9f3e451fa72c302afa37508ba45320076146d", func := "subway/subwaylaw18.ConnNone", spec := "connNone", unfollowed := true, recurses := true, apart := false }
def ConnNoneSaid : Prop := connNoneRow.holds Try.pinned (OpenSpec.ofChange connNoneSpec)

/-- ITS FALSE NEIGHBOUR: 'it returns false'. Refute it at one input. -/
def connNoneWrong : ChangeSpec := { name := "connNone", fn := fun _ => fun
  | [d1, d2, d3, d4] => { results := [.lit (.bool false)], args := [d1, d2, d3, d4] }
  | _ => none }
def ConnNoneWrongFalsely : Prop := connNoneRow.holds Try.pinned (OpenSpec.ofChange connNoneWrong)

/- THE SECOND FORM. 'bulk': how many values and letters a reading holds, each counted each time it is reached (what is shared counts as often as it is met; a slice's spare places count too). A statement '..UptoSaid' is the law's where the arguments, and the package variables that the reading takes, are together of bulk at most 1048576: NARROWER than '..Said'. Prove '..Said' where nothing that the law and all that it calls make is longer than what came in: it says more and counts as full. Else prove '..UptoSaid'. A law counts once. -/
mutual
def uptoBulk {H : Type} : DataW H → Nat
  | .lit (.string bytes) => bytes.length + 1
  | .lit _ => 1
  | .nil => 1
  | .ptr d => uptoBulk d + 1
  | .slice elems spare => uptoBulkAll elems + uptoBulkAll spare + 1
  | .agg parts => uptoBulkAll parts + 1
  | .iface _ d => uptoBulk d + 1
  | .map entries => uptoBulkEntries entries + 1
  | .held _ => 1
def uptoBulkAll {H : Type} : List (DataW H) → Nat
  | [] => 0
  | d :: r => uptoBulk d + uptoBulkAll r
def uptoBulkEntries {H : Type} : List (Lit × DataW H) → Nat
  | [] => 0
  | x :: r => uptoBulkEntry x + uptoBulkEntries r
def uptoBulkEntry {H : Type} : Lit × DataW H → Nat
  | (.string bytes, d) => bytes.length + uptoBulk d + 1
  | (_, d) => uptoBulk d + 1
 end
def uptoSmall : (H : Type) → List (DataW H) → Bool := fun _ ds => decide (uptoBulkAll ds ≤ 1048576)
def OpenSpec.upto (s : _root_.Go.ChangeSpec) : _root_.Go.OpenSpec := { _root_.Go.OpenSpec.ofChange s with cond := some uptoSmall }

/-- 'subwaylaw18.ConnFrames', WHERE WHAT IT READS IS OF BULK AT MOST 1048576: true; the input reads as it did. -/
def connFramesUptoRow : OpenClaim := { program := "ytimkbpcdbbdjlaa", sum := "d641f9e786ade20337d68596fdb9f3e451fa72c302afa37508ba45320076146d", func := "subway/subwaylaw18.ConnFrames", spec := "connFrames", unfollowed := true, recurses := true, apart := false, narrowed := true }
def ConnFramesUptoSaid : Prop := connFramesUptoRow.holds Try.pinned (OpenSpec.upto connFramesSpec)

/-- 'subwaylaw18.ConnAll', WHERE WHAT IT READS IS OF BULK AT MOST 1048576: true; the input reads as it did. -/
def connAllUptoRow : OpenClaim := { program := "ytimkbpcdbbdjlaa", sum := "d641f9e786ade20337d68596fdb9f3e451fa72c302afa37508ba45320076146d", func := "subway/subwaylaw18.ConnAll", spec := "connAll", unfollowed := true, recurses := true, apart := false, narrowed := true }
def ConnAllUptoSaid : Prop := connAllUptoRow.holds Try.pinned (OpenSpec.upto connAllSpec)

/-- 'subwaylaw18.ConnNever', WHERE WHAT IT READS IS OF BULK AT MOST 1048576: true; the input reads as it did. -/
def connNeverUptoRow : OpenClaim := { program := "ytimkbpcdbbdjlaa", sum := "d641f9e786ade20337d68596fdb9f3e451fa72c302afa37508ba45320076146d", func := "subway/subwaylaw18.ConnNever", spec := "connNever", unfollowed := true, recurses := true, apart := false, narrowed := true }
def ConnNeverUptoSaid : Prop := connNeverUptoRow.holds Try.pinned (OpenSpec.upto connNeverSpec)

/-- 'subwaylaw18.ConnCredit', WHERE WHAT IT READS IS OF BULK AT MOST 1048576: true; the input reads as it did. -/
def connCreditUptoRow : OpenClaim := { program := "ytimkbpcdbbdjlaa", sum := "d641f9e786ade20337d68596fdb9f3e451fa72c302afa37508ba45320076146d", func := "subway/subwaylaw18.ConnCredit", spec := "connCredit", unfollowed := true, recurses := true, apart := false, narrowed := true }
def ConnCreditUptoSaid : Prop := connCreditUptoRow.holds Try.pinned (OpenSpec.upto connCreditSpec)

/-- 'subwaylaw18.ConnHalf', WHERE WHAT IT READS IS OF BULK AT MOST 1048576: true; the input reads as it did. -/
def connHalfUptoRow : OpenClaim := { program := "ytimkbpcdbbdjlaa", sum := "d641f9e786ade20337d68596fdb9f3e451fa72c302afa37508ba45320076146d", func := "subway/subwaylaw18.ConnHalf", spec := "connHalf", unfollowed := true, recurses := true, apart := false, narrowed := true }
def ConnHalfUptoSaid : Prop := connHalfUptoRow.holds Try.pinned (OpenSpec.upto connHalfSpec)

/-- 'subwaylaw18.ConnApart', WHERE WHAT IT READS IS OF BULK AT MOST 1048576: true; the input reads as it did. -/
def connApartUptoRow : OpenClaim := { program := "ytimkbpcdbbdjlaa", sum := "d641f9e786ade20337d68596fdb9f3e451fa72c302afa37508ba45320076146d", func := "subway/subwaylaw18.ConnApart", spec := "connApart", unfollowed := true, recurses := true, apart := false, narrowed := true }
def ConnApartUptoSaid : Prop := connApartUptoRow.holds Try.pinned (OpenSpec.upto connApartSpec)

/-- 'subwaylaw18.ConnPlays', WHERE WHAT IT READS IS OF BULK AT MOST 1048576: true; the input reads as it did. -/
def connPlaysUptoRow : OpenClaim := { program := "ytimkbpcdbbdjlaa", sum := "d641f9e786ade20337d68596fdb9f3e451fa72c302afa37508ba45320076146d", func := "subway/subwaylaw18.ConnPlays", spec := "connPlays", unfollowed := true, recurses := true, apart := false, narrowed := true }
def ConnPlaysUptoSaid : Prop := connPlaysUptoRow.holds Try.pinned (OpenSpec.upto connPlaysSpec)

/-- 'subwaylaw18.ConnNone', WHERE WHAT IT READS IS OF BULK AT MOST 1048576: true; the input reads as it did. -/
def connNoneUptoRow : OpenClaim := { program := "ytimkbpcdbbdjlaa", sum := "d641f9e786ade20337d68596fdb9f3e451fa72c302afa37508ba45320076146d", func := "subway/subwaylaw18.ConnNone", spec := "connNone", unfollowed := true, recurses := true, apart := false, narrowed := true }
def ConnNoneUptoSaid : Prop := connNoneUptoRow.holds Try.pinned (OpenSpec.upto connNoneSpec)

end Rows
end Go.Proofs.Ytimkbpcdbbdjlaa
