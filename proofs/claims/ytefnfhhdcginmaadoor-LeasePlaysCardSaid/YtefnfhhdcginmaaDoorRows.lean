/-
  NARROWER THAN 'FOR EVERY INPUT', by the rows' own cells (each row's printed sentence says how): LeaseFull: laid · LeasePlays: laid · LeaseOne: laid · LeaseEpochs: laid · LeaseKept: laid · LeaseTimes: laid · LeaseLeaves: laid.
  DERIVED. THE GIVEN ROWS OF THIS SEAT. 7 by the template 'for every input the law returns true; each argument reads behind the call as it read before'; 0 by the template 'total and deterministic' (their statements: YtefnfhhdcginmaaDoorTotals.lean).
  GIVEN WITH THE SEED: the statements are not yours to turn. If you find one false, say at which input.
  Laid BY PROGRAM, IN A SANDBOX (cutbox-rows.mjs): the forced cells as the released guide's own fill.sh prints them over the translation a6aa12ab524878a4… (all of the seat's roots in one cut). By AI agents, Wed Nov 11 2026. No macro, syntax, notation, axiom, sorry.
-/
import Derived.Test.YtefnfhhdcginmaaDoorChecked
import GoSem.PinnedTables
import GoSem.Claim
import GoSem.ClaimJoined
import GoSem.ClaimMapViews
import Derived.JoinedTies
import Derived.KernelRfl
namespace Go.Proofs.YtefnfhhdcginmaaDoor
/- THE CELL 'sum', in the pinned program and in every row, IS THE sha256 OF THE DUMP (.gsa) THAT YtefnfhhdcginmaaDoorProg.lean LOADS. Nothing in Lean hashes anything: it is a label: what it is worth is what the hold of that sum in a sandbox is worth. -/
noncomputable def Tryd.pinned : Pinned := { name := "ytefnfhhdcginmaadoor", sum := "a6aa12ab524878a4dbd66ff17bcc40f8574400d12afa5aa0ac97c5db074e2e41", checked := Tryd.checked }
namespace Rows
def none {H : Type} : Left H := { results := [], args := [] }

/- WHAT THE LISTED PACKAGE-LEVEL VARIABLES READ AS WHEN THE CALL BEGINS. Each datum BY PROGRAM (the guide's laid-datum.mjs) off the statement by which the dump's own 'gosem.cut.vars' lays the variable. In a bare row this is a premise. The card (YtefnfhhdcginmaaDoorCards.lean) ties it to the program's text. -/
def laid_unicode_utf8_acceptRanges {H : Type} : DataW H := .agg [.agg [.lit (.int .u8 128), .lit (.int .u8 191)], .agg [.lit (.int .u8 160), .lit (.int .u8 191)], .agg [.lit (.int .u8 128), .lit (.int .u8 159)], .agg [.lit (.int .u8 144), .lit (.int .u8 191)], .agg [.lit (.int .u8 128), .lit (.int .u8 143)], .agg [.lit (.int .u8 0), .lit (.int .u8 0)], .agg [.lit (.int .u8 0), .lit (.int .u8 0)], .agg [.lit (.int .u8 0), .lit (.int .u8 0)], .agg [.lit (.int .u8 0), .lit (.int .u8 0)], .agg [.lit (.int .u8 0), .lit (.int .u8 0)], .agg [.lit (.int .u8 0), .lit (.int .u8 0)], .agg [.lit (.int .u8 0), .lit (.int .u8 0)], .agg [.lit (.int .u8 0), .lit (.int .u8 0)], .agg [.lit (.int .u8 0), .lit (.int .u8 0)], .agg [.lit (.int .u8 0), .lit (.int .u8 0)], .agg [.lit (.int .u8 0), .lit (.int .u8 0)]]
/-- One of Go's own tables, pinned by name: the form's constant. -/
def laid_unicode_utf8_first : DataW Unit := Go.Pinned.utf8First

/-- 'subwaylaw13.LeaseFull': WHATEVER THE INPUT: true; the input reads as it did. -/
def leaseFullSpec : ChangeSpec := { name := "leaseFull", fn := fun _ => fun
  | [d1, d2, d3] => { results := [.lit (.bool true)], args := [d1, d2, d3] }
  | _ => none }
def leaseFullRow : OpenClaim := { program := "ytefnfhhdcginmaadoor", sum := "a6aa12ab524878a4dbd66ff17bcc40f8574400d12afa5aa0ac97c5db074e2e41", func := "subway/subwaylaw13.LeaseFull", spec := "leaseFull", inPlace := ["internal/bytealg.IndexByteString", "internal/bytealg.IndexString"], unfollowed := true, recurses := true, named := ["unicode/utf8.first", "unicode/utf8.acceptRanges", "internal/bytealg.MaxLen"], apart := false, laid := [("unicode/utf8.acceptRanges", laid_unicode_utf8_acceptRanges), ("unicode/utf8.first", laid_unicode_utf8_first)] }
def LeaseFullSaid : Prop := leaseFullRow.holds Tryd.pinned (OpenSpec.ofChange leaseFullSpec)

/-- ITS FALSE NEIGHBOUR: 'it returns false'. Refute it at one input. -/
def leaseFullWrong : ChangeSpec := { name := "leaseFull", fn := fun _ => fun
  | [d1, d2, d3] => { results := [.lit (.bool false)], args := [d1, d2, d3] }
  | _ => none }
def LeaseFullWrongFalsely : Prop := leaseFullRow.holds Tryd.pinned (OpenSpec.ofChange leaseFullWrong)

/-- 'subwaylaw13.LeasePlays': WHATEVER THE INPUT: true; the input reads as it did. -/
def leasePlaysSpec : ChangeSpec := { name := "leasePlays", fn := fun _ => fun
  | [d1, d2, d3] => { results := [.lit (.bool true)], args := [d1, d2, d3] }
  | _ => none }
def leasePlaysRow : OpenClaim := { program := "ytefnfhhdcginmaadoor", sum := "a6aa12ab524878a4dbd66ff17bcc40f8574400d12afa5aa0ac97c5db074e2e41", func := "subway/subwaylaw13.LeasePlays", spec := "leasePlays", inPlace := ["internal/bytealg.IndexByteString", "internal/bytealg.IndexString"], unfollowed := true, recurses := true, named := ["unicode/utf8.first", "unicode/utf8.acceptRanges", "internal/bytealg.MaxLen"], apart := false, laid := [("unicode/utf8.acceptRanges", laid_unicode_utf8_acceptRanges), ("unicode/utf8.first", laid_unicode_utf8_first)] }
def LeasePlaysSaid : Prop := leasePlaysRow.holds Tryd.pinned (OpenSpec.ofChange leasePlaysSpec)

/-- ITS FALSE NEIGHBOUR: 'it returns false'. Refute it at one input. -/
def leasePlaysWrong : ChangeSpec := { name := "leasePlays", fn := fun _ => fun
  | [d1, d2, d3] => { results := [.lit (.bool false)], args := [d1, d2, d3] }
  | _ => none }
def LeasePlaysWrongFalsely : Prop := leasePlaysRow.holds Tryd.pinned (OpenSpec.ofChange leasePlaysWrong)

/-- 'subwaylaw13.LeaseOne': WHATEVER THE INPUT: true; the input reads as it did. -/
def leaseOneSpec : ChangeSpec := { name := "leaseOne", fn := fun _ => fun
  | [d1, d2, d3, d4, d5] => { results := [.lit (.bool true)], args := [d1, d2, d3, d4, d5] }
  | _ => none }
def leaseOneRow : OpenClaim := { program := "ytefnfhhdcginmaadoor", sum := "a6aa12ab524878a4dbd66ff17bcc40f8574400d12afa5aa0ac97c5db074e2e41", func := "subway/subwaylaw13.LeaseOne", spec := "leaseOne", inPlace := ["internal/bytealg.IndexByteString", "internal/bytealg.IndexString"], unfollowed := true, recurses := true, named := ["unicode/utf8.first", "unicode/utf8.acceptRanges", "internal/bytealg.MaxLen"], apart := false, laid := [("unicode/utf8.acceptRanges", laid_unicode_utf8_acceptRanges), ("unicode/utf8.first", laid_unicode_utf8_first)] }
def LeaseOneSaid : Prop := leaseOneRow.holds Tryd.pinned (OpenSpec.ofChange leaseOneSpec)

/-- ITS FALSE NEIGHBOUR: 'it returns false'. Refute it at one input. -/
def leaseOneWrong : ChangeSpec := { name := "leaseOne", fn := fun _ => fun
  | [d1, d2, d3, d4, d5] => { results := [.lit (.bool false)], args := [d1, d2, d3, d4, d5] }
  | _ => none }
def LeaseOneWrongFalsely : Prop := leaseOneRow.holds Tryd.pinned (OpenSpec.ofChange leaseOneWrong)

/-- 'subwaylaw13.LeaseEpochs': WHATEVER THE INPUT: true; the input reads as it did. -/
def leaseEpochsSpec : ChangeSpec := { name := "leaseEpochs", fn := fun _ => fun
  | [d] => { results := [.lit (.bool true)], args := [d] }
  | _ => none }
def leaseEpochsRow : OpenClaim := { program := "ytefnfhhdcginmaadoor", sum := "a6aa12ab524878a4dbd66ff17bcc40f8574400d12afa5aa0ac97c5db074e2e41", func := "subway/subwaylaw13.LeaseEpochs", spec := "leaseEpochs", inPlace := ["internal/bytealg.IndexByteString", "internal/bytealg.IndexString"], unfollowed := true, recurses := true, named := ["unicode/utf8.first", "unicode/utf8.acceptRanges", "internal/bytealg.MaxLen"], apart := false, laid := [("unicode/utf8.acceptRanges", laid_unicode_utf8_acceptRanges), ("unicode/utf8.first", laid_unicode_utf8_first)] }
def LeaseEpochsSaid : Prop := leaseEpochsRow.holds Tryd.pinned (OpenSpec.ofChange leaseEpochsSpec)

/-- ITS FALSE NEIGHBOUR: 'it returns false'. Refute it at one input. -/
def leaseEpochsWrong : ChangeSpec := { name := "leaseEpochs", fn := fun _ => fun
  | [d] => { results := [.lit (.bool false)], args := [d] }
  | _ => none }
def LeaseEpochsWrongFalsely : Prop := leaseEpochsRow.holds Tryd.pinned (OpenSpec.ofChange leaseEpochsWrong)

/-- 'subwaylaw13.LeaseKept': WHATEVER THE INPUT: true; the input reads as it did. -/
def leaseKeptSpec : ChangeSpec := { name := "leaseKept", fn := fun _ => fun
  | [d1, d2, d3, d4, d5, d6] => { results := [.lit (.bool true)], args := [d1, d2, d3, d4, d5, d6] }
  | _ => none }
def leaseKeptRow : OpenClaim := { program := "ytefnfhhdcginmaadoor", sum := "a6aa12ab524878a4dbd66ff17bcc40f8574400d12afa5aa0ac97c5db074e2e41", func := "subway/subwaylaw13.LeaseKept", spec := "leaseKept", inPlace := ["internal/bytealg.IndexByteString", "internal/bytealg.IndexString"], unfollowed := true, recurses := true, named := ["unicode/utf8.first", "unicode/utf8.acceptRanges", "internal/bytealg.MaxLen"], apart := false, laid := [("unicode/utf8.acceptRanges", laid_unicode_utf8_acceptRanges), ("unicode/utf8.first", laid_unicode_utf8_first)] }
def LeaseKeptSaid : Prop := leaseKeptRow.holds Tryd.pinned (OpenSpec.ofChange leaseKeptSpec)

/-- ITS FALSE NEIGHBOUR: 'it returns false'. Refute it at one input. -/
def leaseKeptWrong : ChangeSpec := { name := "leaseKept", fn := fun _ => fun
  | [d1, d2, d3, d4, d5, d6] => { results := [.lit (.bool false)], args := [d1, d2, d3, d4, d5, d6] }
  | _ => none }
def LeaseKeptWrongFalsely : Prop := leaseKeptRow.holds Tryd.pinned (OpenSpec.ofChange leaseKeptWrong)

/-- 'subwaylaw13.LeaseTimes': WHATEVER THE INPUT: true; the input reads as it did. -/
def leaseTimesSpec : ChangeSpec := { name := "leaseTimes", fn := fun _ => fun
  | [d1, d2, d3, d4, d5, d6] => { results := [.lit (.bool true)], args := [d1, d2, d3, d4, d5, d6] }
  | _ => none }
def leaseTimesRow : OpenClaim := { program := "ytefnfhhdcginmaadoor", sum := "a6aa12ab524878a4dbd66ff17bcc40f8574400d12afa5aa0ac97c5db074e2e41", func := "subway/subwaylaw13.LeaseTimes", spec := "leaseTimes", inPlace := ["internal/bytealg.IndexByteString", "internal/bytealg.IndexString"], unfollowed := true, recurses := true, named := ["unicode/utf8.first", "unicode/utf8.acceptRanges", "internal/bytealg.MaxLen"], apart := false, laid := [("unicode/utf8.acceptRanges", laid_unicode_utf8_acceptRanges), ("unicode/utf8.first", laid_unicode_utf8_first)] }
def LeaseTimesSaid : Prop := leaseTimesRow.holds Tryd.pinned (OpenSpec.ofChange leaseTimesSpec)

/-- ITS FALSE NEIGHBOUR: 'it returns false'. Refute it at one input. -/
def leaseTimesWrong : ChangeSpec := { name := "leaseTimes", fn := fun _ => fun
  | [d1, d2, d3, d4, d5, d6] => { results := [.lit (.bool false)], args := [d1, d2, d3, d4, d5, d6] }
  | _ => none }
def LeaseTimesWrongFalsely : Prop := leaseTimesRow.holds Tryd.pinned (OpenSpec.ofChange leaseTimesWrong)

/-- 'subwaylaw13.LeaseLeaves': WHATEVER THE INPUT: true; the input reads as it did. -/
def leaseLeavesSpec : ChangeSpec := { name := "leaseLeaves", fn := fun _ => fun
  | [d1, d2, d3] => { results := [.lit (.bool true)], args := [d1, d2, d3] }
  | _ => none }
def leaseLeavesRow : OpenClaim := { program := "ytefnfhhdcginmaadoor", sum := "a6aa12ab524878a4dbd66ff17bcc40f8574400d12afa5aa0ac97c5db074e2e41", func := "subway/subwaylaw13.LeaseLeaves", spec := "leaseLeaves", inPlace := ["internal/bytealg.IndexByteString", "internal/bytealg.IndexString"], unfollowed := true, recurses := true, named := ["unicode/utf8.first", "unicode/utf8.acceptRanges", "internal/bytealg.MaxLen"], apart := false, laid := [("unicode/utf8.acceptRanges", laid_unicode_utf8_acceptRanges), ("unicode/utf8.first", laid_unicode_utf8_first)] }
def LeaseLeavesSaid : Prop := leaseLeavesRow.holds Tryd.pinned (OpenSpec.ofChange leaseLeavesSpec)

/-- ITS FALSE NEIGHBOUR: 'it returns false'. Refute it at one input. -/
def leaseLeavesWrong : ChangeSpec := { name := "leaseLeaves", fn := fun _ => fun
  | [d1, d2, d3] => { results := [.lit (.bool false)], args := [d1, d2, d3] }
  | _ => none }
def LeaseLeavesWrongFalsely : Prop := leaseLeavesRow.holds Tryd.pinned (OpenSpec.ofChange leaseLeavesWrong)

/- THE SECOND FORM. 'bulk': how many values and letters a reading holds, each counted each time it is reached (what is shared counts as often as it is met; a slice's spare places count too). A statement '..UptoSaid' is the law's where the arguments, and the package variables that the reading takes, are together of bulk at most 1048576: NARROWER than '..Said'. Prove '..Said' where nothing that the law and all that it calls make is longer than what came in: it says more and counts as full. Else prove '..UptoSaid'. A law counts once. -/
mutual
def uptoBulk {H : Type} : DataW H → Nat
  | .lit (.string bytes) => bytes.length + 1
  | .lit _ => 1
  | .nil => 1
  | .ptr d => uptoBulk d + 1
  | .slice elems spare => uptoBulkAll elems + uptoBulkAll spare + 1
  | .agg parts => uptoBulkAll parts + 1
  | .iface _ d => uptoBulk d + 1
  | .map entries => uptoBulkEntries entries + 1
  | .held _ => 1
def uptoBulkAll {H : Type} : List (DataW H) → Nat
  | [] => 0
  | d :: r => uptoBulk d + uptoBulkAll r
def uptoBulkEntries {H : Type} : List (Lit × DataW H) → Nat
  | [] => 0
  | x :: r => uptoBulkEntry x + uptoBulkEntries r
def uptoBulkEntry {H : Type} : Lit × DataW H → Nat
  | (.string bytes, d) => bytes.length + uptoBulk d + 1
  | (_, d) => uptoBulk d + 1
 end
def uptoSmall : (H : Type) → List (DataW H) → Bool := fun _ ds => decide (uptoBulkAll ds ≤ 1048576)
def OpenSpec.upto (s : _root_.Go.ChangeSpec) : _root_.Go.OpenSpec := { _root_.Go.OpenSpec.ofChange s with cond := some uptoSmall }

/-- 'subwaylaw13.LeaseFull', WHERE WHAT IT READS IS OF BULK AT MOST 1048576: true; the input reads as it did. -/
def leaseFullUptoRow : OpenClaim := { program := "ytefnfhhdcginmaadoor", sum := "a6aa12ab524878a4dbd66ff17bcc40f8574400d12afa5aa0ac97c5db074e2e41", func := "subway/subwaylaw13.LeaseFull", spec := "leaseFull", inPlace := ["internal/bytealg.IndexByteString", "internal/bytealg.IndexString"], unfollowed := true, recurses := true, named := ["unicode/utf8.first", "unicode/utf8.acceptRanges", "internal/bytealg.MaxLen"], apart := false, laid := [("unicode/utf8.acceptRanges", laid_unicode_utf8_acceptRanges), ("unicode/utf8.first", laid_unicode_utf8_first)], narrowed := true }
def LeaseFullUptoSaid : Prop := leaseFullUptoRow.holds Tryd.pinned (OpenSpec.upto leaseFullSpec)

/-- 'subwaylaw13.LeasePlays', WHERE WHAT IT READS IS OF BULK AT MOST 1048576: true; the input reads as it did. -/
def leasePlaysUptoRow : OpenClaim := { program := "ytefnfhhdcginmaadoor", sum := "a6aa12ab524878a4dbd66ff17bcc40f8574400d12afa5aa0ac97c5db074e2e41", func := "subway/subwaylaw13.LeasePlays", spec := "leasePlays", inPlace := ["internal/bytealg.IndexByteString", "internal/bytealg.IndexString"], unfollowed := true, recurses := true, named := ["unicode/utf8.first", "unicode/utf8.acceptRanges", "internal/bytealg.MaxLen"], apart := false, laid := [("unicode/utf8.acceptRanges", laid_unicode_utf8_acceptRanges), ("unicode/utf8.first", laid_unicode_utf8_first)], narrowed := true }
def LeasePlaysUptoSaid : Prop := leasePlaysUptoRow.holds Tryd.pinned (OpenSpec.upto leasePlaysSpec)

/-- 'subwaylaw13.LeaseOne', WHERE WHAT IT READS IS OF BULK AT MOST 1048576: true; the input reads as it did. -/
def leaseOneUptoRow : OpenClaim := { program := "ytefnfhhdcginmaadoor", sum := "a6aa12ab524878a4dbd66ff17bcc40f8574400d12afa5aa0ac97c5db074e2e41", func := "subway/subwaylaw13.LeaseOne", spec := "leaseOne", inPlace := ["internal/bytealg.IndexByteString", "internal/bytealg.IndexString"], unfollowed := true, recurses := true, named := ["unicode/utf8.first", "unicode/utf8.acceptRanges", "internal/bytealg.MaxLen"], apart := false, laid := [("unicode/utf8.acceptRanges", laid_unicode_utf8_acceptRanges), ("unicode/utf8.first", laid_unicode_utf8_first)], narrowed := true }
def LeaseOneUptoSaid : Prop := leaseOneUptoRow.holds Tryd.pinned (OpenSpec.upto leaseOneSpec)

/-- 'subwaylaw13.LeaseEpochs', WHERE WHAT IT READS IS OF BULK AT MOST 1048576: true; the input reads as it did. -/
def leaseEpochsUptoRow : OpenClaim := { program := "ytefnfhhdcginmaadoor", sum := "a6aa12ab524878a4dbd66ff17bcc40f8574400d12afa5aa0ac97c5db074e2e41", func := "subway/subwaylaw13.LeaseEpochs", spec := "leaseEpochs", inPlace := ["internal/bytealg.IndexByteString", "internal/bytealg.IndexString"], unfollowed := true, recurses := true, named := ["unicode/utf8.first", "unicode/utf8.acceptRanges", "internal/bytealg.MaxLen"], apart := false, laid := [("unicode/utf8.acceptRanges", laid_unicode_utf8_acceptRanges), ("unicode/utf8.first", laid_unicode_utf8_first)], narrowed := true }
def LeaseEpochsUptoSaid : Prop := leaseEpochsUptoRow.holds Tryd.pinned (OpenSpec.upto leaseEpochsSpec)

/-- 'subwaylaw13.LeaseKept', WHERE WHAT IT READS IS OF BULK AT MOST 1048576: true; the input reads as it did. -/
def leaseKeptUptoRow : OpenClaim := { program := "ytefnfhhdcginmaadoor", sum := "a6aa12ab524878a4dbd66ff17bcc40f8574400d12afa5aa0ac97c5db074e2e41", func := "subway/subwaylaw13.LeaseKept", spec := "leaseKept", inPlace := ["internal/bytealg.IndexByteString", "internal/bytealg.IndexString"], unfollowed := true, recurses := true, named := ["unicode/utf8.first", "unicode/utf8.acceptRanges", "internal/bytealg.MaxLen"], apart := false, laid := [("unicode/utf8.acceptRanges", laid_unicode_utf8_acceptRanges), ("unicode/utf8.first", laid_unicode_utf8_first)], narrowed := true }
def LeaseKeptUptoSaid : Prop := leaseKeptUptoRow.holds Tryd.pinned (OpenSpec.upto leaseKeptSpec)

/-- 'subwaylaw13.LeaseTimes', WHERE WHAT IT READS IS OF BULK AT MOST 1048576: true; the input reads as it did. -/
def leaseTimesUptoRow : OpenClaim := { program := "ytefnfhhdcginmaadoor", sum := "a6aa12ab524878a4dbd66ff17bcc40f8574400d12afa5aa0ac97c5db074e2e41", func := "subway/subwaylaw13.LeaseTimes", spec := "leaseTimes", inPlace := ["internal/bytealg.IndexByteString", "internal/bytealg.IndexString"], unfollowed := true, recurses := true, named := ["unicode/utf8.first", "unicode/utf8.acceptRanges", "internal/bytealg.MaxLen"], apart := false, laid := [("unicode/utf8.acceptRanges", laid_unicode_utf8_acceptRanges), ("unicode/utf8.first", laid_unicode_utf8_first)], narrowed := true }
def LeaseTimesUptoSaid : Prop := leaseTimesUptoRow.holds Tryd.pinned (OpenSpec.upto leaseTimesSpec)

/-- 'subwaylaw13.LeaseLeaves', WHERE WHAT IT READS IS OF BULK AT MOST 1048576: true; the input reads as it did. -/
def leaseLeavesUptoRow : OpenClaim := { program := "ytefnfhhdcginmaadoor", sum := "a6aa12ab524878a4dbd66ff17bcc40f8574400d12afa5aa0ac97c5db074e2e41", func := "subway/subwaylaw13.LeaseLeaves", spec := "leaseLeaves", inPlace := ["internal/bytealg.IndexByteString", "internal/bytealg.IndexString"], unfollowed := true, recurses := true, named := ["unicode/utf8.first", "unicode/utf8.acceptRanges", "internal/bytealg.MaxLen"], apart := false, laid := [("unicode/utf8.acceptRanges", laid_unicode_utf8_acceptRanges), ("unicode/utf8.first", laid_unicode_utf8_first)], narrowed := true }
def LeaseLeavesUptoSaid : Prop := leaseLeavesUptoRow.holds Tryd.pinned (OpenSpec.upto leaseLeavesSpec)

end Rows
end Go.Proofs.YtefnfhhdcginmaaDoor
