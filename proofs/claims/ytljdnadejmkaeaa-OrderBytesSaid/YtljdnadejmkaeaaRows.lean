/-
  No cell of these rows narrows 'for every input' (looked for: loops, veiled, ifaces, maps, wideKeys, modest, calm, conditions, laid).
  DERIVED. THE GIVEN ROWS OF THIS SEAT. 9 by the template 'for every input the law returns true; each argument reads behind the call as it read before'; 0 by the template 'total and deterministic' (their statements: YtljdnadejmkaeaaTotals.lean).
  GIVEN WITH THE SEED: the statements are not yours to turn. If you find one false, say at which input.
  Laid BY PROGRAM, IN A SANDBOX (cutbox-rows.mjs): the forced cells as the released guide's own fill.sh prints them over the translation 2ce77b953e85f1ca… (all of the seat's roots in one cut). By AI agents, Wed Nov 11 2026. No macro, syntax, notation, axiom, sorry.
-/
import Derived.Test.YtljdnadejmkaeaaChecked
import GoSem.Claim
import GoSem.ClaimJoined
import GoSem.ClaimMapViews
import Derived.JoinedTies
import Derived.KernelRfl
namespace Go.Proofs.Ytljdnadejmkaeaa
/- THE CELL 'sum', in the pinned program and in every row, IS THE sha256 OF THE DUMP (.gsa) THAT YtljdnadejmkaeaaProg.lean LOADS. Nothing in Lean hashes anything: it is a label: what it is worth is what the hold of that sum in a sandbox is worth. -/
noncomputable def Try.pinned : Pinned := { name := "ytljdnadejmkaeaa", sum := "2ce77b953e85f1ca2c1e29413228c7bc217711585c799f4a55abe7f96d28bddc", checked := Try.checked }
namespace Rows
def none {H : Type} : Left H := { results := [], args := [] }

/-- 'backstitchlaw3.LeaveFrames': WHATEVER THE INPUT: true; the input reads as it did. -/
def leaveFramesSpec : ChangeSpec := { name := "leaveFrames", fn := fun _ => fun
  | [d1, d2, d3] => { results := [.lit (.bool true)], args := [d1, d2, d3] }
  | _ => none }
def leaveFramesRow : OpenClaim := { program := "ytljdnadejmkaeaa", sum := "2ce77b953e85f1ca2c1e29413228c7bc217711585c799f4a55abe7f96d28bddc", func := "backstitch/backstitchlaw3.LeaveFrames", spec := "leaveFrames", apart := false }
def LeaveFramesSaid : Prop := leaveFramesRow.holds Try.pinned (OpenSpec.ofChange leaveFramesSpec)

/-- ITS FALSE NEIGHBOUR: 'it returns false'. Refute it at one input. -/
def leaveFramesWrong : ChangeSpec := { name := "leaveFrames", fn := fun _ => fun
  | [d1, d2, d3] => { results := [.lit (.bool false)], args := [d1, d2, d3] }
  | _ => none }
def LeaveFramesWrongFalsely : Prop := leaveFramesRow.holds Try.pinned (OpenSpec.ofChange leaveFramesWrong)

/-- 'backstitchlaw3.LeaveCells': WHATEVER THE INPUT: true; the input reads as it did. -/
def leaveCellsSpec : ChangeSpec := { name := "leaveCells", fn := fun _ => fun
  | [d1, d2, d3] => { results := [.lit (.bool true)], args := [d1, d2, d3] }
  | _ => none }
def leaveCellsRow : OpenClaim := { program := "ytljdnadejmkaeaa", sum := "2ce77b953e85f1ca2c1e29413228c7bc217711585c799f4a55abe7f96d28bddc", func := "backstitch/backstitchlaw3.LeaveCells", spec := "leaveCells", apart := false }
def LeaveCellsSaid : Prop := leaveCellsRow.holds Try.pinned (OpenSpec.ofChange leaveCellsSpec)

/-- ITS FALSE NEIGHBOUR: 'it returns false'. Refute it at one input. -/
def leaveCellsWrong : ChangeSpec := { name := "leaveCells", fn := fun _ => fun
  | [d1, d2, d3] => { results := [.lit (.bool false)], args := [d1, d2, d3] }
  | _ => none }
def LeaveCellsWrongFalsely : Prop := leaveCellsRow.holds Try.pinned (OpenSpec.ofChange leaveCellsWrong)

/-- 'backstitchlaw3.MovesTell': WHATEVER THE INPUT: true; the input reads as it did. -/
def movesTellSpec : ChangeSpec := { name := "movesTell", fn := fun _ => fun
  | [d1, d2] => { results := [.lit (.bool true)], args := [d1, d2] }
  | _ => none }
def movesTellRow : OpenClaim := { program := "ytljdnadejmkaeaa", sum := "2ce77b953e85f1ca2c1e29413228c7bc217711585c799f4a55abe7f96d28bddc", func := "backstitch/backstitchlaw3.MovesTell", spec := "movesTell", unfollowed := true, recurses := true, apart := false }
def MovesTellSaid : Prop := movesTellRow.holds Try.pinned (OpenSpec.ofChange movesTellSpec)

/-- ITS FALSE NEIGHBOUR: 'it returns false'. Refute it at one input. -/
def movesTellWrong : ChangeSpec := { name := "movesTell", fn := fun _ => fun
  | [d1, d2] => { results := [.lit (.bool false)], args := [d1, d2] }
  | _ => none }
def MovesTellWrongFalsely : Prop := movesTellRow.holds Try.pinned (OpenSpec.ofChange movesTellWrong)

/-- 'backstitchlaw3.MovesRun': WHATEVER THE INPUT: true; the input reads as it did. -/
def movesRunSpec : ChangeSpec := { name := "movesRun", fn := fun _ => fun
  | [d1, d2] => { results := [.lit (.bool true)], args := [d1, d2] }
  | _ => none }
def movesRunRow : OpenClaim := { program := "ytljdnadejmkaeaa", sum := "2ce77b953e85f1ca2c1e29413228c7bc217711585c799f4a55abe7f96d28bddc", func := "backstitch/backstitchlaw3.MovesRun", spec := "movesRun", unfollowed := true, recurses := true, apart := false }
def MovesRunSaid : Prop := movesRunRow.holds Try.pinned (OpenSpec.ofChange movesRunSpec)

/-- ITS FALSE NEIGHBOUR: 'it returns false'. Refute it at one input. -/
def movesRunWrong : ChangeSpec := { name := "movesRun", fn := fun _ => fun
  | [d1, d2] => { results := [.lit (.bool false)], args := [d1, d2] }
  | _ => none }
def MovesRunWrongFalsely : Prop := movesRunRow.holds Try.pinned (OpenSpec.ofChange movesRunWrong)

/-- 'backstitchlaw3.LiveTells': WHATEVER THE INPUT: true; the input reads as it did. -/
def liveTellsSpec : ChangeSpec := { name := "liveTells", fn := fun _ => fun
  | [d] => { results := [.lit (.bool true)], args := [d] }
  | _ => none }
def liveTellsRow : OpenClaim := { program := "ytljdnadejmkaeaa", sum := "2ce77b953e85f1ca2c1e29413228c7bc217711585c799f4a55abe7f96d28bddc", func := "backstitch/backstitchlaw3.LiveTells", spec := "liveTells", unfollowed := true, recurses := true, apart := false }
def LiveTellsSaid : Prop := liveTellsRow.holds Try.pinned (OpenSpec.ofChange liveTellsSpec)

/-- ITS FALSE NEIGHBOUR: 'it returns false'. Refute it at one input. -/
def liveTellsWrong : ChangeSpec := { name := "liveTells", fn := fun _ => fun
  | [d] => { results := [.lit (.bool false)], args := [d] }
  | _ => none }
def LiveTellsWrongFalsely : Prop := liveTellsRow.holds Try.pinned (OpenSpec.ofChange liveTellsWrong)

/-- 'backstitchlaw3.LiveMost': WHATEVER THE INPUT: true; the input reads as it did. -/
def liveMostSpec : ChangeSpec := { name := "liveMost", fn := fun _ => fun
  | [d] => { results := [.lit (.bool true)], args := [d] }
  | _ => none }
def liveMostRow : OpenClaim := { program := "ytljdnadejmkaeaa", sum := "2ce77b953e85f1ca2c1e29413228c7bc217711585c799f4a55abe7f96d28bddc", func := "backstitch/backstitchlaw3.LiveMost", spec := "liveMost", unfollowed := true, recurses := true, apart := false }
def LiveMostSaid : Prop := liveMostRow.holds Try.pinned (OpenSpec.ofChange liveMostSpec)

/-- ITS FALSE NEIGHBOUR: 'it returns false'. Refute it at one input. -/
def liveMostWrong : ChangeSpec := { name := "liveMost", fn := fun _ => fun
  | [d] => { results := [.lit (.bool false)], args := [d] }
  | _ => none }
def LiveMostWrongFalsely : Prop := liveMostRow.holds Try.pinned (OpenSpec.ofChange liveMostWrong)

/-- 'backstitchlaw3.ScanTells': WHATEVER THE INPUT: true; the input reads as it did. -/
def scanTellsSpec : ChangeSpec := { name := "scanTells", fn := fun _ => fun
  | [d1, d2] => { results := [.lit (.bool true)], args := [d1, d2] }
  | _ => none }
def scanTellsRow : OpenClaim := { program := "ytljdnadejmkaeaa", sum := "2ce77b953e85f1ca2c1e29413228c7bc217711585c799f4a55abe7f96d28bddc", func := "backstitch/backstitchlaw3.ScanTells", spec := "scanTells", unfollowed := true, recurses := true, apart := false }
def ScanTellsSaid : Prop := scanTellsRow.holds Try.pinned (OpenSpec.ofChange scanTellsSpec)

/-- ITS FALSE NEIGHBOUR: 'it returns false'. Refute it at one input. -/
def scanTellsWrong : ChangeSpec := { name := "scanTells", fn := fun _ => fun
  | [d1, d2] => { results := [.lit (.bool false)], args := [d1, d2] }
  | _ => none }
def ScanTellsWrongFalsely : Prop := scanTellsRow.holds Try.pinned (OpenSpec.ofChange scanTellsWrong)

/-- 'backstitchlaw3.ScanClash': WHATEVER THE INPUT: true; the input reads as it did. -/
def scanClashSpec : ChangeSpec := { name := "scanClash", fn := fun _ => fun
  | [d1, d2] => { results := [.lit (.bool true)], args := [d1, d2] }
  | _ => none }
def scanClashRow : OpenClaim := { program := "ytljdnadejmkaeaa", sum := "2ce77b953e85f1ca2c1e29413228c7bc217711585c799f4a55abe7f96d28bddc", func := "backstitch/backstitchlaw3.ScanClash", spec := "scanClash", unfollowed := true, recurses := true, apart := false }
def ScanClashSaid : Prop := scanClashRow.holds Try.pinned (OpenSpec.ofChange scanClashSpec)

/-- ITS FALSE NEIGHBOUR: 'it returns false'. Refute it at one input. -/
def scanClashWrong : ChangeSpec := { name := "scanClash", fn := fun _ => fun
  | [d1, d2] => { results := [.lit (.bool false)], args := [d1, d2] }
  | _ => none }
def ScanClashWrongFalsely : Prop := scanClashRow.holds Try.pinned (OpenSpec.ofChange scanClashWrong)

/-- 'backstitchlaw3.OrderBytes': WHATEVER THE INPUT: true; the input reads as it did. -/
def orderBytesSpec : ChangeSpec := { name := "orderBytes", fn := fun _ => fun
  | [d] => { results := [.lit (.bool true)], args := [d] }
  | _ => none }
def orderBytesRow : OpenClaim := { program := "ytljdnadejmkaeaa", sum := "2ce77b953e85f1ca2c1e29413228c7bc217711585c799f4a55abe7f96d28bddc", func := "backstitch/backstitchlaw3.OrderBytes", spec := "orderBytes", unfollowed := true, recurses := true, apart := false }
def OrderBytesSaid : Prop := orderBytesRow.holds Try.pinned (OpenSpec.ofChange orderBytesSpec)

/-- ITS FALSE NEIGHBOUR: 'it returns false'. Refute it at one input. -/
def orderBytesWrong : ChangeSpec := { name := "orderBytes", fn := fun _ => fun
  | [d] => { results := [.lit (.bool false)], args := [d] }
  | _ => none }
def OrderBytesWrongFalsely : Prop := orderBytesRow.holds Try.pinned (OpenSpec.ofChange orderBytesWrong)

/- THE SECOND FORM. 'bulk': how many values and letters a reading holds, each counted each time it is reached (what is shared counts as often as it is met; a slice's spare places count too). A statement '..UptoSaid' is the law's where the arguments, and the package variables that the reading takes, are together of bulk at most 1048576: NARROWER than '..Said'. Prove '..Said' where nothing that the law and all that it calls make is longer than what came in: it says more and counts as full. Else prove '..UptoSaid'. A law counts once. -/
mutual
def uptoBulk {H : Type} : DataW H → Nat
  | .lit (.string bytes) => bytes.length + 1
  | .lit _ => 1
  | .nil => 1
  | .ptr d => uptoBulk d + 1
  | .slice elems spare => uptoBulkAll elems + uptoBulkAll spare + 1
  | .agg parts => uptoBulkAll parts + 1
  | .iface _ d => uptoBulk d + 1
  | .map entries => uptoBulkEntries entries + 1
  | .held _ => 1
def uptoBulkAll {H : Type} : List (DataW H) → Nat
  | [] => 0
  | d :: r => uptoBulk d + uptoBulkAll r
def uptoBulkEntries {H : Type} : List (Lit × DataW H) → Nat
  | [] => 0
  | x :: r => uptoBulkEntry x + uptoBulkEntries r
def uptoBulkEntry {H : Type} : Lit × DataW H → Nat
  | (.string bytes, d) => bytes.length + uptoBulk d + 1
  | (_, d) => uptoBulk d + 1
 end
def uptoSmall : (H : Type) → List (DataW H) → Bool := fun _ ds => decide (uptoBulkAll ds ≤ 1048576)
def OpenSpec.upto (s : _root_.Go.ChangeSpec) : _root_.Go.OpenSpec := { _root_.Go.OpenSpec.ofChange s with cond := some uptoSmall }

/-- 'backstitchlaw3.LeaveFrames', WHERE WHAT IT READS IS OF BULK AT MOST 1048576: true; the input reads as it did. -/
def leaveFramesUptoRow : OpenClaim := { program := "ytljdnadejmkaeaa", sum := "2ce77b953e85f1ca2c1e29413228c7bc217711585c799f4a55abe7f96d28bddc", func := "backstitch/backstitchlaw3.LeaveFrames", spec := "leaveFrames", apart := false, narrowed := true }
def LeaveFramesUptoSaid : Prop := leaveFramesUptoRow.holds Try.pinned (OpenSpec.upto leaveFramesSpec)

/-- 'backstitchlaw3.LeaveCells', WHERE WHAT IT READS IS OF BULK AT MOST 1048576: true; the input reads as it did. -/
def leaveCellsUptoRow : OpenClaim := { program := "ytljdnadejmkaeaa", sum := "2ce77b953e85f1ca2c1e29413228c7bc217711585c799f4a55abe7f96d28bddc", func := "backstitch/backstitchlaw3.LeaveCells", spec := "leaveCells", apart := false, narrowed := true }
def LeaveCellsUptoSaid : Prop := leaveCellsUptoRow.holds Try.pinned (OpenSpec.upto leaveCellsSpec)

/-- 'backstitchlaw3.MovesTell', WHERE WHAT IT READS IS OF BULK AT MOST 1048576: true; the input reads as it did. -/
def movesTellUptoRow : OpenClaim := { program := "ytljdnadejmkaeaa", sum := "2ce77b953e85f1ca2c1e29413228c7bc217711585c799f4a55abe7f96d28bddc", func := "backstitch/backstitchlaw3.MovesTell", spec := "movesTell", unfollowed := true, recurses := true, apart := false, narrowed := true }
def MovesTellUptoSaid : Prop := movesTellUptoRow.holds Try.pinned (OpenSpec.upto movesTellSpec)

/-- 'backstitchlaw3.MovesRun', WHERE WHAT IT READS IS OF BULK AT MOST 1048576: true; the input reads as it did. -/
def movesRunUptoRow : OpenClaim := { program := "ytljdnadejmkaeaa", sum := "2ce77b953e85f1ca2c1e29413228c7bc217711585c799f4a55abe7f96d28bddc", func := "backstitch/backstitchlaw3.MovesRun", spec := "movesRun", unfollowed := true, recurses := true, apart := false, narrowed := true }
def MovesRunUptoSaid : Prop := movesRunUptoRow.holds Try.pinned (OpenSpec.upto movesRunSpec)

/-- 'backstitchlaw3.LiveTells', WHERE WHAT IT READS IS OF BULK AT MOST 1048576: true; the input reads as it did. -/
def liveTellsUptoRow : OpenClaim := { program := "ytljdnadejmkaeaa", sum := "2ce77b953e85f1ca2c1e29413228c7bc217711585c799f4a55abe7f96d28bddc", func := "backstitch/backstitchlaw3.LiveTells", spec := "liveTells", unfollowed := true, recurses := true, apart := false, narrowed := true }
def LiveTellsUptoSaid : Prop := liveTellsUptoRow.holds Try.pinned (OpenSpec.upto liveTellsSpec)

/-- 'backstitchlaw3.LiveMost', WHERE WHAT IT READS IS OF BULK AT MOST 1048576: true; the input reads as it did. -/
def liveMostUptoRow : OpenClaim := { program := "ytljdnadejmkaeaa", sum := "2ce77b953e85f1ca2c1e29413228c7bc217711585c799f4a55abe7f96d28bddc", func := "backstitch/backstitchlaw3.LiveMost", spec := "liveMost", unfollowed := true, recurses := true, apart := false, narrowed := true }
def LiveMostUptoSaid : Prop := liveMostUptoRow.holds Try.pinned (OpenSpec.upto liveMostSpec)

/-- 'backstitchlaw3.ScanTells', WHERE WHAT IT READS IS OF BULK AT MOST 1048576: true; the input reads as it did. -/
def scanTellsUptoRow : OpenClaim := { program := "ytljdnadejmkaeaa", sum := "2ce77b953e85f1ca2c1e29413228c7bc217711585c799f4a55abe7f96d28bddc", func := "backstitch/backstitchlaw3.ScanTells", spec := "scanTells", unfollowed := true, recurses := true, apart := false, narrowed := true }
def ScanTellsUptoSaid : Prop := scanTellsUptoRow.holds Try.pinned (OpenSpec.upto scanTellsSpec)

/-- 'backstitchlaw3.ScanClash', WHERE WHAT IT READS IS OF BULK AT MOST 1048576: true; the input reads as it did. -/
def scanClashUptoRow : OpenClaim := { program := "ytljdnadejmkaeaa", sum := "2ce77b953e85f1ca2c1e29413228c7bc217711585c799f4a55abe7f96d28bddc", func := "backstitch/backstitchlaw3.ScanClash", spec := "scanClash", unfollowed := true, recurses := true, apart := false, narrowed := true }
def ScanClashUptoSaid : Prop := scanClashUptoRow.holds Try.pinned (OpenSpec.upto scanClashSpec)

/-- 'backstitchlaw3.OrderBytes', WHERE WHAT IT READS IS OF BULK AT MOST 1048576: true; the input reads as it did. -/
def orderBytesUptoRow : OpenClaim := { program := "ytljdnadejmkaeaa", sum := "2ce77b953e85f1ca2c1e29413228c7bc217711585c799f4a55abe7f96d28bddc", func := "backstitch/backstitchlaw3.OrderBytes", spec := "orderBytes", unfollowed := true, recurses := true, apart := false, narrowed := true }
def OrderBytesUptoSaid : Prop := orderBytesUptoRow.holds Try.pinned (OpenSpec.upto orderBytesSpec)

end Rows
end Go.Proofs.Ytljdnadejmkaeaa
