/-
  No cell of these rows narrows 'for every input' (looked for: loops, veiled, ifaces, maps, wideKeys, modest, calm, conditions, laid).
  DERIVED. THE GIVEN ROWS OF THIS SEAT. 10 by the template 'for every input the law returns true; each argument reads behind the call as it read before'; 0 by the template 'total and deterministic' (their statements: YtpkccpegdpodoaaTotals.lean).
  GIVEN WITH THE SEED: the statements are not yours to turn. If you find one false, say at which input.
  Laid BY PROGRAM, IN A SANDBOX (cutbox-rows.mjs): the forced cells as the released guide's own fill.sh prints them over the translation 86b3307e34346029… (all of the seat's roots in one cut). By AI agents, Wed Nov 11 2026. No macro, syntax, notation, axiom, sorry.
-/
import Derived.Test.YtpkccpegdpodoaaChecked
import GoSem.Claim
import GoSem.ClaimJoined
import GoSem.ClaimMapViews
import Derived.JoinedTies
import Derived.KernelRfl
namespace Go.Proofs.Ytpkccpegdpodoaa
/- THE CELL 'sum', in the pinned program and in every row, IS THE sha256 OF THE DUMP (.gsa) THAT YtpkccpegdpodoaaProg.lean LOADS. Nothing in Lean hashes anything: it is a label: what it is worth is what the hold of that sum in a sandbox is worth. -/
noncomputable def Try.pinned : Pinned := { name := "ytpkccpegdpodoaa", sum := "86b3307e34346029adc5b7fda6d2b7a95437d1b16e58126627a76f9c8a1c1c5d", checked := Try.checked }
namespace Rows
def none {H : Type} : Left H := { results := [], args := [] }

/-- 'backstitchlaw3.NanboxTells': WHATEVER THE INPUT: true; the input reads as it did. -/
def nanboxTellsSpec : ChangeSpec := { name := "nanboxTells", fn := fun _ => fun
  | [d1, d2] => { results := [.lit (.bool true)], args := [d1, d2] }
  | _ => none }
def nanboxTellsRow : OpenClaim := { program := "ytpkccpegdpodoaa", sum := "86b3307e34346029adc5b7fda6d2b7a95437d1b16e58126627a76f9c8a1c1c5d", func := "backstitch/backstitchlaw3.NanboxTells", spec := "nanboxTells", apart := false }
def NanboxTellsSaid : Prop := nanboxTellsRow.holds Try.pinned (OpenSpec.ofChange nanboxTellsSpec)

/-- ITS FALSE NEIGHBOUR: 'it returns false'. Refute it at one input. -/
def nanboxTellsWrong : ChangeSpec := { name := "nanboxTells", fn := fun _ => fun
  | [d1, d2] => { results := [.lit (.bool false)], args := [d1, d2] }
  | _ => none }
def NanboxTellsWrongFalsely : Prop := nanboxTellsRow.holds Try.pinned (OpenSpec.ofChange nanboxTellsWrong)

/-- 'backstitchlaw3.WordsTell': WHATEVER THE INPUT: true; the input reads as it did. -/
def wordsTellSpec : ChangeSpec := { name := "wordsTell", fn := fun _ => fun
  | [d] => { results := [.lit (.bool true)], args := [d] }
  | _ => none }
def wordsTellRow : OpenClaim := { program := "ytpkccpegdpodoaa", sum := "86b3307e34346029adc5b7fda6d2b7a95437d1b16e58126627a76f9c8a1c1c5d", func := "backstitch/backstitchlaw3.WordsTell", spec := "wordsTell", apart := false }
def WordsTellSaid : Prop := wordsTellRow.holds Try.pinned (OpenSpec.ofChange wordsTellSpec)

/-- ITS FALSE NEIGHBOUR: 'it returns false'. Refute it at one input. -/
def wordsTellWrong : ChangeSpec := { name := "wordsTell", fn := fun _ => fun
  | [d] => { results := [.lit (.bool false)], args := [d] }
  | _ => none }
def WordsTellWrongFalsely : Prop := wordsTellRow.holds Try.pinned (OpenSpec.ofChange wordsTellWrong)

/-- 'backstitchlaw3.WeakTells': WHATEVER THE INPUT: true; the input reads as it did. -/
def weakTellsSpec : ChangeSpec := { name := "weakTells", fn := fun _ => fun
  | [d1, d2] => { results := [.lit (.bool true)], args := [d1, d2] }
  | _ => none }
def weakTellsRow : OpenClaim := { program := "ytpkccpegdpodoaa", sum := "86b3307e34346029adc5b7fda6d2b7a95437d1b16e58126627a76f9c8a1c1c5d", func := "backstitch/backstitchlaw3.WeakTells", spec := "weakTells", unfollowed := true, recurses := true, apart := false }
def WeakTellsSaid : Prop := weakTellsRow.holds Try.pinned (OpenSpec.ofChange weakTellsSpec)

/-- ITS FALSE NEIGHBOUR: 'it returns false'. Refute it at one input. -/
def weakTellsWrong : ChangeSpec := { name := "weakTells", fn := fun _ => fun
  | [d1, d2] => { results := [.lit (.bool false)], args := [d1, d2] }
  | _ => none }
def WeakTellsWrongFalsely : Prop := weakTellsRow.holds Try.pinned (OpenSpec.ofChange weakTellsWrong)

/-- 'backstitchlaw3.WordsAll': WHATEVER THE INPUT: true; the input reads as it did. -/
def wordsAllSpec : ChangeSpec := { name := "wordsAll", fn := fun _ => fun
  | [d] => { results := [.lit (.bool true)], args := [d] }
  | _ => none }
def wordsAllRow : OpenClaim := { program := "ytpkccpegdpodoaa", sum := "86b3307e34346029adc5b7fda6d2b7a95437d1b16e58126627a76f9c8a1c1c5d", func := "backstitch/backstitchlaw3.WordsAll", spec := "wordsAll", apart := false }
def WordsAllSaid : Prop := wordsAllRow.holds Try.pinned (OpenSpec.ofChange wordsAllSpec)

/-- ITS FALSE NEIGHBOUR: 'it returns false'. Refute it at one input. -/
def wordsAllWrong : ChangeSpec := { name := "wordsAll", fn := fun _ => fun
  | [d] => { results := [.lit (.bool false)], args := [d] }
  | _ => none }
def WordsAllWrongFalsely : Prop := wordsAllRow.holds Try.pinned (OpenSpec.ofChange wordsAllWrong)

/-- 'backstitchlaw3.HaulTells': WHATEVER THE INPUT: true; the input reads as it did. -/
def haulTellsSpec : ChangeSpec := { name := "haulTells", fn := fun _ => fun
  | [d] => { results := [.lit (.bool true)], args := [d] }
  | _ => none }
def haulTellsRow : OpenClaim := { program := "ytpkccpegdpodoaa", sum := "86b3307e34346029adc5b7fda6d2b7a95437d1b16e58126627a76f9c8a1c1c5d", func := "backstitch/backstitchlaw3.HaulTells", spec := "haulTells", unfollowed := true, recurses := true, apart := false }
def HaulTellsSaid : Prop := haulTellsRow.holds Try.pinned (OpenSpec.ofChange haulTellsSpec)

/-- ITS FALSE NEIGHBOUR: 'it returns false'. Refute it at one input. -/
def haulTellsWrong : ChangeSpec := { name := "haulTells", fn := fun _ => fun
  | [d] => { results := [.lit (.bool false)], args := [d] }
  | _ => none }
def HaulTellsWrongFalsely : Prop := haulTellsRow.holds Try.pinned (OpenSpec.ofChange haulTellsWrong)

/-- 'backstitchlaw3.OwnsTell': WHATEVER THE INPUT: true; the input reads as it did. -/
def ownsTellSpec : ChangeSpec := { name := "ownsTell", fn := fun _ => fun
  | [d1, d2] => { results := [.lit (.bool true)], args := [d1, d2] }
  | _ => none }
def ownsTellRow : OpenClaim := { program := "ytpkccpegdpodoaa", sum := "86b3307e34346029adc5b7fda6d2b7a95437d1b16e58126627a76f9c8a1c1c5d", func := "backstitch/backstitchlaw3.OwnsTell", spec := "ownsTell", unfollowed := true, recurses := true, apart := false }
def OwnsTellSaid : Prop := ownsTellRow.holds Try.pinned (OpenSpec.ofChange ownsTellSpec)

/-- ITS FALSE NEIGHBOUR: 'it returns false'. Refute it at one input. -/
def ownsTellWrong : ChangeSpec := { name := "ownsTell", fn := fun _ => fun
  | [d1, d2] => { results := [.lit (.bool false)], args := [d1, d2] }
  | _ => none }
def OwnsTellWrongFalsely : Prop := ownsTellRow.holds Try.pinned (OpenSpec.ofChange ownsTellWrong)

/-- 'backstitchlaw3.MarkTells': WHATEVER THE INPUT: true; the input reads as it did. -/
def markTellsSpec : ChangeSpec := { name := "markTells", fn := fun _ => fun
  | [d1, d2] => { results := [.lit (.bool true)], args := [d1, d2] }
  | _ => none }
def markTellsRow : OpenClaim := { program := "ytpkccpegdpodoaa", sum := "86b3307e34346029adc5b7fda6d2b7a95437d1b16e58126627a76f9c8a1c1c5d", func := "backstitch/backstitchlaw3.MarkTells", spec := "markTells", unfollowed := true, recurses := true, apart := false }
def MarkTellsSaid : Prop := markTellsRow.holds Try.pinned (OpenSpec.ofChange markTellsSpec)

/-- ITS FALSE NEIGHBOUR: 'it returns false'. Refute it at one input. -/
def markTellsWrong : ChangeSpec := { name := "markTells", fn := fun _ => fun
  | [d1, d2] => { results := [.lit (.bool false)], args := [d1, d2] }
  | _ => none }
def MarkTellsWrongFalsely : Prop := markTellsRow.holds Try.pinned (OpenSpec.ofChange markTellsWrong)

/-- 'backstitchlaw3.StoreTells': WHATEVER THE INPUT: true; the input reads as it did. -/
def storeTellsSpec : ChangeSpec := { name := "storeTells", fn := fun _ => fun
  | [d1, d2] => { results := [.lit (.bool true)], args := [d1, d2] }
  | _ => none }
def storeTellsRow : OpenClaim := { program := "ytpkccpegdpodoaa", sum := "86b3307e34346029adc5b7fda6d2b7a95437d1b16e58126627a76f9c8a1c1c5d", func := "backstitch/backstitchlaw3.StoreTells", spec := "storeTells", unfollowed := true, recurses := true, apart := false }
def StoreTellsSaid : Prop := storeTellsRow.holds Try.pinned (OpenSpec.ofChange storeTellsSpec)

/-- ITS FALSE NEIGHBOUR: 'it returns false'. Refute it at one input. -/
def storeTellsWrong : ChangeSpec := { name := "storeTells", fn := fun _ => fun
  | [d1, d2] => { results := [.lit (.bool false)], args := [d1, d2] }
  | _ => none }
def StoreTellsWrongFalsely : Prop := storeTellsRow.holds Try.pinned (OpenSpec.ofChange storeTellsWrong)

/-- 'backstitchlaw3.EndsTell': WHATEVER THE INPUT: true; the input reads as it did. -/
def endsTellSpec : ChangeSpec := { name := "endsTell", fn := fun _ => fun
  | [d1, d2] => { results := [.lit (.bool true)], args := [d1, d2] }
  | _ => none }
def endsTellRow : OpenClaim := { program := "ytpkccpegdpodoaa", sum := "86b3307e34346029adc5b7fda6d2b7a95437d1b16e58126627a76f9c8a1c1c5d", func := "backstitch/backstitchlaw3.EndsTell", spec := "endsTell", unfollowed := true, recurses := true, apart := false }
def EndsTellSaid : Prop := endsTellRow.holds Try.pinned (OpenSpec.ofChange endsTellSpec)

/-- ITS FALSE NEIGHBOUR: 'it returns false'. Refute it at one input. -/
def endsTellWrong : ChangeSpec := { name := "endsTell", fn := fun _ => fun
  | [d1, d2] => { results := [.lit (.bool false)], args := [d1, d2] }
  | _ => none }
def EndsTellWrongFalsely : Prop := endsTellRow.holds Try.pinned (OpenSpec.ofChange endsTellWrong)

/-- 'backstitchlaw3.GensTells': WHATEVER THE INPUT: true; the input reads as it did. -/
def gensTellsSpec : ChangeSpec := { name := "gensTells", fn := fun _ => fun
  | [d1, d2] => { results := [.lit (.bool true)], args := [d1, d2] }
  | _ => none }
def gensTellsRow : OpenClaim := { program := "ytpkccpegdpodoaa", sum := "86b3307e34346029adc5b7fda6d2b7a95437d1b16e58126627a76f9c8a1c1c5d", func := "backstitch/backstitchlaw3.GensTells", spec := "gensTells", unfollowed := true, recurses := true, apart := false }
def GensTellsSaid : Prop := gensTellsRow.holds Try.pinned (OpenSpec.ofChange gensTellsSpec)

/-- ITS FALSE NEIGHBOUR: 'it returns false'. Refute it at one input. -/
def gensTellsWrong : ChangeSpec := { name := "gensTells", fn := fun _ => fun
  | [d1, d2] => { results := [.lit (.bool false)], args := [d1, d2] }
  | _ => none }
def GensTellsWrongFalsely : Prop := gensTellsRow.holds Try.pinned (OpenSpec.ofChange gensTellsWrong)

/- THE SECOND FORM. 'bulk': how many values and letters a reading holds, each counted each time it is reached (what is shared counts as often as it is met; a slice's spare places count too). A statement '..UptoSaid' is the law's where the arguments, and the package variables that the reading takes, are together of bulk at most 1048576: NARROWER than '..Said'. Prove '..Said' where nothing that the law and all that it calls make is longer than what came in: it says more and counts as full. Else prove '..UptoSaid'. A law counts once. -/
mutual
def uptoBulk {H : Type} : DataW H → Nat
  | .lit (.string bytes) => bytes.length + 1
  | .lit _ => 1
  | .nil => 1
  | .ptr d => uptoBulk d + 1
  | .slice elems spare => uptoBulkAll elems + uptoBulkAll spare + 1
  | .agg parts => uptoBulkAll parts + 1
  | .iface _ d => uptoBulk d + 1
  | .map entries => uptoBulkEntries entries + 1
  | .held _ => 1
def uptoBulkAll {H : Type} : List (DataW H) → Nat
  | [] => 0
  | d :: r => uptoBulk d + uptoBulkAll r
def uptoBulkEntries {H : Type} : List (Lit × DataW H) → Nat
  | [] => 0
  | x :: r => uptoBulkEntry x + uptoBulkEntries r
def uptoBulkEntry {H : Type} : Lit × DataW H → Nat
  | (.string bytes, d) => bytes.length + uptoBulk d + 1
  | (_, d) => uptoBulk d + 1
 end
def uptoSmall : (H : Type) → List (DataW H) → Bool := fun _ ds => decide (uptoBulkAll ds ≤ 1048576)
def OpenSpec.upto (s : _root_.Go.ChangeSpec) : _root_.Go.OpenSpec := { _root_.Go.OpenSpec.ofChange s with cond := some uptoSmall }

/-- 'backstitchlaw3.NanboxTells', WHERE WHAT IT READS IS OF BULK AT MOST 1048576: true; the input reads as it did. -/
def nanboxTellsUptoRow : OpenClaim := { program := "ytpkccpegdpodoaa", sum := "86b3307e34346029adc5b7fda6d2b7a95437d1b16e58126627a76f9c8a1c1c5d", func := "backstitch/backstitchlaw3.NanboxTells", spec := "nanboxTells", apart := false, narrowed := true }
def NanboxTellsUptoSaid : Prop := nanboxTellsUptoRow.holds Try.pinned (OpenSpec.upto nanboxTellsSpec)

/-- 'backstitchlaw3.WordsTell', WHERE WHAT IT READS IS OF BULK AT MOST 1048576: true; the input reads as it did. -/
def wordsTellUptoRow : OpenClaim := { program := "ytpkccpegdpodoaa", sum := "86b3307e34346029adc5b7fda6d2b7a95437d1b16e58126627a76f9c8a1c1c5d", func := "backstitch/backstitchlaw3.WordsTell", spec := "wordsTell", apart := false, narrowed := true }
def WordsTellUptoSaid : Prop := wordsTellUptoRow.holds Try.pinned (OpenSpec.upto wordsTellSpec)

/-- 'backstitchlaw3.WeakTells', WHERE WHAT IT READS IS OF BULK AT MOST 1048576: true; the input reads as it did. -/
def weakTellsUptoRow : OpenClaim := { program := "ytpkccpegdpodoaa", sum := "86b3307e34346029adc5b7fda6d2b7a95437d1b16e58126627a76f9c8a1c1c5d", func := "backstitch/backstitchlaw3.WeakTells", spec := "weakTells", unfollowed := true, recurses := true, apart := false, narrowed := true }
def WeakTellsUptoSaid : Prop := weakTellsUptoRow.holds Try.pinned (OpenSpec.upto weakTellsSpec)

/-- 'backstitchlaw3.WordsAll', WHERE WHAT IT READS IS OF BULK AT MOST 1048576: true; the input reads as it did. -/
def wordsAllUptoRow : OpenClaim := { program := "ytpkccpegdpodoaa", sum := "86b3307e34346029adc5b7fda6d2b7a95437d1b16e58126627a76f9c8a1c1c5d", func := "backstitch/backstitchlaw3.WordsAll", spec := "wordsAll", apart := false, narrowed := true }
def WordsAllUptoSaid : Prop := wordsAllUptoRow.holds Try.pinned (OpenSpec.upto wordsAllSpec)

/-- 'backstitchlaw3.HaulTells', WHERE WHAT IT READS IS OF BULK AT MOST 1048576: true; the input reads as it did. -/
def haulTellsUptoRow : OpenClaim := { program := "ytpkccpegdpodoaa", sum := "86b3307e34346029adc5b7fda6d2b7a95437d1b16e58126627a76f9c8a1c1c5d", func := "backstitch/backstitchlaw3.HaulTells", spec := "haulTells", unfollowed := true, recurses := true, apart := false, narrowed := true }
def HaulTellsUptoSaid : Prop := haulTellsUptoRow.holds Try.pinned (OpenSpec.upto haulTellsSpec)

/-- 'backstitchlaw3.OwnsTell', WHERE WHAT IT READS IS OF BULK AT MOST 1048576: true; the input reads as it did. -/
def ownsTellUptoRow : OpenClaim := { program := "ytpkccpegdpodoaa", sum := "86b3307e34346029adc5b7fda6d2b7a95437d1b16e58126627a76f9c8a1c1c5d", func := "backstitch/backstitchlaw3.OwnsTell", spec := "ownsTell", unfollowed := true, recurses := true, apart := false, narrowed := true }
def OwnsTellUptoSaid : Prop := ownsTellUptoRow.holds Try.pinned (OpenSpec.upto ownsTellSpec)

/-- 'backstitchlaw3.MarkTells', WHERE WHAT IT READS IS OF BULK AT MOST 1048576: true; the input reads as it did. -/
def markTellsUptoRow : OpenClaim := { program := "ytpkccpegdpodoaa", sum := "86b3307e34346029adc5b7fda6d2b7a95437d1b16e58126627a76f9c8a1c1c5d", func := "backstitch/backstitchlaw3.MarkTells", spec := "markTells", unfollowed := true, recurses := true, apart := false, narrowed := true }
def MarkTellsUptoSaid : Prop := markTellsUptoRow.holds Try.pinned (OpenSpec.upto markTellsSpec)

/-- 'backstitchlaw3.StoreTells', WHERE WHAT IT READS IS OF BULK AT MOST 1048576: true; the input reads as it did. -/
def storeTellsUptoRow : OpenClaim := { program := "ytpkccpegdpodoaa", sum := "86b3307e34346029adc5b7fda6d2b7a95437d1b16e58126627a76f9c8a1c1c5d", func := "backstitch/backstitchlaw3.StoreTells", spec := "storeTells", unfollowed := true, recurses := true, apart := false, narrowed := true }
def StoreTellsUptoSaid : Prop := storeTellsUptoRow.holds Try.pinned (OpenSpec.upto storeTellsSpec)

/-- 'backstitchlaw3.EndsTell', WHERE WHAT IT READS IS OF BULK AT MOST 1048576: true; the input reads as it did. -/
def endsTellUptoRow : OpenClaim := { program := "ytpkccpegdpodoaa", sum := "86b3307e34346029adc5b7fda6d2b7a95437d1b16e58126627a76f9c8a1c1c5d", func := "backstitch/backstitchlaw3.EndsTell", spec := "endsTell", unfollowed := true, recurses := true, apart := false, narrowed := true }
def EndsTellUptoSaid : Prop := endsTellUptoRow.holds Try.pinned (OpenSpec.upto endsTellSpec)

/-- 'backstitchlaw3.GensTells', WHERE WHAT IT READS IS OF BULK AT MOST 1048576: true; the input reads as it did. -/
def gensTellsUptoRow : OpenClaim := { program := "ytpkccpegdpodoaa", sum := "86b3307e34346029adc5b7fda6d2b7a95437d1b16e58126627a76f9c8a1c1c5d", func := "backstitch/backstitchlaw3.GensTells", spec := "gensTells", unfollowed := true, recurses := true, apart := false, narrowed := true }
def GensTellsUptoSaid : Prop := gensTellsUptoRow.holds Try.pinned (OpenSpec.upto gensTellsSpec)

end Rows
end Go.Proofs.Ytpkccpegdpodoaa
