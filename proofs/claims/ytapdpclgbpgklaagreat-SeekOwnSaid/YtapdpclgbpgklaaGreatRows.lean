/-
  No cell of these rows narrows 'for every input' (looked for: loops, veiled, ifaces, maps, wideKeys, modest, calm, conditions, laid).
  DERIVED. THE GIVEN ROWS OF THIS SEAT. 6 by the template 'for every input the law returns true; each argument reads behind the call as it read before'; 0 by the template 'total and deterministic' (their statements: YtapdpclgbpgklaaGreatTotals.lean).
  GIVEN WITH THE SEED: the statements are not yours to turn. If you find one false, say at which input.
  Laid BY PROGRAM, IN A SANDBOX (cutbox-rows.mjs): the forced cells as the released guide's own fill.sh prints them over the translation 4215f515e8ad9ab8… (all of the seat's roots in one cut). By AI agents, Wed Nov 11 2026. No macro, syntax, notation, axiom, sorry.
-/
import Derived.Test.YtapdpclgbpgklaaGreatChecked
import GoSem.Claim
import GoSem.ClaimJoined
import GoSem.ClaimMapViews
import Derived.JoinedTies
import Derived.KernelRfl
namespace Go.Proofs.YtapdpclgbpgklaaGreat
/- THE CELL 'sum', in the pinned program and in every row, IS THE sha256 OF THE DUMP (.gsa) THAT YtapdpclgbpgklaaGreatProg.lean LOADS. Nothing in Lean hashes anything: it is a label: what it is worth is what the hold of that sum in a sandbox is worth. -/
noncomputable def Tryz.pinned : Pinned := { name := "ytapdpclgbpgklaagreat", sum := "4215f515e8ad9ab871f3199b1053365525b4b89e45e321d3bacd24ce1a111ceb", checked := Tryz.checked }
namespace Rows
def none {H : Type} : Left H := { results := [], args := [] }

/-- 'dustmanlaw18.BufferSteps': WHATEVER THE INPUT: true; the input reads as it did. -/
def bufferStepsSpec : ChangeSpec := { name := "bufferSteps", fn := fun _ => fun
  | [d1, d2, d3, d4, d5] => { results := [.lit (.bool true)], args := [d1, d2, d3, d4, d5] }
  | _ => none }
def bufferStepsRow : OpenClaim := { program := "ytapdpclgbpgklaagreat", sum := "4215f515e8ad9ab871f3199b1053365525b4b89e45e321d3bacd24ce1a111ceb", func := "dustman/dustmanlaw18.BufferSteps", spec := "bufferSteps", unfollowed := true, recurses := true, apart := false }
def BufferStepsSaid : Prop := bufferStepsRow.holds Tryz.pinned (OpenSpec.ofChange bufferStepsSpec)

/-- ITS FALSE NEIGHBOUR: 'it returns false'. Refute it at one input. -/
def bufferStepsWrong : ChangeSpec := { name := "bufferSteps", fn := fun _ => fun
  | [d1, d2, d3, d4, d5] => { results := [.lit (.bool false)], args := [d1, d2, d3, d4, d5] }
  | _ => none }
def BufferStepsWrongFalsely : Prop := bufferStepsRow.holds Tryz.pinned (OpenSpec.ofChange bufferStepsWrong)

/-- 'dustmanlaw14.ScanPieces': WHATEVER THE INPUT: true; the input reads as it did. -/
def scanPiecesSpec : ChangeSpec := { name := "scanPieces", fn := fun _ => fun
  | [d1, d2, d3] => { results := [.lit (.bool true)], args := [d1, d2, d3] }
  | _ => none }
def scanPiecesRow : OpenClaim := { program := "ytapdpclgbpgklaagreat", sum := "4215f515e8ad9ab871f3199b1053365525b4b89e45e321d3bacd24ce1a111ceb", func := "dustman/dustmanlaw14.ScanPieces", spec := "scanPieces", unfollowed := true, recurses := true, apart := false }
def ScanPiecesSaid : Prop := scanPiecesRow.holds Tryz.pinned (OpenSpec.ofChange scanPiecesSpec)

/-- ITS FALSE NEIGHBOUR: 'it returns false'. Refute it at one input. -/
def scanPiecesWrong : ChangeSpec := { name := "scanPieces", fn := fun _ => fun
  | [d1, d2, d3] => { results := [.lit (.bool false)], args := [d1, d2, d3] }
  | _ => none }
def ScanPiecesWrongFalsely : Prop := scanPiecesRow.holds Tryz.pinned (OpenSpec.ofChange scanPiecesWrong)

/-- 'dustmanlaw14.ScanMarked': WHATEVER THE INPUT: true; the input reads as it did. -/
def scanMarkedSpec : ChangeSpec := { name := "scanMarked", fn := fun _ => fun
  | [d1, d2, d3, d4] => { results := [.lit (.bool true)], args := [d1, d2, d3, d4] }
  | _ => none }
def scanMarkedRow : OpenClaim := { program := "ytapdpclgbpgklaagreat", sum := "4215f515e8ad9ab871f3199b1053365525b4b89e45e321d3bacd24ce1a111ceb", func := "dustman/dustmanlaw14.ScanMarked", spec := "scanMarked", unfollowed := true, recurses := true, apart := false }
def ScanMarkedSaid : Prop := scanMarkedRow.holds Tryz.pinned (OpenSpec.ofChange scanMarkedSpec)

/-- ITS FALSE NEIGHBOUR: 'it returns false'. Refute it at one input. -/
def scanMarkedWrong : ChangeSpec := { name := "scanMarked", fn := fun _ => fun
  | [d1, d2, d3, d4] => { results := [.lit (.bool false)], args := [d1, d2, d3, d4] }
  | _ => none }
def ScanMarkedWrongFalsely : Prop := scanMarkedRow.holds Tryz.pinned (OpenSpec.ofChange scanMarkedWrong)

/-- 'dustmanlaw14.ScanAlone': WHATEVER THE INPUT: true; the input reads as it did. -/
def scanAloneSpec : ChangeSpec := { name := "scanAlone", fn := fun _ => fun
  | [d1, d2, d3, d4, d5] => { results := [.lit (.bool true)], args := [d1, d2, d3, d4, d5] }
  | _ => none }
def scanAloneRow : OpenClaim := { program := "ytapdpclgbpgklaagreat", sum := "4215f515e8ad9ab871f3199b1053365525b4b89e45e321d3bacd24ce1a111ceb", func := "dustman/dustmanlaw14.ScanAlone", spec := "scanAlone", unfollowed := true, recurses := true, apart := false }
def ScanAloneSaid : Prop := scanAloneRow.holds Tryz.pinned (OpenSpec.ofChange scanAloneSpec)

/-- ITS FALSE NEIGHBOUR: 'it returns false'. Refute it at one input. -/
def scanAloneWrong : ChangeSpec := { name := "scanAlone", fn := fun _ => fun
  | [d1, d2, d3, d4, d5] => { results := [.lit (.bool false)], args := [d1, d2, d3, d4, d5] }
  | _ => none }
def ScanAloneWrongFalsely : Prop := scanAloneRow.holds Tryz.pinned (OpenSpec.ofChange scanAloneWrong)

/-- 'dustmanlaw14.ScanSteps': WHATEVER THE INPUT: true; the input reads as it did. -/
def scanStepsSpec : ChangeSpec := { name := "scanSteps", fn := fun _ => fun
  | [d1, d2, d3, d4, d5, d6] => { results := [.lit (.bool true)], args := [d1, d2, d3, d4, d5, d6] }
  | _ => none }
def scanStepsRow : OpenClaim := { program := "ytapdpclgbpgklaagreat", sum := "4215f515e8ad9ab871f3199b1053365525b4b89e45e321d3bacd24ce1a111ceb", func := "dustman/dustmanlaw14.ScanSteps", spec := "scanSteps", unfollowed := true, recurses := true, apart := false }
def ScanStepsSaid : Prop := scanStepsRow.holds Tryz.pinned (OpenSpec.ofChange scanStepsSpec)

/-- ITS FALSE NEIGHBOUR: 'it returns false'. Refute it at one input. -/
def scanStepsWrong : ChangeSpec := { name := "scanSteps", fn := fun _ => fun
  | [d1, d2, d3, d4, d5, d6] => { results := [.lit (.bool false)], args := [d1, d2, d3, d4, d5, d6] }
  | _ => none }
def ScanStepsWrongFalsely : Prop := scanStepsRow.holds Tryz.pinned (OpenSpec.ofChange scanStepsWrong)

/-- 'dustmanlaw15.SeekOwn': WHATEVER THE INPUT: true; the input reads as it did. -/
def seekOwnSpec : ChangeSpec := { name := "seekOwn", fn := fun _ => fun
  | [d1, d2, d3, d4, d5] => { results := [.lit (.bool true)], args := [d1, d2, d3, d4, d5] }
  | _ => none }
def seekOwnRow : OpenClaim := { program := "ytapdpclgbpgklaagreat", sum := "4215f515e8ad9ab871f3199b1053365525b4b89e45e321d3bacd24ce1a111ceb", func := "dustman/dustmanlaw15.SeekOwn", spec := "seekOwn", unfollowed := true, recurses := true, apart := false }
def SeekOwnSaid : Prop := seekOwnRow.holds Tryz.pinned (OpenSpec.ofChange seekOwnSpec)

/-- ITS FALSE NEIGHBOUR: 'it returns false'. Refute it at one input. -/
def seekOwnWrong : ChangeSpec := { name := "seekOwn", fn := fun _ => fun
  | [d1, d2, d3, d4, d5] => { results := [.lit (.bool false)], args := [d1, d2, d3, d4, d5] }
  | _ => none }
def SeekOwnWrongFalsely : Prop := seekOwnRow.holds Tryz.pinned (OpenSpec.ofChange seekOwnWrong)

/- THE SECOND FORM. 'bulk': how many values and letters a reading holds, each counted each time it is reached (what is shared counts as often as it is met; a slice's spare places count too). A statement '..UptoSaid' is the law's where the arguments, and the package variables that the reading takes, are together of bulk at most 1048576: NARROWER than '..Said'. Prove '..Said' where nothing that the law and all that it calls make is longer than what came in: it says more and counts as full. Else prove '..UptoSaid'. A law counts once. -/
mutual
def uptoBulk {H : Type} : DataW H → Nat
  | .lit (.string bytes) => bytes.length + 1
  | .lit _ => 1
  | .nil => 1
  | .ptr d => uptoBulk d + 1
  | .slice elems spare => uptoBulkAll elems + uptoBulkAll spare + 1
  | .agg parts => uptoBulkAll parts + 1
  | .iface _ d => uptoBulk d + 1
  | .map entries => uptoBulkEntries entries + 1
  | .held _ => 1
def uptoBulkAll {H : Type} : List (DataW H) → Nat
  | [] => 0
  | d :: r => uptoBulk d + uptoBulkAll r
def uptoBulkEntries {H : Type} : List (Lit × DataW H) → Nat
  | [] => 0
  | x :: r => uptoBulkEntry x + uptoBulkEntries r
def uptoBulkEntry {H : Type} : Lit × DataW H → Nat
  | (.string bytes, d) => bytes.length + uptoBulk d + 1
  | (_, d) => uptoBulk d + 1
 end
def uptoSmall : (H : Type) → List (DataW H) → Bool := fun _ ds => decide (uptoBulkAll ds ≤ 1048576)
def OpenSpec.upto (s : _root_.Go.ChangeSpec) : _root_.Go.OpenSpec := { _root_.Go.OpenSpec.ofChange s with cond := some uptoSmall }

/-- 'dustmanlaw18.BufferSteps', WHERE WHAT IT READS IS OF BULK AT MOST 1048576: true; the input reads as it did. -/
def bufferStepsUptoRow : OpenClaim := { program := "ytapdpclgbpgklaagreat", sum := "4215f515e8ad9ab871f3199b1053365525b4b89e45e321d3bacd24ce1a111ceb", func := "dustman/dustmanlaw18.BufferSteps", spec := "bufferSteps", unfollowed := true, recurses := true, apart := false, narrowed := true }
def BufferStepsUptoSaid : Prop := bufferStepsUptoRow.holds Tryz.pinned (OpenSpec.upto bufferStepsSpec)

/-- 'dustmanlaw14.ScanPieces', WHERE WHAT IT READS IS OF BULK AT MOST 1048576: true; the input reads as it did. -/
def scanPiecesUptoRow : OpenClaim := { program := "ytapdpclgbpgklaagreat", sum := "4215f515e8ad9ab871f3199b1053365525b4b89e45e321d3bacd24ce1a111ceb", func := "dustman/dustmanlaw14.ScanPieces", spec := "scanPieces", unfollowed := true, recurses := true, apart := false, narrowed := true }
def ScanPiecesUptoSaid : Prop := scanPiecesUptoRow.holds Tryz.pinned (OpenSpec.upto scanPiecesSpec)

/-- 'dustmanlaw14.ScanMarked', WHERE WHAT IT READS IS OF BULK AT MOST 1048576: true; the input reads as it did. -/
def scanMarkedUptoRow : OpenClaim := { program := "ytapdpclgbpgklaagreat", sum := "4215f515e8ad9ab871f3199b1053365525b4b89e45e321d3bacd24ce1a111ceb", func := "dustman/dustmanlaw14.ScanMarked", spec := "scanMarked", unfollowed := true, recurses := true, apart := false, narrowed := true }
def ScanMarkedUptoSaid : Prop := scanMarkedUptoRow.holds Tryz.pinned (OpenSpec.upto scanMarkedSpec)

/-- 'dustmanlaw14.ScanAlone', WHERE WHAT IT READS IS OF BULK AT MOST 1048576: true; the input reads as it did. -/
def scanAloneUptoRow : OpenClaim := { program := "ytapdpclgbpgklaagreat", sum := "4215f515e8ad9ab871f3199b1053365525b4b89e45e321d3bacd24ce1a111ceb", func := "dustman/dustmanlaw14.ScanAlone", spec := "scanAlone", unfollowed := true, recurses := true, apart := false, narrowed := true }
def ScanAloneUptoSaid : Prop := scanAloneUptoRow.holds Tryz.pinned (OpenSpec.upto scanAloneSpec)

/-- 'dustmanlaw14.ScanSteps', WHERE WHAT IT READS IS OF BULK AT MOST 1048576: true; the input reads as it did. -/
def scanStepsUptoRow : OpenClaim := { program := "ytapdpclgbpgklaagreat", sum := "4215f515e8ad9ab871f3199b1053365525b4b89e45e321d3bacd24ce1a111ceb", func := "dustman/dustmanlaw14.ScanSteps", spec := "scanSteps", unfollowed := true, recurses := true, apart := false, narrowed := true }
def ScanStepsUptoSaid : Prop := scanStepsUptoRow.holds Tryz.pinned (OpenSpec.upto scanStepsSpec)

/-- 'dustmanlaw15.SeekOwn', WHERE WHAT IT READS IS OF BULK AT MOST 1048576: true; the input reads as it did. -/
def seekOwnUptoRow : OpenClaim := { program := "ytapdpclgbpgklaagreat", sum := "4215f515e8ad9ab871f3199b1053365525b4b89e45e321d3bacd24ce1a111ceb", func := "dustman/dustmanlaw15.SeekOwn", spec := "seekOwn", unfollowed := true, recurses := true, apart := false, narrowed := true }
def SeekOwnUptoSaid : Prop := seekOwnUptoRow.holds Tryz.pinned (OpenSpec.upto seekOwnSpec)

end Rows
end Go.Proofs.YtapdpclgbpgklaaGreat
