/-
  No cell of these rows narrows 'for every input' (looked for: loops, veiled, ifaces, maps, wideKeys, modest, calm, conditions, laid).
  DERIVED. THE GIVEN ROWS OF THIS SEAT. 4 by the template 'for every input the law returns true; each argument reads behind the call as it read before'; 0 by the template 'total and deterministic' (their statements: YtapdpclgbpgklaaTotals.lean).
  GIVEN WITH THE SEED: the statements are not yours to turn. If you find one false, say at which input.
  Laid BY PROGRAM, IN A SANDBOX (cutbox-rows.mjs): the forced cells as the released guide's own fill.sh prints them over the translation 34f6ebcf988e68ce… (all of the seat's roots in one cut). By AI agents, Wed Nov 11 2026. No macro, syntax, notation, axiom, sorry.
-/
import Derived.Test.YtapdpclgbpgklaaChecked
import GoSem.Claim
import GoSem.ClaimJoined
import GoSem.ClaimMapViews
import Derived.JoinedTies
import Derived.KernelRfl
namespace Go.Proofs.Ytapdpclgbpgklaa
/- THE CELL 'sum', in the pinned program and in every row, IS THE sha256 OF THE DUMP (.gsa) THAT YtapdpclgbpgklaaProg.lean LOADS. Nothing in Lean hashes anything: it is a label: what it is worth is what the hold of that sum in a sandbox is worth. -/
noncomputable def Try.pinned : Pinned := { name := "ytapdpclgbpgklaa", sum := "34f6ebcf988e68ce0008300beee9c99dd55c4d9f9f6e9d6dd23586f967d7e708", checked := Try.checked }
namespace Rows
def none {H : Type} : Left H := { results := [], args := [] }

/-- 'dustmanlaw18.BufferTwo': WHATEVER THE INPUT: true; the input reads as it did. -/
def bufferTwoSpec : ChangeSpec := { name := "bufferTwo", fn := fun _ => fun
  | [d1, d2, d3, d4] => { results := [.lit (.bool true)], args := [d1, d2, d3, d4] }
  | _ => none }
def bufferTwoRow : OpenClaim := { program := "ytapdpclgbpgklaa", sum := "34f6ebcf988e68ce0008300beee9c99dd55c4d9f9f6e9d6dd23586f967d7e708", func := "dustman/dustmanlaw18.BufferTwo", spec := "bufferTwo", unfollowed := true, recurses := true, apart := false }
def BufferTwoSaid : Prop := bufferTwoRow.holds Try.pinned (OpenSpec.ofChange bufferTwoSpec)

/-- ITS FALSE NEIGHBOUR: 'it returns false'. Refute it at one input. -/
def bufferTwoWrong : ChangeSpec := { name := "bufferTwo", fn := fun _ => fun
  | [d1, d2, d3, d4] => { results := [.lit (.bool false)], args := [d1, d2, d3, d4] }
  | _ => none }
def BufferTwoWrongFalsely : Prop := bufferTwoRow.holds Try.pinned (OpenSpec.ofChange bufferTwoWrong)

/-- 'dustmanlaw18.BufferKeeps': WHATEVER THE INPUT: true; the input reads as it did. -/
def bufferKeepsSpec : ChangeSpec := { name := "bufferKeeps", fn := fun _ => fun
  | [d1, d2, d3] => { results := [.lit (.bool true)], args := [d1, d2, d3] }
  | _ => none }
def bufferKeepsRow : OpenClaim := { program := "ytapdpclgbpgklaa", sum := "34f6ebcf988e68ce0008300beee9c99dd55c4d9f9f6e9d6dd23586f967d7e708", func := "dustman/dustmanlaw18.BufferKeeps", spec := "bufferKeeps", unfollowed := true, recurses := true, apart := false }
def BufferKeepsSaid : Prop := bufferKeepsRow.holds Try.pinned (OpenSpec.ofChange bufferKeepsSpec)

/-- ITS FALSE NEIGHBOUR: 'it returns false'. Refute it at one input. -/
def bufferKeepsWrong : ChangeSpec := { name := "bufferKeeps", fn := fun _ => fun
  | [d1, d2, d3] => { results := [.lit (.bool false)], args := [d1, d2, d3] }
  | _ => none }
def BufferKeepsWrongFalsely : Prop := bufferKeepsRow.holds Try.pinned (OpenSpec.ofChange bufferKeepsWrong)

/-- 'dustmanlaw18.BufferLeast': WHATEVER THE INPUT: true; the input reads as it did. -/
def bufferLeastSpec : ChangeSpec := { name := "bufferLeast", fn := fun _ => fun
  | [d1, d2, d3, d4] => { results := [.lit (.bool true)], args := [d1, d2, d3, d4] }
  | _ => none }
def bufferLeastRow : OpenClaim := { program := "ytapdpclgbpgklaa", sum := "34f6ebcf988e68ce0008300beee9c99dd55c4d9f9f6e9d6dd23586f967d7e708", func := "dustman/dustmanlaw18.BufferLeast", spec := "bufferLeast", unfollowed := true, recurses := true, apart := false }
def BufferLeastSaid : Prop := bufferLeastRow.holds Try.pinned (OpenSpec.ofChange bufferLeastSpec)

/-- ITS FALSE NEIGHBOUR: 'it returns false'. Refute it at one input. -/
def bufferLeastWrong : ChangeSpec := { name := "bufferLeast", fn := fun _ => fun
  | [d1, d2, d3, d4] => { results := [.lit (.bool false)], args := [d1, d2, d3, d4] }
  | _ => none }
def BufferLeastWrongFalsely : Prop := bufferLeastRow.holds Try.pinned (OpenSpec.ofChange bufferLeastWrong)

/-- 'dustmanlaw15.SeekVictim': WHATEVER THE INPUT: true; the input reads as it did. -/
def seekVictimSpec : ChangeSpec := { name := "seekVictim", fn := fun _ => fun
  | [d1, d2, d3] => { results := [.lit (.bool true)], args := [d1, d2, d3] }
  | _ => none }
def seekVictimRow : OpenClaim := { program := "ytapdpclgbpgklaa", sum := "34f6ebcf988e68ce0008300beee9c99dd55c4d9f9f6e9d6dd23586f967d7e708", func := "dustman/dustmanlaw15.SeekVictim", spec := "seekVictim", unfollowed := true, recurses := true, apart := false }
def SeekVictimSaid : Prop := seekVictimRow.holds Try.pinned (OpenSpec.ofChange seekVictimSpec)

/-- ITS FALSE NEIGHBOUR: 'it returns false'. Refute it at one input. -/
def seekVictimWrong : ChangeSpec := { name := "seekVictim", fn := fun _ => fun
  | [d1, d2, d3] => { results := [.lit (.bool false)], args := [d1, d2, d3] }
  | _ => none }
def SeekVictimWrongFalsely : Prop := seekVictimRow.holds Try.pinned (OpenSpec.ofChange seekVictimWrong)

/- THE SECOND FORM. 'bulk': how many values and letters a reading holds, each counted each time it is reached (what is shared counts as often as it is met; a slice's spare places count too). A statement '..UptoSaid' is the law's where the arguments, and the package variables that the reading takes, are together of bulk at most 1048576: NARROWER than '..Said'. Prove '..Said' where nothing that the law and all that it calls make is longer than what came in: it says more and counts as full. Else prove '..UptoSaid'. A law counts once. -/
mutual
def uptoBulk {H : Type} : DataW H → Nat
  | .lit (.string bytes) => bytes.length + 1
  | .lit _ => 1
  | .nil => 1
  | .ptr d => uptoBulk d + 1
  | .slice elems spare => uptoBulkAll elems + uptoBulkAll spare + 1
  | .agg parts => uptoBulkAll parts + 1
  | .iface _ d => uptoBulk d + 1
  | .map entries => uptoBulkEntries entries + 1
  | .held _ => 1
def uptoBulkAll {H : Type} : List (DataW H) → Nat
  | [] => 0
  | d :: r => uptoBulk d + uptoBulkAll r
def uptoBulkEntries {H : Type} : List (Lit × DataW H) → Nat
  | [] => 0
  | x :: r => uptoBulkEntry x + uptoBulkEntries r
def uptoBulkEntry {H : Type} : Lit × DataW H → Nat
  | (.string bytes, d) => bytes.length + uptoBulk d + 1
  | (_, d) => uptoBulk d + 1
 end
def uptoSmall : (H : Type) → List (DataW H) → Bool := fun _ ds => decide (uptoBulkAll ds ≤ 1048576)
def OpenSpec.upto (s : _root_.Go.ChangeSpec) : _root_.Go.OpenSpec := { _root_.Go.OpenSpec.ofChange s with cond := some uptoSmall }

/-- 'dustmanlaw18.BufferTwo', WHERE WHAT IT READS IS OF BULK AT MOST 1048576: true; the input reads as it did. -/
def bufferTwoUptoRow : OpenClaim := { program := "ytapdpclgbpgklaa", sum := "34f6ebcf988e68ce0008300beee9c99dd55c4d9f9f6e9d6dd23586f967d7e708", func := "dustman/dustmanlaw18.BufferTwo", spec := "bufferTwo", unfollowed := true, recurses := true, apart := false, narrowed := true }
def BufferTwoUptoSaid : Prop := bufferTwoUptoRow.holds Try.pinned (OpenSpec.upto bufferTwoSpec)

/-- 'dustmanlaw18.BufferKeeps', WHERE WHAT IT READS IS OF BULK AT MOST 1048576: true; the input reads as it did. -/
def bufferKeepsUptoRow : OpenClaim := { program := "ytapdpclgbpgklaa", sum := "34f6ebcf988e68ce0008300beee9c99dd55c4d9f9f6e9d6dd23586f967d7e708", func := "dustman/dustmanlaw18.BufferKeeps", spec := "bufferKeeps", unfollowed := true, recurses := true, apart := false, narrowed := true }
def BufferKeepsUptoSaid : Prop := bufferKeepsUptoRow.holds Try.pinned (OpenSpec.upto bufferKeepsSpec)

/-- 'dustmanlaw18.BufferLeast', WHERE WHAT IT READS IS OF BULK AT MOST 1048576: true; the input reads as it did. -/
def bufferLeastUptoRow : OpenClaim := { program := "ytapdpclgbpgklaa", sum := "34f6ebcf988e68ce0008300beee9c99dd55c4d9f9f6e9d6dd23586f967d7e708", func := "dustman/dustmanlaw18.BufferLeast", spec := "bufferLeast", unfollowed := true, recurses := true, apart := false, narrowed := true }
def BufferLeastUptoSaid : Prop := bufferLeastUptoRow.holds Try.pinned (OpenSpec.upto bufferLeastSpec)

/-- 'dustmanlaw15.SeekVictim', WHERE WHAT IT READS IS OF BULK AT MOST 1048576: true; the input reads as it did. -/
def seekVictimUptoRow : OpenClaim := { program := "ytapdpclgbpgklaa", sum := "34f6ebcf988e68ce0008300beee9c99dd55c4d9f9f6e9d6dd23586f967d7e708", func := "dustman/dustmanlaw15.SeekVictim", spec := "seekVictim", unfollowed := true, recurses := true, apart := false, narrowed := true }
def SeekVictimUptoSaid : Prop := seekVictimUptoRow.holds Try.pinned (OpenSpec.upto seekVictimSpec)

end Rows
end Go.Proofs.Ytapdpclgbpgklaa
