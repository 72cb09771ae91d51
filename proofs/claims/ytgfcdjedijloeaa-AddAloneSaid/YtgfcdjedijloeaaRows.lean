/-
  No cell of these rows narrows 'for every input' (looked for: loops, veiled, ifaces, maps, wideKeys, modest, calm, conditions, laid).
  DERIVED. THE GIVEN ROWS OF THIS SEAT. 9 by the template 'for every input the law returns true; each argument reads behind the call as it read before'; 0 by the template 'total and deterministic' (their statements: YtgfcdjedijloeaaTotals.lean).
  GIVEN WITH THE SEED: the statements are not yours to turn. If you find one false, say at which input.
  Laid BY PROGRAM, IN A SANDBOX (cutbox-rows.mjs): the forced cells as the released guide's own fill.sh prints them over the translation 39bc8662f3781185… (all of the seat's roots in one cut). By AI agents, Wed Nov 11 2026. No macro, syntax, notation, axiom, sorry.
-/
import Derived.Test.YtgfcdjedijloeaaChecked
import GoSem.Claim
import GoSem.ClaimJoined
import GoSem.ClaimMapViews
import Derived.JoinedTies
import Derived.KernelRfl
namespace Go.Proofs.Ytgfcdjedijloeaa
/- THE CELL 'sum', in the pinned program and in every row, IS THE sha256 OF THE DUMP (.gsa) THAT YtgfcdjedijloeaaProg.lean LOADS. Nothing in Lean hashes anything: it is a label: what it is worth is what the hold of that sum in a sandbox is worth. -/
noncomputable def Try.pinned : Pinned := { name := "ytgfcdjedijloeaa", sum := "39bc8662f37811855cc242d378c2c02874915a10ba434615f316f210a868de90", checked := Try.checked }
namespace Rows
def none {H : Type} : Left H := { results := [], args := [] }

/-- 'dustmanlaw11.PacketHeld': WHATEVER THE INPUT: true; the input reads as it did. -/
def packetHeldSpec : ChangeSpec := { name := "packetHeld", fn := fun _ => fun
  | [d1, d2, d3] => { results := [.lit (.bool true)], args := [d1, d2, d3] }
  | _ => none }
def packetHeldRow : OpenClaim := { program := "ytgfcdjedijloeaa", sum := "39bc8662f37811855cc242d378c2c02874915a10ba434615f316f210a868de90", func := "dustman/dustmanlaw11.PacketHeld", spec := "packetHeld", unfollowed := true, recurses := true, apart := false }
def PacketHeldSaid : Prop := packetHeldRow.holds Try.pinned (OpenSpec.ofChange packetHeldSpec)

/-- ITS FALSE NEIGHBOUR: 'it returns false'. Refute it at one input. -/
def packetHeldWrong : ChangeSpec := { name := "packetHeld", fn := fun _ => fun
  | [d1, d2, d3] => { results := [.lit (.bool false)], args := [d1, d2, d3] }
  | _ => none }
def PacketHeldWrongFalsely : Prop := packetHeldRow.holds Try.pinned (OpenSpec.ofChange packetHeldWrong)

/-- 'dustmanlaw11.PacketAlone': WHATEVER THE INPUT: true; the input reads as it did. -/
def packetAloneSpec : ChangeSpec := { name := "packetAlone", fn := fun _ => fun
  | [d1, d2] => { results := [.lit (.bool true)], args := [d1, d2] }
  | _ => none }
def packetAloneRow : OpenClaim := { program := "ytgfcdjedijloeaa", sum := "39bc8662f37811855cc242d378c2c02874915a10ba434615f316f210a868de90", func := "dustman/dustmanlaw11.PacketAlone", spec := "packetAlone", unfollowed := true, recurses := true, apart := false }
def PacketAloneSaid : Prop := packetAloneRow.holds Try.pinned (OpenSpec.ofChange packetAloneSpec)

/-- ITS FALSE NEIGHBOUR: 'it returns false'. Refute it at one input. -/
def packetAloneWrong : ChangeSpec := { name := "packetAlone", fn := fun _ => fun
  | [d1, d2] => { results := [.lit (.bool false)], args := [d1, d2] }
  | _ => none }
def PacketAloneWrongFalsely : Prop := packetAloneRow.holds Try.pinned (OpenSpec.ofChange packetAloneWrong)

/-- 'dustmanlaw11.PacketOnce': WHATEVER THE INPUT: true; the input reads as it did. -/
def packetOnceSpec : ChangeSpec := { name := "packetOnce", fn := fun _ => fun
  | [d1, d2, d3] => { results := [.lit (.bool true)], args := [d1, d2, d3] }
  | _ => none }
def packetOnceRow : OpenClaim := { program := "ytgfcdjedijloeaa", sum := "39bc8662f37811855cc242d378c2c02874915a10ba434615f316f210a868de90", func := "dustman/dustmanlaw11.PacketOnce", spec := "packetOnce", unfollowed := true, recurses := true, apart := false }
def PacketOnceSaid : Prop := packetOnceRow.holds Try.pinned (OpenSpec.ofChange packetOnceSpec)

/-- ITS FALSE NEIGHBOUR: 'it returns false'. Refute it at one input. -/
def packetOnceWrong : ChangeSpec := { name := "packetOnce", fn := fun _ => fun
  | [d1, d2, d3] => { results := [.lit (.bool false)], args := [d1, d2, d3] }
  | _ => none }
def PacketOnceWrongFalsely : Prop := packetOnceRow.holds Try.pinned (OpenSpec.ofChange packetOnceWrong)

/-- 'dustmanlaw11.PacketSteps': WHATEVER THE INPUT: true; the input reads as it did. -/
def packetStepsSpec : ChangeSpec := { name := "packetSteps", fn := fun _ => fun
  | [d1, d2, d3, d4, d5, d6] => { results := [.lit (.bool true)], args := [d1, d2, d3, d4, d5, d6] }
  | _ => none }
def packetStepsRow : OpenClaim := { program := "ytgfcdjedijloeaa", sum := "39bc8662f37811855cc242d378c2c02874915a10ba434615f316f210a868de90", func := "dustman/dustmanlaw11.PacketSteps", spec := "packetSteps", unfollowed := true, recurses := true, apart := false }
def PacketStepsSaid : Prop := packetStepsRow.holds Try.pinned (OpenSpec.ofChange packetStepsSpec)

/-- ITS FALSE NEIGHBOUR: 'it returns false'. Refute it at one input. -/
def packetStepsWrong : ChangeSpec := { name := "packetSteps", fn := fun _ => fun
  | [d1, d2, d3, d4, d5, d6] => { results := [.lit (.bool false)], args := [d1, d2, d3, d4, d5, d6] }
  | _ => none }
def PacketStepsWrongFalsely : Prop := packetStepsRow.holds Try.pinned (OpenSpec.ofChange packetStepsWrong)

/-- 'dustmanlaw11.PacketNone': WHATEVER THE INPUT: true; the input reads as it did. -/
def packetNoneSpec : ChangeSpec := { name := "packetNone", fn := fun _ => fun
  | [d1, d2, d3] => { results := [.lit (.bool true)], args := [d1, d2, d3] }
  | _ => none }
def packetNoneRow : OpenClaim := { program := "ytgfcdjedijloeaa", sum := "39bc8662f37811855cc242d378c2c02874915a10ba434615f316f210a868de90", func := "dustman/dustmanlaw11.PacketNone", spec := "packetNone", unfollowed := true, recurses := true, apart := false }
def PacketNoneSaid : Prop := packetNoneRow.holds Try.pinned (OpenSpec.ofChange packetNoneSpec)

/-- ITS FALSE NEIGHBOUR: 'it returns false'. Refute it at one input. -/
def packetNoneWrong : ChangeSpec := { name := "packetNone", fn := fun _ => fun
  | [d1, d2, d3] => { results := [.lit (.bool false)], args := [d1, d2, d3] }
  | _ => none }
def PacketNoneWrongFalsely : Prop := packetNoneRow.holds Try.pinned (OpenSpec.ofChange packetNoneWrong)

/-- 'dustmanlaw13.AddOnce': WHATEVER THE INPUT: true; the input reads as it did. -/
def addOnceSpec : ChangeSpec := { name := "addOnce", fn := fun _ => fun
  | [d1, d2, d3] => { results := [.lit (.bool true)], args := [d1, d2, d3] }
  | _ => none }
def addOnceRow : OpenClaim := { program := "ytgfcdjedijloeaa", sum := "39bc8662f37811855cc242d378c2c02874915a10ba434615f316f210a868de90", func := "dustman/dustmanlaw13.AddOnce", spec := "addOnce", unfollowed := true, recurses := true, apart := false }
def AddOnceSaid : Prop := addOnceRow.holds Try.pinned (OpenSpec.ofChange addOnceSpec)

/-- ITS FALSE NEIGHBOUR: 'it returns false'. Refute it at one input. -/
def addOnceWrong : ChangeSpec := { name := "addOnce", fn := fun _ => fun
  | [d1, d2, d3] => { results := [.lit (.bool false)], args := [d1, d2, d3] }
  | _ => none }
def AddOnceWrongFalsely : Prop := addOnceRow.holds Try.pinned (OpenSpec.ofChange addOnceWrong)

/-- 'dustmanlaw13.AddTen': WHATEVER THE INPUT: true; the input reads as it did. -/
def addTenSpec : ChangeSpec := { name := "addTen", fn := fun _ => fun
  | [d1, d2, d3, d4] => { results := [.lit (.bool true)], args := [d1, d2, d3, d4] }
  | _ => none }
def addTenRow : OpenClaim := { program := "ytgfcdjedijloeaa", sum := "39bc8662f37811855cc242d378c2c02874915a10ba434615f316f210a868de90", func := "dustman/dustmanlaw13.AddTen", spec := "addTen", unfollowed := true, recurses := true, apart := false }
def AddTenSaid : Prop := addTenRow.holds Try.pinned (OpenSpec.ofChange addTenSpec)

/-- ITS FALSE NEIGHBOUR: 'it returns false'. Refute it at one input. -/
def addTenWrong : ChangeSpec := { name := "addTen", fn := fun _ => fun
  | [d1, d2, d3, d4] => { results := [.lit (.bool false)], args := [d1, d2, d3, d4] }
  | _ => none }
def AddTenWrongFalsely : Prop := addTenRow.holds Try.pinned (OpenSpec.ofChange addTenWrong)

/-- 'dustmanlaw13.AddNone': WHATEVER THE INPUT: true; the input reads as it did. -/
def addNoneSpec : ChangeSpec := { name := "addNone", fn := fun _ => fun
  | [d1, d2, d3] => { results := [.lit (.bool true)], args := [d1, d2, d3] }
  | _ => none }
def addNoneRow : OpenClaim := { program := "ytgfcdjedijloeaa", sum := "39bc8662f37811855cc242d378c2c02874915a10ba434615f316f210a868de90", func := "dustman/dustmanlaw13.AddNone", spec := "addNone", unfollowed := true, recurses := true, apart := false }
def AddNoneSaid : Prop := addNoneRow.holds Try.pinned (OpenSpec.ofChange addNoneSpec)

/-- ITS FALSE NEIGHBOUR: 'it returns false'. Refute it at one input. -/
def addNoneWrong : ChangeSpec := { name := "addNone", fn := fun _ => fun
  | [d1, d2, d3] => { results := [.lit (.bool false)], args := [d1, d2, d3] }
  | _ => none }
def AddNoneWrongFalsely : Prop := addNoneRow.holds Try.pinned (OpenSpec.ofChange addNoneWrong)

/-- 'dustmanlaw13.AddAlone': WHATEVER THE INPUT: true; the input reads as it did. -/
def addAloneSpec : ChangeSpec := { name := "addAlone", fn := fun _ => fun
  | [d1, d2, d3] => { results := [.lit (.bool true)], args := [d1, d2, d3] }
  | _ => none }
def addAloneRow : OpenClaim := { program := "ytgfcdjedijloeaa", sum := "39bc8662f37811855cc242d378c2c02874915a10ba434615f316f210a868de90", func := "dustman/dustmanlaw13.AddAlone", spec := "addAlone", unfollowed := true, recurses := true, apart := false }
def AddAloneSaid : Prop := addAloneRow.holds Try.pinned (OpenSpec.ofChange addAloneSpec)

/-- ITS FALSE NEIGHBOUR: 'it returns false'. Refute it at one input. -/
def addAloneWrong : ChangeSpec := { name := "addAlone", fn := fun _ => fun
  | [d1, d2, d3] => { results := [.lit (.bool false)], args := [d1, d2, d3] }
  | _ => none }
def AddAloneWrongFalsely : Prop := addAloneRow.holds Try.pinned (OpenSpec.ofChange addAloneWrong)

/- THE SECOND FORM. 'bulk': how many values and letters a reading holds, each counted each time it is reached (what is shared counts as often as it is met; a slice's spare places count too). A statement '..UptoSaid' is the law's where the arguments, and the package variables that the reading takes, are together of bulk at most 1048576: NARROWER than '..Said'. Prove '..Said' where nothing that the law and all that it calls make is longer than what came in: it says more and counts as full. Else prove '..UptoSaid'. A law counts once. -/
mutual
def uptoBulk {H : Type} : DataW H → Nat
  | .lit (.string bytes) => bytes.length + 1
  | .lit _ => 1
  | .nil => 1
  | .ptr d => uptoBulk d + 1
  | .slice elems spare => uptoBulkAll elems + uptoBulkAll spare + 1
  | .agg parts => uptoBulkAll parts + 1
  | .iface _ d => uptoBulk d + 1
  | .map entries => uptoBulkEntries entries + 1
  | .held _ => 1
def uptoBulkAll {H : Type} : List (DataW H) → Nat
  | [] => 0
  | d :: r => uptoBulk d + uptoBulkAll r
def uptoBulkEntries {H : Type} : List (Lit × DataW H) → Nat
  | [] => 0
  | x :: r => uptoBulkEntry x + uptoBulkEntries r
def uptoBulkEntry {H : Type} : Lit × DataW H → Nat
  | (.string bytes, d) => bytes.length + uptoBulk d + 1
  | (_, d) => uptoBulk d + 1
 end
def uptoSmall : (H : Type) → List (DataW H) → Bool := fun _ ds => decide (uptoBulkAll ds ≤ 1048576)
def OpenSpec.upto (s : _root_.Go.ChangeSpec) : _root_.Go.OpenSpec := { _root_.Go.OpenSpec.ofChange s with cond := some uptoSmall }

/-- 'dustmanlaw11.PacketHeld', WHERE WHAT IT READS IS OF BULK AT MOST 1048576: true; the input reads as it did. -/
def packetHeldUptoRow : OpenClaim := { program := "ytgfcdjedijloeaa", sum := "39bc8662f37811855cc242d378c2c02874915a10ba434615f316f210a868de90", func := "dustman/dustmanlaw11.PacketHeld", spec := "packetHeld", unfollowed := true, recurses := true, apart := false, narrowed := true }
def PacketHeldUptoSaid : Prop := packetHeldUptoRow.holds Try.pinned (OpenSpec.upto packetHeldSpec)

/-- 'dustmanlaw11.PacketAlone', WHERE WHAT IT READS IS OF BULK AT MOST 1048576: true; the input reads as it did. -/
def packetAloneUptoRow : OpenClaim := { program := "ytgfcdjedijloeaa", sum := "39bc8662f37811855cc242d378c2c02874915a10ba434615f316f210a868de90", func := "dustman/dustmanlaw11.PacketAlone", spec := "packetAlone", unfollowed := true, recurses := true, apart := false, narrowed := true }
def PacketAloneUptoSaid : Prop := packetAloneUptoRow.holds Try.pinned (OpenSpec.upto packetAloneSpec)

/-- 'dustmanlaw11.PacketOnce', WHERE WHAT IT READS IS OF BULK AT MOST 1048576: true; the input reads as it did. -/
def packetOnceUptoRow : OpenClaim := { program := "ytgfcdjedijloeaa", sum := "39bc8662f37811855cc242d378c2c02874915a10ba434615f316f210a868de90", func := "dustman/dustmanlaw11.PacketOnce", spec := "packetOnce", unfollowed := true, recurses := true, apart := false, narrowed := true }
def PacketOnceUptoSaid : Prop := packetOnceUptoRow.holds Try.pinned (OpenSpec.upto packetOnceSpec)

/-- 'dustmanlaw11.PacketSteps', WHERE WHAT IT READS IS OF BULK AT MOST 1048576: true; the input reads as it did. -/
def packetStepsUptoRow : OpenClaim := { program := "ytgfcdjedijloeaa", sum := "39bc8662f37811855cc242d378c2c02874915a10ba434615f316f210a868de90", func := "dustman/dustmanlaw11.PacketSteps", spec := "packetSteps", unfollowed := true, recurses := true, apart := false, narrowed := true }
def PacketStepsUptoSaid : Prop := packetStepsUptoRow.holds Try.pinned (OpenSpec.upto packetStepsSpec)

/-- 'dustmanlaw11.PacketNone', WHERE WHAT IT READS IS OF BULK AT MOST 1048576: true; the input reads as it did. -/
def packetNoneUptoRow : OpenClaim := { program := "ytgfcdjedijloeaa", sum := "39bc8662f37811855cc242d378c2c02874915a10ba434615f316f210a868de90", func := "dustman/dustmanlaw11.PacketNone", spec := "packetNone", unfollowed := true, recurses := true, apart := false, narrowed := true }
def PacketNoneUptoSaid : Prop := packetNoneUptoRow.holds Try.pinned (OpenSpec.upto packetNoneSpec)

/-- 'dustmanlaw13.AddOnce', WHERE WHAT IT READS IS OF BULK AT MOST 1048576: true; the input reads as it did. -/
def addOnceUptoRow : OpenClaim := { program := "ytgfcdjedijloeaa", sum := "39bc8662f37811855cc242d378c2c02874915a10ba434615f316f210a868de90", func := "dustman/dustmanlaw13.AddOnce", spec := "addOnce", unfollowed := true, recurses := true, apart := false, narrowed := true }
def AddOnceUptoSaid : Prop := addOnceUptoRow.holds Try.pinned (OpenSpec.upto addOnceSpec)

/-- 'dustmanlaw13.AddTen', WHERE WHAT IT READS IS OF BULK AT MOST 1048576: true; the input reads as it did. -/
def addTenUptoRow : OpenClaim := { program := "ytgfcdjedijloeaa", sum := "39bc8662f37811855cc242d378c2c02874915a10ba434615f316f210a868de90", func := "dustman/dustmanlaw13.AddTen", spec := "addTen", unfollowed := true, recurses := true, apart := false, narrowed := true }
def AddTenUptoSaid : Prop := addTenUptoRow.holds Try.pinned (OpenSpec.upto addTenSpec)

/-- 'dustmanlaw13.AddNone', WHERE WHAT IT READS IS OF BULK AT MOST 1048576: true; the input reads as it did. -/
def addNoneUptoRow : OpenClaim := { program := "ytgfcdjedijloeaa", sum := "39bc8662f37811855cc242d378c2c02874915a10ba434615f316f210a868de90", func := "dustman/dustmanlaw13.AddNone", spec := "addNone", unfollowed := true, recurses := true, apart := false, narrowed := true }
def AddNoneUptoSaid : Prop := addNoneUptoRow.holds Try.pinned (OpenSpec.upto addNoneSpec)

/-- 'dustmanlaw13.AddAlone', WHERE WHAT IT READS IS OF BULK AT MOST 1048576: true; the input reads as it did. -/
def addAloneUptoRow : OpenClaim := { program := "ytgfcdjedijloeaa", sum := "39bc8662f37811855cc242d378c2c02874915a10ba434615f316f210a868de90", func := "dustman/dustmanlaw13.AddAlone", spec := "addAlone", unfollowed := true, recurses := true, apart := false, narrowed := true }
def AddAloneUptoSaid : Prop := addAloneUptoRow.holds Try.pinned (OpenSpec.upto addAloneSpec)

end Rows
end Go.Proofs.Ytgfcdjedijloeaa
