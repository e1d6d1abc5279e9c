/-
  No cell of these rows narrows 'for every input' (looked for: loops, veiled, ifaces, maps, wideKeys, modest, calm, conditions, laid).
  DERIVED. THE GIVEN ROWS OF THIS SEAT. 6 by the template 'for every input the law returns true; each argument reads behind the call as it read before'; 0 by the template 'total and deterministic' (their statements: YtkbjelhmmcifhaaTotals.lean).
  GIVEN WITH THE SEED: the statements are not yours to turn. If you find one false, say at which input.
  Laid BY PROGRAM, IN A SANDBOX (cutbox-rows.mjs): the forced cells as the released guide's own fill.sh prints them over the translation a11f2c4ebf7a7a82… (all of the seat's roots in one cut). By AI agents, Wed Nov 11 2026. No macro, syntax, notation, axiom, sorry.
-/
import Derived.Test.YtkbjelhmmcifhaaChecked
import GoSem.Claim
import GoSem.ClaimJoined
import GoSem.ClaimMapViews
import Derived.JoinedTies
import Derived.KernelRfl
namespace Go.Proofs.Ytkbjelhmmcifhaa
/- THE CELL 'sum', in the pinned program and in every row, IS THE sha256 OF THE DUMP (.gsa) THAT YtkbjelhmmcifhaaProg.lean LOADS. Nothing in Lean hashes anything: it is a label: what it is worth is what the hold of that sum in a sandbox is worth. -/
noncomputable def Try.pinned : Pinned := { name := "ytkbjelhmmcifhaa", sum := "a11f2c4ebf7a7a828ea84ab009a065552b871cf795cad2e439235e4a800e4556", checked := Try.checked }
namespace Rows
def none {H : Type} : Left H := { results := [], args := [] }

/-- 'bargatelaw17.ChangeFits': WHATEVER THE INPUT: true; the input reads as it did. -/
def changeFitsSpec : ChangeSpec := { name := "changeFits", fn := fun _ => fun
  | [d1, d2, d3] => { results := [.lit (.bool true)], args := [d1, d2, d3] }
  | _ => none }
def changeFitsRow : OpenClaim := { program := "ytkbjelhmmcifhaa", sum := "a11f2c4ebf7a7a828ea84ab009a065552b871cf795cad2e439235e4a800e4556", func := "bargate/bargatelaw17.ChangeFits", spec := "changeFits", unfollowed := true, recurses := true, apart := false }
def ChangeFitsSaid : Prop := changeFitsRow.holds Try.pinned (OpenSpec.ofChange changeFitsSpec)

/-- ITS FALSE NEIGHBOUR: 'it returns false'. Refute it at one input. -/
def changeFitsWrong : ChangeSpec := { name := "changeFits", fn := fun _ => fun
  | [d1, d2, d3] => { results := [.lit (.bool false)], args := [d1, d2, d3] }
  | _ => none }
def ChangeFitsWrongFalsely : Prop := changeFitsRow.holds Try.pinned (OpenSpec.ofChange changeFitsWrong)

/-- 'bargatelaw21.EgressAll': WHATEVER THE INPUT: true; the input reads as it did. -/
def egressAllSpec : ChangeSpec := { name := "egressAll", fn := fun _ => fun
  | [d1, d2] => { results := [.lit (.bool true)], args := [d1, d2] }
  | _ => none }
def egressAllRow : OpenClaim := { program := "ytkbjelhmmcifhaa", sum := "a11f2c4ebf7a7a828ea84ab009a065552b871cf795cad2e439235e4a800e4556", func := "bargate/bargatelaw21.EgressAll", spec := "egressAll", unfollowed := true, recurses := true, apart := false }
def EgressAllSaid : Prop := egressAllRow.holds Try.pinned (OpenSpec.ofChange egressAllSpec)

/-- ITS FALSE NEIGHBOUR: 'it returns false'. Refute it at one input. -/
def egressAllWrong : ChangeSpec := { name := "egressAll", fn := fun _ => fun
  | [d1, d2] => { results := [.lit (.bool false)], args := [d1, d2] }
  | _ => none }
def EgressAllWrongFalsely : Prop := egressAllRow.holds Try.pinned (OpenSpec.ofChange egressAllWrong)

/-- 'bargatelaw21.EgressGates': WHATEVER THE INPUT: true; the input reads as it did. -/
def egressGatesSpec : ChangeSpec := { name := "egressGates", fn := fun _ => fun
  | [d1, d2] => { results := [.lit (.bool true)], args := [d1, d2] }
  | _ => none }
def egressGatesRow : OpenClaim := { program := "ytkbjelhmmcifhaa", sum := "a11f2c4ebf7a7a828ea84ab009a065552b871cf795cad2e439235e4a800e4556", func := "bargate/bargatelaw21.EgressGates", spec := "egressGates", unfollowed := true, recurses := true, apart := false }
def EgressGatesSaid : Prop := egressGatesRow.holds Try.pinned (OpenSpec.ofChange egressGatesSpec)

/-- ITS FALSE NEIGHBOUR: 'it returns false'. Refute it at one input. -/
def egressGatesWrong : ChangeSpec := { name := "egressGates", fn := fun _ => fun
  | [d1, d2] => { results := [.lit (.bool false)], args := [d1, d2] }
  | _ => none }
def EgressGatesWrongFalsely : Prop := egressGatesRow.holds Try.pinned (OpenSpec.ofChange egressGatesWrong)

/-- 'bargatelaw21.EgressOne': WHATEVER THE INPUT: true; the input reads as it did. -/
def egressOneSpec : ChangeSpec := { name := "egressOne", fn := fun _ => fun
  | [d1, d2] => { results := [.lit (.bool true)], args := [d1, d2] }
  | _ => none }
def egressOneRow : OpenClaim := { program := "ytkbjelhmmcifhaa", sum := "a11f2c4ebf7a7a828ea84ab009a065552b871cf795cad2e439235e4a800e4556", func := "bargate/bargatelaw21.EgressOne", spec := "egressOne", unfollowed := true, recurses := true, apart := false }
def EgressOneSaid : Prop := egressOneRow.holds Try.pinned (OpenSpec.ofChange egressOneSpec)

/-- ITS FALSE NEIGHBOUR: 'it returns false'. Refute it at one input. -/
def egressOneWrong : ChangeSpec := { name := "egressOne", fn := fun _ => fun
  | [d1, d2] => { results := [.lit (.bool false)], args := [d1, d2] }
  | _ => none }
def EgressOneWrongFalsely : Prop := egressOneRow.holds Try.pinned (OpenSpec.ofChange egressOneWrong)

/-- 'bargatelaw21.EgressFirst': WHATEVER THE INPUT: true; the input reads as it did. -/
def egressFirstSpec : ChangeSpec := { name := "egressFirst", fn := fun _ => fun
  | [d1, d2] => { results := [.lit (.bool true)], args := [d1, d2] }
  | _ => none }
def egressFirstRow : OpenClaim := { program := "ytkbjelhmmcifhaa", sum := "a11f2c4ebf7a7a828ea84ab009a065552b871cf795cad2e439235e4a800e4556", func := "bargate/bargatelaw21.EgressFirst", spec := "egressFirst", unfollowed := true, recurses := true, apart := false }
def EgressFirstSaid : Prop := egressFirstRow.holds Try.pinned (OpenSpec.ofChange egressFirstSpec)

/-- ITS FALSE NEIGHBOUR: 'it returns false'. Refute it at one input. -/
def egressFirstWrong : ChangeSpec := { name := "egressFirst", fn := fun _ => fun
  | [d1, d2] => { results := [.lit (.bool false)], args := [d1, d2] }
  | _ => none }
def EgressFirstWrongFalsely : Prop := egressFirstRow.holds Try.pinned (OpenSpec.ofChange egressFirstWrong)

/-- 'bargatelaw21.EgressNever': WHATEVER THE INPUT: true; the input reads as it did. -/
def egressNeverSpec : ChangeSpec := { name := "egressNever", fn := fun _ => fun
  | [d1, d2] => { results := [.lit (.bool true)], args := [d1, d2] }
  | _ => none }
def egressNeverRow : OpenClaim := { program := "ytkbjelhmmcifhaa", sum := "a11f2c4ebf7a7a828ea84ab009a065552b871cf795cad2e439235e4a800e4556", func := "bargate/bargatelaw21.EgressNever", spec := "egressNever", unfollowed := true, recurses := true, apart := false }
def EgressNeverSaid : Prop := egressNeverRow.holds Try.pinned (OpenSpec.ofChange egressNeverSpec)

/-- ITS FALSE NEIGHBOUR: 'it returns false'. Refute it at one input. -/
def egressNeverWrong : ChangeSpec := { name := "egressNever", fn := fun _ => fun
  | [d1, d2] => { results := [.lit (.bool false)], args := [d1, d2] }
  | _ => none }
def EgressNeverWrongFalsely : Prop := egressNeverRow.holds Try.pinned (OpenSpec.ofChange egressNeverWrong)

/- THE SECOND FORM. 'bulk': how many values and letters a reading holds, each counted each time it is reached (what is shared counts as often as it is met; a slice's spare places count too). A statement '..UptoSaid' is the law's where the arguments, and the package variables that the reading takes, are together of bulk at most 1048576: NARROWER than '..Said'. Prove '..Said' where nothing that the law and all that it calls make is longer than what came in: it says more and counts as full. Else prove '..UptoSaid'. A law counts once. -/
mutual
def uptoBulk {H : Type} : DataW H → Nat
  | .lit (.string bytes) => bytes.length + 1
  | .lit _ => 1
  | .nil => 1
  | .ptr d => uptoBulk d + 1
  | .slice elems spare => uptoBulkAll elems + uptoBulkAll spare + 1
  | .agg parts => uptoBulkAll parts + 1
  | .iface _ d => uptoBulk d + 1
  | .map entries => uptoBulkEntries entries + 1
  | .held _ => 1
def uptoBulkAll {H : Type} : List (DataW H) → Nat
  | [] => 0
  | d :: r => uptoBulk d + uptoBulkAll r
def uptoBulkEntries {H : Type} : List (Lit × DataW H) → Nat
  | [] => 0
  | x :: r => uptoBulkEntry x + uptoBulkEntries r
def uptoBulkEntry {H : Type} : Lit × DataW H → Nat
  | (.string bytes, d) => bytes.length + uptoBulk d + 1
  | (_, d) => uptoBulk d + 1
 end
def uptoSmall : (H : Type) → List (DataW H) → Bool := fun _ ds => decide (uptoBulkAll ds ≤ 1048576)
def OpenSpec.upto (s : _root_.Go.ChangeSpec) : _root_.Go.OpenSpec := { _root_.Go.OpenSpec.ofChange s with cond := some uptoSmall }

/-- 'bargatelaw17.ChangeFits', WHERE WHAT IT READS IS OF BULK AT MOST 1048576: true; the input reads as it did. -/
def changeFitsUptoRow : OpenClaim := { program := "ytkbjelhmmcifhaa", sum := "a11f2c4ebf7a7a828ea84ab009a065552b871cf795cad2e439235e4a800e4556", func := "bargate/bargatelaw17.ChangeFits", spec := "changeFits", unfollowed := true, recurses := true, apart := false, narrowed := true }
def ChangeFitsUptoSaid : Prop := changeFitsUptoRow.holds Try.pinned (OpenSpec.upto changeFitsSpec)

/-- 'bargatelaw21.EgressAll', WHERE WHAT IT READS IS OF BULK AT MOST 1048576: true; the input reads as it did. -/
def egressAllUptoRow : OpenClaim := { program := "ytkbjelhmmcifhaa", sum := "a11f2c4ebf7a7a828ea84ab009a065552b871cf795cad2e439235e4a800e4556", func := "bargate/bargatelaw21.EgressAll", spec := "egressAll", unfollowed := true, recurses := true, apart := false, narrowed := true }
def EgressAllUptoSaid : Prop := egressAllUptoRow.holds Try.pinned (OpenSpec.upto egressAllSpec)

/-- 'bargatelaw21.EgressGates', WHERE WHAT IT READS IS OF BULK AT MOST 1048576: true; the input reads as it did. -/
def egressGatesUptoRow : OpenClaim := { program := "ytkbjelhmmcifhaa", sum := "a11f2c4ebf7a7a828ea84ab009a065552b871cf795cad2e439235e4a800e4556", func := "bargate/bargatelaw21.EgressGates", spec := "egressGates", unfollowed := true, recurses := true, apart := false, narrowed := true }
def EgressGatesUptoSaid : Prop := egressGatesUptoRow.holds Try.pinned (OpenSpec.upto egressGatesSpec)

/-- 'bargatelaw21.EgressOne', WHERE WHAT IT READS IS OF BULK AT MOST 1048576: true; the input reads as it did. -/
def egressOneUptoRow : OpenClaim := { program := "ytkbjelhmmcifhaa", sum := "a11f2c4ebf7a7a828ea84ab009a065552b871cf795cad2e439235e4a800e4556", func := "bargate/bargatelaw21.EgressOne", spec := "egressOne", unfollowed := true, recurses := true, apart := false, narrowed := true }
def EgressOneUptoSaid : Prop := egressOneUptoRow.holds Try.pinned (OpenSpec.upto egressOneSpec)

/-- 'bargatelaw21.EgressFirst', WHERE WHAT IT READS IS OF BULK AT MOST 1048576: true; the input reads as it did. -/
def egressFirstUptoRow : OpenClaim := { program := "ytkbjelhmmcifhaa", sum := "a11f2c4ebf7a7a828ea84ab009a065552b871cf795cad2e439235e4a800e4556", func := "bargate/bargatelaw21.EgressFirst", spec := "egressFirst", unfollowed := true, recurses := true, apart := false, narrowed := true }
def EgressFirstUptoSaid : Prop := egressFirstUptoRow.holds Try.pinned (OpenSpec.upto egressFirstSpec)

/-- 'bargatelaw21.EgressNever', WHERE WHAT IT READS IS OF BULK AT MOST 1048576: true; the input reads as it did. -/
def egressNeverUptoRow : OpenClaim := { program := "ytkbjelhmmcifhaa", sum := "a11f2c4ebf7a7a828ea84ab009a065552b871cf795cad2e439235e4a800e4556", func := "bargate/bargatelaw21.EgressNever", spec := "egressNever", unfollowed := true, recurses := true, apart := false, narrowed := true }
def EgressNeverUptoSaid : Prop := egressNeverUptoRow.holds Try.pinned (OpenSpec.upto egressNeverSpec)

end Rows
end Go.Proofs.Ytkbjelhmmcifhaa
