/-
  No cell of these rows narrows 'for every input' (looked for: loops, veiled, ifaces, maps, wideKeys, modest, calm, conditions, laid).
  DERIVED. THE GIVEN ROWS OF THIS SEAT. 3 by the template 'for every input the law returns true; each argument reads behind the call as it read before'; 0 by the template 'total and deterministic' (their statements: YthinpabeineahaaTotals.lean).
  GIVEN WITH THE SEED: the statements are not yours to turn. If you find one false, say at which input.
  Laid BY PROGRAM, IN A SANDBOX (cutbox-rows.mjs): the forced cells as the released guide's own fill.sh prints them over the translation c75e97820f45bec5… (all of the seat's roots in one cut). By AI agents, Wed Nov 11 2026. No macro, syntax, notation, axiom, sorry.
-/
import Derived.Test.YthinpabeineahaaChecked
import GoSem.Claim
import GoSem.ClaimJoined
import GoSem.ClaimMapViews
import Derived.JoinedTies
import Derived.KernelRfl
namespace Go.Proofs.Ythinpabeineahaa
/- THE CELL 'sum', in the pinned program and in every row, IS THE sha256 OF THE DUMP (.gsa) THAT YthinpabeineahaaProg.lean LOADS. Nothing in Lean hashes anything: it is a label: what it is worth is what the hold of that sum in a sandbox is worth. -/
noncomputable def Try.pinned : Pinned := { name := "ythinpabeineahaa", sum := "c75e97820f45bec519a7da6107e3a13882a070a05867afe80ed63ad124ea4242", checked := Try.checked }
namespace Rows
def none {H : Type} : Left H := { results := [], args := [] }

/-- 'stratagemlaw01.SumsTells': WHATEVER THE INPUT: true; the input reads as it did. -/
def sumsTellsSpec : ChangeSpec := { name := "sumsTells", fn := fun _ => fun
  | [d1, d2, d3, d4, d5] => { results := [.lit (.bool true)], args := [d1, d2, d3, d4, d5] }
  | _ => none }
def sumsTellsRow : OpenClaim := { program := "ythinpabeineahaa", sum := "c75e97820f45bec519a7da6107e3a13882a070a05867afe80ed63ad124ea4242", func := "stratagem/stratagemlaw01.SumsTells", spec := "sumsTells", recurses := true, apart := false }
def SumsTellsSaid : Prop := sumsTellsRow.holds Try.pinned (OpenSpec.ofChange sumsTellsSpec)

/-- ITS FALSE NEIGHBOUR: 'it returns false'. Refute it at one input. -/
def sumsTellsWrong : ChangeSpec := { name := "sumsTells", fn := fun _ => fun
  | [d1, d2, d3, d4, d5] => { results := [.lit (.bool false)], args := [d1, d2, d3, d4, d5] }
  | _ => none }
def SumsTellsWrongFalsely : Prop := sumsTellsRow.holds Try.pinned (OpenSpec.ofChange sumsTellsWrong)

/-- 'stratagemlaw01.SumsTurn': WHATEVER THE INPUT: true; the input reads as it did. -/
def sumsTurnSpec : ChangeSpec := { name := "sumsTurn", fn := fun _ => fun
  | [d1, d2, d3] => { results := [.lit (.bool true)], args := [d1, d2, d3] }
  | _ => none }
def sumsTurnRow : OpenClaim := { program := "ythinpabeineahaa", sum := "c75e97820f45bec519a7da6107e3a13882a070a05867afe80ed63ad124ea4242", func := "stratagem/stratagemlaw01.SumsTurn", spec := "sumsTurn", apart := false }
def SumsTurnSaid : Prop := sumsTurnRow.holds Try.pinned (OpenSpec.ofChange sumsTurnSpec)

/-- ITS FALSE NEIGHBOUR: 'it returns false'. Refute it at one input. -/
def sumsTurnWrong : ChangeSpec := { name := "sumsTurn", fn := fun _ => fun
  | [d1, d2, d3] => { results := [.lit (.bool false)], args := [d1, d2, d3] }
  | _ => none }
def SumsTurnWrongFalsely : Prop := sumsTurnRow.holds Try.pinned (OpenSpec.ofChange sumsTurnWrong)

/-- 'stratagemlaw01.SumsHolds': WHATEVER THE INPUT: true; the input reads as it did. -/
def sumsHoldsSpec : ChangeSpec := { name := "sumsHolds", fn := fun _ => fun
  | [d1, d2] => { results := [.lit (.bool true)], args := [d1, d2] }
  | _ => none }
def sumsHoldsRow : OpenClaim := { program := "ythinpabeineahaa", sum := "c75e97820f45bec519a7da6107e3a13882a070a05867afe80ed63ad124ea4242", func := "stratagem/stratagemlaw01.SumsHolds", spec := "sumsHolds", apart := false }
def SumsHoldsSaid : Prop := sumsHoldsRow.holds Try.pinned (OpenSpec.ofChange sumsHoldsSpec)

/-- ITS FALSE NEIGHBOUR: 'it returns false'. Refute it at one input. -/
def sumsHoldsWrong : ChangeSpec := { name := "sumsHolds", fn := fun _ => fun
  | [d1, d2] => { results := [.lit (.bool false)], args := [d1, d2] }
  | _ => none }
def SumsHoldsWrongFalsely : Prop := sumsHoldsRow.holds Try.pinned (OpenSpec.ofChange sumsHoldsWrong)

/- THE SECOND FORM. 'bulk': how many values and letters a reading holds, each counted each time it is reached (what is shared counts as often as it is met; a slice's spare places count too). A statement '..UptoSaid' is the law's where the arguments, and the package variables that the reading takes, are together of bulk at most 1048576: NARROWER than '..Said'. Prove '..Said' where nothing that the law and all that it calls make is longer than what came in: it says more and counts as full. Else prove '..UptoSaid'. A law counts once. -/
mutual
def uptoBulk {H : Type} : DataW H → Nat
  | .lit (.string bytes) => bytes.length + 1
  | .lit _ => 1
  | .nil => 1
  | .ptr d => uptoBulk d + 1
  | .slice elems spare => uptoBulkAll elems + uptoBulkAll spare + 1
  | .agg parts => uptoBulkAll parts + 1
  | .iface _ d => uptoBulk d + 1
  | .map entries => uptoBulkEntries entries + 1
  | .held _ => 1
def uptoBulkAll {H : Type} : List (DataW H) → Nat
  | [] => 0
  | d :: r => uptoBulk d + uptoBulkAll r
def uptoBulkEntries {H : Type} : List (Lit × DataW H) → Nat
  | [] => 0
  | x :: r => uptoBulkEntry x + uptoBulkEntries r
def uptoBulkEntry {H : Type} : Lit × DataW H → Nat
  | (.string bytes, d) => bytes.length + uptoBulk d + 1
  | (_, d) => uptoBulk d + 1
 end
def uptoSmall : (H : Type) → List (DataW H) → Bool := fun _ ds => decide (uptoBulkAll ds ≤ 1048576)
def OpenSpec.upto (s : _root_.Go.ChangeSpec) : _root_.Go.OpenSpec := { _root_.Go.OpenSpec.ofChange s with cond := some uptoSmall }

/-- 'stratagemlaw01.SumsTells', WHERE WHAT IT READS IS OF BULK AT MOST 1048576: true; the input reads as it did. -/
def sumsTellsUptoRow : OpenClaim := { program := "ythinpabeineahaa", sum := "c75e97820f45bec519a7da6107e3a13882a070a05867afe80ed63ad124ea4242", func := "stratagem/stratagemlaw01.SumsTells", spec := "sumsTells", recurses := true, apart := false, narrowed := true }
def SumsTellsUptoSaid : Prop := sumsTellsUptoRow.holds Try.pinned (OpenSpec.upto sumsTellsSpec)

/-- 'stratagemlaw01.SumsTurn', WHERE WHAT IT READS IS OF BULK AT MOST 1048576: true; the input reads as it did. -/
def sumsTurnUptoRow : OpenClaim := { program := "ythinpabeineahaa", sum := "c75e97820f45bec519a7da6107e3a13882a070a05867afe80ed63ad124ea4242", func := "stratagem/stratagemlaw01.SumsTurn", spec := "sumsTurn", apart := false, narrowed := true }
def SumsTurnUptoSaid : Prop := sumsTurnUptoRow.holds Try.pinned (OpenSpec.upto sumsTurnSpec)

/-- 'stratagemlaw01.SumsHolds', WHERE WHAT IT READS IS OF BULK AT MOST 1048576: true; the input reads as it did. -/
def sumsHoldsUptoRow : OpenClaim := { program := "ythinpabeineahaa", sum := "c75e97820f45bec519a7da6107e3a13882a070a05867afe80ed63ad124ea4242", func := "stratagem/stratagemlaw01.SumsHolds", spec := "sumsHolds", apart := false, narrowed := true }
def SumsHoldsUptoSaid : Prop := sumsHoldsUptoRow.holds Try.pinned (OpenSpec.upto sumsHoldsSpec)

end Rows
end Go.Proofs.Ythinpabeineahaa
