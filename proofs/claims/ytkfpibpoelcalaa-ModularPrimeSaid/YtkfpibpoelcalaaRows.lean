/-
  No cell of these rows narrows 'for every input' (looked for: loops, veiled, ifaces, maps, wideKeys, modest, calm, conditions, laid).
  DERIVED. THE GIVEN ROWS OF THIS SEAT. 7 by the template 'for every input the law returns true; each argument reads behind the call as it read before'; 0 by the template 'total and deterministic' (their statements: YtkfpibpoelcalaaTotals.lean).
  GIVEN WITH THE SEED: the statements are not yours to turn. If you find one false, say at which input.
  Laid BY PROGRAM, IN A SANDBOX (cutbox-rows.mjs): the forced cells as the released guide's own fill.sh prints them over the translation 54ac01cd383aee1c… (all of the seat's roots in one cut). By AI agents, Wed Nov 11 2026. No macro, syntax, notation, axiom, sorry.
-/
import Derived.Test.YtkfpibpoelcalaaChecked
import GoSem.Claim
import GoSem.ClaimJoined
import GoSem.ClaimMapViews
import Derived.JoinedTies
import Derived.KernelRfl
namespace Go.Proofs.Ytkfpibpoelcalaa
/- THE CELL 'sum', in the pinned program and in every row, IS THE sha256 OF THE DUMP (.gsa) THAT YtkfpibpoelcalaaProg.lean LOADS. Nothing in Lean hashes anything: it is a label: what it is worth is what the hold of that sum in a sandbox is worth. -/
noncomputable def Try.pinned : Pinned := { name := "ytkfpibpoelcalaa", sum := "54ac01cd383aee1cce0333ad2a4b338b6b88f7be1e5be862d0481cafd93c709f", checked := Try.checked }
namespace Rows
def none {H : Type} : Left H := { results := [], args := [] }

/-- 'cylinderlaw07.ModularPower': WHATEVER THE INPUT: true; the input reads as it did. -/
def modularPowerSpec : ChangeSpec := { name := "modularPower", fn := fun _ => fun
  | [d1, d2, d3] => { results := [.lit (.bool true)], args := [d1, d2, d3] }
  | _ => none }
def modularPowerRow : OpenClaim := { program := "ytkfpibpoelcalaa", sum := "54ac01cd383aee1cce0333ad2a4b338b6b88f7be1e5be862d0481cafd93c709f", func := "cylinder/cylinderlaw07.ModularPower", spec := "modularPower", apart := false }
def ModularPowerSaid : Prop := modularPowerRow.holds Try.pinned (OpenSpec.ofChange modularPowerSpec)

/-- ITS FALSE NEIGHBOUR: 'it returns false'. Refute it at one input. -/
def modularPowerWrong : ChangeSpec := { name := "modularPower", fn := fun _ => fun
  | [d1, d2, d3] => { results := [.lit (.bool false)], args := [d1, d2, d3] }
  | _ => none }
def ModularPowerWrongFalsely : Prop := modularPowerRow.holds Try.pinned (OpenSpec.ofChange modularPowerWrong)

/-- 'cylinderlaw07.ModularInverse': WHATEVER THE INPUT: true; the input reads as it did. -/
def modularInverseSpec : ChangeSpec := { name := "modularInverse", fn := fun _ => fun
  | [d1, d2] => { results := [.lit (.bool true)], args := [d1, d2] }
  | _ => none }
def modularInverseRow : OpenClaim := { program := "ytkfpibpoelcalaa", sum := "54ac01cd383aee1cce0333ad2a4b338b6b88f7be1e5be862d0481cafd93c709f", func := "cylinder/cylinderlaw07.ModularInverse", spec := "modularInverse", apart := false }
def ModularInverseSaid : Prop := modularInverseRow.holds Try.pinned (OpenSpec.ofChange modularInverseSpec)

/-- ITS FALSE NEIGHBOUR: 'it returns false'. Refute it at one input. -/
def modularInverseWrong : ChangeSpec := { name := "modularInverse", fn := fun _ => fun
  | [d1, d2] => { results := [.lit (.bool false)], args := [d1, d2] }
  | _ => none }
def ModularInverseWrongFalsely : Prop := modularInverseRow.holds Try.pinned (OpenSpec.ofChange modularInverseWrong)

/-- 'cylinderlaw07.ModularPrime': WHATEVER THE INPUT: true; the input reads as it did. -/
def modularPrimeSpec : ChangeSpec := { name := "modularPrime", fn := fun _ => fun
  | [d1, d2, d3] => { results := [.lit (.bool true)], args := [d1, d2, d3] }
  | _ => none }
def modularPrimeRow : OpenClaim := { program := "ytkfpibpoelcalaa", sum := "54ac01cd383aee1cce0333ad2a4b338b6b88f7be1e5be862d0481cafd93c709f", func := "cylinder/cylinderlaw07.ModularPrime", spec := "modularPrime", apart := false }
def ModularPrimeSaid : Prop := modularPrimeRow.holds Try.pinned (OpenSpec.ofChange modularPrimeSpec)

/-- ITS FALSE NEIGHBOUR: 'it returns false'. Refute it at one input. -/
def modularPrimeWrong : ChangeSpec := { name := "modularPrime", fn := fun _ => fun
  | [d1, d2, d3] => { results := [.lit (.bool false)], args := [d1, d2, d3] }
  | _ => none }
def ModularPrimeWrongFalsely : Prop := modularPrimeRow.holds Try.pinned (OpenSpec.ofChange modularPrimeWrong)

/-- 'cylinderlaw07.ModularArithmetic': WHATEVER THE INPUT: true; the input reads as it did. -/
def modularArithmeticSpec : ChangeSpec := { name := "modularArithmetic", fn := fun _ => fun
  | [d1, d2, d3] => { results := [.lit (.bool true)], args := [d1, d2, d3] }
  | _ => none }
def modularArithmeticRow : OpenClaim := { program := "ytkfpibpoelcalaa", sum := "54ac01cd383aee1cce0333ad2a4b338b6b88f7be1e5be862d0481cafd93c709f", func := "cylinder/cylinderlaw07.ModularArithmetic", spec := "modularArithmetic", apart := false }
def ModularArithmeticSaid : Prop := modularArithmeticRow.holds Try.pinned (OpenSpec.ofChange modularArithmeticSpec)

/-- ITS FALSE NEIGHBOUR: 'it returns false'. Refute it at one input. -/
def modularArithmeticWrong : ChangeSpec := { name := "modularArithmetic", fn := fun _ => fun
  | [d1, d2, d3] => { results := [.lit (.bool false)], args := [d1, d2, d3] }
  | _ => none }
def ModularArithmeticWrongFalsely : Prop := modularArithmeticRow.holds Try.pinned (OpenSpec.ofChange modularArithmeticWrong)

/-- 'cylinderlaw07.ModularNext': WHATEVER THE INPUT: true; the input reads as it did. -/
def modularNextSpec : ChangeSpec := { name := "modularNext", fn := fun _ => fun
  | [d] => { results := [.lit (.bool true)], args := [d] }
  | _ => none }
def modularNextRow : OpenClaim := { program := "ytkfpibpoelcalaa", sum := "54ac01cd383aee1cce0333ad2a4b338b6b88f7be1e5be862d0481cafd93c709f", func := "cylinder/cylinderlaw07.ModularNext", spec := "modularNext", unfollowed := true, recurses := true, apart := false }
def ModularNextSaid : Prop := modularNextRow.holds Try.pinned (OpenSpec.ofChange modularNextSpec)

/-- ITS FALSE NEIGHBOUR: 'it returns false'. Refute it at one input. -/
def modularNextWrong : ChangeSpec := { name := "modularNext", fn := fun _ => fun
  | [d] => { results := [.lit (.bool false)], args := [d] }
  | _ => none }
def ModularNextWrongFalsely : Prop := modularNextRow.holds Try.pinned (OpenSpec.ofChange modularNextWrong)

/-- 'cylinderlaw07.ModularSequence': WHATEVER THE INPUT: true; the input reads as it did. -/
def modularSequenceSpec : ChangeSpec := { name := "modularSequence", fn := fun _ => fun
  | [d1, d2] => { results := [.lit (.bool true)], args := [d1, d2] }
  | _ => none }
def modularSequenceRow : OpenClaim := { program := "ytkfpibpoelcalaa", sum := "54ac01cd383aee1cce0333ad2a4b338b6b88f7be1e5be862d0481cafd93c709f", func := "cylinder/cylinderlaw07.ModularSequence", spec := "modularSequence", unfollowed := true, recurses := true, apart := false }
def ModularSequenceSaid : Prop := modularSequenceRow.holds Try.pinned (OpenSpec.ofChange modularSequenceSpec)

/-- ITS FALSE NEIGHBOUR: 'it returns false'. Refute it at one input. -/
def modularSequenceWrong : ChangeSpec := { name := "modularSequence", fn := fun _ => fun
  | [d1, d2] => { results := [.lit (.bool false)], args := [d1, d2] }
  | _ => none }
def ModularSequenceWrongFalsely : Prop := modularSequenceRow.holds Try.pinned (OpenSpec.ofChange modularSequenceWrong)

/-- 'cylinderlaw07.ModularFermat': WHATEVER THE INPUT: true; the input reads as it did. -/
def modularFermatSpec : ChangeSpec := { name := "modularFermat", fn := fun _ => fun
  | [d1, d2] => { results := [.lit (.bool true)], args := [d1, d2] }
  | _ => none }
def modularFermatRow : OpenClaim := { program := "ytkfpibpoelcalaa", sum := "54ac01cd383aee1cce0333ad2a4b338b6b88f7be1e5be862d0481cafd93c709f", func := "cylinder/cylinderlaw07.ModularFermat", spec := "modularFermat", unfollowed := true, recurses := true, apart := false }
def ModularFermatSaid : Prop := modularFermatRow.holds Try.pinned (OpenSpec.ofChange modularFermatSpec)

/-- ITS FALSE NEIGHBOUR: 'it returns false'. Refute it at one input. -/
def modularFermatWrong : ChangeSpec := { name := "modularFermat", fn := fun _ => fun
  | [d1, d2] => { results := [.lit (.bool false)], args := [d1, d2] }
  | _ => none }
def ModularFermatWrongFalsely : Prop := modularFermatRow.holds Try.pinned (OpenSpec.ofChange modularFermatWrong)

/- THE SECOND FORM. 'bulk': how many values and letters a reading holds, each counted each time it is reached (what is shared counts as often as it is met; a slice's spare places count too). A statement '..UptoSaid' is the law's where the arguments, and the package variables that the reading takes, are together of bulk at most 1048576: NARROWER than '..Said'. Prove '..Said' where nothing that the law and all that it calls make is longer than what came in: it says more and counts as full. Else prove '..UptoSaid'. A law counts once. -/
mutual
def uptoBulk {H : Type} : DataW H → Nat
  | .lit (.string bytes) => bytes.length + 1
  | .lit _ => 1
  | .nil => 1
  | .ptr d => uptoBulk d + 1
  | .slice elems spare => uptoBulkAll elems + uptoBulkAll spare + 1
  | .agg parts => uptoBulkAll parts + 1
  | .iface _ d => uptoBulk d + 1
  | .map entries => uptoBulkEntries entries + 1
  | .held _ => 1
def uptoBulkAll {H : Type} : List (DataW H) → Nat
  | [] => 0
  | d :: r => uptoBulk d + uptoBulkAll r
def uptoBulkEntries {H : Type} : List (Lit × DataW H) → Nat
  | [] => 0
  | x :: r => uptoBulkEntry x + uptoBulkEntries r
def uptoBulkEntry {H : Type} : Lit × DataW H → Nat
  | (.string bytes, d) => bytes.length + uptoBulk d + 1
  | (_, d) => uptoBulk d + 1
 end
def uptoSmall : (H : Type) → List (DataW H) → Bool := fun _ ds => decide (uptoBulkAll ds ≤ 1048576)
def OpenSpec.upto (s : _root_.Go.ChangeSpec) : _root_.Go.OpenSpec := { _root_.Go.OpenSpec.ofChange s with cond := some uptoSmall }

/-- 'cylinderlaw07.ModularPower', WHERE WHAT IT READS IS OF BULK AT MOST 1048576: true; the input reads as it did. -/
def modularPowerUptoRow : OpenClaim := { program := "ytkfpibpoelcalaa", sum := "54ac01cd383aee1cce0333ad2a4b338b6b88f7be1e5be862d0481cafd93c709f", func := "cylinder/cylinderlaw07.ModularPower", spec := "modularPower", apart := false, narrowed := true }
def ModularPowerUptoSaid : Prop := modularPowerUptoRow.holds Try.pinned (OpenSpec.upto modularPowerSpec)

/-- 'cylinderlaw07.ModularInverse', WHERE WHAT IT READS IS OF BULK AT MOST 1048576: true; the input reads as it did. -/
def modularInverseUptoRow : OpenClaim := { program := "ytkfpibpoelcalaa", sum := "54ac01cd383aee1cce0333ad2a4b338b6b88f7be1e5be862d0481cafd93c709f", func := "cylinder/cylinderlaw07.ModularInverse", spec := "modularInverse", apart := false, narrowed := true }
def ModularInverseUptoSaid : Prop := modularInverseUptoRow.holds Try.pinned (OpenSpec.upto modularInverseSpec)

/-- 'cylinderlaw07.ModularPrime', WHERE WHAT IT READS IS OF BULK AT MOST 1048576: true; the input reads as it did. -/
def modularPrimeUptoRow : OpenClaim := { program := "ytkfpibpoelcalaa", sum := "54ac01cd383aee1cce0333ad2a4b338b6b88f7be1e5be862d0481cafd93c709f", func := "cylinder/cylinderlaw07.ModularPrime", spec := "modularPrime", apart := false, narrowed := true }
def ModularPrimeUptoSaid : Prop := modularPrimeUptoRow.holds Try.pinned (OpenSpec.upto modularPrimeSpec)

/-- 'cylinderlaw07.ModularArithmetic', WHERE WHAT IT READS IS OF BULK AT MOST 1048576: true; the input reads as it did. -/
def modularArithmeticUptoRow : OpenClaim := { program := "ytkfpibpoelcalaa", sum := "54ac01cd383aee1cce0333ad2a4b338b6b88f7be1e5be862d0481cafd93c709f", func := "cylinder/cylinderlaw07.ModularArithmetic", spec := "modularArithmetic", apart := false, narrowed := true }
def ModularArithmeticUptoSaid : Prop := modularArithmeticUptoRow.holds Try.pinned (OpenSpec.upto modularArithmeticSpec)

/-- 'cylinderlaw07.ModularNext', WHERE WHAT IT READS IS OF BULK AT MOST 1048576: true; the input reads as it did. -/
def modularNextUptoRow : OpenClaim := { program := "ytkfpibpoelcalaa", sum := "54ac01cd383aee1cce0333ad2a4b338b6b88f7be1e5be862d0481cafd93c709f", func := "cylinder/cylinderlaw07.ModularNext", spec := "modularNext", unfollowed := true, recurses := true, apart := false, narrowed := true }
def ModularNextUptoSaid : Prop := modularNextUptoRow.holds Try.pinned (OpenSpec.upto modularNextSpec)

/-- 'cylinderlaw07.ModularSequence', WHERE WHAT IT READS IS OF BULK AT MOST 1048576: true; the input reads as it did. -/
def modularSequenceUptoRow : OpenClaim := { program := "ytkfpibpoelcalaa", sum := "54ac01cd383aee1cce0333ad2a4b338b6b88f7be1e5be862d0481cafd93c709f", func := "cylinder/cylinderlaw07.ModularSequence", spec := "modularSequence", unfollowed := true, recurses := true, apart := false, narrowed := true }
def ModularSequenceUptoSaid : Prop := modularSequenceUptoRow.holds Try.pinned (OpenSpec.upto modularSequenceSpec)

/-- 'cylinderlaw07.ModularFermat', WHERE WHAT IT READS IS OF BULK AT MOST 1048576: true; the input reads as it did. -/
def modularFermatUptoRow : OpenClaim := { program := "ytkfpibpoelcalaa", sum := "54ac01cd383aee1cce0333ad2a4b338b6b88f7be1e5be862d0481cafd93c709f", func := "cylinder/cylinderlaw07.ModularFermat", spec := "modularFermat", unfollowed := true, recurses := true, apart := false, narrowed := true }
def ModularFermatUptoSaid : Prop := modularFermatUptoRow.holds Try.pinned (OpenSpec.upto modularFermatSpec)

end Rows
end Go.Proofs.Ytkfpibpoelcalaa
