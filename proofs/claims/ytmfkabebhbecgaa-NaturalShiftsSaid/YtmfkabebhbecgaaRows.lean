/-
  No cell of these rows narrows 'for every input' (looked for: loops, veiled, ifaces, maps, wideKeys, modest, calm, conditions, laid).
  DERIVED. THE GIVEN ROWS OF THIS SEAT. 9 by the template 'for every input the law returns true; each argument reads behind the call as it read before'; 0 by the template 'total and deterministic' (their statements: YtmfkabebhbecgaaTotals.lean).
  GIVEN WITH THE SEED: the statements are not yours to turn. If you find one false, say at which input.
  Laid BY PROGRAM, IN A SANDBOX (cutbox-rows.mjs): the forced cells as the released guide's own fill.sh prints them over the translation 5f32a9c6253ba390… (all of the seat's roots in one cut). By AI agents, Wed Nov 11 2026. No macro, syntax, notation, axiom, sorry.
-/
import Derived.Test.YtmfkabebhbecgaaChecked
import GoSem.Claim
import GoSem.ClaimJoined
import GoSem.ClaimMapViews
import Derived.JoinedTies
import Derived.KernelRfl
namespace Go.Proofs.Ytmfkabebhbecgaa
/- THE CELL 'sum', in the pinned program and in every row, IS THE sha256 OF THE DUMP (.gsa) THAT YtmfkabebhbecgaaProg.lean LOADS. Nothing in Lean hashes anything: it is a label: what it is worth is what the hold of that sum in a sandbox is worth. -/
noncomputable def Try.pinned : Pinned := { name := "ytmfkabebhbecgaa", sum := "5f32a9c6253ba3909caa26dc2ad274a95e4ee7e8ced9b6d35d08b15d6d16a999", checked := Try.checked }
namespace Rows
def none {H : Type} : Left H := { results := [], args := [] }

/-- 'cylinderlaw01.NaturalMuls': WHATEVER THE INPUT: true; the input reads as it did. -/
def naturalMulsSpec : ChangeSpec := { name := "naturalMuls", fn := fun _ => fun
  | [d1, d2, d3] => { results := [.lit (.bool true)], args := [d1, d2, d3] }
  | _ => none }
def naturalMulsRow : OpenClaim := { program := "ytmfkabebhbecgaa", sum := "5f32a9c6253ba3909caa26dc2ad274a95e4ee7e8ced9b6d35d08b15d6d16a999", func := "cylinder/cylinderlaw01.NaturalMuls", spec := "naturalMuls", apart := false }
def NaturalMulsSaid : Prop := naturalMulsRow.holds Try.pinned (OpenSpec.ofChange naturalMulsSpec)

/-- ITS FALSE NEIGHBOUR: 'it returns false'. Refute it at one input. -/
def naturalMulsWrong : ChangeSpec := { name := "naturalMuls", fn := fun _ => fun
  | [d1, d2, d3] => { results := [.lit (.bool false)], args := [d1, d2, d3] }
  | _ => none }
def NaturalMulsWrongFalsely : Prop := naturalMulsRow.holds Try.pinned (OpenSpec.ofChange naturalMulsWrong)

/-- 'cylinderlaw01.NaturalWords': WHATEVER THE INPUT: true; the input reads as it did. -/
def naturalWordsSpec : ChangeSpec := { name := "naturalWords", fn := fun _ => fun
  | [d1, d2] => { results := [.lit (.bool true)], args := [d1, d2] }
  | _ => none }
def naturalWordsRow : OpenClaim := { program := "ytmfkabebhbecgaa", sum := "5f32a9c6253ba3909caa26dc2ad274a95e4ee7e8ced9b6d35d08b15d6d16a999", func := "cylinder/cylinderlaw01.NaturalWords", spec := "naturalWords", apart := false }
def NaturalWordsSaid : Prop := naturalWordsRow.holds Try.pinned (OpenSpec.ofChange naturalWordsSpec)

/-- ITS FALSE NEIGHBOUR: 'it returns false'. Refute it at one input. -/
def naturalWordsWrong : ChangeSpec := { name := "naturalWords", fn := fun _ => fun
  | [d1, d2] => { results := [.lit (.bool false)], args := [d1, d2] }
  | _ => none }
def NaturalWordsWrongFalsely : Prop := naturalWordsRow.holds Try.pinned (OpenSpec.ofChange naturalWordsWrong)

/-- 'cylinderlaw01.NaturalDivides': WHATEVER THE INPUT: true; the input reads as it did. -/
def naturalDividesSpec : ChangeSpec := { name := "naturalDivides", fn := fun _ => fun
  | [d1, d2] => { results := [.lit (.bool true)], args := [d1, d2] }
  | _ => none }
def naturalDividesRow : OpenClaim := { program := "ytmfkabebhbecgaa", sum := "5f32a9c6253ba3909caa26dc2ad274a95e4ee7e8ced9b6d35d08b15d6d16a999", func := "cylinder/cylinderlaw01.NaturalDivides", spec := "naturalDivides", named := ["math/bits.overflowError"], apart := false }
def NaturalDividesSaid : Prop := naturalDividesRow.holds Try.pinned (OpenSpec.ofChange naturalDividesSpec)

/-- ITS FALSE NEIGHBOUR: 'it returns false'. Refute it at one input. -/
def naturalDividesWrong : ChangeSpec := { name := "naturalDivides", fn := fun _ => fun
  | [d1, d2] => { results := [.lit (.bool false)], args := [d1, d2] }
  | _ => none }
def NaturalDividesWrongFalsely : Prop := naturalDividesRow.holds Try.pinned (OpenSpec.ofChange naturalDividesWrong)

/-- 'cylinderlaw01.NaturalShifts': WHATEVER THE INPUT: true; the input reads as it did. -/
def naturalShiftsSpec : ChangeSpec := { name := "naturalShifts", fn := fun _ => fun
  | [d1, d2] => { results := [.lit (.bool true)], args := [d1, d2] }
  | _ => none }
def naturalShiftsRow : OpenClaim := { program := "ytmfkabebhbecgaa", sum := "5f32a9c6253ba3909caa26dc2ad274a95e4ee7e8ced9b6d35d08b15d6d16a999", func := "cylinder/cylinderlaw01.NaturalShifts", spec := "naturalShifts", apart := false }
def NaturalShiftsSaid : Prop := naturalShiftsRow.holds Try.pinned (OpenSpec.ofChange naturalShiftsSpec)

/-- ITS FALSE NEIGHBOUR: 'it returns false'. Refute it at one input. -/
def naturalShiftsWrong : ChangeSpec := { name := "naturalShifts", fn := fun _ => fun
  | [d1, d2] => { results := [.lit (.bool false)], args := [d1, d2] }
  | _ => none }
def NaturalShiftsWrongFalsely : Prop := naturalShiftsRow.holds Try.pinned (OpenSpec.ofChange naturalShiftsWrong)

/-- 'cylinderlaw01.NaturalRing': WHATEVER THE INPUT: true; the input reads as it did. -/
def naturalRingSpec : ChangeSpec := { name := "naturalRing", fn := fun _ => fun
  | [d1, d2, d3] => { results := [.lit (.bool true)], args := [d1, d2, d3] }
  | _ => none }
def naturalRingRow : OpenClaim := { program := "ytmfkabebhbecgaa", sum := "5f32a9c6253ba3909caa26dc2ad274a95e4ee7e8ced9b6d35d08b15d6d16a999", func := "cylinder/cylinderlaw01.NaturalRing", spec := "naturalRing", unfollowed := true, recurses := true, apart := false }
def NaturalRingSaid : Prop := naturalRingRow.holds Try.pinned (OpenSpec.ofChange naturalRingSpec)

/-- ITS FALSE NEIGHBOUR: 'it returns false'. Refute it at one input. -/
def naturalRingWrong : ChangeSpec := { name := "naturalRing", fn := fun _ => fun
  | [d1, d2, d3] => { results := [.lit (.bool false)], args := [d1, d2, d3] }
  | _ => none }
def NaturalRingWrongFalsely : Prop := naturalRingRow.holds Try.pinned (OpenSpec.ofChange naturalRingWrong)

/-- 'cylinderlaw01.NaturalFar': WHATEVER THE INPUT: true; the input reads as it did. -/
def naturalFarSpec : ChangeSpec := { name := "naturalFar", fn := fun _ => fun
  | [d1, d2] => { results := [.lit (.bool true)], args := [d1, d2] }
  | _ => none }
def naturalFarRow : OpenClaim := { program := "ytmfkabebhbecgaa", sum := "5f32a9c6253ba3909caa26dc2ad274a95e4ee7e8ced9b6d35d08b15d6d16a999", func := "cylinder/cylinderlaw01.NaturalFar", spec := "naturalFar", apart := false }
def NaturalFarSaid : Prop := naturalFarRow.holds Try.pinned (OpenSpec.ofChange naturalFarSpec)

/-- ITS FALSE NEIGHBOUR: 'it returns false'. Refute it at one input. -/
def naturalFarWrong : ChangeSpec := { name := "naturalFar", fn := fun _ => fun
  | [d1, d2] => { results := [.lit (.bool false)], args := [d1, d2] }
  | _ => none }
def NaturalFarWrongFalsely : Prop := naturalFarRow.holds Try.pinned (OpenSpec.ofChange naturalFarWrong)

/-- 'cylinderlaw01.NaturalAdds': WHATEVER THE INPUT: true; the input reads as it did. -/
def naturalAddsSpec : ChangeSpec := { name := "naturalAdds", fn := fun _ => fun
  | [d1, d2] => { results := [.lit (.bool true)], args := [d1, d2] }
  | _ => none }
def naturalAddsRow : OpenClaim := { program := "ytmfkabebhbecgaa", sum := "5f32a9c6253ba3909caa26dc2ad274a95e4ee7e8ced9b6d35d08b15d6d16a999", func := "cylinder/cylinderlaw01.NaturalAdds", spec := "naturalAdds", unfollowed := true, recurses := true, apart := false }
def NaturalAddsSaid : Prop := naturalAddsRow.holds Try.pinned (OpenSpec.ofChange naturalAddsSpec)

/-- ITS FALSE NEIGHBOUR: 'it returns false'. Refute it at one input. -/
def naturalAddsWrong : ChangeSpec := { name := "naturalAdds", fn := fun _ => fun
  | [d1, d2] => { results := [.lit (.bool false)], args := [d1, d2] }
  | _ => none }
def NaturalAddsWrongFalsely : Prop := naturalAddsRow.holds Try.pinned (OpenSpec.ofChange naturalAddsWrong)

/-- 'cylinderlaw01.NaturalInverse': WHATEVER THE INPUT: true; the input reads as it did. -/
def naturalInverseSpec : ChangeSpec := { name := "naturalInverse", fn := fun _ => fun
  | [d1, d2, d3] => { results := [.lit (.bool true)], args := [d1, d2, d3] }
  | _ => none }
def naturalInverseRow : OpenClaim := { program := "ytmfkabebhbecgaa", sum := "5f32a9c6253ba3909caa26dc2ad274a95e4ee7e8ced9b6d35d08b15d6d16a999", func := "cylinder/cylinderlaw01.NaturalInverse", spec := "naturalInverse", unfollowed := true, recurses := true, named := ["math/bits.overflowError"], apart := false }
def NaturalInverseSaid : Prop := naturalInverseRow.holds Try.pinned (OpenSpec.ofChange naturalInverseSpec)

/-- ITS FALSE NEIGHBOUR: 'it returns false'. Refute it at one input. -/
def naturalInverseWrong : ChangeSpec := { name := "naturalInverse", fn := fun _ => fun
  | [d1, d2, d3] => { results := [.lit (.bool false)], args := [d1, d2, d3] }
  | _ => none }
def NaturalInverseWrongFalsely : Prop := naturalInverseRow.holds Try.pinned (OpenSpec.ofChange naturalInverseWrong)

/-- 'cylinderlaw01.NaturalKeeps': WHATEVER THE INPUT: true; the input reads as it did. -/
def naturalKeepsSpec : ChangeSpec := { name := "naturalKeeps", fn := fun _ => fun
  | [d1, d2, d3] => { results := [.lit (.bool true)], args := [d1, d2, d3] }
  | _ => none }
def naturalKeepsRow : OpenClaim := { program := "ytmfkabebhbecgaa", sum := "5f32a9c6253ba3909caa26dc2ad274a95e4ee7e8ced9b6d35d08b15d6d16a999", func := "cylinder/cylinderlaw01.NaturalKeeps", spec := "naturalKeeps", unfollowed := true, recurses := true, named := ["math/bits.overflowError"], apart := false }
def NaturalKeepsSaid : Prop := naturalKeepsRow.holds Try.pinned (OpenSpec.ofChange naturalKeepsSpec)

/-- ITS FALSE NEIGHBOUR: 'it returns false'. Refute it at one input. -/
def naturalKeepsWrong : ChangeSpec := { name := "naturalKeeps", fn := fun _ => fun
  | [d1, d2, d3] => { results := [.lit (.bool false)], args := [d1, d2, d3] }
  | _ => none }
def NaturalKeepsWrongFalsely : Prop := naturalKeepsRow.holds Try.pinned (OpenSpec.ofChange naturalKeepsWrong)

/- THE SECOND FORM. 'bulk': how many values and letters a reading holds, each counted each time it is reached (what is shared counts as often as it is met; a slice's spare places count too). A statement '..UptoSaid' is the law's where the arguments, and the package variables that the reading takes, are together of bulk at most 1048576: NARROWER than '..Said'. Prove '..Said' where nothing that the law and all that it calls make is longer than what came in: it says more and counts as full. Else prove '..UptoSaid'. A law counts once. -/
mutual
def uptoBulk {H : Type} : DataW H → Nat
  | .lit (.string bytes) => bytes.length + 1
  | .lit _ => 1
  | .nil => 1
  | .ptr d => uptoBulk d + 1
  | .slice elems spare => uptoBulkAll elems + uptoBulkAll spare + 1
  | .agg parts => uptoBulkAll parts + 1
  | .iface _ d => uptoBulk d + 1
  | .map entries => uptoBulkEntries entries + 1
  | .held _ => 1
def uptoBulkAll {H : Type} : List (DataW H) → Nat
  | [] => 0
  | d :: r => uptoBulk d + uptoBulkAll r
def uptoBulkEntries {H : Type} : List (Lit × DataW H) → Nat
  | [] => 0
  | x :: r => uptoBulkEntry x + uptoBulkEntries r
def uptoBulkEntry {H : Type} : Lit × DataW H → Nat
  | (.string bytes, d) => bytes.length + uptoBulk d + 1
  | (_, d) => uptoBulk d + 1
 end
def uptoSmall : (H : Type) → List (DataW H) → Bool := fun _ ds => decide (uptoBulkAll ds ≤ 1048576)
def OpenSpec.upto (s : _root_.Go.ChangeSpec) : _root_.Go.OpenSpec := { _root_.Go.OpenSpec.ofChange s with cond := some uptoSmall }

/-- 'cylinderlaw01.NaturalMuls', WHERE WHAT IT READS IS OF BULK AT MOST 1048576: true; the input reads as it did. -/
def naturalMulsUptoRow : OpenClaim := { program := "ytmfkabebhbecgaa", sum := "5f32a9c6253ba3909caa26dc2ad274a95e4ee7e8ced9b6d35d08b15d6d16a999", func := "cylinder/cylinderlaw01.NaturalMuls", spec := "naturalMuls", apart := false, narrowed := true }
def NaturalMulsUptoSaid : Prop := naturalMulsUptoRow.holds Try.pinned (OpenSpec.upto naturalMulsSpec)

/-- 'cylinderlaw01.NaturalWords', WHERE WHAT IT READS IS OF BULK AT MOST 1048576: true; the input reads as it did. -/
def naturalWordsUptoRow : OpenClaim := { program := "ytmfkabebhbecgaa", sum := "5f32a9c6253ba3909caa26dc2ad274a95e4ee7e8ced9b6d35d08b15d6d16a999", func := "cylinder/cylinderlaw01.NaturalWords", spec := "naturalWords", apart := false, narrowed := true }
def NaturalWordsUptoSaid : Prop := naturalWordsUptoRow.holds Try.pinned (OpenSpec.upto naturalWordsSpec)

/-- 'cylinderlaw01.NaturalDivides', WHERE WHAT IT READS IS OF BULK AT MOST 1048576: true; the input reads as it did. -/
def naturalDividesUptoRow : OpenClaim := { program := "ytmfkabebhbecgaa", sum := "5f32a9c6253ba3909caa26dc2ad274a95e4ee7e8ced9b6d35d08b15d6d16a999", func := "cylinder/cylinderlaw01.NaturalDivides", spec := "naturalDivides", named := ["math/bits.overflowError"], apart := false, narrowed := true }
def NaturalDividesUptoSaid : Prop := naturalDividesUptoRow.holds Try.pinned (OpenSpec.upto naturalDividesSpec)

/-- 'cylinderlaw01.NaturalShifts', WHERE WHAT IT READS IS OF BULK AT MOST 1048576: true; the input reads as it did. -/
def naturalShiftsUptoRow : OpenClaim := { program := "ytmfkabebhbecgaa", sum := "5f32a9c6253ba3909caa26dc2ad274a95e4ee7e8ced9b6d35d08b15d6d16a999", func := "cylinder/cylinderlaw01.NaturalShifts", spec := "naturalShifts", apart := false, narrowed := true }
def NaturalShiftsUptoSaid : Prop := naturalShiftsUptoRow.holds Try.pinned (OpenSpec.upto naturalShiftsSpec)

/-- 'cylinderlaw01.NaturalRing', WHERE WHAT IT READS IS OF BULK AT MOST 1048576: true; the input reads as it did. -/
def naturalRingUptoRow : OpenClaim := { program := "ytmfkabebhbecgaa", sum := "5f32a9c6253ba3909caa26dc2ad274a95e4ee7e8ced9b6d35d08b15d6d16a999", func := "cylinder/cylinderlaw01.NaturalRing", spec := "naturalRing", unfollowed := true, recurses := true, apart := false, narrowed := true }
def NaturalRingUptoSaid : Prop := naturalRingUptoRow.holds Try.pinned (OpenSpec.upto naturalRingSpec)

/-- 'cylinderlaw01.NaturalFar', WHERE WHAT IT READS IS OF BULK AT MOST 1048576: true; the input reads as it did. -/
def naturalFarUptoRow : OpenClaim := { program := "ytmfkabebhbecgaa", sum := "5f32a9c6253ba3909caa26dc2ad274a95e4ee7e8ced9b6d35d08b15d6d16a999", func := "cylinder/cylinderlaw01.NaturalFar", spec := "naturalFar", apart := false, narrowed := true }
def NaturalFarUptoSaid : Prop := naturalFarUptoRow.holds Try.pinned (OpenSpec.upto naturalFarSpec)

/-- 'cylinderlaw01.NaturalAdds', WHERE WHAT IT READS IS OF BULK AT MOST 1048576: true; the input reads as it did. -/
def naturalAddsUptoRow : OpenClaim := { program := "ytmfkabebhbecgaa", sum := "5f32a9c6253ba3909caa26dc2ad274a95e4ee7e8ced9b6d35d08b15d6d16a999", func := "cylinder/cylinderlaw01.NaturalAdds", spec := "naturalAdds", unfollowed := true, recurses := true, apart := false, narrowed := true }
def NaturalAddsUptoSaid : Prop := naturalAddsUptoRow.holds Try.pinned (OpenSpec.upto naturalAddsSpec)

/-- 'cylinderlaw01.NaturalInverse', WHERE WHAT IT READS IS OF BULK AT MOST 1048576: true; the input reads as it did. -/
def naturalInverseUptoRow : OpenClaim := { program := "ytmfkabebhbecgaa", sum := "5f32a9c6253ba3909caa26dc2ad274a95e4ee7e8ced9b6d35d08b15d6d16a999", func := "cylinder/cylinderlaw01.NaturalInverse", spec := "naturalInverse", unfollowed := true, recurses := true, named := ["math/bits.overflowError"], apart := false, narrowed := true }
def NaturalInverseUptoSaid : Prop := naturalInverseUptoRow.holds Try.pinned (OpenSpec.upto naturalInverseSpec)

/-- 'cylinderlaw01.NaturalKeeps', WHERE WHAT IT READS IS OF BULK AT MOST 1048576: true; the input reads as it did. -/
def naturalKeepsUptoRow : OpenClaim := { program := "ytmfkabebhbecgaa", sum := "5f32a9c6253ba3909caa26dc2ad274a95e4ee7e8ced9b6d35d08b15d6d16a999", func := "cylinder/cylinderlaw01.NaturalKeeps", spec := "naturalKeeps", unfollowed := true, recurses := true, named := ["math/bits.overflowError"], apart := false, narrowed := true }
def NaturalKeepsUptoSaid : Prop := naturalKeepsUptoRow.holds Try.pinned (OpenSpec.upto naturalKeepsSpec)

end Rows
end Go.Proofs.Ytmfkabebhbecgaa
