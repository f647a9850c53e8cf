/-
  No cell of these rows narrows 'for every input' (looked for: loops, veiled, ifaces, maps, wideKeys, modest, calm, conditions, laid).
  DERIVED. THE GIVEN ROWS OF THIS SEAT. 20 by the template 'for every input the law returns true; each argument reads behind the call as it read before'; 0 by the template 'total and deterministic' (their statements: YthoabhcaliggoaaTotals.lean).
  GIVEN WITH THE SEED: the statements are not yours to turn. If you find one false, say at which input.
  Laid BY PROGRAM, IN A SANDBOX (cutbox-rows.mjs): the forced cells as the released guide's own fill.sh prints them over the translation 9d2d3d646d770cfb… (all of the seat's roots in one cut). By AI agents, Wed Nov 11 2026. No macro, syntax, notation, axiom, sorry.
-/
import Derived.Test.YthoabhcaliggoaaChecked
import GoSem.Claim
import GoSem.ClaimJoined
import GoSem.ClaimMapViews
import Derived.JoinedTies
import Derived.KernelRfl
namespace Go.Proofs.Ythoabhcaliggoaa
/- THE CELL 'sum', in the pinned program and in every row, IS THE sha256 OF THE DUMP (.gsa) THAT YthoabhcaliggoaaProg.lean LOADS. Nothing in Lean hashes anything: it is a label: what it is worth is what the hold of that sum in a sandbox is worth. -/
noncomputable def Try.pinned : Pinned := { name := "ythoabhcaliggoaa", sum := "9d2d3d646d770cfbe71b1d3eb0d8e7b31664b66ace84f600b4dce1280bce24e4", checked := Try.checked }
namespace Rows
def none {H : Type} : Left H := { results := [], args := [] }

/-- 'shamrocklaw03.SolveSolves': WHATEVER THE INPUT: true; the input reads as it did. -/
def solveSolvesSpec : ChangeSpec := { name := "solveSolves", fn := fun _ => fun
  | [d1, d2] => { results := [.lit (.bool true)], args := [d1, d2] }
  | _ => none }
def solveSolvesRow : OpenClaim := { program := "ythoabhcaliggoaa", sum := "9d2d3d646d770cfbe71b1d3eb0d8e7b31664b66ace84f600b4dce1280bce24e4", func := "shamrock/shamrocklaw03.SolveSolves", spec := "solveSolves", unfollowed := true, recurses := true, apart := false }
def SolveSolvesSaid : Prop := solveSolvesRow.holds Try.pinned (OpenSpec.ofChange solveSolvesSpec)

/-- ITS FALSE NEIGHBOUR: 'it returns false'. Refute it at one input. -/
def solveSolvesWrong : ChangeSpec := { name := "solveSolves", fn := fun _ => fun
  | [d1, d2] => { results := [.lit (.bool false)], args := [d1, d2] }
  | _ => none }
def SolveSolvesWrongFalsely : Prop := solveSolvesRow.holds Try.pinned (OpenSpec.ofChange solveSolvesWrong)

/-- 'shamrocklaw03.SolveRanks': WHATEVER THE INPUT: true; the input reads as it did. -/
def solveRanksSpec : ChangeSpec := { name := "solveRanks", fn := fun _ => fun
  | [d] => { results := [.lit (.bool true)], args := [d] }
  | _ => none }
def solveRanksRow : OpenClaim := { program := "ythoabhcaliggoaa", sum := "9d2d3d646d770cfbe71b1d3eb0d8e7b31664b66ace84f600b4dce1280bce24e4", func := "shamrock/shamrocklaw03.SolveRanks", spec := "solveRanks", unfollowed := true, recurses := true, apart := false }
def SolveRanksSaid : Prop := solveRanksRow.holds Try.pinned (OpenSpec.ofChange solveRanksSpec)

/-- ITS FALSE NEIGHBOUR: 'it returns false'. Refute it at one input. -/
def solveRanksWrong : ChangeSpec := { name := "solveRanks", fn := fun _ => fun
  | [d] => { results := [.lit (.bool false)], args := [d] }
  | _ => none }
def SolveRanksWrongFalsely : Prop := solveRanksRow.holds Try.pinned (OpenSpec.ofChange solveRanksWrong)

/-- 'shamrocklaw03.SolveBack': WHATEVER THE INPUT: true; the input reads as it did. -/
def solveBackSpec : ChangeSpec := { name := "solveBack", fn := fun _ => fun
  | [d1, d2] => { results := [.lit (.bool true)], args := [d1, d2] }
  | _ => none }
def solveBackRow : OpenClaim := { program := "ythoabhcaliggoaa", sum := "9d2d3d646d770cfbe71b1d3eb0d8e7b31664b66ace84f600b4dce1280bce24e4", func := "shamrock/shamrocklaw03.SolveBack", spec := "solveBack", unfollowed := true, recurses := true, apart := false }
def SolveBackSaid : Prop := solveBackRow.holds Try.pinned (OpenSpec.ofChange solveBackSpec)

/-- ITS FALSE NEIGHBOUR: 'it returns false'. Refute it at one input. -/
def solveBackWrong : ChangeSpec := { name := "solveBack", fn := fun _ => fun
  | [d1, d2] => { results := [.lit (.bool false)], args := [d1, d2] }
  | _ => none }
def SolveBackWrongFalsely : Prop := solveBackRow.holds Try.pinned (OpenSpec.ofChange solveBackWrong)

/-- 'shamrocklaw03.SolveOne': WHATEVER THE INPUT: true; the input reads as it did. -/
def solveOneSpec : ChangeSpec := { name := "solveOne", fn := fun _ => fun
  | [d1, d2, d3] => { results := [.lit (.bool true)], args := [d1, d2, d3] }
  | _ => none }
def solveOneRow : OpenClaim := { program := "ythoabhcaliggoaa", sum := "9d2d3d646d770cfbe71b1d3eb0d8e7b31664b66ace84f600b4dce1280bce24e4", func := "shamrock/shamrocklaw03.SolveOne", spec := "solveOne", unfollowed := true, recurses := true, apart := false }
def SolveOneSaid : Prop := solveOneRow.holds Try.pinned (OpenSpec.ofChange solveOneSpec)

/-- ITS FALSE NEIGHBOUR: 'it returns false'. Refute it at one input. -/
def solveOneWrong : ChangeSpec := { name := "solveOne", fn := fun _ => fun
  | [d1, d2, d3] => { results := [.lit (.bool false)], args := [d1, d2, d3] }
  | _ => none }
def SolveOneWrongFalsely : Prop := solveOneRow.holds Try.pinned (OpenSpec.ofChange solveOneWrong)

/-- 'shamrocklaw02.PolyValues': WHATEVER THE INPUT: true; the input reads as it did. -/
def polyValuesSpec : ChangeSpec := { name := "polyValues", fn := fun _ => fun
  | [d1, d2] => { results := [.lit (.bool true)], args := [d1, d2] }
  | _ => none }
def polyValuesRow : OpenClaim := { program := "ythoabhcaliggoaa", sum := "9d2d3d646d770cfbe71b1d3eb0d8e7b31664b66ace84f600b4dce1280bce24e4", func := "shamrock/shamrocklaw02.PolyValues", spec := "polyValues", unfollowed := true, recurses := true, apart := false }
def PolyValuesSaid : Prop := polyValuesRow.holds Try.pinned (OpenSpec.ofChange polyValuesSpec)

/-- ITS FALSE NEIGHBOUR: 'it returns false'. Refute it at one input. -/
def polyValuesWrong : ChangeSpec := { name := "polyValues", fn := fun _ => fun
  | [d1, d2] => { results := [.lit (.bool false)], args := [d1, d2] }
  | _ => none }
def PolyValuesWrongFalsely : Prop := polyValuesRow.holds Try.pinned (OpenSpec.ofChange polyValuesWrong)

/-- 'shamrocklaw02.PolyAdds': WHATEVER THE INPUT: true; the input reads as it did. -/
def polyAddsSpec : ChangeSpec := { name := "polyAdds", fn := fun _ => fun
  | [d1, d2] => { results := [.lit (.bool true)], args := [d1, d2] }
  | _ => none }
def polyAddsRow : OpenClaim := { program := "ythoabhcaliggoaa", sum := "9d2d3d646d770cfbe71b1d3eb0d8e7b31664b66ace84f600b4dce1280bce24e4", func := "shamrock/shamrocklaw02.PolyAdds", spec := "polyAdds", unfollowed := true, recurses := true, apart := false }
def PolyAddsSaid : Prop := polyAddsRow.holds Try.pinned (OpenSpec.ofChange polyAddsSpec)

/-- ITS FALSE NEIGHBOUR: 'it returns false'. Refute it at one input. -/
def polyAddsWrong : ChangeSpec := { name := "polyAdds", fn := fun _ => fun
  | [d1, d2] => { results := [.lit (.bool false)], args := [d1, d2] }
  | _ => none }
def PolyAddsWrongFalsely : Prop := polyAddsRow.holds Try.pinned (OpenSpec.ofChange polyAddsWrong)

/-- 'shamrocklaw02.PolyDivs': WHATEVER THE INPUT: true; the input reads as it did. -/
def polyDivsSpec : ChangeSpec := { name := "polyDivs", fn := fun _ => fun
  | [d1, d2] => { results := [.lit (.bool true)], args := [d1, d2] }
  | _ => none }
def polyDivsRow : OpenClaim := { program := "ythoabhcaliggoaa", sum := "9d2d3d646d770cfbe71b1d3eb0d8e7b31664b66ace84f600b4dce1280bce24e4", func := "shamrock/shamrocklaw02.PolyDivs", spec := "polyDivs", unfollowed := true, recurses := true, apart := false }
def PolyDivsSaid : Prop := polyDivsRow.holds Try.pinned (OpenSpec.ofChange polyDivsSpec)

/-- ITS FALSE NEIGHBOUR: 'it returns false'. Refute it at one input. -/
def polyDivsWrong : ChangeSpec := { name := "polyDivs", fn := fun _ => fun
  | [d1, d2] => { results := [.lit (.bool false)], args := [d1, d2] }
  | _ => none }
def PolyDivsWrongFalsely : Prop := polyDivsRow.holds Try.pinned (OpenSpec.ofChange polyDivsWrong)

/-- 'shamrocklaw02.PolyThrough': WHATEVER THE INPUT: true; the input reads as it did. -/
def polyThroughSpec : ChangeSpec := { name := "polyThrough", fn := fun _ => fun
  | [d1, d2] => { results := [.lit (.bool true)], args := [d1, d2] }
  | _ => none }
def polyThroughRow : OpenClaim := { program := "ythoabhcaliggoaa", sum := "9d2d3d646d770cfbe71b1d3eb0d8e7b31664b66ace84f600b4dce1280bce24e4", func := "shamrock/shamrocklaw02.PolyThrough", spec := "polyThrough", unfollowed := true, recurses := true, apart := false }
def PolyThroughSaid : Prop := polyThroughRow.holds Try.pinned (OpenSpec.ofChange polyThroughSpec)

/-- ITS FALSE NEIGHBOUR: 'it returns false'. Refute it at one input. -/
def polyThroughWrong : ChangeSpec := { name := "polyThrough", fn := fun _ => fun
  | [d1, d2] => { results := [.lit (.bool false)], args := [d1, d2] }
  | _ => none }
def PolyThroughWrongFalsely : Prop := polyThroughRow.holds Try.pinned (OpenSpec.ofChange polyThroughWrong)

/-- 'shamrocklaw02.PolyOwn': WHATEVER THE INPUT: true; the input reads as it did. -/
def polyOwnSpec : ChangeSpec := { name := "polyOwn", fn := fun _ => fun
  | [d1, d2] => { results := [.lit (.bool true)], args := [d1, d2] }
  | _ => none }
def polyOwnRow : OpenClaim := { program := "ythoabhcaliggoaa", sum := "9d2d3d646d770cfbe71b1d3eb0d8e7b31664b66ace84f600b4dce1280bce24e4", func := "shamrock/shamrocklaw02.PolyOwn", spec := "polyOwn", unfollowed := true, recurses := true, apart := false }
def PolyOwnSaid : Prop := polyOwnRow.holds Try.pinned (OpenSpec.ofChange polyOwnSpec)

/-- ITS FALSE NEIGHBOUR: 'it returns false'. Refute it at one input. -/
def polyOwnWrong : ChangeSpec := { name := "polyOwn", fn := fun _ => fun
  | [d1, d2] => { results := [.lit (.bool false)], args := [d1, d2] }
  | _ => none }
def PolyOwnWrongFalsely : Prop := polyOwnRow.holds Try.pinned (OpenSpec.ofChange polyOwnWrong)

/-- 'shamrocklaw02.PolyRoots': WHATEVER THE INPUT: true; the input reads as it did. -/
def polyRootsSpec : ChangeSpec := { name := "polyRoots", fn := fun _ => fun
  | [d1, d2, d3, d4] => { results := [.lit (.bool true)], args := [d1, d2, d3, d4] }
  | _ => none }
def polyRootsRow : OpenClaim := { program := "ythoabhcaliggoaa", sum := "9d2d3d646d770cfbe71b1d3eb0d8e7b31664b66ace84f600b4dce1280bce24e4", func := "shamrock/shamrocklaw02.PolyRoots", spec := "polyRoots", unfollowed := true, recurses := true, apart := false }
def PolyRootsSaid : Prop := polyRootsRow.holds Try.pinned (OpenSpec.ofChange polyRootsSpec)

/-- ITS FALSE NEIGHBOUR: 'it returns false'. Refute it at one input. -/
def polyRootsWrong : ChangeSpec := { name := "polyRoots", fn := fun _ => fun
  | [d1, d2, d3, d4] => { results := [.lit (.bool false)], args := [d1, d2, d3, d4] }
  | _ => none }
def PolyRootsWrongFalsely : Prop := polyRootsRow.holds Try.pinned (OpenSpec.ofChange polyRootsWrong)

/-- 'shamrocklaw04.RsEncodes': WHATEVER THE INPUT: true; the input reads as it did. -/
def rsEncodesSpec : ChangeSpec := { name := "rsEncodes", fn := fun _ => fun
  | [d1, d2] => { results := [.lit (.bool true)], args := [d1, d2] }
  | _ => none }
def rsEncodesRow : OpenClaim := { program := "ythoabhcaliggoaa", sum := "9d2d3d646d770cfbe71b1d3eb0d8e7b31664b66ace84f600b4dce1280bce24e4", func := "shamrock/shamrocklaw04.RsEncodes", spec := "rsEncodes", unfollowed := true, recurses := true, apart := false }
def RsEncodesSaid : Prop := rsEncodesRow.holds Try.pinned (OpenSpec.ofChange rsEncodesSpec)

/-- ITS FALSE NEIGHBOUR: 'it returns false'. Refute it at one input. -/
def rsEncodesWrong : ChangeSpec := { name := "rsEncodes", fn := fun _ => fun
  | [d1, d2] => { results := [.lit (.bool false)], args := [d1, d2] }
  | _ => none }
def RsEncodesWrongFalsely : Prop := rsEncodesRow.holds Try.pinned (OpenSpec.ofChange rsEncodesWrong)

/-- 'shamrocklaw04.RsDecodes': WHATEVER THE INPUT: true; the input reads as it did. -/
def rsDecodesSpec : ChangeSpec := { name := "rsDecodes", fn := fun _ => fun
  | [d1, d2, d3] => { results := [.lit (.bool true)], args := [d1, d2, d3] }
  | _ => none }
def rsDecodesRow : OpenClaim := { program := "ythoabhcaliggoaa", sum := "9d2d3d646d770cfbe71b1d3eb0d8e7b31664b66ace84f600b4dce1280bce24e4", func := "shamrock/shamrocklaw04.RsDecodes", spec := "rsDecodes", unfollowed := true, recurses := true, apart := false }
def RsDecodesSaid : Prop := rsDecodesRow.holds Try.pinned (OpenSpec.ofChange rsDecodesSpec)

/-- ITS FALSE NEIGHBOUR: 'it returns false'. Refute it at one input. -/
def rsDecodesWrong : ChangeSpec := { name := "rsDecodes", fn := fun _ => fun
  | [d1, d2, d3] => { results := [.lit (.bool false)], args := [d1, d2, d3] }
  | _ => none }
def RsDecodesWrongFalsely : Prop := rsDecodesRow.holds Try.pinned (OpenSpec.ofChange rsDecodesWrong)

/-- 'shamrocklaw04.RsFar': WHATEVER THE INPUT: true; the input reads as it did. -/
def rsFarSpec : ChangeSpec := { name := "rsFar", fn := fun _ => fun
  | [d1, d2, d3] => { results := [.lit (.bool true)], args := [d1, d2, d3] }
  | _ => none }
def rsFarRow : OpenClaim := { program := "ythoabhcaliggoaa", sum := "9d2d3d646d770cfbe71b1d3eb0d8e7b31664b66ace84f600b4dce1280bce24e4", func := "shamrock/shamrocklaw04.RsFar", spec := "rsFar", unfollowed := true, recurses := true, apart := false }
def RsFarSaid : Prop := rsFarRow.holds Try.pinned (OpenSpec.ofChange rsFarSpec)

/-- ITS FALSE NEIGHBOUR: 'it returns false'. Refute it at one input. -/
def rsFarWrong : ChangeSpec := { name := "rsFar", fn := fun _ => fun
  | [d1, d2, d3] => { results := [.lit (.bool false)], args := [d1, d2, d3] }
  | _ => none }
def RsFarWrongFalsely : Prop := rsFarRow.holds Try.pinned (OpenSpec.ofChange rsFarWrong)

/-- 'shamrocklaw04.RsBack': WHATEVER THE INPUT: true; the input reads as it did. -/
def rsBackSpec : ChangeSpec := { name := "rsBack", fn := fun _ => fun
  | [d1, d2, d3] => { results := [.lit (.bool true)], args := [d1, d2, d3] }
  | _ => none }
def rsBackRow : OpenClaim := { program := "ythoabhcaliggoaa", sum := "9d2d3d646d770cfbe71b1d3eb0d8e7b31664b66ace84f600b4dce1280bce24e4", func := "shamrock/shamrocklaw04.RsBack", spec := "rsBack", unfollowed := true, recurses := true, apart := false }
def RsBackSaid : Prop := rsBackRow.holds Try.pinned (OpenSpec.ofChange rsBackSpec)

/-- ITS FALSE NEIGHBOUR: 'it returns false'. Refute it at one input. -/
def rsBackWrong : ChangeSpec := { name := "rsBack", fn := fun _ => fun
  | [d1, d2, d3] => { results := [.lit (.bool false)], args := [d1, d2, d3] }
  | _ => none }
def RsBackWrongFalsely : Prop := rsBackRow.holds Try.pinned (OpenSpec.ofChange rsBackWrong)

/-- 'shamrocklaw04.RsAdds': WHATEVER THE INPUT: true; the input reads as it did. -/
def rsAddsSpec : ChangeSpec := { name := "rsAdds", fn := fun _ => fun
  | [d1, d2, d3] => { results := [.lit (.bool true)], args := [d1, d2, d3] }
  | _ => none }
def rsAddsRow : OpenClaim := { program := "ythoabhcaliggoaa", sum := "9d2d3d646d770cfbe71b1d3eb0d8e7b31664b66ace84f600b4dce1280bce24e4", func := "shamrock/shamrocklaw04.RsAdds", spec := "rsAdds", unfollowed := true, recurses := true, apart := false }
def RsAddsSaid : Prop := rsAddsRow.holds Try.pinned (OpenSpec.ofChange rsAddsSpec)

/-- ITS FALSE NEIGHBOUR: 'it returns false'. Refute it at one input. -/
def rsAddsWrong : ChangeSpec := { name := "rsAdds", fn := fun _ => fun
  | [d1, d2, d3] => { results := [.lit (.bool false)], args := [d1, d2, d3] }
  | _ => none }
def RsAddsWrongFalsely : Prop := rsAddsRow.holds Try.pinned (OpenSpec.ofChange rsAddsWrong)

/-- 'shamrocklaw05.BwDecodes': WHATEVER THE INPUT: true; the input reads as it did. -/
def bwDecodesSpec : ChangeSpec := { name := "bwDecodes", fn := fun _ => fun
  | [d1, d2, d3, d4] => { results := [.lit (.bool true)], args := [d1, d2, d3, d4] }
  | _ => none }
def bwDecodesRow : OpenClaim := { program := "ythoabhcaliggoaa", sum := "9d2d3d646d770cfbe71b1d3eb0d8e7b31664b66ace84f600b4dce1280bce24e4", func := "shamrock/shamrocklaw05.BwDecodes", spec := "bwDecodes", unfollowed := true, recurses := true, apart := false }
def BwDecodesSaid : Prop := bwDecodesRow.holds Try.pinned (OpenSpec.ofChange bwDecodesSpec)

/-- ITS FALSE NEIGHBOUR: 'it returns false'. Refute it at one input. -/
def bwDecodesWrong : ChangeSpec := { name := "bwDecodes", fn := fun _ => fun
  | [d1, d2, d3, d4] => { results := [.lit (.bool false)], args := [d1, d2, d3, d4] }
  | _ => none }
def BwDecodesWrongFalsely : Prop := bwDecodesRow.holds Try.pinned (OpenSpec.ofChange bwDecodesWrong)

/-- 'shamrocklaw05.BwAgrees': WHATEVER THE INPUT: true; the input reads as it did. -/
def bwAgreesSpec : ChangeSpec := { name := "bwAgrees", fn := fun _ => fun
  | [d1, d2, d3, d4] => { results := [.lit (.bool true)], args := [d1, d2, d3, d4] }
  | _ => none }
def bwAgreesRow : OpenClaim := { program := "ythoabhcaliggoaa", sum := "9d2d3d646d770cfbe71b1d3eb0d8e7b31664b66ace84f600b4dce1280bce24e4", func := "shamrock/shamrocklaw05.BwAgrees", spec := "bwAgrees", unfollowed := true, recurses := true, apart := false }
def BwAgreesSaid : Prop := bwAgreesRow.holds Try.pinned (OpenSpec.ofChange bwAgreesSpec)

/-- ITS FALSE NEIGHBOUR: 'it returns false'. Refute it at one input. -/
def bwAgreesWrong : ChangeSpec := { name := "bwAgrees", fn := fun _ => fun
  | [d1, d2, d3, d4] => { results := [.lit (.bool false)], args := [d1, d2, d3, d4] }
  | _ => none }
def BwAgreesWrongFalsely : Prop := bwAgreesRow.holds Try.pinned (OpenSpec.ofChange bwAgreesWrong)

/-- 'shamrocklaw05.BwCorrects': WHATEVER THE INPUT: true; the input reads as it did. -/
def bwCorrectsSpec : ChangeSpec := { name := "bwCorrects", fn := fun _ => fun
  | [d1, d2, d3, d4, d5] => { results := [.lit (.bool true)], args := [d1, d2, d3, d4, d5] }
  | _ => none }
def bwCorrectsRow : OpenClaim := { program := "ythoabhcaliggoaa", sum := "9d2d3d646d770cfbe71b1d3eb0d8e7b31664b66ace84f600b4dce1280bce24e4", func := "shamrock/shamrocklaw05.BwCorrects", spec := "bwCorrects", unfollowed := true, recurses := true, apart := false }
def BwCorrectsSaid : Prop := bwCorrectsRow.holds Try.pinned (OpenSpec.ofChange bwCorrectsSpec)

/-- ITS FALSE NEIGHBOUR: 'it returns false'. Refute it at one input. -/
def bwCorrectsWrong : ChangeSpec := { name := "bwCorrects", fn := fun _ => fun
  | [d1, d2, d3, d4, d5] => { results := [.lit (.bool false)], args := [d1, d2, d3, d4, d5] }
  | _ => none }
def BwCorrectsWrongFalsely : Prop := bwCorrectsRow.holds Try.pinned (OpenSpec.ofChange bwCorrectsWrong)

/-- 'shamrocklaw05.BwFew': WHATEVER THE INPUT: true; the input reads as it did. -/
def bwFewSpec : ChangeSpec := { name := "bwFew", fn := fun _ => fun
  | [d1, d2, d3, d4] => { results := [.lit (.bool true)], args := [d1, d2, d3, d4] }
  | _ => none }
def bwFewRow : OpenClaim := { program := "ythoabhcaliggoaa", sum := "9d2d3d646d770cfbe71b1d3eb0d8e7b31664b66ace84f600b4dce1280bce24e4", func := "shamrock/shamrocklaw05.BwFew", spec := "bwFew", unfollowed := true, recurses := true, apart := false }
def BwFewSaid : Prop := bwFewRow.holds Try.pinned (OpenSpec.ofChange bwFewSpec)

/-- ITS FALSE NEIGHBOUR: 'it returns false'. Refute it at one input. -/
def bwFewWrong : ChangeSpec := { name := "bwFew", fn := fun _ => fun
  | [d1, d2, d3, d4] => { results := [.lit (.bool false)], args := [d1, d2, d3, d4] }
  | _ => none }
def BwFewWrongFalsely : Prop := bwFewRow.holds Try.pinned (OpenSpec.ofChange bwFewWrong)

/-- 'shamrocklaw05.BwNever': WHATEVER THE INPUT: true; the input reads as it did. -/
def bwNeverSpec : ChangeSpec := { name := "bwNever", fn := fun _ => fun
  | [d1, d2, d3, d4, d5] => { results := [.lit (.bool true)], args := [d1, d2, d3, d4, d5] }
  | _ => none }
def bwNeverRow : OpenClaim := { program := "ythoabhcaliggoaa", sum := "9d2d3d646d770cfbe71b1d3eb0d8e7b31664b66ace84f600b4dce1280bce24e4", func := "shamrock/shamrocklaw05.BwNever", spec := "bwNever", unfollowed := true, recurses := true, apart := false }
def BwNeverSaid : Prop := bwNeverRow.holds Try.pinned (OpenSpec.ofChange bwNeverSpec)

/-- ITS FALSE NEIGHBOUR: 'it returns false'. Refute it at one input. -/
def bwNeverWrong : ChangeSpec := { name := "bwNever", fn := fun _ => fun
  | [d1, d2, d3, d4, d5] => { results := [.lit (.bool false)], args := [d1, d2, d3, d4, d5] }
  | _ => none }
def BwNeverWrongFalsely : Prop := bwNeverRow.holds Try.pinned (OpenSpec.ofChange bwNeverWrong)

/- THE SECOND FORM. 'bulk': how many values and letters a reading holds, each counted each time it is reached (what is shared counts as often as it is met; a slice's spare places count too). A statement '..UptoSaid' is the law's where the arguments, and the package variables that the reading takes, are together of bulk at most 1048576: NARROWER than '..Said'. Prove '..Said' where nothing that the law and all that it calls make is longer than what came in: it says more and counts as full. Else prove '..UptoSaid'. A law counts once. -/
mutual
def uptoBulk {H : Type} : DataW H → Nat
  | .lit (.string bytes) => bytes.length + 1
  | .lit _ => 1
  | .nil => 1
  | .ptr d => uptoBulk d + 1
  | .slice elems spare => uptoBulkAll elems + uptoBulkAll spare + 1
  | .agg parts => uptoBulkAll parts + 1
  | .iface _ d => uptoBulk d + 1
  | .map entries => uptoBulkEntries entries + 1
  | .held _ => 1
def uptoBulkAll {H : Type} : List (DataW H) → Nat
  | [] => 0
  | d :: r => uptoBulk d + uptoBulkAll r
def uptoBulkEntries {H : Type} : List (Lit × DataW H) → Nat
  | [] => 0
  | x :: r => uptoBulkEntry x + uptoBulkEntries r
def uptoBulkEntry {H : Type} : Lit × DataW H → Nat
  | (.string bytes, d) => bytes.length + uptoBulk d + 1
  | (_, d) => uptoBulk d + 1
 end
def uptoSmall : (H : Type) → List (DataW H) → Bool := fun _ ds => decide (uptoBulkAll ds ≤ 1048576)
def OpenSpec.upto (s : _root_.Go.ChangeSpec) : _root_.Go.OpenSpec := { _root_.Go.OpenSpec.ofChange s with cond := some uptoSmall }

/-- 'shamrocklaw03.SolveSolves', WHERE WHAT IT READS IS OF BULK AT MOST 1048576: true; the input reads as it did. -/
def solveSolvesUptoRow : OpenClaim := { program := "ythoabhcaliggoaa", sum := "9d2d3d646d770cfbe71b1d3eb0d8e7b31664b66ace84f600b4dce1280bce24e4", func := "shamrock/shamrocklaw03.SolveSolves", spec := "solveSolves", unfollowed := true, recurses := true, apart := false, narrowed := true }
def SolveSolvesUptoSaid : Prop := solveSolvesUptoRow.holds Try.pinned (OpenSpec.upto solveSolvesSpec)

/-- 'shamrocklaw03.SolveRanks', WHERE WHAT IT READS IS OF BULK AT MOST 1048576: true; the input reads as it did. -/
def solveRanksUptoRow : OpenClaim := { program := "ythoabhcaliggoaa", sum := "9d2d3d646d770cfbe71b1d3eb0d8e7b31664b66ace84f600b4dce1280bce24e4", func := "shamrock/shamrocklaw03.SolveRanks", spec := "solveRanks", unfollowed := true, recurses := true, apart := false, narrowed := true }
def SolveRanksUptoSaid : Prop := solveRanksUptoRow.holds Try.pinned (OpenSpec.upto solveRanksSpec)

/-- 'shamrocklaw03.SolveBack', WHERE WHAT IT READS IS OF BULK AT MOST 1048576: true; the input reads as it did. -/
def solveBackUptoRow : OpenClaim := { program := "ythoabhcaliggoaa", sum := "9d2d3d646d770cfbe71b1d3eb0d8e7b31664b66ace84f600b4dce1280bce24e4", func := "shamrock/shamrocklaw03.SolveBack", spec := "solveBack", unfollowed := true, recurses := true, apart := false, narrowed := true }
def SolveBackUptoSaid : Prop := solveBackUptoRow.holds Try.pinned (OpenSpec.upto solveBackSpec)

/-- 'shamrocklaw03.SolveOne', WHERE WHAT IT READS IS OF BULK AT MOST 1048576: true; the input reads as it did. -/
def solveOneUptoRow : OpenClaim := { program := "ythoabhcaliggoaa", sum := "9d2d3d646d770cfbe71b1d3eb0d8e7b31664b66ace84f600b4dce1280bce24e4", func := "shamrock/shamrocklaw03.SolveOne", spec := "solveOne", unfollowed := true, recurses := true, apart := false, narrowed := true }
def SolveOneUptoSaid : Prop := solveOneUptoRow.holds Try.pinned (OpenSpec.upto solveOneSpec)

/-- 'shamrocklaw02.PolyValues', WHERE WHAT IT READS IS OF BULK AT MOST 1048576: true; the input reads as it did. -/
def polyValuesUptoRow : OpenClaim := { program := "ythoabhcaliggoaa", sum := "9d2d3d646d770cfbe71b1d3eb0d8e7b31664b66ace84f600b4dce1280bce24e4", func := "shamrock/shamrocklaw02.PolyValues", spec := "polyValues", unfollowed := true, recurses := true, apart := false, narrowed := true }
def PolyValuesUptoSaid : Prop := polyValuesUptoRow.holds Try.pinned (OpenSpec.upto polyValuesSpec)

/-- 'shamrocklaw02.PolyAdds', WHERE WHAT IT READS IS OF BULK AT MOST 1048576: true; the input reads as it did. -/
def polyAddsUptoRow : OpenClaim := { program := "ythoabhcaliggoaa", sum := "9d2d3d646d770cfbe71b1d3eb0d8e7b31664b66ace84f600b4dce1280bce24e4", func := "shamrock/shamrocklaw02.PolyAdds", spec := "polyAdds", unfollowed := true, recurses := true, apart := false, narrowed := true }
def PolyAddsUptoSaid : Prop := polyAddsUptoRow.holds Try.pinned (OpenSpec.upto polyAddsSpec)

/-- 'shamrocklaw02.PolyDivs', WHERE WHAT IT READS IS OF BULK AT MOST 1048576: true; the input reads as it did. -/
def polyDivsUptoRow : OpenClaim := { program := "ythoabhcaliggoaa", sum := "9d2d3d646d770cfbe71b1d3eb0d8e7b31664b66ace84f600b4dce1280bce24e4", func := "shamrock/shamrocklaw02.PolyDivs", spec := "polyDivs", unfollowed := true, recurses := true, apart := false, narrowed := true }
def PolyDivsUptoSaid : Prop := polyDivsUptoRow.holds Try.pinned (OpenSpec.upto polyDivsSpec)

/-- 'shamrocklaw02.PolyThrough', WHERE WHAT IT READS IS OF BULK AT MOST 1048576: true; the input reads as it did. -/
def polyThroughUptoRow : OpenClaim := { program := "ythoabhcaliggoaa", sum := "9d2d3d646d770cfbe71b1d3eb0d8e7b31664b66ace84f600b4dce1280bce24e4", func := "shamrock/shamrocklaw02.PolyThrough", spec := "polyThrough", unfollowed := true, recurses := true, apart := false, narrowed := true }
def PolyThroughUptoSaid : Prop := polyThroughUptoRow.holds Try.pinned (OpenSpec.upto polyThroughSpec)

/-- 'shamrocklaw02.PolyOwn', WHERE WHAT IT READS IS OF BULK AT MOST 1048576: true; the input reads as it did. -/
def polyOwnUptoRow : OpenClaim := { program := "ythoabhcaliggoaa", sum := "9d2d3d646d770cfbe71b1d3eb0d8e7b31664b66ace84f600b4dce1280bce24e4", func := "shamrock/shamrocklaw02.PolyOwn", spec := "polyOwn", unfollowed := true, recurses := true, apart := false, narrowed := true }
def PolyOwnUptoSaid : Prop := polyOwnUptoRow.holds Try.pinned (OpenSpec.upto polyOwnSpec)

/-- 'shamrocklaw02.PolyRoots', WHERE WHAT IT READS IS OF BULK AT MOST 1048576: true; the input reads as it did. -/
def polyRootsUptoRow : OpenClaim := { program := "ythoabhcaliggoaa", sum := "9d2d3d646d770cfbe71b1d3eb0d8e7b31664b66ace84f600b4dce1280bce24e4", func := "shamrock/shamrocklaw02.PolyRoots", spec := "polyRoots", unfollowed := true, recurses := true, apart := false, narrowed := true }
def PolyRootsUptoSaid : Prop := polyRootsUptoRow.holds Try.pinned (OpenSpec.upto polyRootsSpec)

/-- 'shamrocklaw04.RsEncodes', WHERE WHAT IT READS IS OF BULK AT MOST 1048576: true; the input reads as it did. -/
def rsEncodesUptoRow : OpenClaim := { program := "ythoabhcaliggoaa", sum := "9d2d3d646d770cfbe71b1d3eb0d8e7b31664b66ace84f600b4dce1280bce24e4", func := "shamrock/shamrocklaw04.RsEncodes", spec := "rsEncodes", unfollowed := true, recurses := true, apart := false, narrowed := true }
def RsEncodesUptoSaid : Prop := rsEncodesUptoRow.holds Try.pinned (OpenSpec.upto rsEncodesSpec)

/-- 'shamrocklaw04.RsDecodes', WHERE WHAT IT READS IS OF BULK AT MOST 1048576: true; the input reads as it did. -/
def rsDecodesUptoRow : OpenClaim := { program := "ythoabhcaliggoaa", sum := "9d2d3d646d770cfbe71b1d3eb0d8e7b31664b66ace84f600b4dce1280bce24e4", func := "shamrock/shamrocklaw04.RsDecodes", spec := "rsDecodes", unfollowed := true, recurses := true, apart := false, narrowed := true }
def RsDecodesUptoSaid : Prop := rsDecodesUptoRow.holds Try.pinned (OpenSpec.upto rsDecodesSpec)

/-- 'shamrocklaw04.RsFar', WHERE WHAT IT READS IS OF BULK AT MOST 1048576: true; the input reads as it did. -/
def rsFarUptoRow : OpenClaim := { program := "ythoabhcaliggoaa", sum := "9d2d3d646d770cfbe71b1d3eb0d8e7b31664b66ace84f600b4dce1280bce24e4", func := "shamrock/shamrocklaw04.RsFar", spec := "rsFar", unfollowed := true, recurses := true, apart := false, narrowed := true }
def RsFarUptoSaid : Prop := rsFarUptoRow.holds Try.pinned (OpenSpec.upto rsFarSpec)

/-- 'shamrocklaw04.RsBack', WHERE WHAT IT READS IS OF BULK AT MOST 1048576: true; the input reads as it did. -/
def rsBackUptoRow : OpenClaim := { program := "ythoabhcaliggoaa", sum := "9d2d3d646d770cfbe71b1d3eb0d8e7b31664b66ace84f600b4dce1280bce24e4", func := "shamrock/shamrocklaw04.RsBack", spec := "rsBack", unfollowed := true, recurses := true, apart := false, narrowed := true }
def RsBackUptoSaid : Prop := rsBackUptoRow.holds Try.pinned (OpenSpec.upto rsBackSpec)

/-- 'shamrocklaw04.RsAdds', WHERE WHAT IT READS IS OF BULK AT MOST 1048576: true; the input reads as it did. -/
def rsAddsUptoRow : OpenClaim := { program := "ythoabhcaliggoaa", sum := "9d2d3d646d770cfbe71b1d3eb0d8e7b31664b66ace84f600b4dce1280bce24e4", func := "shamrock/shamrocklaw04.RsAdds", spec := "rsAdds", unfollowed := true, recurses := true, apart := false, narrowed := true }
def RsAddsUptoSaid : Prop := rsAddsUptoRow.holds Try.pinned (OpenSpec.upto rsAddsSpec)

/-- 'shamrocklaw05.BwDecodes', WHERE WHAT IT READS IS OF BULK AT MOST 1048576: true; the input reads as it did. -/
def bwDecodesUptoRow : OpenClaim := { program := "ythoabhcaliggoaa", sum := "9d2d3d646d770cfbe71b1d3eb0d8e7b31664b66ace84f600b4dce1280bce24e4", func := "shamrock/shamrocklaw05.BwDecodes", spec := "bwDecodes", unfollowed := true, recurses := true, apart := false, narrowed := true }
def BwDecodesUptoSaid : Prop := bwDecodesUptoRow.holds Try.pinned (OpenSpec.upto bwDecodesSpec)

/-- 'shamrocklaw05.BwAgrees', WHERE WHAT IT READS IS OF BULK AT MOST 1048576: true; the input reads as it did. -/
def bwAgreesUptoRow : OpenClaim := { program := "ythoabhcaliggoaa", sum := "9d2d3d646d770cfbe71b1d3eb0d8e7b31664b66ace84f600b4dce1280bce24e4", func := "shamrock/shamrocklaw05.BwAgrees", spec := "bwAgrees", unfollowed := true, recurses := true, apart := false, narrowed := true }
def BwAgreesUptoSaid : Prop := bwAgreesUptoRow.holds Try.pinned (OpenSpec.upto bwAgreesSpec)

/-- 'shamrocklaw05.BwCorrects', WHERE WHAT IT READS IS OF BULK AT MOST 1048576: true; the input reads as it did. -/
def bwCorrectsUptoRow : OpenClaim := { program := "ythoabhcaliggoaa", sum := "9d2d3d646d770cfbe71b1d3eb0d8e7b31664b66ace84f600b4dce1280bce24e4", func := "shamrock/shamrocklaw05.BwCorrects", spec := "bwCorrects", unfollowed := true, recurses := true, apart := false, narrowed := true }
def BwCorrectsUptoSaid : Prop := bwCorrectsUptoRow.holds Try.pinned (OpenSpec.upto bwCorrectsSpec)

/-- 'shamrocklaw05.BwFew', WHERE WHAT IT READS IS OF BULK AT MOST 1048576: true; the input reads as it did. -/
def bwFewUptoRow : OpenClaim := { program := "ythoabhcaliggoaa", sum := "9d2d3d646d770cfbe71b1d3eb0d8e7b31664b66ace84f600b4dce1280bce24e4", func := "shamrock/shamrocklaw05.BwFew", spec := "bwFew", unfollowed := true, recurses := true, apart := false, narrowed := true }
def BwFewUptoSaid : Prop := bwFewUptoRow.holds Try.pinned (OpenSpec.upto bwFewSpec)

/-- 'shamrocklaw05.BwNever', WHERE WHAT IT READS IS OF BULK AT MOST 1048576: true; the input reads as it did. -/
def bwNeverUptoRow : OpenClaim := { program := "ythoabhcaliggoaa", sum := "9d2d3d646d770cfbe71b1d3eb0d8e7b31664b66ace84f600b4dce1280bce24e4", func := "shamrock/shamrocklaw05.BwNever", spec := "bwNever", unfollowed := true, recurses := true, apart := false, narrowed := true }
def BwNeverUptoSaid : Prop := bwNeverUptoRow.holds Try.pinned (OpenSpec.upto bwNeverSpec)

end Rows
end Go.Proofs.Ythoabhcaliggoaa
