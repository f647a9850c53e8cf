/-
  No cell of these rows narrows 'for every input' (looked for: loops, veiled, ifaces, maps, wideKeys, modest, calm, conditions, laid).
  DERIVED. THE GIVEN ROWS OF THIS SEAT. 6 by the template 'for every input the law returns true; each argument reads behind the call as it read before'; 0 by the template 'total and deterministic' (their statements: YtccgbgjhjpllcaaTotals.lean).
  GIVEN WITH THE SEED: the statements are not yours to turn. If you find one false, say at which input.
  Laid BY PROGRAM, IN A SANDBOX (cutbox-rows.mjs): the forced cells as the released guide's own fill.sh prints them over the translation f4efda7f0edba608… (all of the seat's roots in one cut). By AI agents, Wed Nov 11 2026. No macro, syntax, notation, axiom, sorry.
-/
import Derived.Test.YtccgbgjhjpllcaaChecked
import GoSem.Claim
import GoSem.ClaimJoined
import GoSem.ClaimMapViews
import Derived.JoinedTies
import Derived.KernelRfl
namespace Go.Proofs.Ytccgbgjhjpllcaa
/- THE CELL 'sum', in the pinned program and in every row, IS THE sha256 OF THE DUMP (.gsa) THAT YtccgbgjhjpllcaaProg.lean LOADS. Nothing in Lean hashes anything: it is a label: what it is worth is what the hold of that sum in a sandbox is worth. -/
noncomputable def Try.pinned : Pinned := { name := "ytccgbgjhjpllcaa", sum := "f4efda7f0edba6083e1071c4d9400aa72b4635945b6200072037f3d1def0f1c5", checked := Try.checked }
namespace Rows
def none {H : Type} : Left H := { results := [], args := [] }

/-- 'shamrocklaw20.ClientDeals': WHATEVER THE INPUT: true; the input reads as it did. -/
def clientDealsSpec : ChangeSpec := { name := "clientDeals", fn := fun _ => fun
  | [d1, d2, d3, d4, d5] => { results := [.lit (.bool true)], args := [d1, d2, d3, d4, d5] }
  | _ => none }
def clientDealsRow : OpenClaim := { program := "ytccgbgjhjpllcaa", sum := "f4efda7f0edba6083e1071c4d9400aa72b4635945b6200072037f3d1def0f1c5", func := "shamrock/shamrocklaw20.ClientDeals", spec := "clientDeals", unfollowed := true, recurses := true, apart := false }
def ClientDealsSaid : Prop := clientDealsRow.holds Try.pinned (OpenSpec.ofChange clientDealsSpec)

/-- ITS FALSE NEIGHBOUR: 'it returns false'. Refute it at one input. -/
def clientDealsWrong : ChangeSpec := { name := "clientDeals", fn := fun _ => fun
  | [d1, d2, d3, d4, d5] => { results := [.lit (.bool false)], args := [d1, d2, d3, d4, d5] }
  | _ => none }
def ClientDealsWrongFalsely : Prop := clientDealsRow.holds Try.pinned (OpenSpec.ofChange clientDealsWrong)

/-- 'shamrocklaw11.OpenFinds': WHATEVER THE INPUT: true; the input reads as it did. -/
def openFindsSpec : ChangeSpec := { name := "openFinds", fn := fun _ => fun
  | [d1, d2, d3, d4] => { results := [.lit (.bool true)], args := [d1, d2, d3, d4] }
  | _ => none }
def openFindsRow : OpenClaim := { program := "ytccgbgjhjpllcaa", sum := "f4efda7f0edba6083e1071c4d9400aa72b4635945b6200072037f3d1def0f1c5", func := "shamrock/shamrocklaw11.OpenFinds", spec := "openFinds", unfollowed := true, recurses := true, apart := false }
def OpenFindsSaid : Prop := openFindsRow.holds Try.pinned (OpenSpec.ofChange openFindsSpec)

/-- ITS FALSE NEIGHBOUR: 'it returns false'. Refute it at one input. -/
def openFindsWrong : ChangeSpec := { name := "openFinds", fn := fun _ => fun
  | [d1, d2, d3, d4] => { results := [.lit (.bool false)], args := [d1, d2, d3, d4] }
  | _ => none }
def OpenFindsWrongFalsely : Prop := openFindsRow.holds Try.pinned (OpenSpec.ofChange openFindsWrong)

/-- 'shamrocklaw11.OpenCorrects': WHATEVER THE INPUT: true; the input reads as it did. -/
def openCorrectsSpec : ChangeSpec := { name := "openCorrects", fn := fun _ => fun
  | [d1, d2, d3, d4, d5] => { results := [.lit (.bool true)], args := [d1, d2, d3, d4, d5] }
  | _ => none }
def openCorrectsRow : OpenClaim := { program := "ytccgbgjhjpllcaa", sum := "f4efda7f0edba6083e1071c4d9400aa72b4635945b6200072037f3d1def0f1c5", func := "shamrock/shamrocklaw11.OpenCorrects", spec := "openCorrects", unfollowed := true, recurses := true, apart := false }
def OpenCorrectsSaid : Prop := openCorrectsRow.holds Try.pinned (OpenSpec.ofChange openCorrectsSpec)

/-- ITS FALSE NEIGHBOUR: 'it returns false'. Refute it at one input. -/
def openCorrectsWrong : ChangeSpec := { name := "openCorrects", fn := fun _ => fun
  | [d1, d2, d3, d4, d5] => { results := [.lit (.bool false)], args := [d1, d2, d3, d4, d5] }
  | _ => none }
def OpenCorrectsWrongFalsely : Prop := openCorrectsRow.holds Try.pinned (OpenSpec.ofChange openCorrectsWrong)

/-- 'shamrocklaw11.OpenNever': WHATEVER THE INPUT: true; the input reads as it did. -/
def openNeverSpec : ChangeSpec := { name := "openNever", fn := fun _ => fun
  | [d1, d2, d3, d4, d5] => { results := [.lit (.bool true)], args := [d1, d2, d3, d4, d5] }
  | _ => none }
def openNeverRow : OpenClaim := { program := "ytccgbgjhjpllcaa", sum := "f4efda7f0edba6083e1071c4d9400aa72b4635945b6200072037f3d1def0f1c5", func := "shamrock/shamrocklaw11.OpenNever", spec := "openNever", unfollowed := true, recurses := true, apart := false }
def OpenNeverSaid : Prop := openNeverRow.holds Try.pinned (OpenSpec.ofChange openNeverSpec)

/-- ITS FALSE NEIGHBOUR: 'it returns false'. Refute it at one input. -/
def openNeverWrong : ChangeSpec := { name := "openNever", fn := fun _ => fun
  | [d1, d2, d3, d4, d5] => { results := [.lit (.bool false)], args := [d1, d2, d3, d4, d5] }
  | _ => none }
def OpenNeverWrongFalsely : Prop := openNeverRow.holds Try.pinned (OpenSpec.ofChange openNeverWrong)

/-- 'shamrocklaw11.OpenOrder': WHATEVER THE INPUT: true; the input reads as it did. -/
def openOrderSpec : ChangeSpec := { name := "openOrder", fn := fun _ => fun
  | [d1, d2, d3, d4, d5] => { results := [.lit (.bool true)], args := [d1, d2, d3, d4, d5] }
  | _ => none }
def openOrderRow : OpenClaim := { program := "ytccgbgjhjpllcaa", sum := "f4efda7f0edba6083e1071c4d9400aa72b4635945b6200072037f3d1def0f1c5", func := "shamrock/shamrocklaw11.OpenOrder", spec := "openOrder", unfollowed := true, recurses := true, apart := false }
def OpenOrderSaid : Prop := openOrderRow.holds Try.pinned (OpenSpec.ofChange openOrderSpec)

/-- ITS FALSE NEIGHBOUR: 'it returns false'. Refute it at one input. -/
def openOrderWrong : ChangeSpec := { name := "openOrder", fn := fun _ => fun
  | [d1, d2, d3, d4, d5] => { results := [.lit (.bool false)], args := [d1, d2, d3, d4, d5] }
  | _ => none }
def OpenOrderWrongFalsely : Prop := openOrderRow.holds Try.pinned (OpenSpec.ofChange openOrderWrong)

/-- 'shamrocklaw11.OpenOpens': WHATEVER THE INPUT: true; the input reads as it did. -/
def openOpensSpec : ChangeSpec := { name := "openOpens", fn := fun _ => fun
  | [d1, d2, d3, d4, d5] => { results := [.lit (.bool true)], args := [d1, d2, d3, d4, d5] }
  | _ => none }
def openOpensRow : OpenClaim := { program := "ytccgbgjhjpllcaa", sum := "f4efda7f0edba6083e1071c4d9400aa72b4635945b6200072037f3d1def0f1c5", func := "shamrock/shamrocklaw11.OpenOpens", spec := "openOpens", unfollowed := true, recurses := true, apart := false }
def OpenOpensSaid : Prop := openOpensRow.holds Try.pinned (OpenSpec.ofChange openOpensSpec)

/-- ITS FALSE NEIGHBOUR: 'it returns false'. Refute it at one input. -/
def openOpensWrong : ChangeSpec := { name := "openOpens", fn := fun _ => fun
  | [d1, d2, d3, d4, d5] => { results := [.lit (.bool false)], args := [d1, d2, d3, d4, d5] }
  | _ => none }
def OpenOpensWrongFalsely : Prop := openOpensRow.holds Try.pinned (OpenSpec.ofChange openOpensWrong)

/- THE SECOND FORM. 'bulk': how many values and letters a reading holds, each counted each time it is reached (what is shared counts as often as it is met; a slice's spare places count too). A statement '..UptoSaid' is the law's where the arguments, and the package variables that the reading takes, are together of bulk at most 1048576: NARROWER than '..Said'. Prove '..Said' where nothing that the law and all that it calls make is longer than what came in: it says more and counts as full. Else prove '..UptoSaid'. A law counts once. -/
mutual
def uptoBulk {H : Type} : DataW H → Nat
  | .lit (.string bytes) => bytes.length + 1
  | .lit _ => 1
  | .nil => 1
  | .ptr d => uptoBulk d + 1
  | .slice elems spare => uptoBulkAll elems + uptoBulkAll spare + 1
  | .agg parts => uptoBulkAll parts + 1
  | .iface _ d => uptoBulk d + 1
  | .map entries => uptoBulkEntries entries + 1
  | .held _ => 1
def uptoBulkAll {H : Type} : List (DataW H) → Nat
  | [] => 0
  | d :: r => uptoBulk d + uptoBulkAll r
def uptoBulkEntries {H : Type} : List (Lit × DataW H) → Nat
  | [] => 0
  | x :: r => uptoBulkEntry x + uptoBulkEntries r
def uptoBulkEntry {H : Type} : Lit × DataW H → Nat
  | (.string bytes, d) => bytes.length + uptoBulk d + 1
  | (_, d) => uptoBulk d + 1
 end
def uptoSmall : (H : Type) → List (DataW H) → Bool := fun _ ds => decide (uptoBulkAll ds ≤ 1048576)
def OpenSpec.upto (s : _root_.Go.ChangeSpec) : _root_.Go.OpenSpec := { _root_.Go.OpenSpec.ofChange s with cond := some uptoSmall }

/-- 'shamrocklaw20.ClientDeals', WHERE WHAT IT READS IS OF BULK AT MOST 1048576: true; the input reads as it did. -/
def clientDealsUptoRow : OpenClaim := { program := "ytccgbgjhjpllcaa", sum := "f4efda7f0edba6083e1071c4d9400aa72b4635945b6200072037f3d1def0f1c5", func := "shamrock/shamrocklaw20.ClientDeals", spec := "clientDeals", unfollowed := true, recurses := true, apart := false, narrowed := true }
def ClientDealsUptoSaid : Prop := clientDealsUptoRow.holds Try.pinned (OpenSpec.upto clientDealsSpec)

/-- 'shamrocklaw11.OpenFinds', WHERE WHAT IT READS IS OF BULK AT MOST 1048576: true; the input reads as it did. -/
def openFindsUptoRow : OpenClaim := { program := "ytccgbgjhjpllcaa", sum := "f4efda7f0edba6083e1071c4d9400aa72b4635945b6200072037f3d1def0f1c5", func := "shamrock/shamrocklaw11.OpenFinds", spec := "openFinds", unfollowed := true, recurses := true, apart := false, narrowed := true }
def OpenFindsUptoSaid : Prop := openFindsUptoRow.holds Try.pinned (OpenSpec.upto openFindsSpec)

/-- 'shamrocklaw11.OpenCorrects', WHERE WHAT IT READS IS OF BULK AT MOST 1048576: true; the input reads as it did. -/
def openCorrectsUptoRow : OpenClaim := { program := "ytccgbgjhjpllcaa", sum := "f4efda7f0edba6083e1071c4d9400aa72b4635945b6200072037f3d1def0f1c5", func := "shamrock/shamrocklaw11.OpenCorrects", spec := "openCorrects", unfollowed := true, recurses := true, apart := false, narrowed := true }
def OpenCorrectsUptoSaid : Prop := openCorrectsUptoRow.holds Try.pinned (OpenSpec.upto openCorrectsSpec)

/-- 'shamrocklaw11.OpenNever', WHERE WHAT IT READS IS OF BULK AT MOST 1048576: true; the input reads as it did. -/
def openNeverUptoRow : OpenClaim := { program := "ytccgbgjhjpllcaa", sum := "f4efda7f0edba6083e1071c4d9400aa72b4635945b6200072037f3d1def0f1c5", func := "shamrock/shamrocklaw11.OpenNever", spec := "openNever", unfollowed := true, recurses := true, apart := false, narrowed := true }
def OpenNeverUptoSaid : Prop := openNeverUptoRow.holds Try.pinned (OpenSpec.upto openNeverSpec)

/-- 'shamrocklaw11.OpenOrder', WHERE WHAT IT READS IS OF BULK AT MOST 1048576: true; the input reads as it did. -/
def openOrderUptoRow : OpenClaim := { program := "ytccgbgjhjpllcaa", sum := "f4efda7f0edba6083e1071c4d9400aa72b4635945b6200072037f3d1def0f1c5", func := "shamrock/shamrocklaw11.OpenOrder", spec := "openOrder", unfollowed := true, recurses := true, apart := false, narrowed := true }
def OpenOrderUptoSaid : Prop := openOrderUptoRow.holds Try.pinned (OpenSpec.upto openOrderSpec)

/-- 'shamrocklaw11.OpenOpens', WHERE WHAT IT READS IS OF BULK AT MOST 1048576: true; the input reads as it did. -/
def openOpensUptoRow : OpenClaim := { program := "ytccgbgjhjpllcaa", sum := "f4efda7f0edba6083e1071c4d9400aa72b4635945b6200072037f3d1def0f1c5", func := "shamrock/shamrocklaw11.OpenOpens", spec := "openOpens", unfollowed := true, recurses := true, apart := false, narrowed := true }
def OpenOpensUptoSaid : Prop := openOpensUptoRow.holds Try.pinned (OpenSpec.upto openOpensSpec)

end Rows
end Go.Proofs.Ytccgbgjhjpllcaa
