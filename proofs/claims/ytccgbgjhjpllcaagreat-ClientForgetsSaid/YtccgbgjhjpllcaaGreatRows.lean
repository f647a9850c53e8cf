/-
  No cell of these rows narrows 'for every input' (looked for: loops, veiled, ifaces, maps, wideKeys, modest, calm, conditions, laid).
  DERIVED. THE GIVEN ROWS OF THIS SEAT. 4 by the template 'for every input the law returns true; each argument reads behind the call as it read before'; 0 by the template 'total and deterministic' (their statements: YtccgbgjhjpllcaaGreatTotals.lean).
  GIVEN WITH THE SEED: the statements are not yours to turn. If you find one false, say at which input.
  Laid BY PROGRAM, IN A SANDBOX (cutbox-rows.mjs): the forced cells as the released guide's own fill.sh prints them over the translation 9d1ed13a4bf3adbd… (all of the seat's roots in one cut). By AI agents, Wed Nov 11 2026. No macro, syntax, notation, axiom, sorry.
-/
import Derived.Test.YtccgbgjhjpllcaaGreatChecked
import GoSem.Claim
import GoSem.ClaimJoined
import GoSem.ClaimMapViews
import Derived.JoinedTies
import Derived.KernelRfl
namespace Go.Proofs.YtccgbgjhjpllcaaGreat
/- THE CELL 'sum', in the pinned program and in every row, IS THE sha256 OF THE DUMP (.gsa) THAT YtccgbgjhjpllcaaGreatProg.lean LOADS. Nothing in Lean hashes anything: it is a label: what it is worth is what the hold of that sum in a sandbox is worth. -/
noncomputable def Tryz.pinned : Pinned := { name := "ytccgbgjhjpllcaagreat", sum := "9d1ed13a4bf3adbda11c6780845f374f1b81fe480b33399bd5f72be0cd934120", checked := Tryz.checked }
namespace Rows
def none {H : Type} : Left H := { results := [], args := [] }

/-- 'shamrocklaw20.ClientTakes': WHATEVER THE INPUT: true; the input reads as it did. -/
def clientTakesSpec : ChangeSpec := { name := "clientTakes", fn := fun _ => fun
  | [d1, d2, d3, d4] => { results := [.lit (.bool true)], args := [d1, d2, d3, d4] }
  | _ => none }
def clientTakesRow : OpenClaim := { program := "ytccgbgjhjpllcaagreat", sum := "9d1ed13a4bf3adbda11c6780845f374f1b81fe480b33399bd5f72be0cd934120", func := "shamrock/shamrocklaw20.ClientTakes", spec := "clientTakes", unfollowed := true, recurses := true, apart := false }
def ClientTakesSaid : Prop := clientTakesRow.holds Tryz.pinned (OpenSpec.ofChange clientTakesSpec)

/-- ITS FALSE NEIGHBOUR: 'it returns false'. Refute it at one input. -/
def clientTakesWrong : ChangeSpec := { name := "clientTakes", fn := fun _ => fun
  | [d1, d2, d3, d4] => { results := [.lit (.bool false)], args := [d1, d2, d3, d4] }
  | _ => none }
def ClientTakesWrongFalsely : Prop := clientTakesRow.holds Tryz.pinned (OpenSpec.ofChange clientTakesWrong)

/-- 'shamrocklaw20.ClientForgets': WHATEVER THE INPUT: true; the input reads as it did. -/
def clientForgetsSpec : ChangeSpec := { name := "clientForgets", fn := fun _ => fun
  | [d1, d2, d3, d4, d5, d6] => { results := [.lit (.bool true)], args := [d1, d2, d3, d4, d5, d6] }
  | _ => none }
def clientForgetsRow : OpenClaim := { program := "ytccgbgjhjpllcaagreat", sum := "9d1ed13a4bf3adbda11c6780845f374f1b81fe480b33399bd5f72be0cd934120", func := "shamrock/shamrocklaw20.ClientForgets", spec := "clientForgets", unfollowed := true, recurses := true, apart := false }
def ClientForgetsSaid : Prop := clientForgetsRow.holds Tryz.pinned (OpenSpec.ofChange clientForgetsSpec)

/-- ITS FALSE NEIGHBOUR: 'it returns false'. Refute it at one input. -/
def clientForgetsWrong : ChangeSpec := { name := "clientForgets", fn := fun _ => fun
  | [d1, d2, d3, d4, d5, d6] => { results := [.lit (.bool false)], args := [d1, d2, d3, d4, d5, d6] }
  | _ => none }
def ClientForgetsWrongFalsely : Prop := clientForgetsRow.holds Tryz.pinned (OpenSpec.ofChange clientForgetsWrong)

/-- 'shamrocklaw20.ClientNone': WHATEVER THE INPUT: true; the input reads as it did. -/
def clientNoneSpec : ChangeSpec := { name := "clientNone", fn := fun _ => fun
  | [d1, d2, d3] => { results := [.lit (.bool true)], args := [d1, d2, d3] }
  | _ => none }
def clientNoneRow : OpenClaim := { program := "ytccgbgjhjpllcaagreat", sum := "9d1ed13a4bf3adbda11c6780845f374f1b81fe480b33399bd5f72be0cd934120", func := "shamrock/shamrocklaw20.ClientNone", spec := "clientNone", unfollowed := true, recurses := true, apart := false }
def ClientNoneSaid : Prop := clientNoneRow.holds Tryz.pinned (OpenSpec.ofChange clientNoneSpec)

/-- ITS FALSE NEIGHBOUR: 'it returns false'. Refute it at one input. -/
def clientNoneWrong : ChangeSpec := { name := "clientNone", fn := fun _ => fun
  | [d1, d2, d3] => { results := [.lit (.bool false)], args := [d1, d2, d3] }
  | _ => none }
def ClientNoneWrongFalsely : Prop := clientNoneRow.holds Tryz.pinned (OpenSpec.ofChange clientNoneWrong)

/-- 'shamrocklaw20.ClientOnce': WHATEVER THE INPUT: true; the input reads as it did. -/
def clientOnceSpec : ChangeSpec := { name := "clientOnce", fn := fun _ => fun
  | [d1, d2, d3, d4, d5] => { results := [.lit (.bool true)], args := [d1, d2, d3, d4, d5] }
  | _ => none }
def clientOnceRow : OpenClaim := { program := "ytccgbgjhjpllcaagreat", sum := "9d1ed13a4bf3adbda11c6780845f374f1b81fe480b33399bd5f72be0cd934120", func := "shamrock/shamrocklaw20.ClientOnce", spec := "clientOnce", unfollowed := true, recurses := true, apart := false }
def ClientOnceSaid : Prop := clientOnceRow.holds Tryz.pinned (OpenSpec.ofChange clientOnceSpec)

/-- ITS FALSE NEIGHBOUR: 'it returns false'. Refute it at one input. -/
def clientOnceWrong : ChangeSpec := { name := "clientOnce", fn := fun _ => fun
  | [d1, d2, d3, d4, d5] => { results := [.lit (.bool false)], args := [d1, d2, d3, d4, d5] }
  | _ => none }
def ClientOnceWrongFalsely : Prop := clientOnceRow.holds Tryz.pinned (OpenSpec.ofChange clientOnceWrong)

/- THE SECOND FORM. 'bulk': how many values and letters a reading holds, each counted each time it is reached (what is shared counts as often as it is met; a slice's spare places count too). A statement '..UptoSaid' is the law's where the arguments, and the package variables that the reading takes, are together of bulk at most 1048576: NARROWER than '..Said'. Prove '..Said' where nothing that the law and all that it calls make is longer than what came in: it says more and counts as full. Else prove '..UptoSaid'. A law counts once. -/
mutual
def uptoBulk {H : Type} : DataW H → Nat
  | .lit (.string bytes) => bytes.length + 1
  | .lit _ => 1
  | .nil => 1
  | .ptr d => uptoBulk d + 1
  | .slice elems spare => uptoBulkAll elems + uptoBulkAll spare + 1
  | .agg parts => uptoBulkAll parts + 1
  | .iface _ d => uptoBulk d + 1
  | .map entries => uptoBulkEntries entries + 1
  | .held _ => 1
def uptoBulkAll {H : Type} : List (DataW H) → Nat
  | [] => 0
  | d :: r => uptoBulk d + uptoBulkAll r
def uptoBulkEntries {H : Type} : List (Lit × DataW H) → Nat
  | [] => 0
  | x :: r => uptoBulkEntry x + uptoBulkEntries r
def uptoBulkEntry {H : Type} : Lit × DataW H → Nat
  | (.string bytes, d) => bytes.length + uptoBulk d + 1
  | (_, d) => uptoBulk d + 1
 end
def uptoSmall : (H : Type) → List (DataW H) → Bool := fun _ ds => decide (uptoBulkAll ds ≤ 1048576)
def OpenSpec.upto (s : _root_.Go.ChangeSpec) : _root_.Go.OpenSpec := { _root_.Go.OpenSpec.ofChange s with cond := some uptoSmall }

/-- 'shamrocklaw20.ClientTakes', WHERE WHAT IT READS IS OF BULK AT MOST 1048576: true; the input reads as it did. -/
def clientTakesUptoRow : OpenClaim := { program := "ytccgbgjhjpllcaagreat", sum := "9d1ed13a4bf3adbda11c6780845f374f1b81fe480b33399bd5f72be0cd934120", func := "shamrock/shamrocklaw20.ClientTakes", spec := "clientTakes", unfollowed := true, recurses := true, apart := false, narrowed := true }
def ClientTakesUptoSaid : Prop := clientTakesUptoRow.holds Tryz.pinned (OpenSpec.upto clientTakesSpec)

/-- 'shamrocklaw20.ClientForgets', WHERE WHAT IT READS IS OF BULK AT MOST 1048576: true; the input reads as it did. -/
def clientForgetsUptoRow : OpenClaim := { program := "ytccgbgjhjpllcaagreat", sum := "9d1ed13a4bf3adbda11c6780845f374f1b81fe480b33399bd5f72be0cd934120", func := "shamrock/shamrocklaw20.ClientForgets", spec := "clientForgets", unfollowed := true, recurses := true, apart := false, narrowed := true }
def ClientForgetsUptoSaid : Prop := clientForgetsUptoRow.holds Tryz.pinned (OpenSpec.upto clientForgetsSpec)

/-- 'shamrocklaw20.ClientNone', WHERE WHAT IT READS IS OF BULK AT MOST 1048576: true; the input reads as it did. -/
def clientNoneUptoRow : OpenClaim := { program := "ytccgbgjhjpllcaagreat", sum := "9d1ed13a4bf3adbda11c6780845f374f1b81fe480b33399bd5f72be0cd934120", func := "shamrock/shamrocklaw20.ClientNone", spec := "clientNone", unfollowed := true, recurses := true, apart := false, narrowed := true }
def ClientNoneUptoSaid : Prop := clientNoneUptoRow.holds Tryz.pinned (OpenSpec.upto clientNoneSpec)

/-- 'shamrocklaw20.ClientOnce', WHERE WHAT IT READS IS OF BULK AT MOST 1048576: true; the input reads as it did. -/
def clientOnceUptoRow : OpenClaim := { program := "ytccgbgjhjpllcaagreat", sum := "9d1ed13a4bf3adbda11c6780845f374f1b81fe480b33399bd5f72be0cd934120", func := "shamrock/shamrocklaw20.ClientOnce", spec := "clientOnce", unfollowed := true, recurses := true, apart := false, narrowed := true }
def ClientOnceUptoSaid : Prop := clientOnceUptoRow.holds Tryz.pinned (OpenSpec.upto clientOnceSpec)

end Rows
end Go.Proofs.YtccgbgjhjpllcaaGreat
