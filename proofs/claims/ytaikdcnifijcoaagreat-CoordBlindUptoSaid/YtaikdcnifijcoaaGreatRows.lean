/-
  No cell of these rows narrows 'for every input' (looked for: loops, veiled, ifaces, maps, wideKeys, modest, calm, conditions, laid).
  DERIVED. THE GIVEN ROWS OF THIS SEAT. 7 by the template 'for every input the law returns true; each argument reads behind the call as it read before'; 0 by the template 'total and deterministic' (their statements: YtaikdcnifijcoaaGreatTotals.lean).
  GIVEN WITH THE SEED: the statements are not yours to turn. If you find one false, say at which input.
  Laid BY PROGRAM, IN A SANDBOX (cutbox-rows.mjs): the forced cells as the released guide's own fill.sh prints them over the translation f022b50661b41ae7… (all of the seat's roots in one cut). By AI agents, Wed Nov 11 2026. No macro, syntax, notation, axiom, sorry.
-/
import Derived.Test.YtaikdcnifijcoaaGreatChecked
import GoSem.Claim
import GoSem.ClaimJoined
import GoSem.ClaimMapViews
import Derived.JoinedTies
import Derived.KernelRfl
namespace Go.Proofs.YtaikdcnifijcoaaGreat
/- THE CELL 'sum', in the pinned program and in every row, IS THE sha256 OF THE DUMP (.gsa) THAT YtaikdcnifijcoaaGreatProg.lean LOADS. Nothing in Lean hashes anything: it is a label: what it is worth is what the hold of that sum in a sandbox is worth. -/
noncomputable def Tryz.pinned : Pinned := { name := "ytaikdcnifijcoaagreat", sum := "f022b50661b41ae7d7b6f4a3fad43e38e00acecb5340039a4e810f4ca5b50528", checked := Tryz.checked }
namespace Rows
def none {H : Type} : Left H := { results := [], args := [] }

/-- 'shamrocklaw20.ClientTakes': WHATEVER THE INPUT: true; the input reads as it did. -/
def clientTakesSpec : ChangeSpec := { name := "clientTakes", fn := fun _ => fun
  | [d1, d2, d3, d4] => { results := [.lit (.bool true)], args := [d1, d2, d3, d4] }
  | _ => none }
def clientTakesRow : OpenClaim := { program := "ytaikdcnifijcoaagreat", sum := "f022b50661b41ae7d7b6f4a3fad43e38e00acecb5340039a4e810f4ca5b50528", func := "shamrock/shamrocklaw20.ClientTakes", spec := "clientTakes", unfollowed := true, recurses := true, apart := false }
def ClientTakesSaid : Prop := clientTakesRow.holds Tryz.pinned (OpenSpec.ofChange clientTakesSpec)

/-- ITS FALSE NEIGHBOUR: 'it returns false'. Refute it at one input. -/
def clientTakesWrong : ChangeSpec := { name := "clientTakes", fn := fun _ => fun
  | [d1, d2, d3, d4] => { results := [.lit (.bool false)], args := [d1, d2, d3, d4] }
  | _ => none }
def ClientTakesWrongFalsely : Prop := clientTakesRow.holds Tryz.pinned (OpenSpec.ofChange clientTakesWrong)

/-- 'shamrocklaw20.ClientOnce': WHATEVER THE INPUT: true; the input reads as it did. -/
def clientOnceSpec : ChangeSpec := { name := "clientOnce", fn := fun _ => fun
  | [d1, d2, d3, d4, d5] => { results := [.lit (.bool true)], args := [d1, d2, d3, d4, d5] }
  | _ => none }
def clientOnceRow : OpenClaim := { program := "ytaikdcnifijcoaagreat", sum := "f022b50661b41ae7d7b6f4a3fad43e38e00acecb5340039a4e810f4ca5b50528", func := "shamrock/shamrocklaw20.ClientOnce", spec := "clientOnce", unfollowed := true, recurses := true, apart := false }
def ClientOnceSaid : Prop := clientOnceRow.holds Tryz.pinned (OpenSpec.ofChange clientOnceSpec)

/-- ITS FALSE NEIGHBOUR: 'it returns false'. Refute it at one input. -/
def clientOnceWrong : ChangeSpec := { name := "clientOnce", fn := fun _ => fun
  | [d1, d2, d3, d4, d5] => { results := [.lit (.bool false)], args := [d1, d2, d3, d4, d5] }
  | _ => none }
def ClientOnceWrongFalsely : Prop := clientOnceRow.holds Tryz.pinned (OpenSpec.ofChange clientOnceWrong)

/-- 'shamrocklaw21.CoordGives': WHATEVER THE INPUT: true; the input reads as it did. -/
def coordGivesSpec : ChangeSpec := { name := "coordGives", fn := fun _ => fun
  | [d1, d2] => { results := [.lit (.bool true)], args := [d1, d2] }
  | _ => none }
def coordGivesRow : OpenClaim := { program := "ytaikdcnifijcoaagreat", sum := "f022b50661b41ae7d7b6f4a3fad43e38e00acecb5340039a4e810f4ca5b50528", func := "shamrock/shamrocklaw21.CoordGives", spec := "coordGives", inPlace := ["internal/bytealg.abigen_runtime_cmpstring", "slices.overlaps[shamrock/api.Head]"], unfollowed := true, recurses := true, apart := false }
def CoordGivesSaid : Prop := coordGivesRow.holds Tryz.pinned (OpenSpec.ofChange coordGivesSpec)

/-- ITS FALSE NEIGHBOUR: 'it returns false'. Refute it at one input. -/
def coordGivesWrong : ChangeSpec := { name := "coordGives", fn := fun _ => fun
  | [d1, d2] => { results := [.lit (.bool false)], args := [d1, d2] }
  | _ => none }
def CoordGivesWrongFalsely : Prop := coordGivesRow.holds Tryz.pinned (OpenSpec.ofChange coordGivesWrong)

/-- 'shamrocklaw21.CoordStale': WHATEVER THE INPUT: true; the input reads as it did. -/
def coordStaleSpec : ChangeSpec := { name := "coordStale", fn := fun _ => fun
  | [d1, d2, d3] => { results := [.lit (.bool true)], args := [d1, d2, d3] }
  | _ => none }
def coordStaleRow : OpenClaim := { program := "ytaikdcnifijcoaagreat", sum := "f022b50661b41ae7d7b6f4a3fad43e38e00acecb5340039a4e810f4ca5b50528", func := "shamrock/shamrocklaw21.CoordStale", spec := "coordStale", inPlace := ["internal/bytealg.abigen_runtime_cmpstring", "slices.overlaps[shamrock/api.Head]"], unfollowed := true, recurses := true, apart := false }
def CoordStaleSaid : Prop := coordStaleRow.holds Tryz.pinned (OpenSpec.ofChange coordStaleSpec)

/-- ITS FALSE NEIGHBOUR: 'it returns false'. Refute it at one input. -/
def coordStaleWrong : ChangeSpec := { name := "coordStale", fn := fun _ => fun
  | [d1, d2, d3] => { results := [.lit (.bool false)], args := [d1, d2, d3] }
  | _ => none }
def CoordStaleWrongFalsely : Prop := coordStaleRow.holds Tryz.pinned (OpenSpec.ofChange coordStaleWrong)

/-- 'shamrocklaw21.CoordBlind': WHATEVER THE INPUT: true; the input reads as it did. -/
def coordBlindSpec : ChangeSpec := { name := "coordBlind", fn := fun _ => fun
  | [d1, d2] => { results := [.lit (.bool true)], args := [d1, d2] }
  | _ => none }
def coordBlindRow : OpenClaim := { program := "ytaikdcnifijcoaagreat", sum := "f022b50661b41ae7d7b6f4a3fad43e38e00acecb5340039a4e810f4ca5b50528", func := "shamrock/shamrocklaw21.CoordBlind", spec := "coordBlind", inPlace := ["internal/bytealg.abigen_runtime_cmpstring", "slices.overlaps[shamrock/api.Head]"], unfollowed := true, recurses := true, apart := false }
def CoordBlindSaid : Prop := coordBlindRow.holds Tryz.pinned (OpenSpec.ofChange coordBlindSpec)

/-- ITS FALSE NEIGHBOUR: 'it returns false'. Refute it at one input. -/
def coordBlindWrong : ChangeSpec := { name := "coordBlind", fn := fun _ => fun
  | [d1, d2] => { results := [.lit (.bool false)], args := [d1, d2] }
  | _ => none }
def CoordBlindWrongFalsely : Prop := coordBlindRow.holds Tryz.pinned (OpenSpec.ofChange coordBlindWrong)

/-- 'shamrocklaw21.CoordNone': WHATEVER THE INPUT: true; the input reads as it did. -/
def coordNoneSpec : ChangeSpec := { name := "coordNone", fn := fun _ => fun
  | [d1, d2, d3] => { results := [.lit (.bool true)], args := [d1, d2, d3] }
  | _ => none }
def coordNoneRow : OpenClaim := { program := "ytaikdcnifijcoaagreat", sum := "f022b50661b41ae7d7b6f4a3fad43e38e00acecb5340039a4e810f4ca5b50528", func := "shamrock/shamrocklaw21.CoordNone", spec := "coordNone", inPlace := ["internal/bytealg.abigen_runtime_cmpstring", "slices.overlaps[shamrock/api.Head]"], unfollowed := true, recurses := true, apart := false }
def CoordNoneSaid : Prop := coordNoneRow.holds Tryz.pinned (OpenSpec.ofChange coordNoneSpec)

/-- ITS FALSE NEIGHBOUR: 'it returns false'. Refute it at one input. -/
def coordNoneWrong : ChangeSpec := { name := "coordNone", fn := fun _ => fun
  | [d1, d2, d3] => { results := [.lit (.bool false)], args := [d1, d2, d3] }
  | _ => none }
def CoordNoneWrongFalsely : Prop := coordNoneRow.holds Tryz.pinned (OpenSpec.ofChange coordNoneWrong)

/-- 'shamrocklaw21.CoordPlays': WHATEVER THE INPUT: true; the input reads as it did. -/
def coordPlaysSpec : ChangeSpec := { name := "coordPlays", fn := fun _ => fun
  | [d1, d2] => { results := [.lit (.bool true)], args := [d1, d2] }
  | _ => none }
def coordPlaysRow : OpenClaim := { program := "ytaikdcnifijcoaagreat", sum := "f022b50661b41ae7d7b6f4a3fad43e38e00acecb5340039a4e810f4ca5b50528", func := "shamrock/shamrocklaw21.CoordPlays", spec := "coordPlays", inPlace := ["internal/bytealg.abigen_runtime_cmpstring", "slices.overlaps[shamrock/api.Head]"], unfollowed := true, recurses := true, apart := false }
def CoordPlaysSaid : Prop := coordPlaysRow.holds Tryz.pinned (OpenSpec.ofChange coordPlaysSpec)

/-- ITS FALSE NEIGHBOUR: 'it returns false'. Refute it at one input. -/
def coordPlaysWrong : ChangeSpec := { name := "coordPlays", fn := fun _ => fun
  | [d1, d2] => { results := [.lit (.bool false)], args := [d1, d2] }
  | _ => none }
def CoordPlaysWrongFalsely : Prop := coordPlaysRow.holds Tryz.pinned (OpenSpec.ofChange coordPlaysWrong)

/- THE SECOND FORM. 'bulk': how many values and letters a reading holds, each counted each time it is reached (what is shared counts as often as it is met; a slice's spare places count too). A statement '..UptoSaid' is the law's where the arguments, and the package variables that the reading takes, are together of bulk at most 1048576: NARROWER than '..Said'. Prove '..Said' where nothing that the law and all that it calls make is longer than what came in: it says more and counts as full. Else prove '..UptoSaid'. A law counts once. -/
mutual
def uptoBulk {H : Type} : DataW H → Nat
  | .lit (.string bytes) => bytes.length + 1
  | .lit _ => 1
  | .nil => 1
  | .ptr d => uptoBulk d + 1
  | .slice elems spare => uptoBulkAll elems + uptoBulkAll spare + 1
  | .agg parts => uptoBulkAll parts + 1
  | .iface _ d => uptoBulk d + 1
  | .map entries => uptoBulkEntries entries + 1
  | .held _ => 1
def uptoBulkAll {H : Type} : List (DataW H) → Nat
  | [] => 0
  | d :: r => uptoBulk d + uptoBulkAll r
def uptoBulkEntries {H : Type} : List (Lit × DataW H) → Nat
  | [] => 0
  | x :: r => uptoBulkEntry x + uptoBulkEntries r
def uptoBulkEntry {H : Type} : Lit × DataW H → Nat
  | (.string bytes, d) => bytes.length + uptoBulk d + 1
  | (_, d) => uptoBulk d + 1
 end
def uptoSmall : (H : Type) → List (DataW H) → Bool := fun _ ds => decide (uptoBulkAll ds ≤ 1048576)
def OpenSpec.upto (s : _root_.Go.ChangeSpec) : _root_.Go.OpenSpec := { _root_.Go.OpenSpec.ofChange s with cond := some uptoSmall }

/-- 'shamrocklaw20.ClientTakes', WHERE WHAT IT READS IS OF BULK AT MOST 1048576: true; the input reads as it did. -/
def clientTakesUptoRow : OpenClaim := { program := "ytaikdcnifijcoaagreat", sum := "f022b50661b41ae7d7b6f4a3fad43e38e00acecb5340039a4e810f4ca5b50528", func := "shamrock/shamrocklaw20.ClientTakes", spec := "clientTakes", unfollowed := true, recurses := true, apart := false, narrowed := true }
def ClientTakesUptoSaid : Prop := clientTakesUptoRow.holds Tryz.pinned (OpenSpec.upto clientTakesSpec)

/-- 'shamrocklaw20.ClientOnce', WHERE WHAT IT READS IS OF BULK AT MOST 1048576: true; the input reads as it did. -/
def clientOnceUptoRow : OpenClaim := { program := "ytaikdcnifijcoaagreat", sum := "f022b50661b41ae7d7b6f4a3fad43e38e00acecb5340039a4e810f4ca5b50528", func := "shamrock/shamrocklaw20.ClientOnce", spec := "clientOnce", unfollowed := true, recurses := true, apart := false, narrowed := true }
def ClientOnceUptoSaid : Prop := clientOnceUptoRow.holds Tryz.pinned (OpenSpec.upto clientOnceSpec)

/-- 'shamrocklaw21.CoordGives', WHERE WHAT IT READS IS OF BULK AT MOST 1048576: true; the input reads as it did. -/
def coordGivesUptoRow : OpenClaim := { program := "ytaikdcnifijcoaagreat", sum := "f022b50661b41ae7d7b6f4a3fad43e38e00acecb5340039a4e810f4ca5b50528", func := "shamrock/shamrocklaw21.CoordGives", spec := "coordGives", inPlace := ["internal/bytealg.abigen_runtime_cmpstring", "slices.overlaps[shamrock/api.Head]"], unfollowed := true, recurses := true, apart := false, narrowed := true }
def CoordGivesUptoSaid : Prop := coordGivesUptoRow.holds Tryz.pinned (OpenSpec.upto coordGivesSpec)

/-- 'shamrocklaw21.CoordStale', WHERE WHAT IT READS IS OF BULK AT MOST 1048576: true; the input reads as it did. -/
def coordStaleUptoRow : OpenClaim := { program := "ytaikdcnifijcoaagreat", sum := "f022b50661b41ae7d7b6f4a3fad43e38e00acecb5340039a4e810f4ca5b50528", func := "shamrock/shamrocklaw21.CoordStale", spec := "coordStale", inPlace := ["internal/bytealg.abigen_runtime_cmpstring", "slices.overlaps[shamrock/api.Head]"], unfollowed := true, recurses := true, apart := false, narrowed := true }
def CoordStaleUptoSaid : Prop := coordStaleUptoRow.holds Tryz.pinned (OpenSpec.upto coordStaleSpec)

/-- 'shamrocklaw21.CoordBlind', WHERE WHAT IT READS IS OF BULK AT MOST 1048576: true; the input reads as it did. -/
def coordBlindUptoRow : OpenClaim := { program := "ytaikdcnifijcoaagreat", sum := "f022b50661b41ae7d7b6f4a3fad43e38e00acecb5340039a4e810f4ca5b50528", func := "shamrock/shamrocklaw21.CoordBlind", spec := "coordBlind", inPlace := ["internal/bytealg.abigen_runtime_cmpstring", "slices.overlaps[shamrock/api.Head]"], unfollowed := true, recurses := true, apart := false, narrowed := true }
def CoordBlindUptoSaid : Prop := coordBlindUptoRow.holds Tryz.pinned (OpenSpec.upto coordBlindSpec)

/-- 'shamrocklaw21.CoordNone', WHERE WHAT IT READS IS OF BULK AT MOST 1048576: true; the input reads as it did. -/
def coordNoneUptoRow : OpenClaim := { program := "ytaikdcnifijcoaagreat", sum := "f022b50661b41ae7d7b6f4a3fad43e38e00acecb5340039a4e810f4ca5b50528", func := "shamrock/shamrocklaw21.CoordNone", spec := "coordNone", inPlace := ["internal/bytealg.abigen_runtime_cmpstring", "slices.overlaps[shamrock/api.Head]"], unfollowed := true, recurses := true, apart := false, narrowed := true }
def CoordNoneUptoSaid : Prop := coordNoneUptoRow.holds Tryz.pinned (OpenSpec.upto coordNoneSpec)

/-- 'shamrocklaw21.CoordPlays', WHERE WHAT IT READS IS OF BULK AT MOST 1048576: true; the input reads as it did. -/
def coordPlaysUptoRow : OpenClaim := { program := "ytaikdcnifijcoaagreat", sum := "f022b50661b41ae7d7b6f4a3fad43e38e00acecb5340039a4e810f4ca5b50528", func := "shamrock/shamrocklaw21.CoordPlays", spec := "coordPlays", inPlace := ["internal/bytealg.abigen_runtime_cmpstring", "slices.overlaps[shamrock/api.Head]"], unfollowed := true, recurses := true, apart := false, narrowed := true }
def CoordPlaysUptoSaid : Prop := coordPlaysUptoRow.holds Tryz.pinned (OpenSpec.upto coordPlaysSpec)

end Rows
end Go.Proofs.YtaikdcnifijcoaaGreat
