/-
  Lists of messages.
-/
import Derived.Test.YtaikdcnifijcoaaVMsg3
import Derived.Test.YtaikdcnifijcoaaVcGo
set_option linter.unusedVariables false
set_option linter.unusedSimpArgs false
namespace Go.Proofs.Ytaikdcnifijcoaa
open Go Go.Vc

abbrev MsgP := MsgA × MsgS
def msgPC (p : MsgP) : List Value := msgC p.1 p.2
theorem msgPC_len (p : MsgP) : (msgPC p).length = 16 := rfl
/-- A list of messages. -/
structure MsgL (H : Heap) (s : Sl) (l : List MsgP) : Prop where
  row : CRow 16 msgPC (msg0, msgS0) H s l
  each : ∀ j, j < l.length → MsgIn H (l.getD j (msg0, msgS0)).1 (l.getD j (msg0, msgS0)).2
theorem MsgL.ext {H H' : Heap} {s : Sl} {l : List MsgP} (h : MsgL H s l) (e : Ext H H') : MsgL H' s l := ⟨h.row.ext e, fun j hj => (h.each j hj).ext e⟩
theorem MsgL.nil (H : Heap) : MsgL H Sl.nil [] := ⟨CRow.nil H, fun j hj => absurd hj (by simp)⟩
end Go.Proofs.Ytaikdcnifijcoaa
