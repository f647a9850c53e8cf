/-
  A message's bytes, walked, all of them; are messages the same?
-/
import Derived.Test.YtaikdcnifijcoaaVMsg2
set_option linter.unusedVariables false
set_option linter.unusedSimpArgs false
namespace Go.Proofs.Ytaikdcnifijcoaa
open Go Go.Vc

/-- A message, plain. -/
structure MsgA where
  kind : Int
  src : Int
  to : Int
  session : Int
  decided : Int
  commit : Int
  epoch : Int
  heads : List HdT
  id : List UInt8
  size : Int
  sort : Int
  target : Int
  dealers : List Int
  parts : List Int
  code : Int
  data : List UInt8
/-- Its slices. -/
structure MsgS where
  hd : Sl
  de : Sl
  pa : Sl
  da : Sl
abbrev msgC (m : MsgA) (s : MsgS) : List Value := [IV m.kind, IV m.src, IV m.to, IV m.session, IV m.decided, IV m.commit, IV m.epoch, s.hd.val, S m.id, IV m.size, IV m.sort, IV m.target, s.de.val, s.pa.val, IV m.code, s.da.val]
structure MsgIn (H : Heap) (m : MsgA) (s : MsgS) : Prop where
  hd : HRow H s.hd m.heads
  de : RowF IV 0 H s.de m.dealers
  pa : RowF IV 0 H s.pa m.parts
  da : Bytes H s.da m.data
structure MsgFit (m : MsgA) : Prop where
  hl : m.heads.length ≤ 2000000
  hw : hdW m.heads ≤ 10000000
  hx : ∀ j, j < m.heads.length → (m.heads.getD j ([], 0)).1.length ≤ 2000000
  id : m.id.length ≤ 2000000
  de : m.dealers.length ≤ 2000000
  pa : m.parts.length ≤ 2000000
  da : m.data.length ≤ 2000000
theorem MsgIn.ext {H H' : Heap} {m : MsgA} {s : MsgS} (h : MsgIn H m s) (e : Ext H H') : MsgIn H' m s := ⟨h.hd.ext e, h.de.ext e, h.pa.ext e, h.da.ext e⟩
def msg0 : MsgA := ⟨0, 0, 0, 0, 0, 0, 0, [], [], 0, 0, 0, [], [], 0, []⟩
def msgS0 : MsgS := ⟨Sl.nil, Sl.nil, Sl.nil, Sl.nil⟩
theorem msgIn0 (H : Heap) : MsgIn H msg0 msgS0 := ⟨HRow.nil H, RowF.nil H, RowF.nil H, Bytes.nil H⟩
theorem msgFit0 : MsgFit msg0 := by refine ⟨?_, ?_, ?_, ?_, ?_, ?_, ?_⟩ <;> simp [msg0, hdW]
def msgB (m : MsgA) : List UInt8 := putB [m.kind, m.src, m.to, m.session, m.decided, m.commit, m.epoch] ++ (putB [(m.heads.length : Int)] ++ headsB m.heads) ++ layB m.id ++ putB [m.size, m.sort, m.target] ++ (putB [(m.dealers.length : Int)] ++ putB m.dealers) ++ (putB [(m.parts.length : Int)] ++ putB m.parts) ++ putB [m.code] ++ layB m.data
def msgBad (m : MsgA) : Bool := badI [m.kind, m.src, m.to, m.session, m.decided, m.commit, m.epoch] || (badI [(m.heads.length : Int)] || badH m.heads) || badL m.id || badI [m.size, m.sort, m.target] || (badI [(m.dealers.length : Int)] || badI m.dealers) || (badI [(m.parts.length : Int)] || badI m.parts) || badI [m.code] || badL m.data
end Go.Proofs.Ytaikdcnifijcoaa
