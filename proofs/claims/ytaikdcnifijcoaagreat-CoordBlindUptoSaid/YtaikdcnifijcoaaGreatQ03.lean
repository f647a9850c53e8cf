/-
  The calculus, part 5: bytes in memory; steps that are taken without a word.
-/
import Derived.Test.YtaikdcnifijcoaaGreatQ01
import Derived.KernelRfl
import Derived.Laws.IdiomStrings
import Derived.Laws.BytesArg
set_option linter.unusedVariables false
set_option linter.unusedSimpArgs false
namespace Go.Vc
/-- The slice reads as these values, each of one cell. -/
structure Row (H : Heap) (s : Sl) (vs : List Value) : Prop where
  len : s.len = vs.length
  cell : ∀ j v, vs[j]? = some v → hcell H (s.cell j) = some v
/-- The slice reads as what f makes of these. -/
structure RowF {β : Type} (f : β → Value) (d : β) (H : Heap) (s : Sl) (l : List β) : Prop where
  len : s.len = l.length
  cell : ∀ j, j < l.length → hcell H (s.cell j) = some (f (l.getD j d))
section
variable {β : Type} {f : β → Value} {d : β}
theorem RowF.ext {H H' : Heap} {s : Sl} {l : List β} (h : RowF f d H s l) (e : Ext H H') : RowF f d H' s l := ⟨h.len, fun j hj => e.cell (h.cell j hj)⟩
theorem RowF.nil (H : Heap) : RowF f d H Sl.nil [] := ⟨rfl, fun j hj => absurd hj (by simp)⟩
theorem RowF.row {H : Heap} {s : Sl} {l : List β} (h : RowF f d H s l) : Row H s (l.map f) := by
  refine ⟨by simp [h.len], fun j v hj => ?_⟩
  have hlt : j < l.length := by
    have := (List.getElem?_eq_some_iff.1 hj).1
    simpa using this
  rw [h.cell j hlt, ← hj]
  simp [List.getElem?_eq_getElem hlt, List.getD_eq_getElem?_getD]
theorem Row.rowF {H : Heap} {s : Sl} {l : List β} (h : Row H s (l.map f)) : RowF f d H s l := by
  refine ⟨by simpa using h.len, fun j hj => h.cell j _ ?_⟩
  simp [List.getElem?_eq_getElem hj, List.getD_eq_getElem?_getD]
end
/-- The slice reads as these bytes. -/
abbrev Bytes (H : Heap) (s : Sl) (l : List UInt8) : Prop := RowF B8 0 H s l
theorem Bytes.ext {H H' : Heap} {s : Sl} {l : List UInt8} (h : Bytes H s l) (e : Ext H H') : Bytes H' s l := RowF.ext h e
theorem Bytes.nil (H : Heap) : Bytes H Sl.nil [] := RowF.nil H
theorem Bytes.row {H : Heap} {s : Sl} {l : List UInt8} (h : Bytes H s l) : Row H s (l.map B8) := RowF.row h
theorem Row.bytes {H : Heap} {s : Sl} {l : List UInt8} (h : Row H s (l.map B8)) : Bytes H s l := Row.rowF h
/-- A number that is not below 0. -/
abbrev I64 (n : Nat) : Value := .int .i64 (n : Int)
/-- A variable in memory of its own. -/
structure Box (H : Heap) (b : Nat) (e : TypeId) (v : Value) : Prop where
  at_ : H[b]? = some (.cells #[v] e (0, 0))
theorem Box.cell {H : Heap} {b : Nat} {e : TypeId} {v : Value} (h : Box H b e v) : hcell H ⟨b, 0, none⟩ = some v := by
  unfold hcell; simp [h.at_]
theorem Box.ext {H H' : Heap} {b : Nat} {e : TypeId} {v : Value} (h : Box H b e v) (x : Ext H H') : Box H' b e v := ⟨x.blk h.at_⟩
section
variable {C : Cx} {o : Oper} {L : Env} {H : Heap}
theorem Rd.lenF [Tbl C.P] {β : Type} {f : β → Value} {dd : β} {x : Operand} {t : Nat} {s : Sl} {i : TI} {e : Nat} {l : List β} (ho : o.op = .call { callee := .builtin .len, args := #[x], argTypes := #[t] }) (hx : L.ev x = some s.val)
    (ht : ty C.P t = some i) (hi : i.desc = .slice e) (hb : RowF f dd H s l) : Rd C o L H (.int .i64 (l.length : Int)) := by
  rw [← hb.len]; exact Rd.len ho hx ht hi
theorem Rd.indexF [Tbl C.P] {β : Type} {f : β → Value} {dd : β} {x y : Operand} {t e : Nat} {s : Sl} {n : Nat} {sz bt bt' : Nat} {z z' : Value} {d : TypeDesc} {l : List β} (ho : o.op = .indexAddr t x y) (hx : L.ev x = some s.val) (hy : L.ev y = some (.int .i64 (n : Int)))
    (ht : ty C.P t = some ⟨.slice e, sz, bt, z⟩) (hj : ty C.P e = some ⟨d, 1, bt', z'⟩) (hb : RowF f dd H s l) (hn : n < l.length) : Rd C o L H (.pointer (some (s.cell n))) :=
  Rd.index1 (C := C) (H := H) ho hx hy ht hj (by rw [hb.len]; exact hn)
theorem Rd.loadF [Tbl C.P] {β : Type} {f : β → Value} {dd : β} {x : Operand} {t : Nat} {s : Sl} {n : Nat} {i : TI} {l : List β} (ho : o.op = .load t x) (hx : L.ev x = some (.pointer (some (s.cell n))))
    (ht : ty C.P t = some i) (hi : isAggD i.desc = false) (hb : RowF f dd H s l) (hn : n < l.length) : Rd C o L H (f (l.getD n dd)) :=
  Rd.load ho hx ht hi (hb.cell n hn)
/-- string(b). -/
theorem Rd.str [Tbl C.P] {x : Operand} {s : Sl} {l : List UInt8} {st dt e sz bt sz' bt' sz'' bt'' : Nat} {z z' z'' : Value} (ho : o.op = .convert st dt x) (hx : L.ev x = some s.val)
    (hs : ty C.P st = some ⟨.slice e, sz, bt, z⟩) (he : ty C.P e = some ⟨.int .u8, sz', bt', z'⟩) (hd : ty C.P dt = some ⟨.string, sz'', bt'', z''⟩) (hb : Bytes H s l) : Rd C o L H (S l) :=
  Rd.of (by rw [ho]; rfl) fun act w ha ex => by
    have h1 := agr_of ha hx (by rw [ho]; simp [Op.operands])
    have hb' := hb.ext ex
    have hlen := hb.len
    simp only [Sl.val] at h1
    have hconv : (convert st dt (.slice s.ao s.len s.cap)).run C.P w = .ok (S l) w := by
      cases hao : s.ao with
      | none =>
        have h0 := (s.ok hao).1
        have hl : l = [] := List.eq_nil_of_length_eq_zero (by omega)
        subst hl
        exact run_convert_bytes_nil w st e (Tbl.ok.find hs).1 (Tbl.ok.find he).1 s.len s.cap dt (Tbl.ok.find hd).1
      | some ad =>
        rw [hlen]
        refine run_convert_bytes_back w st dt e ad s.cap l (Tbl.ok.find hs).1 (Tbl.ok.find he).1 (Tbl.ok.find hd).1 fun j hj => ?_
        have := hb'.cell j hj
        rw [Sl.cell_eq, hao] at this
        simpa [List.getD_eq_getElem?_getD, List.getElem?_eq_getElem hj, cell_heap, B8] using this
    simp only [execOp, ho, h1, Sem.run_bind, hconv, Result.andThen, Sem.run_pure]
end
/-! ### What follows without a choice -/
section
variable {C : Cx} {ops : Array Oper} {l : List Oper} {L : Env} {ds : List Nat} {H : Heap} {K : Env → Heap → Prop} {o : Oper}
/-- An operation that yields a value, by whichever law fits. -/
theorem RegS.q [Tbl C.P] {v : Value} {d : Nat} (k : RegS C ops l ((d, v) :: L) ds H K) (hds : o.dst = some d := by rfl) (hg : gd ops o L = some true := by rfl) (hd : Nat.blt d C.N = true := by rfl)
    (h : Rd C o L H v := by
      first
      | exact Rd.assign8 rfl rfl
      | exact Rd.assignN rfl
      | exact Rd.assignB rfl
      | exact Rd.assignP rfl
      | exact Rd.move rfl rfl
      | exact Rd.assign rfl rfl
      | exact Rd.pick_t rfl rfl rfl
      | exact Rd.pick_f rfl rfl rfl
      | exact Rd.nilCheck rfl rfl
      | exact Rd.lenF rfl rfl rfl rfl (by first | assumption | exact RowF.ext (by assumption) (by assumption))
      | exact Rd.lenNil rfl rfl rfl rfl
      | exact Rd.indexF rfl rfl rfl rfl rfl (by first | assumption | exact RowF.ext (by assumption) (by assumption)) (by omega)
      | exact Rd.loadF rfl rfl rfl rfl (by first | assumption | exact RowF.ext (by assumption) (by assumption)) (by omega)
      | exact Rd.extract rfl rfl rfl
      | exact Rd.field1 rfl rfl rfl rfl rfl rfl rfl
      | exact Rd.xor8 rfl rfl rfl
      | exact Rd.eql8 rfl rfl rfl
      | exact Rd.add8 rfl rfl rfl
      | exact Rd.neq8 rfl rfl rfl
      | exact Rd.geq8 rfl rfl rfl
      | exact Rd.shl8 rfl rfl rfl (by decide)
      | exact Rd.rem8 rfl rfl rfl (by decide)
      | exact Rd.lss rfl rfl rfl
      | exact Rd.eql rfl rfl rfl
      | exact Rd.neq rfl rfl rfl
      | exact Rd.leq rfl rfl rfl
      | exact Rd.gtr rfl rfl rfl
      | exact Rd.geq rfl rfl rfl
      | exact Rd.addN rfl rfl rfl (by omega)
      | exact Rd.subN rfl rfl rfl (by omega)
      | exact Rd.add rfl rfl rfl (by omega)
      | exact Rd.sub rfl rfl rfl (by omega)
      | exact Rd.not_p rfl rfl
      | exact Rd.not rfl rfl
      | exact Rd.str rfl rfl rfl rfl rfl (by first | assumption | exact RowF.ext (by assumption) (by assumption))
      | exact Rd.eqlS rfl rfl rfl
      | exact Rd.eqlNil rfl rfl rfl rfl
      | exact Rd.eqlBool rfl rfl rfl rfl
      | exact Rd.neqBool rfl rfl rfl rfl
      | exact Rd.shrN rfl rfl rfl (by simp only [IntKind.bits]; omega)
      | exact Rd.shlN rfl rfl rfl (by omega) (by first | assumption | omega)
      | exact Rd.andN rfl rfl rfl (by first | assumption | omega)
      | exact Rd.orN rfl rfl rfl (by first | assumption | omega)
      | exact Rd.xorN rfl rfl rfl (by first | assumption | omega)
      | exact Rd.remN rfl rfl rfl (by omega)
      | exact Rd.quoN rfl rfl rfl (by omega) (by omega)
      | exact Rd.mulN rfl rfl rfl (by first | assumption | omega)
      | exact Rd.maxN rfl rfl rfl
      | exact Rd.minN rfl rfl rfl
      | exact Rd.conv8 rfl rfl rfl rfl rfl
      | exact Rd.to8N rfl rfl rfl rfl rfl
      | exact Rd.convU64 rfl rfl rfl rfl (by omega)
      | exact Rd.convI64 rfl rfl rfl rfl (by omega)
      | exact Rd.fieldAddrB rfl rfl rfl rfl rfl rfl
      | exact Rd.indexA1 rfl rfl rfl rfl rfl (UInt8.toNat_lt _)
      | exact Rd.indexA1 rfl rfl rfl rfl rfl (by omega)
      | exact Rd.fieldAddrS rfl rfl rfl rfl rfl rfl
      | exact Rd.buildZ rfl rfl (fun _ => by kernel_rfl)
      | exact Rd.buildA rfl rfl rfl (by repeat (first | exact IsL.nil | apply IsL.cons)) (fun _ => by kernel_rfl)
      | exact Rd.makeFunc rfl rfl rfl
      | exact Rd.load rfl rfl rfl rfl (by first | assumption | exact Box.cell (by assumption) | exact Ext.cell (by assumption) (by assumption))
      | exact Rd.load rfl rfl rfl rfl (Blk.cell (by first | assumption | exact Blk.ext (by assumption) (by assumption)) rfl)
      | exact Rd.fieldA rfl rfl rfl rfl rfl rfl (by repeat (first | exact IsL.nil | apply IsL.cons))
      | exact Rd.loadBlk rfl rfl rfl rfl (by first | assumption | exact Blk.ext (by assumption) (by assumption)) (by repeat (first | exact IsL.nil | apply IsL.cons)) rfl) :
    RegS C ops (o :: l) L ds H K := RegS.rd hg (by rw [hds]; exact hd) h (by rw [hds]; exact k)
theorem Wp.br {x y : Code} {c : Operand} {p : Prop} {Q : QPost} (ht : p → Wp C x Q L ds H) (hf : ¬p → Wp C y Q L ds H) (hc : L.ev c = some (.bool (dec p)) := by rfl) : Wp C (.cond c x y) Q L ds H := Wp.cond_p hc ht hf
theorem Wp.brB {x y : Code} {c : Operand} {b : Bool} {Q : QPost} (ht : b = true → Wp C x Q L ds H) (hf : b = false → Wp C y Q L ds H) (hc : L.ev c = some (.bool b) := by rfl) : Wp C (.cond c x y) Q L ds H := Wp.cond hc ht hf
theorem ret1 {fn : Func} {R : Value → Heap → Prop} {t : Nat} {v : Value} (h : R v H) (hr : fn.results = #[.tmp t] := by rfl) (hv : L.get t = some v := by rfl) : retQ C fn R .ret L [] H := ret_plain (Res.one hr hv) h
theorem ret0 {fn : Func} {R : Value → Heap → Prop} (h : R (.tuple #[]) H) (hr : fn.results = #[] := by rfl) : retQ C fn R .ret L [] H := ret_plain (Res.none hr) h
theorem ret0n {fn : Func} {R : Value → Heap → Prop} (h : R (.tuple #[]) H) (hr : fn.results = #[] := by rfl) : retQ C fn R .normal L [] H := ret_plain_n (Res.none hr) h
theorem ret2 {fn : Func} {R : Value → Heap → Prop} {t₁ t₂ : Nat} {v₁ v₂ : Value} (h : R (.tuple #[v₁, v₂]) H) (hr : fn.results = #[.tmp t₁, .tmp t₂] := by rfl) (h1 : L.get t₁ = some v₁ := by rfl) (h2 : L.get t₂ = some v₂ := by rfl) : retQ C fn R .ret L [] H := ret_plain (Res.two hr h1 h2) h
theorem ret3 {fn : Func} {R : Value → Heap → Prop} {t₁ t₂ t₃ : Nat} {v₁ v₂ v₃ : Value} (h : R (.tuple #[v₁, v₂, v₃]) H) (hr : fn.results = #[.tmp t₁, .tmp t₂, .tmp t₃] := by rfl) (h1 : L.get t₁ = some v₁ := by rfl) (h2 : L.get t₂ = some v₂ := by rfl) (h3 : L.get t₃ = some v₃ := by rfl) : retQ C fn R .ret L [] H := ret_plain (Res.three hr h1 h2 h3) h
theorem RegS.fin {Q : QPost} {L' : Env} (h : Q .normal L' ds H) (hL : Is (Env.keep C.X L) L' := by repeat (first | exact Is.nil | apply Is.cons)) : RegS C ops [] L ds H (endK C Q ds) :=
  RegS.nil (endK_in hL h)
/-- What is left, behind a name (no 'assumption' takes it for anything). -/
structure Left (R : Prop) : Prop where
  out : R
section
variable {B : Array Nat} {p : Plan} {pend : List Rec}
/-- The next operation that only reads, by whichever law fits. -/
theorem RegP.q' [Tbl C.P] {i d : Nat} {v : Value} (k : RegP C ops B p (⟨i, L, v⟩ :: pend) ((d, v) :: L) ds H K) (ho : ops[i]? = some o := by rfl) (hds : o.dst = some d := by rfl) (hg : gd ops o L = some true := by rfl) (hd : Nat.blt d C.N = true := by rfl)
    (h : Rd C o L H v := by
      first
      | exact Rd.assign8 rfl rfl
      | exact Rd.assignN rfl
      | exact Rd.assignB rfl
      | exact Rd.assignP rfl
      | exact Rd.move rfl rfl
      | exact Rd.assign rfl rfl
      | exact Rd.pick_t rfl rfl rfl
      | exact Rd.pick_f rfl rfl rfl
      | exact Rd.nilCheck rfl rfl
      | exact Rd.lenF rfl rfl rfl rfl (by first | assumption | exact RowF.ext (by assumption) (by assumption))
      | exact Rd.lenNil rfl rfl rfl rfl
      | exact Rd.indexF rfl rfl rfl rfl rfl (by first | assumption | exact RowF.ext (by assumption) (by assumption)) (by omega)
      | exact Rd.loadF rfl rfl rfl rfl (by first | assumption | exact RowF.ext (by assumption) (by assumption)) (by omega)
      | exact Rd.extract rfl rfl rfl
      | exact Rd.field1 rfl rfl rfl rfl rfl rfl rfl
      | exact Rd.xor8 rfl rfl rfl
      | exact Rd.eql8 rfl rfl rfl
      | exact Rd.add8 rfl rfl rfl
      | exact Rd.neq8 rfl rfl rfl
      | exact Rd.geq8 rfl rfl rfl
      | exact Rd.shl8 rfl rfl rfl (by decide)
      | exact Rd.rem8 rfl rfl rfl (by decide)
      | exact Rd.lss rfl rfl rfl
      | exact Rd.eql rfl rfl rfl
      | exact Rd.neq rfl rfl rfl
      | exact Rd.leq rfl rfl rfl
      | exact Rd.gtr rfl rfl rfl
      | exact Rd.geq rfl rfl rfl
      | exact Rd.addN rfl rfl rfl (by omega)
      | exact Rd.subN rfl rfl rfl (by omega)
      | exact Rd.add rfl rfl rfl (by omega)
      | exact Rd.sub rfl rfl rfl (by omega)
      | exact Rd.not_p rfl rfl
      | exact Rd.not rfl rfl
      | exact Rd.str rfl rfl rfl rfl rfl (by first | assumption | exact RowF.ext (by assumption) (by assumption))
      | exact Rd.eqlS rfl rfl rfl
      | exact Rd.eqlNil rfl rfl rfl rfl
      | exact Rd.eqlBool rfl rfl rfl rfl
      | exact Rd.neqBool rfl rfl rfl rfl
      | exact Rd.shrN rfl rfl rfl (by simp only [IntKind.bits]; omega)
      | exact Rd.shlN rfl rfl rfl (by omega) (by first | assumption | omega)
      | exact Rd.andN rfl rfl rfl (by first | assumption | omega)
      | exact Rd.orN rfl rfl rfl (by first | assumption | omega)
      | exact Rd.xorN rfl rfl rfl (by first | assumption | omega)
      | exact Rd.remN rfl rfl rfl (by omega)
      | exact Rd.quoN rfl rfl rfl (by omega) (by omega)
      | exact Rd.mulN rfl rfl rfl (by first | assumption | omega)
      | exact Rd.maxN rfl rfl rfl
      | exact Rd.minN rfl rfl rfl
      | exact Rd.conv8 rfl rfl rfl rfl rfl
      | exact Rd.to8N rfl rfl rfl rfl rfl
      | exact Rd.convU64 rfl rfl rfl rfl (by omega)
      | exact Rd.convI64 rfl rfl rfl rfl (by omega)
      | exact Rd.fieldAddrB rfl rfl rfl rfl rfl rfl
      | exact Rd.indexA1 rfl rfl rfl rfl rfl (UInt8.toNat_lt _)
      | exact Rd.indexA1 rfl rfl rfl rfl rfl (by omega)
      | exact Rd.fieldAddrS rfl rfl rfl rfl rfl rfl
      | exact Rd.buildZ rfl rfl (fun _ => by kernel_rfl)
      | exact Rd.buildA rfl rfl rfl (by repeat (first | exact IsL.nil | apply IsL.cons)) (fun _ => by kernel_rfl)
      | exact Rd.makeFunc rfl rfl rfl
      | exact Rd.load rfl rfl rfl rfl (by first | assumption | exact Box.cell (by assumption) | exact Ext.cell (by assumption) (by assumption))
      | exact Rd.load rfl rfl rfl rfl (Blk.cell (by first | assumption | exact Blk.ext (by assumption) (by assumption)) rfl)
      | exact Rd.fieldA rfl rfl rfl rfl rfl rfl (by repeat (first | exact IsL.nil | apply IsL.cons))
      | exact Rd.loadBlk rfl rfl rfl rfl (by first | assumption | exact Blk.ext (by assumption) (by assumption)) (by repeat (first | exact IsL.nil | apply IsL.cons)) rfl) : RegP C ops B (.q i p) pend L ds H K := RegP.rd ho hg (by rw [hds]; exact hd) h (by rw [hds]; exact k)
/-- What was promised, asked once more. -/
theorem prom [Tbl C.P] {i : Nat} {v : Value} (ho : ops[i]? = some o := by rfl) (hg : gd ops o L = some true := by rfl)
    (h : Rd C o L H v := by
      first
      | exact Rd.assign8 rfl rfl
      | exact Rd.assignN rfl
      | exact Rd.assignB rfl
      | exact Rd.assignP rfl
      | exact Rd.move rfl rfl
      | exact Rd.assign rfl rfl
      | exact Rd.pick_t rfl rfl rfl
      | exact Rd.pick_f rfl rfl rfl
      | exact Rd.nilCheck rfl rfl
      | exact Rd.lenF rfl rfl rfl rfl (by first | assumption | exact RowF.ext (by assumption) (by assumption))
      | exact Rd.lenNil rfl rfl rfl rfl
      | exact Rd.indexF rfl rfl rfl rfl rfl (by first | assumption | exact RowF.ext (by assumption) (by assumption)) (by omega)
      | exact Rd.loadF rfl rfl rfl rfl (by first | assumption | exact RowF.ext (by assumption) (by assumption)) (by omega)
      | exact Rd.extract rfl rfl rfl
      | exact Rd.field1 rfl rfl rfl rfl rfl rfl rfl
      | exact Rd.xor8 rfl rfl rfl
      | exact Rd.eql8 rfl rfl rfl
      | exact Rd.add8 rfl rfl rfl
      | exact Rd.neq8 rfl rfl rfl
      | exact Rd.geq8 rfl rfl rfl
      | exact Rd.shl8 rfl rfl rfl (by decide)
      | exact Rd.rem8 rfl rfl rfl (by decide)
      | exact Rd.lss rfl rfl rfl
      | exact Rd.eql rfl rfl rfl
      | exact Rd.neq rfl rfl rfl
      | exact Rd.leq rfl rfl rfl
      | exact Rd.gtr rfl rfl rfl
      | exact Rd.geq rfl rfl rfl
      | exact Rd.addN rfl rfl rfl (by omega)
      | exact Rd.subN rfl rfl rfl (by omega)
      | exact Rd.add rfl rfl rfl (by omega)
      | exact Rd.sub rfl rfl rfl (by omega)
      | exact Rd.not_p rfl rfl
      | exact Rd.not rfl rfl
      | exact Rd.str rfl rfl rfl rfl rfl (by first | assumption | exact RowF.ext (by assumption) (by assumption))
      | exact Rd.eqlS rfl rfl rfl
      | exact Rd.eqlNil rfl rfl rfl rfl
      | exact Rd.eqlBool rfl rfl rfl rfl
      | exact Rd.neqBool rfl rfl rfl rfl
      | exact Rd.shrN rfl rfl rfl (by simp only [IntKind.bits]; omega)
      | exact Rd.shlN rfl rfl rfl (by omega) (by first | assumption | omega)
      | exact Rd.andN rfl rfl rfl (by first | assumption | omega)
      | exact Rd.orN rfl rfl rfl (by first | assumption | omega)
      | exact Rd.xorN rfl rfl rfl (by first | assumption | omega)
      | exact Rd.remN rfl rfl rfl (by omega)
      | exact Rd.quoN rfl rfl rfl (by omega) (by omega)
      | exact Rd.mulN rfl rfl rfl (by first | assumption | omega)
      | exact Rd.maxN rfl rfl rfl
      | exact Rd.minN rfl rfl rfl
      | exact Rd.conv8 rfl rfl rfl rfl rfl
      | exact Rd.to8N rfl rfl rfl rfl rfl
      | exact Rd.convU64 rfl rfl rfl rfl (by omega)
      | exact Rd.convI64 rfl rfl rfl rfl (by omega)
      | exact Rd.fieldAddrB rfl rfl rfl rfl rfl rfl
      | exact Rd.indexA1 rfl rfl rfl rfl rfl (UInt8.toNat_lt _)
      | exact Rd.indexA1 rfl rfl rfl rfl rfl (by omega)
      | exact Rd.fieldAddrS rfl rfl rfl rfl rfl rfl
      | exact Rd.buildZ rfl rfl (fun _ => by kernel_rfl)
      | exact Rd.buildA rfl rfl rfl (by repeat (first | exact IsL.nil | apply IsL.cons)) (fun _ => by kernel_rfl)
      | exact Rd.makeFunc rfl rfl rfl
      | exact Rd.load rfl rfl rfl rfl (by first | assumption | exact Box.cell (by assumption) | exact Ext.cell (by assumption) (by assumption))
      | exact Rd.load rfl rfl rfl rfl (Blk.cell (by first | assumption | exact Blk.ext (by assumption) (by assumption)) rfl)
      | exact Rd.fieldA rfl rfl rfl rfl rfl rfl (by repeat (first | exact IsL.nil | apply IsL.cons))
      | exact Rd.loadBlk rfl rfl rfl rfl (by first | assumption | exact Blk.ext (by assumption) (by assumption)) (by repeat (first | exact IsL.nil | apply IsL.cons)) rfl) : Prom C ops H ⟨i, L, v⟩ := ⟨o, ho, .inl ⟨hg, h⟩⟩
theorem promS {i : Nat} (ho : ops[i]? = some o := by rfl) (hg : gd ops o L = some false := by rfl) : Prom C ops H ⟨i, L, undef⟩ := ⟨o, ho, .inr ⟨hg, rfl⟩⟩
theorem Proms.nil : Proms C ops H [] := trivial
theorem Proms.cons {r : Rec} {rs : List Rec} (h : Prom C ops H r) (k : Proms C ops H rs) : Proms C ops H (r :: rs) := ⟨h, k⟩
theorem RegP.sk {i d : Nat} (k : RegP C ops B p (⟨i, L, undef⟩ :: pend) ((d, undef) :: L) ds H K) (ho : ops[i]? = some o := by rfl) (hds : o.dst = some d := by rfl) (hg : gd ops o L = some false := by rfl) (hd : Nat.blt d C.N = true := by rfl) : RegP C ops B (.q i p) pend L ds H K := RegP.skip ho hg (by rw [hds]; exact hd) (by rw [hds]; exact k)
theorem RegS.sk {d : Nat} (k : RegS C ops l ((d, undef) :: L) ds H K) (hds : o.dst = some d := by rfl) (hg : gd ops o L = some false := by rfl) (hd : Nat.blt d C.N = true := by rfl) : RegS C ops (o :: l) L ds H K := RegS.skip hg (by rw [hds]; exact hd) (by rw [hds]; exact k)
theorem RegP.end {Q : QPost} {L' : Env} (h : Q .normal L' ds H) (hL : Is (Env.keep C.X L) L' := by repeat (first | exact Is.nil | apply Is.cons)) : RegP C ops B .fin pend L ds H (endK C Q ds) :=
  RegP.fin (Q := Q) (endK_in hL h)
theorem Wp.regD {id : Nat} {Q : QPost} {pl : Plan} (h : RegP C ops (Region.before ops) pl [] L ds H (endK C Q ds)) (hp : planOf C.pl id = some pl := by rfl) (hm : C.P.follows .mixedOrders = true := by kernel_rfl) (hB : (wfR ops (Region.before ops) && allDst C.N ops && okP ops (Region.before ops) pl 0 none) = true := by kernel_rfl) : Wp C (.region id ops true) Q L ds H :=
  Wp.regionD _ pl hm hB h
/-- One operation that turns the heap is next, and none else. -/
theorem RegP.ef {i : Nat} {keep : List Nat} (h : Ef C o L H fun v H' => (Ext H H' ∨ Proms C ops H' (pfilter keep pend)) ∧ RegP C ops B p (pfilter keep pend) (L.putO o.dst v) ds H' K)
    (ho : ops[i]? = some o := by rfl) (hg : gd ops o L = some true := by rfl) (hd : dstOk C.N o.dst = true := by rfl) : RegP C ops B (.e i keep p .nil) pend L ds H K :=
  RegP.e (RegE.ef ho hg hd h RegE.nil)
theorem RegP.call {i d : Nat} {keep : List Nat} {R : Value → Heap → Prop} {f : Operand} {xs : List Operand} {ts : Array TypeId} {g : FuncId} {first captured : List Value} {vs : List Value} (h : CallsH C.P g (first ++ (vs ++ captured)) H R)
    (hk : ∀ v H', R v H' → (Ext H H' ∨ Proms C ops H' (pfilter keep pend)) ∧ RegP C ops B p (pfilter keep pend) ((d, v) :: L) ds H' K)
    (ho : ops[i]? = some o := by rfl) (hds : o.dst = some d := by rfl) (hop : o.op = .call { callee := .value f, args := xs.toArray, argTypes := ts } := by rfl) (hf : L.ev f = some (.func (.func g) first.toArray captured.toArray) := by rfl) (hxs : evs L xs = some vs := by rfl)
    (hg : gd ops o L = some true := by rfl) (hd : Nat.blt d C.N = true := by rfl) : RegP C ops B (.e i keep p .nil) pend L ds H K :=
  RegP.ef (calls_op hop hf hxs h (by rw [hds]; exact hk)) ho hg (by rw [hds]; exact hd)
end
theorem RegS.call {d : Nat} {R : Value → Heap → Prop} {f : Operand} {xs : List Operand} {ts : Array TypeId} {g : FuncId} {first captured : List Value} {vs : List Value} (h : CallsH C.P g (first ++ (vs ++ captured)) H R)
    (hk : ∀ v H', R v H' → RegS C ops l ((d, v) :: L) ds H' K) (hds : o.dst = some d := by rfl)
    (hop : o.op = .call { callee := .value f, args := xs.toArray, argTypes := ts } := by rfl) (hf : L.ev f = some (.func (.func g) first.toArray captured.toArray) := by rfl) (hxs : evs L xs = some vs := by rfl)
    (hg : gd ops o L = some true := by rfl) (hd : Nat.blt d C.N = true := by rfl) : RegS C ops (o :: l) L ds H K :=
  RegS.ef hg (by rw [hds]; exact hd) (calls_op hop hf hxs h (by rw [hds]; exact hk))
/-- A guard that is not decided yet. -/
theorem RegS.sp {j : Nat} {want : Bool} {d : Nat} {p : Prop} (ht : p → RegS C ops (o :: l) ((d, .bool true) :: L) ds H K) (hf : ¬p → RegS C ops (o :: l) ((d, .bool false) :: L) ds H K)
    (hg : o.guard = some (j, want) := by rfl) (hj : (ops[j]?).bind (·.dst) = some d := by rfl) (hd : L.get d = some (.bool (dec p)) := by rfl) : RegS C ops (o :: l) L ds H K := RegS.split_p hg hj hd ht hf
theorem Wp.cond_pt {x y : Code} {c : Operand} {p : Prop} {Q : QPost} (hc : L.ev c = some (.bool (dec p))) (hp : p) (k : Wp C x Q L ds H) : Wp C (.cond c x y) Q L ds H := Wp.cond_p hc (fun _ => k) (fun h => absurd hp h)
theorem Wp.cond_pf {x y : Code} {c : Operand} {p : Prop} {Q : QPost} (hc : L.ev c = some (.bool (dec p))) (hp : ¬p) (k : Wp C y Q L ds H) : Wp C (.cond c x y) Q L ds H := Wp.cond_p hc (fun h => absurd h hp) (fun _ => k)
theorem RegS.sp_t {j : Nat} {want : Bool} {d : Nat} {p : Prop} (hg : o.guard = some (j, want)) (hj : (ops[j]?).bind (·.dst) = some d) (hd : L.get d = some (.bool (dec p))) (hp : p) (k : RegS C ops (o :: l) ((d, .bool true) :: L) ds H K) : RegS C ops (o :: l) L ds H K := RegS.sp (fun _ => k) (fun h => absurd hp h) hg hj hd
theorem RegS.sp_f {j : Nat} {want : Bool} {d : Nat} {p : Prop} (hg : o.guard = some (j, want)) (hj : (ops[j]?).bind (·.dst) = some d) (hd : L.get d = some (.bool (dec p))) (hp : ¬p) (k : RegS C ops (o :: l) ((d, .bool false) :: L) ds H K) : RegS C ops (o :: l) L ds H K := RegS.sp (fun h => absurd h hp) (fun _ => k) hg hj hd
/-- On, as far as no choice is to be made. -/
theorem go {R G : Prop} (r : R) (h : Left R → G := by
    intro r
    repeat (first
      | refine RegS.q ?_
      | refine RegS.fin ?_
      | refine RegP.q' ?_
      | refine RegP.end ?_
      | refine Wp.regD ?_
      | refine RegP.sk ?_
      | refine RegS.sk ?_
      | refine Wp.seq ?_
      | refine Wp.region ?_
      | refine thenQ_n ?_
      | refine Wp.block ?_
      | refine Wp.ret ?_
      | refine Wp.exit ?_
      | refine Wp.skip ?_
      | refine Wp.cond_t (by rfl) ?_
      | refine Wp.cond_f (by rfl) ?_
      | refine Wp.cond_pt (by rfl) (by first | assumption | omega) ?_
      | refine Wp.cond_pf (by rfl) (by first | assumption | omega) ?_
      | refine RegS.sp_t (by rfl) (by rfl) (by rfl) (by first | assumption | omega) ?_
      | refine RegS.sp_f (by rfl) (by rfl) (by rfl) (by first | assumption | omega) ?_
      | refine thenQ_r ?_
      | refine thenQ_e ?_
      | refine blockQ_n ?_
      | refine blockQ_r ?_
      | refine blockQ_t (by rfl) ?_
      | refine blockQ_f (by rfl) ?_
      | refine roundQ_r ?_
      | refine roundQ_e ?_
      | refine Wp.scope ?_
      | refine Wp.label ?_
      | refine scopeQ_n ?_
      | refine scopeQ_r ?_
      | refine scopeQ_e ?_
      | refine midQ_r ?_
      | refine midQ_e ?_)
    exact r.out) : G := h ⟨r⟩
end
end Go.Vc
