/-
  The walks of package book: power, and what is read.
-/
import Derived.Test.YtaikdcnifijcoaaGreatQ18
import Derived.Test.YtaikdcnifijcoaaGreatQ21
set_option linter.unusedVariables false
set_option linter.unusedSimpArgs false
namespace Go.Proofs.YtaikdcnifijcoaaGreat
open Go Go.Vc Go.Gf
/-- A book's struct, and its slot: the struct's owner is k1, the slot's k2. -/
structure BkAt (H : Heap) (O : Ow) (k1 k2 bb sb N T K E R : Nat) (down : Bool) (s : Slt) : Prop where
  blk : Blk H bb 127 [I64 N, I64 T, I64 K, I64 E, I64 R, ptrD sb, .bool down]
  own : O bb = k1
  slot : SlotAt H O k2 sb s
  ne : k1 ≠ k2 ∧ k1 ≠ 0 ∧ k2 ≠ 0
variable {H : Heap} {O : Ow} {k1 k2 bb sb N T K E R : Nat} {down : Bool} {s : Slt}
theorem bdown_ok (h : BkAt H O k1 k2 bb sb N T K E R down s) : CallsH Tryz.prog 43 [ptrD bb] H fun v H' => v = .bool (down || s.pw.gone) ∧ H = H' := by
  have hb := h.blk
  refine CallsH.enter h43 Tryz.func43 rfl rfl rfl (by decide) fun u => ?_
  cases down with
  | true =>
    refine run ?_
    exact ret1 ⟨rfl, rfl⟩
  | false =>
    refine run ?_
    refine RegS.call (sdown_ok h.slot) ?_
    rintro _ _ ⟨rfl, rfl⟩
    refine run ?_
    exact ret1 ⟨rfl, rfl⟩
end Go.Proofs.YtaikdcnifijcoaaGreat
set_option linter.unusedVariables false
set_option linter.unusedSimpArgs false
namespace Go.Vc
open Go
section
variable {C : Cx} {ops : Array Oper} {L : Env} {ds : List Nat} {H : Heap} {Kk : Env → Heap → Prop} {o : Oper} {B : Array Nat} {p alt : Plan} {pend : List Rec}
theorem RegE.allocA [Tbl C.P] {i t d sz bt : Nat} {keep : List Nat} {dd : TypeDesc} {z : Value} {cs : List Value} (k : ∀ H', Ext H H' → H'.size = H.size + 1 → Blk H' H.size t cs → RegP C ops B p (pfilter keep pend) ((d, .pointer (some ⟨H.size, 0, none⟩)) :: L) ds H' Kk) (a : RegE C ops B alt pend L ds H Kk)
    (hi : ops[i]? = some o := by rfl) (ho : o.op = .alloc t := by rfl) (ht : ty C.P t = some ⟨dd, sz, bt, z⟩ := by rfl) (hc : z = .agg cs.toArray := by rfl) (hds : o.dst = some d := by rfl) (hg : gd ops o L = some true := by rfl) (hd : Nat.blt d C.N = true := by rfl) : RegE C ops B (.e i keep p alt) pend L ds H Kk :=
  RegE.ef hi hg (by rw [hds]; exact hd) (Ef.alloc ho ht (by rw [hds]; exact ⟨.inl (Ext.push _ _), k _ (Ext.push _ _) (by simp) ⟨by rw [Array.getElem?_push, if_pos rfl, hc]; rfl⟩⟩)) a
end
end Go.Vc
namespace Go.Proofs.YtaikdcnifijcoaaGreat
open Go Go.Vc Go.Gf
variable {H : Heap} {O : Ow} {k1 k2 bb sb N T K E R : Nat} {down : Bool} {s : Slt}
set_option maxHeartbeats 4000000 in
theorem first_ok (hn : N ≤ 1000000) (h : BkAt H O k1 k2 bb sb N T K E R down s) : CallsH Tryz.prog 71 [ptrD bb] H fun v H' => ∃ c : BookS, v = .agg (bookC (book0 N) c).toArray ∧ BookIn H' (book0 N) c ∧ Ext H H' ∧ (∀ b, c.dir.blk = some b → H.size ≤ b) ∧ (∀ b, c.up.blk = some b → H.size ≤ b) ∧ (∀ b, c.com.blk = some b → H.size ≤ b) ∧ BookNew H H' (book0 N) c := by
  have hb := h.blk
  refine CallsH.enter h71 Tryz.func71 rfl rfl rfl (by decide) fun u => run ?_
  refine RegS.allocA fun H1 x1 z1 b1 => ?_
  have b1 : Blk H1 H.size 55 [IV 0, IV 0, IV 0, Sl.nil.val, Sl.nil.val, Sl.nil.val] := b1
  have hb1 := hb.ext x1
  refine run ?_
  refine RegP.e (RegE.makeSlice (n := N) ?_ ?_ (fun H2 o2 y2 w2 => ?_) (RegE.makeSlice (n := N) ?_ ?_ (fun H2 o2 y2 w2 => ?_) (RegE.allocA (fun H2 y2 w2 c2 => ?_) RegE.nil)))
  · omega
  · omega
  · have hb2 := hb1.ext y2
    have b12 := b1.ext y2
    refine run ?_
    refine RegP.e (RegE.makeSlice (n := N) ?_ ?_ (fun H3 o3 y3 w3 => ?_) (RegE.allocA (fun H3 y3 w3 c3 => ?_) RegE.nil))
    · omega
    · omega
    · refine run ?_
      refine RegP.e (RegE.allocA (fun H4 y4 w4 c4 => ?_) RegE.nil)
      have hres := (b12.ext y3).ext y4
      have hA : OwnF Value.bool H4 (H.size + 1) 4 (Sl.fresh H1.size N) (List.replicate N false) := by
        have := OwnR.low (base' := H.size + 1) ((o2.ext y3).ext y4) (by omega)
        rw [OwnF, List.map_replicate]; exact this
      have hC : OwnF IV H4 (H.size + 1) 3 (Sl.fresh H2.size N) (List.replicate N 0) := by
        have := OwnR.low (base' := H.size + 1) (o3.ext y4) (by omega)
        rw [OwnF, List.map_replicate]; exact this
      have hbk : Blk H4 H3.size 55 [IV 0, IV 0, IV 0, Sl.nil.val, Sl.nil.val, Sl.nil.val] := c4
      have xx : Ext H H4 := ((x1.trans y2).trans y3).trans y4
      generalize hna : H1.size = na at *
      generalize hnb : H2.size = nb at *
      generalize hnc : H3.size = nc at *
      refine run ?_
      refine RegP.storeA (us := [IV 0, IV 0, IV 0, Sl.nil.val, (Sl.fresh na N).val, (Sl.fresh nb N).val]) hbk ?_ ?_
      · exact Proms.nil
      have c5 := hsets_chg nc [IV 0, IV 0, IV 0, Sl.nil.val, (Sl.fresh na N).val, (Sl.fresh nb N).val] 0 H4
      have b5 : Blk (hsets H4 nc 0 [IV 0, IV 0, IV 0, Sl.nil.val, (Sl.fresh na N).val, (Sl.fresh nb N).val]) nc 55 [IV 0, IV 0, IV 0, Sl.nil.val, (Sl.fresh na N).val, (Sl.fresh nb N).val] := Blk.sets [IV 0, IV 0, IV 0, Sl.nil.val, (Sl.fresh na N).val, (Sl.fresh nb N).val] 0 hbk
      have a5 := hA.chg c5 fun b hb e => by simp [Sl.fresh, Sl.blk] at hb; omega
      have k5 := hC.chg c5 fun b hb e => by simp [Sl.fresh, Sl.blk] at hb; omega
      have r5 := hres.chg c5 (by omega)
      have x5 := xx.then c5 fun b hb => by omega
      generalize hsets H4 nc 0 [IV 0, IV 0, IV 0, Sl.nil.val, (Sl.fresh na N).val, (Sl.fresh nb N).val] = H5 at c5 b5 a5 k5 r5 x5 ⊢
      have ra5 : RowF Value.bool false H5 (Sl.fresh na N) (List.replicate N false) := OwnR.rowF a5
      refine run ?_
      rw [List.length_replicate]
      refine run ?_
      refine Wp.loop (ι := Nat) (fun i => [(0, ptrD bb), (2, ptrD H.size), (3, ptrD nc), (20, I64 N), (21, I64 i)])
        (fun i A => i ≤ N ∧ Blk A nc 55 [IV 0, IV 0, IV 0, Sl.nil.val, (Sl.fresh na N).val, (Sl.fresh nb N).val] ∧ OwnF Value.bool A (H.size + 1) 4 (Sl.fresh na N) (List.replicate i true ++ List.replicate (N - i) false) ∧ OwnF IV A (H.size + 1) 3 (Sl.fresh nb N) (List.replicate N 0) ∧ Blk A H.size 55 [IV 0, IV 0, IV 0, Sl.nil.val, Sl.nil.val, Sl.nil.val] ∧ Ext H A) (fun i => N - i) 0 subs ⟨Nat.zero_le _, b5, by have := a5.low (base' := H.size + 1) (by omega); exact this, k5.low (base' := H.size + 1) (by omega), r5, x5⟩ ?_
      clear b5 a5 k5 r5 x5 ra5
      rintro i A ⟨hi, bA, oA, kA, rA, xA⟩
      have ra : RowF Value.bool false A (Sl.fresh na N) (List.replicate i true ++ List.replicate (N - i) false) := OwnR.rowF oA
      have hll : (List.replicate i true ++ List.replicate (N - i) false).length = N := by simp; omega
      refine run ?_
      refine Wp.br (fun hlt => ?_) (fun hlt => ?_)
      · have hlt : (i : Int) < (N : Int) := hlt
        refine run ?_
        have hil : i < (List.map Value.bool (List.replicate i true ++ List.replicate (N - i) false)).length := by simp; omega
        refine RegS.store (v := .bool true) (oA.wr hil) ?_
        obtain ⟨o9, c9⟩ := oA.set hil (.bool true)
        have fb : ∀ {n b : Nat}, (Sl.fresh n N).blk = some b → b = n := fun h => by simp [Sl.fresh, Sl.blk] at h; exact h.symm
        have b9 := bA.chg c9 fun e => by have := fb e; omega
        have r9 := rA.chg c9 fun e => by have := fb e; omega
        have k9 := kA.chg c9 fun b hb e => by have := fb e; have := fb hb; omega
        have x9 := xA.then c9 fun b hb => by have := fb hb; omega
        have hls : (List.map Value.bool (List.replicate i true ++ List.replicate (N - i) false)).set i (.bool true) = List.map Value.bool (List.replicate (i + 1) true ++ List.replicate (N - (i + 1)) false) := by
          rw [show N - i = (N - (i + 1)) + 1 by omega, List.replicate_succ, List.replicate_succ' (n := i)]
          simp
        rw [hls] at o9
        refine run ?_
        exact roundQ_n (i + 1) subs ⟨by omega, b9, o9, k9, r9, x9⟩ (by omega)
      · have hlt : ¬ (i : Int) < (N : Int) := hlt
        have hie : i = N := by omega
        subst hie
        refine run ?_
        refine RegS.storeA (us := [IV 0, IV 0, IV 0, Sl.nil.val, (Sl.fresh na i).val, (Sl.fresh nb i).val]) rA ?_
        have c9 := hsets_chg H.size [IV 0, IV 0, IV 0, Sl.nil.val, (Sl.fresh na i).val, (Sl.fresh nb i).val] 0 A
        have b9 : Blk (hsets A H.size 0 [IV 0, IV 0, IV 0, Sl.nil.val, (Sl.fresh na i).val, (Sl.fresh nb i).val]) H.size 55 [IV 0, IV 0, IV 0, Sl.nil.val, (Sl.fresh na i).val, (Sl.fresh nb i).val] := Blk.sets [IV 0, IV 0, IV 0, Sl.nil.val, (Sl.fresh na i).val, (Sl.fresh nb i).val] 0 rA
        generalize hsets A H.size 0 [IV 0, IV 0, IV 0, Sl.nil.val, (Sl.fresh na i).val, (Sl.fresh nb i).val] = B at c9 b9 ⊢
        have fb : ∀ {n b : Nat}, (Sl.fresh n i).blk = some b → b = n := fun h => by simp [Sl.fresh, Sl.blk] at h; exact h.symm
        have oU := oA
        rw [Nat.sub_self, List.replicate_zero, List.append_nil] at ra oU
        refine run ?_
        exact retA1 b9 ⟨⟨Sl.nil, Sl.fresh na i, Sl.fresh nb i⟩, rfl, ⟨HRow.nil _, ra.chgN c9 fun hp b hb => ⟨ra.lt hp b hb, fun e => by have := fb hb; omega⟩, OwnR.rowF (kA.chg c9 fun b hb e => by have := fb hb; omega)⟩, xA.then c9 fun b hb => by omega, fun b hb => by simp [Sl.nil, Sl.blk] at hb, fun b hb => by have := fb hb; omega, fun b hb => by have := fb hb; omega, ⟨OwnR.nil _ _ _ _, OwnR.low (base' := H.size) (oU.chg c9 fun b hb e => by have := fb hb; omega) (by omega), OwnR.low (base' := H.size) (kA.chg c9 fun b hb e => by have := fb hb; omega) (by omega), fun b hb => by simp [Sl.nil, Sl.blk] at hb, fun b hb e => by have := fb hb; have := fb e; omega⟩⟩
    · refine run ?_
      refine RegP.e (RegE.makeSlice (n := N) ?_ ?_ (fun H4 o4 y4 w4 => ?_) RegE.nil)
      · omega
      · omega
      have hres := (b12.ext y3).ext y4
      have hA : OwnF Value.bool H4 (H.size + 1) 4 (Sl.fresh H1.size N) (List.replicate N false) := by
        have := OwnR.low (base' := H.size + 1) ((o2.ext y3).ext y4) (by omega)
        rw [OwnF, List.map_replicate]; exact this
      have hC : OwnF IV H4 (H.size + 1) 3 (Sl.fresh H3.size N) (List.replicate N 0) := by
        have := OwnR.low (base' := H.size + 1) o4 (by omega)
        rw [OwnF, List.map_replicate]; exact this
      have hbk : Blk H4 H2.size 55 [IV 0, IV 0, IV 0, Sl.nil.val, Sl.nil.val, Sl.nil.val] := (c3.ext y4)
      have xx : Ext H H4 := ((x1.trans y2).trans y3).trans y4
      generalize hna : H1.size = na at *
      generalize hnb : H3.size = nb at *
      generalize hnc : H2.size = nc at *
      refine run ?_
      refine RegP.storeA (us := [IV 0, IV 0, IV 0, Sl.nil.val, (Sl.fresh na N).val, (Sl.fresh nb N).val]) hbk ?_ ?_
      · exact Proms.nil
      have c5 := hsets_chg nc [IV 0, IV 0, IV 0, Sl.nil.val, (Sl.fresh na N).val, (Sl.fresh nb N).val] 0 H4
      have b5 : Blk (hsets H4 nc 0 [IV 0, IV 0, IV 0, Sl.nil.val, (Sl.fresh na N).val, (Sl.fresh nb N).val]) nc 55 [IV 0, IV 0, IV 0, Sl.nil.val, (Sl.fresh na N).val, (Sl.fresh nb N).val] := Blk.sets [IV 0, IV 0, IV 0, Sl.nil.val, (Sl.fresh na N).val, (Sl.fresh nb N).val] 0 hbk
      have a5 := hA.chg c5 fun b hb e => by simp [Sl.fresh, Sl.blk] at hb; omega
      have k5 := hC.chg c5 fun b hb e => by simp [Sl.fresh, Sl.blk] at hb; omega
      have r5 := hres.chg c5 (by omega)
      have x5 := xx.then c5 fun b hb => by omega
      generalize hsets H4 nc 0 [IV 0, IV 0, IV 0, Sl.nil.val, (Sl.fresh na N).val, (Sl.fresh nb N).val] = H5 at c5 b5 a5 k5 r5 x5 ⊢
      have ra5 : RowF Value.bool false H5 (Sl.fresh na N) (List.replicate N false) := OwnR.rowF a5
      refine run ?_
      rw [List.length_replicate]
      refine run ?_
      refine Wp.loop (ι := Nat) (fun i => [(0, ptrD bb), (2, ptrD H.size), (3, ptrD nc), (20, I64 N), (21, I64 i)])
        (fun i A => i ≤ N ∧ Blk A nc 55 [IV 0, IV 0, IV 0, Sl.nil.val, (Sl.fresh na N).val, (Sl.fresh nb N).val] ∧ OwnF Value.bool A (H.size + 1) 4 (Sl.fresh na N) (List.replicate i true ++ List.replicate (N - i) false) ∧ OwnF IV A (H.size + 1) 3 (Sl.fresh nb N) (List.replicate N 0) ∧ Blk A H.size 55 [IV 0, IV 0, IV 0, Sl.nil.val, Sl.nil.val, Sl.nil.val] ∧ Ext H A) (fun i => N - i) 0 subs ⟨Nat.zero_le _, b5, by have := a5.low (base' := H.size + 1) (by omega); exact this, k5.low (base' := H.size + 1) (by omega), r5, x5⟩ ?_
      clear b5 a5 k5 r5 x5 ra5
      rintro i A ⟨hi, bA, oA, kA, rA, xA⟩
      have ra : RowF Value.bool false A (Sl.fresh na N) (List.replicate i true ++ List.replicate (N - i) false) := OwnR.rowF oA
      have hll : (List.replicate i true ++ List.replicate (N - i) false).length = N := by simp; omega
      refine run ?_
      refine Wp.br (fun hlt => ?_) (fun hlt => ?_)
      · have hlt : (i : Int) < (N : Int) := hlt
        refine run ?_
        have hil : i < (List.map Value.bool (List.replicate i true ++ List.replicate (N - i) false)).length := by simp; omega
        refine RegS.store (v := .bool true) (oA.wr hil) ?_
        obtain ⟨o9, c9⟩ := oA.set hil (.bool true)
        have fb : ∀ {n b : Nat}, (Sl.fresh n N).blk = some b → b = n := fun h => by simp [Sl.fresh, Sl.blk] at h; exact h.symm
        have b9 := bA.chg c9 fun e => by have := fb e; omega
        have r9 := rA.chg c9 fun e => by have := fb e; omega
        have k9 := kA.chg c9 fun b hb e => by have := fb e; have := fb hb; omega
        have x9 := xA.then c9 fun b hb => by have := fb hb; omega
        have hls : (List.map Value.bool (List.replicate i true ++ List.replicate (N - i) false)).set i (.bool true) = List.map Value.bool (List.replicate (i + 1) true ++ List.replicate (N - (i + 1)) false) := by
          rw [show N - i = (N - (i + 1)) + 1 by omega, List.replicate_succ, List.replicate_succ' (n := i)]
          simp
        rw [hls] at o9
        refine run ?_
        exact roundQ_n (i + 1) subs ⟨by omega, b9, o9, k9, r9, x9⟩ (by omega)
      · have hlt : ¬ (i : Int) < (N : Int) := hlt
        have hie : i = N := by omega
        subst hie
        refine run ?_
        refine RegS.storeA (us := [IV 0, IV 0, IV 0, Sl.nil.val, (Sl.fresh na i).val, (Sl.fresh nb i).val]) rA ?_
        have c9 := hsets_chg H.size [IV 0, IV 0, IV 0, Sl.nil.val, (Sl.fresh na i).val, (Sl.fresh nb i).val] 0 A
        have b9 : Blk (hsets A H.size 0 [IV 0, IV 0, IV 0, Sl.nil.val, (Sl.fresh na i).val, (Sl.fresh nb i).val]) H.size 55 [IV 0, IV 0, IV 0, Sl.nil.val, (Sl.fresh na i).val, (Sl.fresh nb i).val] := Blk.sets [IV 0, IV 0, IV 0, Sl.nil.val, (Sl.fresh na i).val, (Sl.fresh nb i).val] 0 rA
        generalize hsets A H.size 0 [IV 0, IV 0, IV 0, Sl.nil.val, (Sl.fresh na i).val, (Sl.fresh nb i).val] = B at c9 b9 ⊢
        have fb : ∀ {n b : Nat}, (Sl.fresh n i).blk = some b → b = n := fun h => by simp [Sl.fresh, Sl.blk] at h; exact h.symm
        have oU := oA
        rw [Nat.sub_self, List.replicate_zero, List.append_nil] at ra oU
        refine run ?_
        exact retA1 b9 ⟨⟨Sl.nil, Sl.fresh na i, Sl.fresh nb i⟩, rfl, ⟨HRow.nil _, ra.chgN c9 fun hp b hb => ⟨ra.lt hp b hb, fun e => by have := fb hb; omega⟩, OwnR.rowF (kA.chg c9 fun b hb e => by have := fb hb; omega)⟩, xA.then c9 fun b hb => by omega, fun b hb => by simp [Sl.nil, Sl.blk] at hb, fun b hb => by have := fb hb; omega, fun b hb => by have := fb hb; omega, ⟨OwnR.nil _ _ _ _, OwnR.low (base' := H.size) (oU.chg c9 fun b hb e => by have := fb hb; omega) (by omega), OwnR.low (base' := H.size) (kA.chg c9 fun b hb e => by have := fb hb; omega) (by omega), fun b hb => by simp [Sl.nil, Sl.blk] at hb, fun b hb e => by have := fb hb; have := fb e; omega⟩⟩
  · omega
  · omega
  · have hb2 := hb1.ext y2
    have b12 := b1.ext y2
    refine run ?_
    refine RegP.e (RegE.makeSlice (n := N) ?_ ?_ (fun H3 o3 y3 w3 => ?_) (RegE.allocA (fun H3 y3 w3 c3 => ?_) RegE.nil))
    · omega
    · omega
    · refine run ?_
      refine RegP.e (RegE.allocA (fun H4 y4 w4 c4 => ?_) RegE.nil)
      have hres := (b12.ext y3).ext y4
      have hA : OwnF Value.bool H4 (H.size + 1) 4 (Sl.fresh H2.size N) (List.replicate N false) := by
        have := OwnR.low (base' := H.size + 1) (o3.ext y4) (by omega)
        rw [OwnF, List.map_replicate]; exact this
      have hC : OwnF IV H4 (H.size + 1) 3 (Sl.fresh H1.size N) (List.replicate N 0) := by
        have := OwnR.low (base' := H.size + 1) ((o2.ext y3).ext y4) (by omega)
        rw [OwnF, List.map_replicate]; exact this
      have hbk : Blk H4 H3.size 55 [IV 0, IV 0, IV 0, Sl.nil.val, Sl.nil.val, Sl.nil.val] := c4
      have xx : Ext H H4 := ((x1.trans y2).trans y3).trans y4
      generalize hna : H2.size = na at *
      generalize hnb : H1.size = nb at *
      generalize hnc : H3.size = nc at *
      refine run ?_
      refine RegP.storeA (us := [IV 0, IV 0, IV 0, Sl.nil.val, (Sl.fresh na N).val, (Sl.fresh nb N).val]) hbk ?_ ?_
      · exact Proms.nil
      have c5 := hsets_chg nc [IV 0, IV 0, IV 0, Sl.nil.val, (Sl.fresh na N).val, (Sl.fresh nb N).val] 0 H4
      have b5 : Blk (hsets H4 nc 0 [IV 0, IV 0, IV 0, Sl.nil.val, (Sl.fresh na N).val, (Sl.fresh nb N).val]) nc 55 [IV 0, IV 0, IV 0, Sl.nil.val, (Sl.fresh na N).val, (Sl.fresh nb N).val] := Blk.sets [IV 0, IV 0, IV 0, Sl.nil.val, (Sl.fresh na N).val, (Sl.fresh nb N).val] 0 hbk
      have a5 := hA.chg c5 fun b hb e => by simp [Sl.fresh, Sl.blk] at hb; omega
      have k5 := hC.chg c5 fun b hb e => by simp [Sl.fresh, Sl.blk] at hb; omega
      have r5 := hres.chg c5 (by omega)
      have x5 := xx.then c5 fun b hb => by omega
      generalize hsets H4 nc 0 [IV 0, IV 0, IV 0, Sl.nil.val, (Sl.fresh na N).val, (Sl.fresh nb N).val] = H5 at c5 b5 a5 k5 r5 x5 ⊢
      have ra5 : RowF Value.bool false H5 (Sl.fresh na N) (List.replicate N false) := OwnR.rowF a5
      refine run ?_
      rw [List.length_replicate]
      refine run ?_
      refine Wp.loop (ι := Nat) (fun i => [(0, ptrD bb), (2, ptrD H.size), (3, ptrD nc), (20, I64 N), (21, I64 i)])
        (fun i A => i ≤ N ∧ Blk A nc 55 [IV 0, IV 0, IV 0, Sl.nil.val, (Sl.fresh na N).val, (Sl.fresh nb N).val] ∧ OwnF Value.bool A (H.size + 1) 4 (Sl.fresh na N) (List.replicate i true ++ List.replicate (N - i) false) ∧ OwnF IV A (H.size + 1) 3 (Sl.fresh nb N) (List.replicate N 0) ∧ Blk A H.size 55 [IV 0, IV 0, IV 0, Sl.nil.val, Sl.nil.val, Sl.nil.val] ∧ Ext H A) (fun i => N - i) 0 subs ⟨Nat.zero_le _, b5, by have := a5.low (base' := H.size + 1) (by omega); exact this, k5.low (base' := H.size + 1) (by omega), r5, x5⟩ ?_
      clear b5 a5 k5 r5 x5 ra5
      rintro i A ⟨hi, bA, oA, kA, rA, xA⟩
      have ra : RowF Value.bool false A (Sl.fresh na N) (List.replicate i true ++ List.replicate (N - i) false) := OwnR.rowF oA
      have hll : (List.replicate i true ++ List.replicate (N - i) false).length = N := by simp; omega
      refine run ?_
      refine Wp.br (fun hlt => ?_) (fun hlt => ?_)
      · have hlt : (i : Int) < (N : Int) := hlt
        refine run ?_
        have hil : i < (List.map Value.bool (List.replicate i true ++ List.replicate (N - i) false)).length := by simp; omega
        refine RegS.store (v := .bool true) (oA.wr hil) ?_
        obtain ⟨o9, c9⟩ := oA.set hil (.bool true)
        have fb : ∀ {n b : Nat}, (Sl.fresh n N).blk = some b → b = n := fun h => by simp [Sl.fresh, Sl.blk] at h; exact h.symm
        have b9 := bA.chg c9 fun e => by have := fb e; omega
        have r9 := rA.chg c9 fun e => by have := fb e; omega
        have k9 := kA.chg c9 fun b hb e => by have := fb e; have := fb hb; omega
        have x9 := xA.then c9 fun b hb => by have := fb hb; omega
        have hls : (List.map Value.bool (List.replicate i true ++ List.replicate (N - i) false)).set i (.bool true) = List.map Value.bool (List.replicate (i + 1) true ++ List.replicate (N - (i + 1)) false) := by
          rw [show N - i = (N - (i + 1)) + 1 by omega, List.replicate_succ, List.replicate_succ' (n := i)]
          simp
        rw [hls] at o9
        refine run ?_
        exact roundQ_n (i + 1) subs ⟨by omega, b9, o9, k9, r9, x9⟩ (by omega)
      · have hlt : ¬ (i : Int) < (N : Int) := hlt
        have hie : i = N := by omega
        subst hie
        refine run ?_
        refine RegS.storeA (us := [IV 0, IV 0, IV 0, Sl.nil.val, (Sl.fresh na i).val, (Sl.fresh nb i).val]) rA ?_
        have c9 := hsets_chg H.size [IV 0, IV 0, IV 0, Sl.nil.val, (Sl.fresh na i).val, (Sl.fresh nb i).val] 0 A
        have b9 : Blk (hsets A H.size 0 [IV 0, IV 0, IV 0, Sl.nil.val, (Sl.fresh na i).val, (Sl.fresh nb i).val]) H.size 55 [IV 0, IV 0, IV 0, Sl.nil.val, (Sl.fresh na i).val, (Sl.fresh nb i).val] := Blk.sets [IV 0, IV 0, IV 0, Sl.nil.val, (Sl.fresh na i).val, (Sl.fresh nb i).val] 0 rA
        generalize hsets A H.size 0 [IV 0, IV 0, IV 0, Sl.nil.val, (Sl.fresh na i).val, (Sl.fresh nb i).val] = B at c9 b9 ⊢
        have fb : ∀ {n b : Nat}, (Sl.fresh n i).blk = some b → b = n := fun h => by simp [Sl.fresh, Sl.blk] at h; exact h.symm
        have oU := oA
        rw [Nat.sub_self, List.replicate_zero, List.append_nil] at ra oU
        refine run ?_
        exact retA1 b9 ⟨⟨Sl.nil, Sl.fresh na i, Sl.fresh nb i⟩, rfl, ⟨HRow.nil _, ra.chgN c9 fun hp b hb => ⟨ra.lt hp b hb, fun e => by have := fb hb; omega⟩, OwnR.rowF (kA.chg c9 fun b hb e => by have := fb hb; omega)⟩, xA.then c9 fun b hb => by omega, fun b hb => by simp [Sl.nil, Sl.blk] at hb, fun b hb => by have := fb hb; omega, fun b hb => by have := fb hb; omega, ⟨OwnR.nil _ _ _ _, OwnR.low (base' := H.size) (oU.chg c9 fun b hb e => by have := fb hb; omega) (by omega), OwnR.low (base' := H.size) (kA.chg c9 fun b hb e => by have := fb hb; omega) (by omega), fun b hb => by simp [Sl.nil, Sl.blk] at hb, fun b hb e => by have := fb hb; have := fb e; omega⟩⟩
    · refine run ?_
      refine RegP.e (RegE.makeSlice (n := N) ?_ ?_ (fun H4 o4 y4 w4 => ?_) RegE.nil)
      · omega
      · omega
      have hres := (b12.ext y3).ext y4
      have hA : OwnF Value.bool H4 (H.size + 1) 4 (Sl.fresh H3.size N) (List.replicate N false) := by
        have := OwnR.low (base' := H.size + 1) o4 (by omega)
        rw [OwnF, List.map_replicate]; exact this
      have hC : OwnF IV H4 (H.size + 1) 3 (Sl.fresh H1.size N) (List.replicate N 0) := by
        have := OwnR.low (base' := H.size + 1) ((o2.ext y3).ext y4) (by omega)
        rw [OwnF, List.map_replicate]; exact this
      have hbk : Blk H4 H2.size 55 [IV 0, IV 0, IV 0, Sl.nil.val, Sl.nil.val, Sl.nil.val] := (c3.ext y4)
      have xx : Ext H H4 := ((x1.trans y2).trans y3).trans y4
      generalize hna : H3.size = na at *
      generalize hnb : H1.size = nb at *
      generalize hnc : H2.size = nc at *
      refine run ?_
      refine RegP.storeA (us := [IV 0, IV 0, IV 0, Sl.nil.val, (Sl.fresh na N).val, (Sl.fresh nb N).val]) hbk ?_ ?_
      · exact Proms.nil
      have c5 := hsets_chg nc [IV 0, IV 0, IV 0, Sl.nil.val, (Sl.fresh na N).val, (Sl.fresh nb N).val] 0 H4
      have b5 : Blk (hsets H4 nc 0 [IV 0, IV 0, IV 0, Sl.nil.val, (Sl.fresh na N).val, (Sl.fresh nb N).val]) nc 55 [IV 0, IV 0, IV 0, Sl.nil.val, (Sl.fresh na N).val, (Sl.fresh nb N).val] := Blk.sets [IV 0, IV 0, IV 0, Sl.nil.val, (Sl.fresh na N).val, (Sl.fresh nb N).val] 0 hbk
      have a5 := hA.chg c5 fun b hb e => by simp [Sl.fresh, Sl.blk] at hb; omega
      have k5 := hC.chg c5 fun b hb e => by simp [Sl.fresh, Sl.blk] at hb; omega
      have r5 := hres.chg c5 (by omega)
      have x5 := xx.then c5 fun b hb => by omega
      generalize hsets H4 nc 0 [IV 0, IV 0, IV 0, Sl.nil.val, (Sl.fresh na N).val, (Sl.fresh nb N).val] = H5 at c5 b5 a5 k5 r5 x5 ⊢
      have ra5 : RowF Value.bool false H5 (Sl.fresh na N) (List.replicate N false) := OwnR.rowF a5
      refine run ?_
      rw [List.length_replicate]
      refine run ?_
      refine Wp.loop (ι := Nat) (fun i => [(0, ptrD bb), (2, ptrD H.size), (3, ptrD nc), (20, I64 N), (21, I64 i)])
        (fun i A => i ≤ N ∧ Blk A nc 55 [IV 0, IV 0, IV 0, Sl.nil.val, (Sl.fresh na N).val, (Sl.fresh nb N).val] ∧ OwnF Value.bool A (H.size + 1) 4 (Sl.fresh na N) (List.replicate i true ++ List.replicate (N - i) false) ∧ OwnF IV A (H.size + 1) 3 (Sl.fresh nb N) (List.replicate N 0) ∧ Blk A H.size 55 [IV 0, IV 0, IV 0, Sl.nil.val, Sl.nil.val, Sl.nil.val] ∧ Ext H A) (fun i => N - i) 0 subs ⟨Nat.zero_le _, b5, by have := a5.low (base' := H.size + 1) (by omega); exact this, k5.low (base' := H.size + 1) (by omega), r5, x5⟩ ?_
      clear b5 a5 k5 r5 x5 ra5
      rintro i A ⟨hi, bA, oA, kA, rA, xA⟩
      have ra : RowF Value.bool false A (Sl.fresh na N) (List.replicate i true ++ List.replicate (N - i) false) := OwnR.rowF oA
      have hll : (List.replicate i true ++ List.replicate (N - i) false).length = N := by simp; omega
      refine run ?_
      refine Wp.br (fun hlt => ?_) (fun hlt => ?_)
      · have hlt : (i : Int) < (N : Int) := hlt
        refine run ?_
        have hil : i < (List.map Value.bool (List.replicate i true ++ List.replicate (N - i) false)).length := by simp; omega
        refine RegS.store (v := .bool true) (oA.wr hil) ?_
        obtain ⟨o9, c9⟩ := oA.set hil (.bool true)
        have fb : ∀ {n b : Nat}, (Sl.fresh n N).blk = some b → b = n := fun h => by simp [Sl.fresh, Sl.blk] at h; exact h.symm
        have b9 := bA.chg c9 fun e => by have := fb e; omega
        have r9 := rA.chg c9 fun e => by have := fb e; omega
        have k9 := kA.chg c9 fun b hb e => by have := fb e; have := fb hb; omega
        have x9 := xA.then c9 fun b hb => by have := fb hb; omega
        have hls : (List.map Value.bool (List.replicate i true ++ List.replicate (N - i) false)).set i (.bool true) = List.map Value.bool (List.replicate (i + 1) true ++ List.replicate (N - (i + 1)) false) := by
          rw [show N - i = (N - (i + 1)) + 1 by omega, List.replicate_succ, List.replicate_succ' (n := i)]
          simp
        rw [hls] at o9
        refine run ?_
        exact roundQ_n (i + 1) subs ⟨by omega, b9, o9, k9, r9, x9⟩ (by omega)
      · have hlt : ¬ (i : Int) < (N : Int) := hlt
        have hie : i = N := by omega
        subst hie
        refine run ?_
        refine RegS.storeA (us := [IV 0, IV 0, IV 0, Sl.nil.val, (Sl.fresh na i).val, (Sl.fresh nb i).val]) rA ?_
        have c9 := hsets_chg H.size [IV 0, IV 0, IV 0, Sl.nil.val, (Sl.fresh na i).val, (Sl.fresh nb i).val] 0 A
        have b9 : Blk (hsets A H.size 0 [IV 0, IV 0, IV 0, Sl.nil.val, (Sl.fresh na i).val, (Sl.fresh nb i).val]) H.size 55 [IV 0, IV 0, IV 0, Sl.nil.val, (Sl.fresh na i).val, (Sl.fresh nb i).val] := Blk.sets [IV 0, IV 0, IV 0, Sl.nil.val, (Sl.fresh na i).val, (Sl.fresh nb i).val] 0 rA
        generalize hsets A H.size 0 [IV 0, IV 0, IV 0, Sl.nil.val, (Sl.fresh na i).val, (Sl.fresh nb i).val] = B at c9 b9 ⊢
        have fb : ∀ {n b : Nat}, (Sl.fresh n i).blk = some b → b = n := fun h => by simp [Sl.fresh, Sl.blk] at h; exact h.symm
        have oU := oA
        rw [Nat.sub_self, List.replicate_zero, List.append_nil] at ra oU
        refine run ?_
        exact retA1 b9 ⟨⟨Sl.nil, Sl.fresh na i, Sl.fresh nb i⟩, rfl, ⟨HRow.nil _, ra.chgN c9 fun hp b hb => ⟨ra.lt hp b hb, fun e => by have := fb hb; omega⟩, OwnR.rowF (kA.chg c9 fun b hb e => by have := fb hb; omega)⟩, xA.then c9 fun b hb => by omega, fun b hb => by simp [Sl.nil, Sl.blk] at hb, fun b hb => by have := fb hb; omega, fun b hb => by have := fb hb; omega, ⟨OwnR.nil _ _ _ _, OwnR.low (base' := H.size) (oU.chg c9 fun b hb e => by have := fb hb; omega) (by omega), OwnR.low (base' := H.size) (kA.chg c9 fun b hb e => by have := fb hb; omega) (by omega), fun b hb => by simp [Sl.nil, Sl.blk] at hb, fun b hb e => by have := fb hb; have := fb e; omega⟩⟩
  · have hb2 := hb1.ext y2
    have b12 := b1.ext y2
    refine run ?_
    refine RegP.e (RegE.makeSlice (n := N) ?_ ?_ (fun H3 o3 y3 w3 => ?_) (RegE.makeSlice (n := N) ?_ ?_ (fun H3 o3 y3 w3 => ?_) RegE.nil))
    · omega
    · omega
    · have hb3 := hb2.ext y3
      refine run ?_
      refine RegP.e (RegE.makeSlice (n := N) ?_ ?_ (fun H4 o4 y4 w4 => ?_) RegE.nil)
      · omega
      · omega
      have hres := (b12.ext y3).ext y4
      have hA : OwnF Value.bool H4 (H.size + 1) 4 (Sl.fresh H2.size N) (List.replicate N false) := by
        have := OwnR.low (base' := H.size + 1) (o3.ext y4) (by omega)
        rw [OwnF, List.map_replicate]; exact this
      have hC : OwnF IV H4 (H.size + 1) 3 (Sl.fresh H3.size N) (List.replicate N 0) := by
        have := OwnR.low (base' := H.size + 1) o4 (by omega)
        rw [OwnF, List.map_replicate]; exact this
      have hbk : Blk H4 H1.size 55 [IV 0, IV 0, IV 0, Sl.nil.val, Sl.nil.val, Sl.nil.val] := ((c2.ext y3).ext y4)
      have xx : Ext H H4 := ((x1.trans y2).trans y3).trans y4
      generalize hna : H2.size = na at *
      generalize hnb : H3.size = nb at *
      generalize hnc : H1.size = nc at *
      refine run ?_
      refine RegP.storeA (us := [IV 0, IV 0, IV 0, Sl.nil.val, (Sl.fresh na N).val, (Sl.fresh nb N).val]) hbk ?_ ?_
      · exact Proms.nil
      have c5 := hsets_chg nc [IV 0, IV 0, IV 0, Sl.nil.val, (Sl.fresh na N).val, (Sl.fresh nb N).val] 0 H4
      have b5 : Blk (hsets H4 nc 0 [IV 0, IV 0, IV 0, Sl.nil.val, (Sl.fresh na N).val, (Sl.fresh nb N).val]) nc 55 [IV 0, IV 0, IV 0, Sl.nil.val, (Sl.fresh na N).val, (Sl.fresh nb N).val] := Blk.sets [IV 0, IV 0, IV 0, Sl.nil.val, (Sl.fresh na N).val, (Sl.fresh nb N).val] 0 hbk
      have a5 := hA.chg c5 fun b hb e => by simp [Sl.fresh, Sl.blk] at hb; omega
      have k5 := hC.chg c5 fun b hb e => by simp [Sl.fresh, Sl.blk] at hb; omega
      have r5 := hres.chg c5 (by omega)
      have x5 := xx.then c5 fun b hb => by omega
      generalize hsets H4 nc 0 [IV 0, IV 0, IV 0, Sl.nil.val, (Sl.fresh na N).val, (Sl.fresh nb N).val] = H5 at c5 b5 a5 k5 r5 x5 ⊢
      have ra5 : RowF Value.bool false H5 (Sl.fresh na N) (List.replicate N false) := OwnR.rowF a5
      refine run ?_
      rw [List.length_replicate]
      refine run ?_
      refine Wp.loop (ι := Nat) (fun i => [(0, ptrD bb), (2, ptrD H.size), (3, ptrD nc), (20, I64 N), (21, I64 i)])
        (fun i A => i ≤ N ∧ Blk A nc 55 [IV 0, IV 0, IV 0, Sl.nil.val, (Sl.fresh na N).val, (Sl.fresh nb N).val] ∧ OwnF Value.bool A (H.size + 1) 4 (Sl.fresh na N) (List.replicate i true ++ List.replicate (N - i) false) ∧ OwnF IV A (H.size + 1) 3 (Sl.fresh nb N) (List.replicate N 0) ∧ Blk A H.size 55 [IV 0, IV 0, IV 0, Sl.nil.val, Sl.nil.val, Sl.nil.val] ∧ Ext H A) (fun i => N - i) 0 subs ⟨Nat.zero_le _, b5, by have := a5.low (base' := H.size + 1) (by omega); exact this, k5.low (base' := H.size + 1) (by omega), r5, x5⟩ ?_
      clear b5 a5 k5 r5 x5 ra5
      rintro i A ⟨hi, bA, oA, kA, rA, xA⟩
      have ra : RowF Value.bool false A (Sl.fresh na N) (List.replicate i true ++ List.replicate (N - i) false) := OwnR.rowF oA
      have hll : (List.replicate i true ++ List.replicate (N - i) false).length = N := by simp; omega
      refine run ?_
      refine Wp.br (fun hlt => ?_) (fun hlt => ?_)
      · have hlt : (i : Int) < (N : Int) := hlt
        refine run ?_
        have hil : i < (List.map Value.bool (List.replicate i true ++ List.replicate (N - i) false)).length := by simp; omega
        refine RegS.store (v := .bool true) (oA.wr hil) ?_
        obtain ⟨o9, c9⟩ := oA.set hil (.bool true)
        have fb : ∀ {n b : Nat}, (Sl.fresh n N).blk = some b → b = n := fun h => by simp [Sl.fresh, Sl.blk] at h; exact h.symm
        have b9 := bA.chg c9 fun e => by have := fb e; omega
        have r9 := rA.chg c9 fun e => by have := fb e; omega
        have k9 := kA.chg c9 fun b hb e => by have := fb e; have := fb hb; omega
        have x9 := xA.then c9 fun b hb => by have := fb hb; omega
        have hls : (List.map Value.bool (List.replicate i true ++ List.replicate (N - i) false)).set i (.bool true) = List.map Value.bool (List.replicate (i + 1) true ++ List.replicate (N - (i + 1)) false) := by
          rw [show N - i = (N - (i + 1)) + 1 by omega, List.replicate_succ, List.replicate_succ' (n := i)]
          simp
        rw [hls] at o9
        refine run ?_
        exact roundQ_n (i + 1) subs ⟨by omega, b9, o9, k9, r9, x9⟩ (by omega)
      · have hlt : ¬ (i : Int) < (N : Int) := hlt
        have hie : i = N := by omega
        subst hie
        refine run ?_
        refine RegS.storeA (us := [IV 0, IV 0, IV 0, Sl.nil.val, (Sl.fresh na i).val, (Sl.fresh nb i).val]) rA ?_
        have c9 := hsets_chg H.size [IV 0, IV 0, IV 0, Sl.nil.val, (Sl.fresh na i).val, (Sl.fresh nb i).val] 0 A
        have b9 : Blk (hsets A H.size 0 [IV 0, IV 0, IV 0, Sl.nil.val, (Sl.fresh na i).val, (Sl.fresh nb i).val]) H.size 55 [IV 0, IV 0, IV 0, Sl.nil.val, (Sl.fresh na i).val, (Sl.fresh nb i).val] := Blk.sets [IV 0, IV 0, IV 0, Sl.nil.val, (Sl.fresh na i).val, (Sl.fresh nb i).val] 0 rA
        generalize hsets A H.size 0 [IV 0, IV 0, IV 0, Sl.nil.val, (Sl.fresh na i).val, (Sl.fresh nb i).val] = B at c9 b9 ⊢
        have fb : ∀ {n b : Nat}, (Sl.fresh n i).blk = some b → b = n := fun h => by simp [Sl.fresh, Sl.blk] at h; exact h.symm
        have oU := oA
        rw [Nat.sub_self, List.replicate_zero, List.append_nil] at ra oU
        refine run ?_
        exact retA1 b9 ⟨⟨Sl.nil, Sl.fresh na i, Sl.fresh nb i⟩, rfl, ⟨HRow.nil _, ra.chgN c9 fun hp b hb => ⟨ra.lt hp b hb, fun e => by have := fb hb; omega⟩, OwnR.rowF (kA.chg c9 fun b hb e => by have := fb hb; omega)⟩, xA.then c9 fun b hb => by omega, fun b hb => by simp [Sl.nil, Sl.blk] at hb, fun b hb => by have := fb hb; omega, fun b hb => by have := fb hb; omega, ⟨OwnR.nil _ _ _ _, OwnR.low (base' := H.size) (oU.chg c9 fun b hb e => by have := fb hb; omega) (by omega), OwnR.low (base' := H.size) (kA.chg c9 fun b hb e => by have := fb hb; omega) (by omega), fun b hb => by simp [Sl.nil, Sl.blk] at hb, fun b hb e => by have := fb hb; have := fb e; omega⟩⟩
    · omega
    · omega
    · have hb3 := hb2.ext y3
      refine run ?_
      refine RegP.e (RegE.makeSlice (n := N) ?_ ?_ (fun H4 o4 y4 w4 => ?_) RegE.nil)
      · omega
      · omega
      have hres := (b12.ext y3).ext y4
      have hA : OwnF Value.bool H4 (H.size + 1) 4 (Sl.fresh H3.size N) (List.replicate N false) := by
        have := OwnR.low (base' := H.size + 1) o4 (by omega)
        rw [OwnF, List.map_replicate]; exact this
      have hC : OwnF IV H4 (H.size + 1) 3 (Sl.fresh H2.size N) (List.replicate N 0) := by
        have := OwnR.low (base' := H.size + 1) (o3.ext y4) (by omega)
        rw [OwnF, List.map_replicate]; exact this
      have hbk : Blk H4 H1.size 55 [IV 0, IV 0, IV 0, Sl.nil.val, Sl.nil.val, Sl.nil.val] := ((c2.ext y3).ext y4)
      have xx : Ext H H4 := ((x1.trans y2).trans y3).trans y4
      generalize hna : H3.size = na at *
      generalize hnb : H2.size = nb at *
      generalize hnc : H1.size = nc at *
      refine run ?_
      refine RegP.storeA (us := [IV 0, IV 0, IV 0, Sl.nil.val, (Sl.fresh na N).val, (Sl.fresh nb N).val]) hbk ?_ ?_
      · exact Proms.nil
      have c5 := hsets_chg nc [IV 0, IV 0, IV 0, Sl.nil.val, (Sl.fresh na N).val, (Sl.fresh nb N).val] 0 H4
      have b5 : Blk (hsets H4 nc 0 [IV 0, IV 0, IV 0, Sl.nil.val, (Sl.fresh na N).val, (Sl.fresh nb N).val]) nc 55 [IV 0, IV 0, IV 0, Sl.nil.val, (Sl.fresh na N).val, (Sl.fresh nb N).val] := Blk.sets [IV 0, IV 0, IV 0, Sl.nil.val, (Sl.fresh na N).val, (Sl.fresh nb N).val] 0 hbk
      have a5 := hA.chg c5 fun b hb e => by simp [Sl.fresh, Sl.blk] at hb; omega
      have k5 := hC.chg c5 fun b hb e => by simp [Sl.fresh, Sl.blk] at hb; omega
      have r5 := hres.chg c5 (by omega)
      have x5 := xx.then c5 fun b hb => by omega
      generalize hsets H4 nc 0 [IV 0, IV 0, IV 0, Sl.nil.val, (Sl.fresh na N).val, (Sl.fresh nb N).val] = H5 at c5 b5 a5 k5 r5 x5 ⊢
      have ra5 : RowF Value.bool false H5 (Sl.fresh na N) (List.replicate N false) := OwnR.rowF a5
      refine run ?_
      rw [List.length_replicate]
      refine run ?_
      refine Wp.loop (ι := Nat) (fun i => [(0, ptrD bb), (2, ptrD H.size), (3, ptrD nc), (20, I64 N), (21, I64 i)])
        (fun i A => i ≤ N ∧ Blk A nc 55 [IV 0, IV 0, IV 0, Sl.nil.val, (Sl.fresh na N).val, (Sl.fresh nb N).val] ∧ OwnF Value.bool A (H.size + 1) 4 (Sl.fresh na N) (List.replicate i true ++ List.replicate (N - i) false) ∧ OwnF IV A (H.size + 1) 3 (Sl.fresh nb N) (List.replicate N 0) ∧ Blk A H.size 55 [IV 0, IV 0, IV 0, Sl.nil.val, Sl.nil.val, Sl.nil.val] ∧ Ext H A) (fun i => N - i) 0 subs ⟨Nat.zero_le _, b5, by have := a5.low (base' := H.size + 1) (by omega); exact this, k5.low (base' := H.size + 1) (by omega), r5, x5⟩ ?_
      clear b5 a5 k5 r5 x5 ra5
      rintro i A ⟨hi, bA, oA, kA, rA, xA⟩
      have ra : RowF Value.bool false A (Sl.fresh na N) (List.replicate i true ++ List.replicate (N - i) false) := OwnR.rowF oA
      have hll : (List.replicate i true ++ List.replicate (N - i) false).length = N := by simp; omega
      refine run ?_
      refine Wp.br (fun hlt => ?_) (fun hlt => ?_)
      · have hlt : (i : Int) < (N : Int) := hlt
        refine run ?_
        have hil : i < (List.map Value.bool (List.replicate i true ++ List.replicate (N - i) false)).length := by simp; omega
        refine RegS.store (v := .bool true) (oA.wr hil) ?_
        obtain ⟨o9, c9⟩ := oA.set hil (.bool true)
        have fb : ∀ {n b : Nat}, (Sl.fresh n N).blk = some b → b = n := fun h => by simp [Sl.fresh, Sl.blk] at h; exact h.symm
        have b9 := bA.chg c9 fun e => by have := fb e; omega
        have r9 := rA.chg c9 fun e => by have := fb e; omega
        have k9 := kA.chg c9 fun b hb e => by have := fb e; have := fb hb; omega
        have x9 := xA.then c9 fun b hb => by have := fb hb; omega
        have hls : (List.map Value.bool (List.replicate i true ++ List.replicate (N - i) false)).set i (.bool true) = List.map Value.bool (List.replicate (i + 1) true ++ List.replicate (N - (i + 1)) false) := by
          rw [show N - i = (N - (i + 1)) + 1 by omega, List.replicate_succ, List.replicate_succ' (n := i)]
          simp
        rw [hls] at o9
        refine run ?_
        exact roundQ_n (i + 1) subs ⟨by omega, b9, o9, k9, r9, x9⟩ (by omega)
      · have hlt : ¬ (i : Int) < (N : Int) := hlt
        have hie : i = N := by omega
        subst hie
        refine run ?_
        refine RegS.storeA (us := [IV 0, IV 0, IV 0, Sl.nil.val, (Sl.fresh na i).val, (Sl.fresh nb i).val]) rA ?_
        have c9 := hsets_chg H.size [IV 0, IV 0, IV 0, Sl.nil.val, (Sl.fresh na i).val, (Sl.fresh nb i).val] 0 A
        have b9 : Blk (hsets A H.size 0 [IV 0, IV 0, IV 0, Sl.nil.val, (Sl.fresh na i).val, (Sl.fresh nb i).val]) H.size 55 [IV 0, IV 0, IV 0, Sl.nil.val, (Sl.fresh na i).val, (Sl.fresh nb i).val] := Blk.sets [IV 0, IV 0, IV 0, Sl.nil.val, (Sl.fresh na i).val, (Sl.fresh nb i).val] 0 rA
        generalize hsets A H.size 0 [IV 0, IV 0, IV 0, Sl.nil.val, (Sl.fresh na i).val, (Sl.fresh nb i).val] = B at c9 b9 ⊢
        have fb : ∀ {n b : Nat}, (Sl.fresh n i).blk = some b → b = n := fun h => by simp [Sl.fresh, Sl.blk] at h; exact h.symm
        have oU := oA
        rw [Nat.sub_self, List.replicate_zero, List.append_nil] at ra oU
        refine run ?_
        exact retA1 b9 ⟨⟨Sl.nil, Sl.fresh na i, Sl.fresh nb i⟩, rfl, ⟨HRow.nil _, ra.chgN c9 fun hp b hb => ⟨ra.lt hp b hb, fun e => by have := fb hb; omega⟩, OwnR.rowF (kA.chg c9 fun b hb e => by have := fb hb; omega)⟩, xA.then c9 fun b hb => by omega, fun b hb => by simp [Sl.nil, Sl.blk] at hb, fun b hb => by have := fb hb; omega, fun b hb => by have := fb hb; omega, ⟨OwnR.nil _ _ _ _, OwnR.low (base' := H.size) (oU.chg c9 fun b hb e => by have := fb hb; omega) (by omega), OwnR.low (base' := H.size) (kA.chg c9 fun b hb e => by have := fb hb; omega) (by omega), fun b hb => by simp [Sl.nil, Sl.blk] at hb, fun b hb e => by have := fb hb; have := fb e; omega⟩⟩
end Go.Proofs.YtaikdcnifijcoaaGreat
set_option linter.unusedVariables false
set_option linter.unusedSimpArgs false
namespace Go.Proofs.YtaikdcnifijcoaaGreat
open Go Go.Vc Go.Gf
variable {H : Heap} {O : Ow} {k1 k2 bb sb N T K E R : Nat} {down : Bool} {s : Slt}
/-- What a slot's bytes say. -/
def BkIs (N : Nat) (s : Slt) (v : BookA) : Prop := (s.kept = [] ∧ v = book0 N) ∨ (s.kept = bookB v ∧ BookFit N v)
theorem bookB_pos (k : BookA) (h : BookFit N k) : bookB k ≠ [] := by
  intro e
  have := h.dir
  have h4 : (intB (k.dir.length : Int)).length = 4 := by unfold intB; rw [if_neg (by omega)]; rfl
  have := congrArg List.length e
  rw [bookB_seq] at this
  simp only [List.length_append, List.length_nil] at this
  omega
set_option maxHeartbeats 2000000 in
theorem view_ok (v : BookA) (hn : N ≤ 255) (hw : WfO H O) (h : BkAt H O k1 k2 bb sb N T K E R down s) (hv : BkIs N s v) : CallsH Tryz.prog 22 [ptrD bb] H fun r H' => ∃ c : BookS, r = .agg (bookC v c).toArray ∧ BookIn H' v c ∧ Ext H H' ∧ (∀ b, c.dir.blk = some b → H.size ≤ b) ∧ (∀ b, c.up.blk = some b → H.size ≤ b) ∧ (∀ b, c.com.blk = some b → H.size ≤ b) ∧ BookNew H H' v c := by
  have hb := h.blk
  refine CallsH.enter h22 Tryz.func22 rfl rfl rfl (by decide) fun u => run ?_
  refine RegS.allocA fun H1 x1 z1 b1 => ?_
  have b1 : Blk H1 H.size 55 [IV 0, IV 0, IV 0, Sl.nil.val, Sl.nil.val, Sl.nil.val] := b1
  have hb1 := hb.ext x1
  refine run ?_
  refine RegS.call (load_ok (h.slot.ext hw x1) (hw.ext x1)) ?_
  rintro _ H2 ⟨c, rfl, hc, x2, g2⟩
  have hat : BkAt H2 O k1 k2 bb sb N T K E R down s := ⟨(hb1.ext x2), h.own, (h.slot.ext hw x1).ext (hw.ext x1) x2, h.ne⟩
  refine run ?_
  have fin : ∀ {A : Heap} {w : BookS}, Blk A H.size 55 [IV 0, IV 0, IV 0, Sl.nil.val, Sl.nil.val, Sl.nil.val] → Ext H2 A → (∀ b, w.dir.blk = some b → H2.size ≤ b) → (∀ b, w.up.blk = some b → H2.size ≤ b) → (∀ b, w.com.blk = some b → H2.size ≤ b) → BookIn A v w → ∀ B, Chg (· = H.size) A B → BookIn B v w ∧ Ext H B := by
    intro A w _ xA g1 g2 g3 hi B cB
    have z2 := x2.size
    exact ⟨⟨hi.dir.chgN cB fun hp b hb e => by have := g1 b hb; omega, hi.up.chgN cB fun hp b hb => ⟨hi.up.lt hp b hb, fun e => by have := g2 b hb; omega⟩, hi.com.chgN cB fun hp b hb => ⟨hi.com.lt hp b hb, fun e => by have := g3 b hb; omega⟩⟩, ((x1.trans x2).trans xA).then cB fun b hb => by omega⟩
  have z1' := x1.size
  have z2' := x2.size
  have b12 := b1.ext x2
  refine Wp.br (fun he => ?_) (fun he => ?_)
  · have he : ((s.kept.length : Nat) : Int) = ((0 : Nat) : Int) := he
    have hk0 : s.kept = [] := List.eq_nil_of_length_eq_zero (by omega)
    have hv0 : v = book0 N := by
      rcases hv with ⟨_, e⟩ | ⟨e, f⟩
      · exact e
      · exact absurd (e.symm.trans hk0) (bookB_pos v f)
    subst hv0
    refine run ?_
    refine RegS.call (first_ok (by omega) hat) ?_
    rintro _ H3 ⟨w, rfl, hi, x3, g1, g2', g3, nw⟩
    have b3 := b12.ext x3
    refine run ?_
    refine RegS.storeA (us := bookC (book0 N) w) b3 ?_
    have c4 := hsets_chg H.size (bookC (book0 N) w) 0 H3
    have b4 : Blk (hsets H3 H.size 0 (bookC (book0 N) w)) H.size 55 (bookC (book0 N) w) := Blk.sets (bookC (book0 N) w) 0 b3
    generalize hsets H3 H.size 0 (bookC (book0 N) w) = H4 at c4 b4 ⊢
    obtain ⟨f1, f2⟩ := fin b3 x3 g1 g2' g3 hi H4 c4
    refine run ?_
    exact retA1 b4 ⟨w, rfl, f1, f2, fun b hb => by have := g1 b hb; omega, fun b hb => by have := g2' b hb; omega, fun b hb => by have := g3 b hb; omega, nw.chg c4 (fun b h1 h2 e => by omega) (by omega)⟩
  · have he : ¬ ((s.kept.length : Nat) : Int) = ((0 : Nat) : Int) := he
    have hvb : s.kept = bookB v ∧ BookFit N v := by
      rcases hv with ⟨e, _⟩ | e
      · rw [e] at he; exact absurd rfl he
      · exact e
    obtain ⟨e1, hf⟩ := hvb
    rw [e1] at hc
    refine run ?_
    refine RegS.call (decodeBook_ok N v c H2 hc hf hn) ?_
    rintro _ H3 ⟨w, rfl, hi, x3, g1, g2', g3, nw⟩
    have b3 := b12.ext x3
    refine run ?_
    refine RegS.allocA fun H4 x4 z4 b4 => ?_
    have b4 : Blk H4 H3.size 55 [IV 0, IV 0, IV 0, Sl.nil.val, Sl.nil.val, Sl.nil.val] := b4
    have b34 := b3.ext x4
    refine run ?_
    refine RegS.storeA (us := bookC v w) b4 ?_
    have b5 : Blk (hsets H4 H3.size 0 (bookC v w)) H3.size 55 (bookC v w) := Blk.sets (bookC v w) 0 b4
    have z3 := x3.size
    have b35 := b34.chg (hsets_chg H3.size (bookC v w) 0 H4) (by omega)
    have x5 : Ext H3 (hsets H4 H3.size 0 (bookC v w)) := x4.then (hsets_chg H3.size (bookC v w) 0 H4) fun b hb => by omega
    generalize hsets H4 H3.size 0 (bookC v w) = H5 at b5 b35 x5 ⊢
    refine run ?_
    refine RegS.storeA (us := bookC v w) b35 ?_
    have c6 := hsets_chg H.size (bookC v w) 0 H5
    have b6 : Blk (hsets H5 H.size 0 (bookC v w)) H.size 55 (bookC v w) := Blk.sets (bookC v w) 0 b35
    generalize hsets H5 H.size 0 (bookC v w) = H6 at c6 b6 ⊢
    obtain ⟨f1, f2⟩ := fin b35 (x3.trans x5) g1 g2' g3 (hi.ext x5) H6 c6
    refine run ?_
    exact retA1 b6 ⟨w, rfl, f1, f2, fun b hb => by have := g1 b hb; omega, fun b hb => by have := g2' b hb; omega, fun b hb => by have := g3 b hb; omega, nw.chg ((x5.chg fun x => x = H.size).trans c6) (fun b h1 h2 e => by omega) (by omega)⟩
end Go.Proofs.YtaikdcnifijcoaaGreat
set_option linter.unusedVariables false
set_option linter.unusedSimpArgs false
namespace Go.Proofs.YtaikdcnifijcoaaGreat
open Go Go.Vc Go.Gf
variable {H : Heap} {O : Ow} {k1 k2 bb sb N T K E R : Nat} {down : Bool} {s : Slt}
theorem bnew_ok (hw : WfO H O) (hk : k1 ≠ k2 ∧ k1 ≠ 0 ∧ k2 ≠ 0) : CallsH Tryz.prog 65 [pmV N T K E R] H fun v H' => ∃ bb sb O', v = ptrD bb ∧ Step (fun _ => False) H O H' O' ∧ BkAt H' O' k1 k2 bb sb N T K E R false (slt0 512) ∧ H.size ≤ bb := by
  refine CallsH.enter h65 Tryz.func65 rfl rfl rfl (by decide) fun u => run ?_
  refine RegS.boxA fun H1 x1 z1 b1 => ?_
  have b1 : Blk H1 H.size 23 (pmL N T K E R) := b1
  refine run ?_
  refine RegP.call (snew_ok (O := O) (k := k2) 512 (hw.ext x1) hk.2.2) ?_
  rintro _ H2 ⟨sb, O2, rfl, st, hs, hsb⟩
  have x2 : Ext H1 H2 := (Ext.refl _).then st.chg fun b hb => hb.elim
  refine ⟨.inl x2, ?_⟩
  have b2 := b1.ext x2
  refine run ?_
  refine RegP.boxA fun H3 x3 z3 b3 => ?_
  refine run ?_
  have z2 := x2.size
  have st3 : Step (fun _ => False) H O H3 O2 := ((x1.step hw).trans st).trans (x3.step st.wf)
  have st4 : Step (fun _ => False) H O H3 (O2.give (fun x => x = H2.size) k1) := st3.give fun x hx => by omega
  have st5 : Step (fun _ => False) H2 O2 H3 (O2.give (fun x => x = H2.size) k1) := (x3.step st.wf).give fun x hx => by omega
  exact ret1 ⟨H2.size, sb, _, rfl, st4, ⟨b3, Ow.give_pos rfl, hs.step st5 id id, hk⟩, by omega⟩
end Go.Proofs.YtaikdcnifijcoaaGreat
